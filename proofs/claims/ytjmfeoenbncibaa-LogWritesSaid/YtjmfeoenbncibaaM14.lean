/- Texts of this proof, joined: V. They hold under no condition beyond what each theorem states. -/
import Derived.Test.YtjmfeoenbncibaaM12
import Derived.OrdersHeld
namespace Go.Nau
open Go.RowKit

section
variable {P : Program} {ops : Array Oper} {md : Region.Mode} {C S : World → Prop}

/-- Operation e waits for t, at once or by way of others. -/
def dependsB (md : Region.Mode) (ops : Array Oper) : Nat → Nat → Nat → Bool
  | 0, _, _ => false
  | f + 1, t, e => Region.waitsFor md ops e t || (List.range ops.size).any fun j => Region.waitsFor md ops e j && dependsB md ops f t j

def Closed (md : Region.Mode) (ops : Array Oper) (listed : Array Bool) : Prop :=
  ∀ j oj, ops[j]? = some oj → listed.getD j false = true → ∀ e ∈ oj.after, Region.binds md e = true → listed.getD e.on false = true

theorem Closed.set {i : Nat} {listed : Array Bool} (h : Closed md ops listed) (hi : i ∈ Region.ready md ops listed) : Closed md ops (listed.setIfInBounds i true) := by
  obtain ⟨_, oi, hoi, hall⟩ := mem_ready.1 hi
  intro j oj hj hl e he hb
  by_cases hij : i = j
  · subst hij
    have : oj = oi := Option.some.inj (hj.symm.trans hoi)
    subst this
    exact getD_set_true (hall e he hb)
  · rw [getD_set_ne false hij] at hl
    exact getD_set_true (h j oj hj hl e he hb)

theorem depends_listed {t : Nat} {listed : Array Bool} (hc : Closed md ops listed) : ∀ (f e : Nat), dependsB md ops f t e = true → (∀ oe, ops[e]? = some oe → ∀ x ∈ oe.after, Region.binds md x = true → listed.getD x.on false = true) → listed.getD t false = true
  | 0, _, h, _ => by simp [dependsB] at h
  | f + 1, e, h, hall => by
    simp only [dependsB, Bool.or_eq_true] at h
    rcases h with h | h
    · obtain ⟨oe, hoe, x, hx, hb, hon⟩ := Region.waitsFor_spec h
      rw [← hon]
      exact hall oe hoe x hx hb
    · obtain ⟨j, _, hj⟩ := List.any_eq_true.1 h
      simp only [Bool.and_eq_true] at hj
      obtain ⟨oe, hoe, x, hx, hb, hon⟩ := Region.waitsFor_spec hj.1
      have hjl := hall oe hoe x hx hb
      rw [hon] at hjl
      exact depends_listed hc f j hj.2 (fun oj hoj x hx hb => hc j oj hoj hjl x hx hb)

/-- Whatever order is picked from here on; S holds behind every operation till one of E comes up. -/
def wpAnyE (P : Program) (md : Region.Mode) (ops : Array Oper) (Q : Exit → Act → World → Prop) (S : World → Prop) (E : List Nat) : Nat → Array Bool → Act → World → Prop
  | 0, listed, a, w => Region.ready md ops listed = [] ∧ Q .normal a w
  | f + 1, listed, a, w =>
    (Region.ready md ops listed = [] → Q .normal a w) ∧
    ∀ i ∈ Region.ready md ops listed, (E.contains i = true → wpOp P ops Q i (wpAny P md ops Q f (listed.setIfInBounds i true)) a w) ∧ (E.contains i = false → wpOp P ops Q i (fun a' w' => S w' ∧ wpAnyE P md ops Q S E f (listed.setIfInBounds i true) a' w') a w)

theorem wpAny_of_E {Q : Exit → Act → World → Prop} {E : List Nat} : ∀ (f : Nat) (listed : Array Bool) (a : Act) (w : World), wpAnyE P md ops Q S E f listed a w → wpAny P md ops Q f listed a w
  | 0, _, _, _, h => h
  | f + 1, _, _, _, h => ⟨h.1, fun i hi => by
    cases he : E.contains i with
    | true => exact (h.2 i hi).1 he
    | false => exact wpOp_mono (fun a' w' h' => wpAny_of_E f _ a' w' h'.2) ((h.2 i hi).2 he)⟩

theorem wpAnyE_first {Q : Exit → Act → World → Prop} {E : List Nat} {i : Nat} {oi : Oper} {v : Value} {d : Nat} (hi : ops[i]? = some oi) (hsel : ∀ (j : Nat) (o : Oper) cs b, ops[j]? = some o → o.op ≠ .select cs b)
    (hQ : ∀ c (a a' : Act) w, a.defers = a'.defers → Q (.panic c) a w → Q (.panic c) a' w) (hE : E.all (fun e => dependsB md ops d i e) = true) (hiE : E.contains i = false) :
    ∀ (fuel : Nat) (listed : Array Bool) (a : Act) (w : World), Closed md ops listed →
      (∀ j oj, ops[j]? = some oj → j ≠ i → listed.getD j true = false → (∀ e ∈ oj.after, Region.binds md e = true → e.on ≠ i) → oi.apart ops oj = true) →
      i ∈ Region.ready md ops listed → YieldsIf P ops S oi v a → S w →
      wpAnyE P md ops Q S E fuel (listed.setIfInBounds i true) (a.put oi.dst v) w → wpAnyE P md ops Q S E (fuel + 1) listed a w := by
  have notE : ∀ (listed : Array Bool) (j : Nat), Closed md ops listed → listed.getD i true = false → j ∈ Region.ready md ops listed → E.contains j = true → False := by
    intro listed j hc hun hj he
    have h1 := List.all_eq_true.1 hE j (by simpa using he)
    obtain ⟨_, oj, hoj, hall⟩ := mem_ready.1 hj
    have := depends_listed hc d j h1 (fun oe hoe x hx hb => by
      have : oe = oj := Option.some.inj (hoe.symm.trans hoj)
      subst this
      exact hall x hx hb)
    rw [getD_both hun] at this
    cases this
  intro fuel
  induction fuel with
  | zero =>
    intro listed a w hc _ hr hy hS H
    have hun := (mem_ready.1 hr).1
    refine ⟨fun h => (by rw [h] at hr; cases hr), fun j hj => ⟨fun he => (notE listed j hc hun hj he).elim, fun _ => ?_⟩⟩
    by_cases hji : j = i
    · subst hji; exact hy.wpOp hi hS ⟨hS, H⟩
    · have := ready_mono hj hji
      rw [H.1] at this
      cases this
  | succ fuel ih =>
    intro listed a w hc hfree hr hy hS H
    have hun := (mem_ready.1 hr).1
    refine ⟨fun h => (by rw [h] at hr; cases hr), fun j hj => ⟨fun he => (notE listed j hc hun hj he).elim, fun hje => ?_⟩⟩
    by_cases hji : j = i
    · subst hji; exact hy.wpOp hi hS ⟨hS, H⟩
    · have h1 := (H.2 j (ready_mono hj hji)).2 hje
      obtain ⟨hjun, oj, hoj, hall⟩ := mem_ready.1 hj
      have hnot : ∀ e ∈ oj.after, Region.binds md e = true → e.on ≠ i := fun e he hb heq => by
        have h1 := hall e he hb
        rw [heq, getD_both hun] at h1
        cases h1
      have h2 := wpOp_putIf hoj (hfree j oj hoj hji hjun hnot) (fun cs b => hsel i oi cs b hi) (fun cs b => hsel j oj cs b hoj) (fun c a w h => hQ c _ _ w (Act.put_defers' _ _ _) h) hy h1
      have hfree' : ∀ k ok, ops[k]? = some ok → k ≠ i → (listed.setIfInBounds j true).getD k true = false →
          (∀ e ∈ ok.after, Region.binds md e = true → e.on ≠ i) → oi.apart ops ok = true := fun k ok hk hki hun hno => by
        refine hfree k ok hk hki ?_ hno
        by_cases hjk : j = k
        · subst hjk; exact hjun
        · rw [getD_set_ne true hjk] at hun; exact hun
      refine wpOp_mono (fun a' w' h3 => ⟨h3.2.1, ih (listed.setIfInBounds j true) a' w' (hc.set hj) hfree' (ready_mono hr (Ne.symm hji)) h3.1 h3.2.1 ?_⟩) h2
      rw [Array.setIfInBounds_comm _ _ hji]
      exact h3.2.2

/-- What is taken first, in order: each yields its value in every world that meets S. -/
def heldQ (P : Program) (ops : Array Oper) (S : World → Prop) (K : Act → Prop) : List Nat → Act → Prop
  | [], a => K a
  | k :: ks, a => match ops[k]? with
    | some o => ∃ v, YieldsIf P ops S o v a ∧ heldQ P ops S K ks (a.put o.dst v)
    | none => False

theorem wpAnyE_of_held {Q : Exit → Act → World → Prop} {E : List Nat} {d f : Nat} {w : World} {K : Act → Prop} {Lf : Array Bool} (hsel : Region.noSelect ops = true) (hQ : ∀ c (a a' : Act) w, a.defers = a'.defers → Q (.panic c) a w → Q (.panic c) a' w) (hS : S w)
    (hK : ∀ a, K a → wpAnyE P md ops Q S E f Lf a w) :
    ∀ (ks : List Nat) (listed : Array Bool) (a : Act), setAll listed ks = Lf → floatB md ops ks listed = true → (ks.all fun i => !E.contains i && E.all (fun e => dependsB md ops d i e)) = true → Closed md ops listed →
      heldQ P ops S K ks a → wpAnyE P md ops Q S E (ks.length + f) listed a w
  | [], listed, a, he, _, _, _, h => by
    rw [List.length_nil, Nat.zero_add]
    have e : listed = Lf := he
    rw [e]
    exact hK a h
  | k :: ks, listed, a, he, hB, hE, hc, h => by
    simp only [floatB, Bool.and_eq_true] at hB
    obtain ⟨⟨hr, hf⟩, hB'⟩ := hB
    simp only [List.all_cons, Bool.and_eq_true, Bool.not_eq_true'] at hE
    unfold heldQ at h
    split at h
    · rename_i o ho
      obtain ⟨v, hy, h'⟩ := h
      have hr' : k ∈ Region.ready md ops listed := by simpa using hr
      rw [show (k :: ks).length + f = (ks.length + f) + 1 by simp only [List.length_cons]; omega]
      refine wpAnyE_first ho (Region.noSelect_spec hsel) hQ hE.1.2 hE.1.1 _ listed a w hc (Region.free_spec ho hf) hr' hy hS ?_
      exact wpAnyE_of_held hsel hQ hS hK ks _ _ he hB' (by simpa using hE.2) (hc.set hr') h'
    · exact h.elim

/-! The quiet operations, a list of numbers. -/
structure LInv (md : Region.Mode) (ops : Array Oper) (ts js : List Nat) (listed : Array Bool) : Prop where
  size : listed.size = ops.size
  closed : Closed md ops listed
  row : ∀ t, js.contains t = true → listed.getD t true = false
  held : ∀ t, ts.contains t = true → listed.getD t true = true

theorem LInv.set {i : Nat} {ts js : List Nat} {listed : Array Bool} (inv : LInv md ops ts js listed) (hi : i ∈ Region.ready md ops listed) (hij : js.contains i = false) : LInv md ops ts js (listed.setIfInBounds i true) := by
  refine ⟨by simp [inv.size], inv.closed.set hi, fun t ht => ?_, fun t ht => ?_⟩
  · have : i ≠ t := fun e => by subst e; rw [ht] at hij; cases hij
    rw [getD_set_ne true this]
    exact inv.row t ht
  · by_cases hit : i = t
    · subst hit
      simp only [Array.getD_eq_getD_getElem?, Array.getElem?_setIfInBounds, if_true]
      split <;> rfl
    · rw [getD_set_ne true hit]
      exact inv.held t ht

/-- Each quiet one is waited for by a later quiet one, or by the row's first; each of the row but the first waits for one of the row. -/
def sinkL (md : Region.Mode) (ops : Array Oper) (hs : List Nat) (c : Nat) : Bool := hs.all fun i => decide (i < c) && (hs ++ [c]).any fun j => decide (i < j) && decide (j ≤ c) && Region.waitsFor md ops j i
def chainL (md : Region.Mode) (ops : Array Oper) (hs ts js : List Nat) (c : Nat) : Bool := (List.range ops.size).all fun t => hs.contains t || ts.contains t || decide (t = c) || js.any fun s => Region.waitsFor md ops t s

theorem rowWaitsL {hs ts js : List Nat} {c : Nat} {listed : Array Bool} (hsk : sinkL md ops hs c = true) (hch : chainL md ops hs ts js c = true) (hc : js.contains c = true) (hcn : c < ops.size) (inv : LInv md ops ts js listed) :
    ∀ (d i : Nat), c - i = d → hs.contains i = true → listed.getD i true = false → ∀ t ∈ Region.ready md ops listed, hs.contains t = true := by
  intro d
  induction d using Nat.strongRecOn with
  | _ d ih =>
    intro i hd hi hun t hr
    obtain ⟨htun, ot, hot, hall⟩ := mem_ready.1 hr
    have htlt : t < ops.size := (Array.getElem?_eq_some_iff.1 hot).1
    have h1 := List.all_eq_true.1 hch t (List.mem_range.2 htlt)
    simp only [Bool.or_eq_true, decide_eq_true_eq] at h1
    rcases h1 with ((h1 | h1) | h1) | h1
    · exact h1
    · rw [inv.held t h1] at htun
      cases htun
    · subst h1
      have h2 := List.all_eq_true.1 hsk i (by simpa using hi)
      simp only [Bool.and_eq_true, decide_eq_true_eq] at h2
      obtain ⟨hlt, h2⟩ := h2
      obtain ⟨j, hj, hj2⟩ := List.any_eq_true.1 h2
      simp only [Bool.and_eq_true, decide_eq_true_eq] at hj2
      obtain ⟨⟨hij, hjc⟩, hw⟩ := hj2
      obtain ⟨oj, hoj, e, he, hb, hon⟩ := Region.waitsFor_spec hw
      by_cases hjt : j = t
      · subst hjt
        have : oj = ot := Option.some.inj (hoj.symm.trans hot)
        subst this
        have h3 := hall e he hb
        rw [hon, getD_both hun] at h3
        cases h3
      · have hjs : hs.contains j = true := by
          rcases List.mem_append.1 hj with h | h
          · simpa using h
          · exact absurd (by simpa using h) hjt
        cases hl : listed.getD j false with
        | true =>
          have h3 := inv.closed j oj hoj hl e he hb
          rw [hon, getD_both hun] at h3
          cases h3
        | false =>
          have hjz : j < listed.size := by rw [inv.size]; omega
          exact ih (t - j) (by omega) j rfl hjs (getD_in hjz hl) t hr
    · obtain ⟨s, hs, hw⟩ := List.any_eq_true.1 h1
      obtain ⟨o', ho', e, he, hb, hon⟩ := Region.waitsFor_spec hw
      have : o' = ot := Option.some.inj (ho'.symm.trans hot)
      subst this
      have h2 := hall e he hb
      rw [hon, getD_both (inv.row s (by simpa using hs))] at h2
      cases h2

def headL (P : Program) (md : Region.Mode) (ops : Array Oper) (C : World → Prop) (hs : List Nat) (L : Array Bool → Act → Prop) : Nat → Array Bool → Act → Prop
  | 0, listed, a => L listed a
  | f + 1, listed, a => Region.ready md ops listed ≠ [] ∧ ∀ i ∈ Region.ready md ops listed, hs.contains i = true ∧ qOp P ops C i (headL P md ops C hs L f (listed.setIfInBounds i true)) a

theorem headL_first {hs ts js : List Nat} {c i : Nat} {oi : Oper} {v : Value} {L : Array Bool → Act → Prop} (hi : ops[i]? = some oi) (hsel : ∀ (j : Nat) (o : Oper) cs b, ops[j]? = some o → o.op ≠ .select cs b)
    (hsk : sinkL md ops hs c = true) (hch : chainL md ops hs ts js c = true) (hc : js.contains c = true) (hcn : c < ops.size) (hdis : ∀ j, hs.contains j = true → js.contains j = false) (him : hs.contains i = true)
    (hdone : ∀ listed a, L listed a → ∀ j ∈ Region.ready md ops listed, hs.contains j = false) :
    ∀ (f : Nat) (listed : Array Bool) (a : Act), LInv md ops ts js listed →
      (∀ j oj, ops[j]? = some oj → j ≠ i → listed.getD j true = false → (∀ e ∈ oj.after, Region.binds md e = true → e.on ≠ i) → oi.apart ops oj = true) →
      i ∈ Region.ready md ops listed → YieldsQuiet Fence.wide 1 P ops C oi v a →
      headL P md ops C hs L f (listed.setIfInBounds i true) (a.put oi.dst v) → headL P md ops C hs L (f + 1) listed a := by
  have toQ : ∀ {i : Nat} {a : Act} {K : Act → Prop}, qOp P ops C i K a → qOpIn Fence.wide 1 P ops C i K a := by
    intro i a K h
    unfold qOp at h
    unfold qOpIn
    split
    · rename_i ho; simp only [ho] at h; exact h
    · rename_i o ho
      simp only [ho] at h
      have := wpQuietIn_of_quiet (n := 1) (P := P) (ops := ops) (C := C) (Q := K) (l := [o]) (a := a) h
      exact this
  intro f
  induction f with
  | zero =>
    intro listed a inv _ hr hy H
    have hun := (mem_ready.1 hr).1
    refine ⟨fun h => (by rw [h] at hr; cases hr), fun j hj => ?_⟩
    have hjn := rowWaitsL hsk hch hc hcn inv _ i rfl him hun j hj
    refine ⟨hjn, ?_⟩
    by_cases hji : j = i
    · subst hji; exact qOp_of_wide (hy.qOpIn hi H)
    · have := hdone _ _ H j (ready_mono hj hji)
      rw [hjn] at this
      cases this
  | succ f ih =>
    intro listed a inv hfree hr hy H
    have hun := (mem_ready.1 hr).1
    refine ⟨fun h => (by rw [h] at hr; cases hr), fun j hj => ?_⟩
    have hjn := rowWaitsL hsk hch hc hcn inv _ i rfl him hun j hj
    refine ⟨hjn, ?_⟩
    by_cases hji : j = i
    · subst hji; exact qOp_of_wide (hy.qOpIn hi H)
    · have h1 := toQ (H.2 j (ready_mono hj hji)).2
      obtain ⟨hjun, oj, hoj, hall⟩ := mem_ready.1 hj
      have hnot : ∀ e ∈ oj.after, Region.binds md e = true → e.on ≠ i := fun e he hb heq => by
        have h1 := hall e he hb
        rw [heq, getD_both hun] at h1
        cases h1
      have h2 := qOpIn_put hoj (hfree j oj hoj hji hjun hnot) (fun cs b => hsel i oi cs b hi) (fun cs b => hsel j oj cs b hoj) hy h1
      have hfree' : ∀ k ok, ops[k]? = some ok → k ≠ i → (listed.setIfInBounds j true).getD k true = false →
          (∀ e ∈ ok.after, Region.binds md e = true → e.on ≠ i) → oi.apart ops ok = true := fun k ok hk hki hun hno => by
        refine hfree k ok hk hki ?_ hno
        by_cases hjk : j = k
        · subst hjk; exact hjun
        · rw [getD_set_ne true hjk] at hun; exact hun
      refine qOp_of_wide (qOpIn_mono (fun a' h3 => ih (listed.setIfInBounds j true) a' (inv.set hj (hdis j hjn)) hfree' (ready_mono hr (Ne.symm hji)) h3.1 ?_) h2)
      rw [Array.setIfInBounds_comm _ _ hji]
      exact h3.2

def headLB (md : Region.Mode) (ops : Array Oper) (js : List Nat) : List Nat → Array Bool → Bool
  | [], listed => rowB md ops js listed
  | k :: ks, listed => (Region.ready md ops listed).contains k && Region.free md ops listed k && headLB md ops js ks (listed.setIfInBounds k true)

theorem headL_lex {hs ts js : List Nat} {c : Nat} {Lq : Act → Prop} (hsel : Region.noSelect ops = true) (hsk : sinkL md ops hs c = true) (hch : chainL md ops hs ts js c = true) (hc : js.contains c = true) (hcn : c < ops.size) (hdis : ∀ j, hs.contains j = true → js.contains j = false) :
    ∀ (ks : List Nat) (listed : Array Bool) (a : Act), (∀ k ∈ ks, hs.contains k = true) → LInv md ops ts js listed → headLB md ops js ks listed = true → wpQuiet P ops C Lq (opsAt ops ks) a →
    headL P md ops C hs (fun listed' a' => rowB md ops js listed' = true ∧ Lq a') ks.length listed a
  | [], listed, a, _, _, hB, h => ⟨by simpa [headLB] using hB, h⟩
  | k :: ks, listed, a, hin, inv, hB, h => by
    simp only [headLB, Bool.and_eq_true] at hB
    obtain ⟨⟨hr, hf⟩, hB'⟩ := hB
    have hr' : k ∈ Region.ready md ops listed := by simpa using hr
    obtain ⟨_, o, ho, _⟩ := mem_ready.1 hr'
    have hl : opsAt ops (k :: ks) = o :: opsAt ops ks := by simp [opsAt, ho]
    rw [hl] at h
    have hk := hin k (by simp)
    have hst : qOpIn Fence.wide 1 P ops C k (wpQuietIn Fence.wide 1 P ops C Lq (opsAt ops ks)) a := by
      have := wpQuietIn_of_quiet (n := 1) h
      unfold qOpIn
      simp only [ho]
      exact this
    have hst2 : qOp P ops C k (wpQuiet P ops C Lq (opsAt ops ks)) a := by unfold qOp; simp only [ho]; exact h
    obtain ⟨v, hy, hK⟩ : ∃ v, YieldsQuiet Fence.wide 1 P ops C o v a ∧ wpQuiet P ops C Lq (opsAt ops ks) (a.put o.dst v) := by
      have h3 : qOpIn Fence.wide 1 P ops C k (wpQuiet P ops C Lq (opsAt ops ks)) a := by
        have := wpQuietIn_of_quiet (n := 1) (P := P) (ops := ops) (C := C) (Q := wpQuiet P ops C Lq (opsAt ops ks)) (l := [o]) (a := a) h
        unfold qOpIn
        simp only [ho]
        exact this
      exact yieldsQuiet_of_qOpIn ho h3
    exact headL_first ho (Region.noSelect_spec hsel) hsk hch hc hcn hdis hk (fun listed' a' hL j hj => by
      cases hjs : js with
      | nil => rw [hjs] at hc; simp at hc
      | cons x xs =>
        rw [hjs] at hL
        simp only [rowB, Bool.and_eq_true, decide_eq_true_eq] at hL
        rw [hL.1.1] at hj
        simp at hj
        subst hj
        cases hh : hs.contains j with
        | false => rfl
        | true =>
          have := hdis j hh
          rw [hjs] at this
          simp at this) ks.length listed a inv (Region.free_spec ho hf) hr' hy
      (headL_lex hsel hsk hch hc hcn hdis ks _ _ (fun k' hk' => hin k' (by simp [hk'])) (inv.set hr' (hdis k hk)) hB' hK)

theorem wpAnyE_of_headL {Q' : Exit → Act → World → Prop} {E hs : List Nat} {g : Nat} {L : Array Bool → Act → Prop} (hCS : ∀ w, C w → S w) (hE : ∀ j, hs.contains j = true → E.contains j = false) (hL : ∀ listed a w, C w → L listed a → wpAnyE P md ops Q' S E g listed a w) :
    ∀ (f : Nat) (listed : Array Bool) (a : Act) (w : World), C w → headL P md ops C hs L f listed a → wpAnyE P md ops Q' S E (f + g) listed a w
  | 0, listed, a, w, hw, h => by rw [Nat.zero_add]; exact hL _ _ _ hw h
  | f + 1, listed, a, w, hw, h => by
    rw [show f + 1 + g = (f + g) + 1 by omega]
    exact ⟨fun h0 => absurd h0 h.1, fun i hi => ⟨fun he => (by rw [hE i (h.2 i hi).1] at he; cases he), fun _ => wpOp_of_qOp hw (fun a' w' hw' h' => ⟨hCS w' hw', wpAnyE_of_headL hCS hE hL f _ a' w' hw' h'⟩) (h.2 i hi).2⟩⟩

/-- Operations of the row ahead of E: S holds behind each. -/
def wpListS (P : Program) (ops : Array Oper) (Q : Exit → Act → World → Prop) (S : World → Prop) (K : Act → World → Prop) : List Oper → Act → World → Prop
  | [], a, w => K a w
  | o :: rest, a, w => if Region.wanted o (yielded ops a.tmps) = true then Oper.wp P o a w (fun a' w' => S w' ∧ wpListS P ops Q S K rest a' w') Q else S w ∧ wpListS P ops Q S K rest (a.put o.dst undef) w

theorem wpListS_step {Q : Exit → Act → World → Prop} {K : Act → World → Prop} {o : Oper} {rest : List Oper} {a : Act} {w : World} (hg : o.guard = none)
    (h : ∀ K' : Act → World → Prop, (∀ a' w', S w' → wpListS P ops Q S K rest a' w' → K' a' w') → Oper.wp P o a w K' Q) : wpListS P ops Q S K (o :: rest) a w := by
  unfold wpListS
  rw [if_pos (by simp [Region.wanted, hg])]
  exact h _ (fun _ _ h1 h2 => ⟨h1, h2⟩)

theorem wpListS_want {Q : Exit → Act → World → Prop} {K : Act → World → Prop} {o : Oper} {rest : List Oper} {a : Act} {w : World} (hw : Region.wanted o (yielded ops a.tmps) = true)
    (h : ∀ K' : Act → World → Prop, (∀ a' w', S w' → wpListS P ops Q S K rest a' w' → K' a' w') → Oper.wp P o a w K' Q) : wpListS P ops Q S K (o :: rest) a w := by
  unfold wpListS
  rw [if_pos hw]
  exact h _ (fun _ _ h1 h2 => ⟨h1, h2⟩)

theorem wpAnyE_of_row {Q' : Exit → Act → World → Prop} {E : List Nat} {js2 : List Nat} (h2 : js2 ≠ []) (hE2 : js2.all (fun j => E.contains j) = true) : ∀ (js1 : List Nat) (listed : Array Bool) (a : Act) (w : World), js1.all (fun j => !E.contains j) = true →
    rowB md ops (js1 ++ js2) listed = true → wpListS P ops Q' S (fun a' w' => wpList P ops Q' (opsAt ops js2) a' w') (opsAt ops js1) a w → wpAnyE P md ops Q' S E (js1 ++ js2).length listed a w
  | [], listed, a, w, _, hB, h => by
    cases js2 with
    | nil => exact absurd rfl h2
    | cons k js =>
      rw [List.nil_append] at hB ⊢
      simp only [List.all_cons, Bool.and_eq_true] at hE2
      have hB0 := hB
      simp only [rowB, Bool.and_eq_true, decide_eq_true_eq] at hB
      have key := wpAny_of_row (k :: js) listed a w hB0 h
      refine ⟨fun h1 => (by rw [hB.1] at h1; cases h1), fun i hi => ⟨fun _ => key.2 i hi, fun he => ?_⟩⟩
      rw [hB.1] at hi
      have hik : i = k := by simpa using hi
      subst hik
      rw [hE2.1] at he
      cases he
  | k :: js, listed, a, w, hE1, hB, h => by
    simp only [List.all_cons, Bool.and_eq_true, Bool.not_eq_true'] at hE1
    simp only [List.cons_append, rowB, Bool.and_eq_true, decide_eq_true_eq] at hB
    refine ⟨fun h1 => (by rw [hB.1] at h1; cases h1), fun i hi => ⟨fun he => ?_, fun _ => ?_⟩⟩
    · rw [hB.1] at hi
      have hik : i = k := by simpa using hi
      subst hik
      rw [hE1.1] at he
      cases he
    · rw [hB.1] at hi
      have hik : i = k := by simpa using hi
      subst hik
      obtain ⟨_, o, ho, _⟩ := mem_ready.1 (show i ∈ Region.ready md ops listed by rw [hB.1]; simp)
      have hl : opsAt ops (i :: js) = o :: opsAt ops js := by simp [opsAt, ho]
      rw [hl] at h
      unfold wpListS at h
      unfold wpOp
      simp only [ho]
      split
      · rename_i hw
        rw [if_pos hw] at h
        exact .inl (Oper.wp_mono (fun a' w' h' => ⟨h'.1, wpAnyE_of_row h2 hE2 js _ a' w' (by simpa using hE1.2) hB.2 h'.2⟩) h)
      · rename_i hw
        rw [if_neg hw] at h
        exact ⟨h.1, wpAnyE_of_row h2 hE2 js _ _ w (by simpa using hE1.2) hB.2 h.2⟩

/-- What the kernel looks at: ts may be taken first, in order; hs are quiet; then js1 and js2 in this order, all of js2 behind all of ts. -/
def regionB (md : Region.Mode) (ops : Array Oper) (ts hs js1 js2 : List Nat) : Bool :=
  Region.noSelect ops && decide (ts.length + (hs.length + (js1 ++ js2).length) = ops.size) && !js2.isEmpty && floatB md ops ts (Array.replicate ops.size false) &&
  (ts.all fun i => !js2.contains i && js2.all (fun e => dependsB md ops ops.size i e)) && (hs.all fun j => !(js1 ++ js2).contains j && !js2.contains j) && js1.all (fun j => !js2.contains j) && ts.all (fun j => decide (j < ops.size) && !(js1 ++ js2).contains j) &&
  (js1 ++ js2).all (fun j => decide (j < ops.size)) && sinkL md ops hs ((js1 ++ js2).headD 0) && chainL md ops hs ts (js1 ++ js2) ((js1 ++ js2).headD 0) &&
  (ops.toList.zipIdx.all fun x => !(ts.contains x.2) || x.1.after.all fun e => !(Region.binds md e) || ts.contains e.on) && headLB md ops (js1 ++ js2) hs (setAll (Array.replicate ops.size false) ts)

theorem wp_region_rows {id : Nat} {Q : Exit → Act → World → Prop} {a : Act} {w : World} {l : List Oper} (ts hs js1 js2 : List Nat) (hm : P.follows .mixedOrders = true) (hB : regionB .any l.toArray ts hs js1 js2 = true)
    (hQ : ∀ c (a a' : Act) w, a.defers = a'.defers → Q (.panic c) a w → Q (.panic c) a' w) (hC : C { w with drawn := w.drawn + 1 }) (hCS : ∀ w, C w → S w)
    (h : heldQ P l.toArray S (wpQuiet P l.toArray C (fun a' => ∀ w', C w' → wpListS P l.toArray Q S (fun a' w' => wpList P l.toArray Q (opsAt l.toArray js2) a' w') (opsAt l.toArray js1) a' w') (opsAt l.toArray hs)) ts a) : (Code.region id l.toArray true).wp P Q a w := by
  refine wp_region_any hm ?_
  simp only [regionB, Bool.and_eq_true, decide_eq_true_eq, Bool.not_eq_true'] at hB
  obtain ⟨⟨⟨⟨⟨⟨⟨⟨⟨⟨⟨⟨hsel, hlen⟩, hne⟩, hfl⟩, hdep⟩, hhs⟩, hj1⟩, htsz⟩, hjz⟩, hsk⟩, hch⟩, hcl⟩, hhd⟩ := hB
  have hne2 : js2 ≠ [] := by simpa using hne
  have hne3 : js1 ++ js2 ≠ [] := by simp [hne2]
  have hcmem : (js1 ++ js2).headD 0 ∈ js1 ++ js2 := by
    cases hj : js1 ++ js2 with
    | nil => exact absurd hj hne3
    | cons x xs => simp
  have hc : (js1 ++ js2).contains ((js1 ++ js2).headD 0) = true := List.contains_iff_mem.2 hcmem
  have hcn : (js1 ++ js2).headD 0 < l.toArray.size := of_decide_eq_true (List.all_eq_true.1 hjz _ hcmem)
  have hdis : ∀ j, hs.contains j = true → (js1 ++ js2).contains j = false := fun j hj => by
    have := List.all_eq_true.1 hhs j (by simpa using hj)
    simp only [Bool.and_eq_true, Bool.not_eq_true'] at this
    exact this.1
  have hdis2 : ∀ j, hs.contains j = true → js2.contains j = false := fun j hj => by
    have := List.all_eq_true.1 hhs j (by simpa using hj)
    simp only [Bool.and_eq_true, Bool.not_eq_true'] at this
    exact this.2
  have hin : ∀ j, ts.contains j = true → j < l.toArray.size := by
    intro j hj
    have := List.all_eq_true.1 htsz j (by simpa using hj)
    simp only [Bool.and_eq_true, decide_eq_true_eq] at this
    exact this.1
  have inv : LInv .any l.toArray ts (js1 ++ js2) (setAll (Array.replicate l.toArray.size false) ts) := by
    refine ⟨by rw [setAll_size]; simp, fun j oj hj hl e he hb => ?_, fun t ht => ?_, fun t ht => ?_⟩
    · have hjs := (Array.getElem?_eq_some_iff.1 hj).1
      rw [setAll_get _ _ _ _ (by simpa using hjs), getD_replicate_false, Bool.or_false] at hl
      have h1 := List.all_eq_true.1 hcl (oj, j) (by rw [List.mem_iff_getElem?]; exact ⟨j, by rw [List.getElem?_zipIdx]; simp at hj; simp [hj]⟩)
      simp only [hl, Bool.not_true, Bool.false_or] at h1
      have h2 := Array.all_eq_true'.1 h1 e he
      simp only [hb, Bool.not_true, Bool.false_or] at h2
      rw [setAll_get _ _ _ _ (by simpa using hin _ h2), h2]
      rfl
    · have htz : t < l.toArray.size := of_decide_eq_true (List.all_eq_true.1 hjz t (by simpa using ht))
      have htn : ts.contains t = false := by
        cases h : ts.contains t with
        | false => rfl
        | true =>
          have := List.all_eq_true.1 htsz t (by simpa using h)
          simp only [Bool.and_eq_true, Bool.not_eq_true'] at this
          rw [this.2] at ht
          cases ht
      rw [setAll_get _ _ _ _ (by simpa using htz), htn, Bool.false_or]
      exact getD_in (by simpa using htz) (getD_replicate_false _ _)
    · rw [setAll_get _ _ _ _ (by simpa using hin _ ht), ht]
      rfl
  have cl0 : Closed .any l.toArray (Array.replicate l.toArray.size false) := fun j oj _ hl => by rw [getD_replicate_false] at hl; cases hl
  refine wpAny_of_E (S := S) (E := js2) _ _ _ _ ?_
  have H := wpAnyE_of_held (P := P) (md := .any) (Q := Q) (E := js2) (d := l.toArray.size) (f := hs.length + (js1 ++ js2).length) (w := { w with drawn := w.drawn + 1 }) (Lf := setAll (Array.replicate l.toArray.size false) ts) hsel hQ (hCS _ hC)
    (K := wpQuiet P l.toArray C (fun a' => ∀ w', C w' → wpListS P l.toArray Q S (fun a' w' => wpList P l.toArray Q (opsAt l.toArray js2) a' w') (opsAt l.toArray js1) a' w') (opsAt l.toArray hs)) (fun a' hq => ?_) ts (Array.replicate l.toArray.size false) a rfl hfl hdep cl0 h
  · rwa [hlen] at H
  · have H2 := headL_lex (P := P) (md := .any) (C := C) hsel hsk hch hc hcn hdis hs _ a' (fun k hk => by simpa using hk) inv hhd hq
    exact wpAnyE_of_headL hCS hdis2 (fun listed a2 w2 hw2 hL => wpAnyE_of_row hne2 (by simp) js1 listed a2 w2 (by simpa using hj1) hL.1 (hL.2 w2 hw2)) hs.length _ a' _ hC H2

theorem yieldsIf_of {o : Oper} {a : Act} {v : Value} (hg : o.guard = none) (h : ∀ w, S w → (execOp a.eval o).run P w = .ok (.value v) w) : YieldsIf P ops S o v a := .inl ⟨by simp [Region.wanted, hg], h⟩
theorem yieldsIf_want {o : Oper} {a : Act} {v : Value} (hw : Region.wanted o (yielded ops a.tmps) = true) (h : ∀ w, S w → (execOp a.eval o).run P w = .ok (.value v) w) : YieldsIf P ops S o v a := .inl ⟨hw, h⟩
theorem heldQ_cons {K : Act → Prop} {k : Nat} {ks : List Nat} {a : Act} {o : Oper} {v : Value} (ho : ops[k]? = some o) (hy : YieldsIf P ops S o v a) (h : heldQ P ops S K ks (a.put o.dst v)) : heldQ P ops S K (k :: ks) a := by
  unfold heldQ
  rw [ho]
  exact ⟨v, hy, h⟩
theorem heldQ_step {K : Act → Prop} {k : Nat} {ks : List Nat} {a : Act} {o : Oper} {v : Value} (ho : ops[k]? = some o) (hy : YieldsIf P ops S o v a) (h : ∀ K' : Act → Prop, (∀ a', heldQ P ops S K ks a' → K' a') → K' (a.put o.dst v)) : heldQ P ops S K (k :: ks) a :=
  heldQ_cons ho hy (h _ (fun _ h => h))

/-- The same, behind quiet operations that draw and no more. -/
theorem wp_rows_drew {id : Nat} {Q : Exit → Act → World → Prop} {a : Act} {w : World} {l : List Oper} (S : World → Prop) (ts hs js1 js2 : List Nat) (hm : P.follows .mixedOrders = true) (hB : regionB .any l.toArray ts hs js1 js2 = true)
    (hQ : ∀ c (a a' : Act) w, a.defers = a'.defers → Q (.panic c) a w → Q (.panic c) a' w) (hCS : ∀ k, S (w.drewN k))
    (h : heldQ P l.toArray S (wpQuiet P l.toArray (fun w' => ∃ k, w' = w.drewN k) (fun a' => ∀ k, wpListS P l.toArray Q S (fun a' w' => wpList P l.toArray Q (opsAt l.toArray js2) a' w') (opsAt l.toArray js1) a' (w.drewN k)) (opsAt l.toArray hs)) ts a) : (Code.region id l.toArray true).wp P Q a w := by
  refine wp_region_rows (C := fun w' => ∃ k, w' = w.drewN k) (S := S) ts hs js1 js2 hm hB hQ ⟨1, rfl⟩ (fun w' ⟨k, hk⟩ => hk ▸ hCS k) ?_
  have e : (fun a' => ∀ w', (∃ k, w' = w.drewN k) → wpListS P l.toArray Q S (fun a' w' => wpList P l.toArray Q (opsAt l.toArray js2) a' w') (opsAt l.toArray js1) a' w') = (fun a' => ∀ k, wpListS P l.toArray Q S (fun a' w' => wpList P l.toArray Q (opsAt l.toArray js2) a' w') (opsAt l.toArray js1) a' (w.drewN k)) := by
    funext a'
    exact propext ⟨fun h k => h _ ⟨k, rfl⟩, fun h w' ⟨k, hk⟩ => hk ▸ h k⟩
  rw [e]
  exact h
/-- The same, behind quiet operations that draw and lay blocks. -/
theorem wp_rows_below {id : Nat} {Q : Exit → Act → World → Prop} {a : Act} {w : World} {l : List Oper} (S : World → Prop) (ts hs js1 js2 : List Nat) (hm : P.follows .mixedOrders = true) (hB : regionB .any l.toArray ts hs js1 js2 = true)
    (hQ : ∀ c (a a' : Act) w, a.defers = a'.defers → Q (.panic c) a w → Q (.panic c) a' w) (hCS : ∀ w', Below w.heap.size w w' → S w')
    (h : heldQ P l.toArray S (wpQuiet P l.toArray (fun w' => ∃ p : Regrown, w' = Go.Sort.grow (redrawn w p.d) p.os) (fun a' => ∀ w', Below w.heap.size w w' → wpListS P l.toArray Q S (fun a' w' => wpList P l.toArray Q (opsAt l.toArray js2) a' w') (opsAt l.toArray js1) a' w') (opsAt l.toArray hs)) ts a) : (Code.region id l.toArray true).wp P Q a w := by
  refine wp_region_rows (C := fun w' => ∃ p : Regrown, w' = Go.Sort.grow (redrawn w p.d) p.os) (S := S) ts hs js1 js2 hm hB hQ ⟨⟨w.drawn + 1, #[]⟩, by rw [Go.Sort.grow_empty]; rfl⟩ (fun w' ⟨p, hp⟩ => by subst hp; exact hCS _ (below_regrown w p.d p.os)) ?_
  have e : (fun a' => ∀ w', (∃ p : Regrown, w' = Go.Sort.grow (redrawn w p.d) p.os) → wpListS P l.toArray Q S (fun a' w' => wpList P l.toArray Q (opsAt l.toArray js2) a' w') (opsAt l.toArray js1) a' w') = (fun a' => ∀ w', Below w.heap.size w w' → wpListS P l.toArray Q S (fun a' w' => wpList P l.toArray Q (opsAt l.toArray js2) a' w') (opsAt l.toArray js1) a' w') := by
    funext a'
    exact propext ⟨fun h w' hb => h w' (regrown_of_below hb), fun h w' ⟨p, hp⟩ => by subst hp; exact h _ (below_regrown w p.d p.os)⟩
  rw [e]
  exact h
end
end Go.Nau

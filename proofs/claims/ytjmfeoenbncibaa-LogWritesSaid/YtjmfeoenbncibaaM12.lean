/- Texts of this proof, joined: U. They hold under no condition beyond what each theorem states. -/
import Derived.ProofKit
import Derived.Sort.BigQuietIn
import Derived.StillTail
import Derived.Lib.QuietBelow
import Derived.BigQuiet
import Derived.Test.YtjmfeoenbncibaaM01
import Derived.Test.YtjmfeoenbncibaaM02
namespace Go.Nau
open Go.RowKit

section
variable {F : Fence} {n : Nat} {P : Program} {ops : Array Oper} {md : Region.Mode} {C : World → Prop}

theorem Act.put_defers' (a : Act) (d : Option Tmp) (v : Value) : (a.put d v).defers = a.defers := by cases d <;> rfl

theorem old_alloc {w : World} {b : Nat} {o : Obj} (h : w.heap[b]? = some o) (o' : Obj) : (w.alloc o').heap[b]? = some o := (Below.heap_alloc w o' b (Array.getElem?_eq_some_iff.1 h).1).trans h

theorem Fr.trans' {T : Nat → Prop} {a b c : World} (h : Fr (fun _ => False) a b) (k : Fr T b c) : Fr T a c := (h.mono (fun _ h => h.elim)).trans k
theorem old_cell {w : World} {p : Addr} {v : Value} (h : w.cell? p = some v) (o : Obj) : (w.alloc o).cell? p = some v := (Fr.alloc (Fr.refl (fun _ => False) w) o).cell id h

/-- Each operation of the row waits for an earlier one of it, but for those that may come up at any time. -/
def chainF (md : Region.Mode) (ops : Array Oper) (m : Nat) (fl : List Nat) : Bool :=
  (List.range ops.size).all fun t => decide (t ≤ m) || fl.contains t || (List.range t).any fun s => decide (m ≤ s) && !fl.contains s && Region.waitsFor md ops t s

structure HInv (md : Region.Mode) (ops : Array Oper) (m : Nat) (fl : List Nat) (listed : Array Bool) : Prop where
  size : listed.size = ops.size
  closed : ∀ j oj, ops[j]? = some oj → listed.getD j false = true → ∀ e ∈ oj.after, Region.binds md e = true → listed.getD e.on false = true
  tail : ∀ t, m ≤ t → t < ops.size → fl.contains t = false → listed.getD t true = false
  flt : ∀ t, fl.contains t = true → listed.getD t true = true

theorem HInv.set {m i : Nat} {fl : List Nat} {listed : Array Bool} (inv : HInv md ops m fl listed) (hi : i ∈ Region.ready md ops listed) (him : i < m) : HInv md ops m fl (listed.setIfInBounds i true) := by
  obtain ⟨_, oi, hoi, hall⟩ := mem_ready.1 hi
  refine ⟨by simp [inv.size], fun j oj hj hl e he hb => ?_, fun t ht ht' hf => by rw [getD_set_ne true (by omega)]; exact inv.tail t ht ht' hf, fun t hf => ?_⟩
  · by_cases hij : i = j
    · subst hij
      have : oj = oi := Option.some.inj (hj.symm.trans hoi)
      subst this
      exact getD_set_true (hall e he hb)
    · rw [getD_set_ne false hij] at hl
      exact getD_set_true (inv.closed j oj hj hl e he hb)
  · by_cases hit : i = t
    · subst hit
      simp only [Array.getD_eq_getD_getElem?, Array.getElem?_setIfInBounds, if_true]
      split <;> rfl
    · rw [getD_set_ne true hit]
      exact inv.flt t hf

theorem rowWaits {m : Nat} {fl : List Nat} {listed : Array Bool} (hs : Region.sinkB md ops m = true) (hc : chainF md ops m fl = true) (hn : m < ops.size) (inv : HInv md ops m fl listed) :
    ∀ (d i : Nat), m - i = d → i < m → listed.getD i true = false → ∀ t, m ≤ t → t ∉ Region.ready md ops listed := by
  intro d
  induction d using Nat.strongRecOn with
  | _ d ih =>
    intro i hd hi hun t ht hr
    obtain ⟨htun, ot, hot, hall⟩ := mem_ready.1 hr
    have htlt : t < ops.size := (Array.getElem?_eq_some_iff.1 hot).1
    by_cases htn : t = m
    · subst htn
      have h1 := List.all_eq_true.1 hs i (List.mem_range.2 hi)
      obtain ⟨j, hj, hj2⟩ := List.any_eq_true.1 h1
      simp only [Bool.and_eq_true, decide_eq_true_eq] at hj2
      obtain ⟨oj, hoj, e, he, hb, hon⟩ := Region.waitsFor_spec hj2.2
      have hjle : j ≤ t := by have := List.mem_range.1 hj; omega
      by_cases hjt : j = t
      · subst hjt
        have : oj = ot := Option.some.inj (hoj.symm.trans hot)
        subst this
        have h2 := hall e he hb
        rw [hon, getD_both hun] at h2
        cases h2
      · cases hl : listed.getD j false with
        | true =>
          have h2 := inv.closed j oj hoj hl e he hb
          rw [hon, getD_both hun] at h2
          cases h2
        | false =>
          have hjs : j < listed.size := by rw [inv.size]; omega
          exact ih (t - j) (by omega) j rfl (by omega) (getD_in hjs hl) t (Nat.le_refl _) hr
    · have h1 := List.all_eq_true.1 hc t (List.mem_range.2 htlt)
      simp only [Bool.or_eq_true, decide_eq_true_eq] at h1
      rcases h1 with (h1 | h1) | h1
      · omega
      · rw [inv.flt t h1] at htun
        cases htun
      · obtain ⟨s, hsr, hs2⟩ := List.any_eq_true.1 h1
        have hst := List.mem_range.1 hsr
        simp only [Bool.and_eq_true, decide_eq_true_eq, Bool.not_eq_true'] at hs2
        obtain ⟨o', ho', e, he, hb, hon⟩ := Region.waitsFor_spec hs2.2
        have : o' = ot := Option.some.inj (ho'.symm.trans hot)
        subst this
        have h2 := hall e he hb
        rw [hon, getD_both (inv.tail s hs2.1.1 (by omega) hs2.1.2)] at h2
        cases h2

/-- The quiet operations alone come up, in whatever order, till so many have. -/
def headQ (F : Fence) (n : Nat) (P : Program) (md : Region.Mode) (ops : Array Oper) (C : World → Prop) (m : Nat) (L : Array Bool → Act → Prop) : Nat → Array Bool → Act → Prop
  | 0, listed, a => L listed a
  | f + 1, listed, a => Region.ready md ops listed ≠ [] ∧ ∀ i ∈ Region.ready md ops listed, i < m ∧ qOpIn F n P ops C i (headQ F n P md ops C m L f (listed.setIfInBounds i true)) a

theorem wpAnyIn_of_headQ {m g : Nat} {L : Array Bool → Act → Prop} {Q' : Exit → Act → World → Prop} (hro : F.round = none) (hL : ∀ listed a w, C w → L listed a → wpAnyIn F n P md ops Q' g listed a w) :
    ∀ (f : Nat) (listed : Array Bool) (a : Act) (w : World), C w → headQ F n P md ops C m L f listed a → wpAnyIn F n P md ops Q' (f + g) listed a w
  | 0, listed, a, w, hw, h => by rw [Nat.zero_add]; exact hL _ _ _ hw h
  | f + 1, listed, a, w, hw, h => by
    rw [show f + 1 + g = (f + g) + 1 by omega]
    exact ⟨fun h0 => absurd h0 h.1, fun i hi => wpOpIn_of_qOpIn hro hw (fun a' w' hw' h' => wpAnyIn_of_headQ hro hL f _ a' w' hw' h') (h.2 i hi).2⟩

theorem headQ_first {m i : Nat} {fl : List Nat} {oi : Oper} {v : Value} {L : Array Bool → Act → Prop} (hi : ops[i]? = some oi) (hsel : ∀ (j : Nat) (o : Oper) cs b, ops[j]? = some o → o.op ≠ .select cs b)
    (hs : Region.sinkB md ops m = true) (hc : chainF md ops m fl = true) (hn : m < ops.size) (him : i < m)
    (hdone : ∀ listed a, L listed a → ∀ j ∈ Region.ready md ops listed, m ≤ j) :
    ∀ (f : Nat) (listed : Array Bool) (a : Act), HInv md ops m fl listed →
      (∀ j oj, ops[j]? = some oj → j ≠ i → listed.getD j true = false → (∀ e ∈ oj.after, Region.binds md e = true → e.on ≠ i) → oi.apart ops oj = true) →
      i ∈ Region.ready md ops listed → YieldsQuiet F n P ops C oi v a →
      headQ F n P md ops C m L f (listed.setIfInBounds i true) (a.put oi.dst v) → headQ F n P md ops C m L (f + 1) listed a := by
  intro f
  induction f with
  | zero =>
    intro listed a inv _ hr hy H
    have hun := (mem_ready.1 hr).1
    refine ⟨fun h => (by rw [h] at hr; cases hr), fun j hj => ?_⟩
    have hjn : j < m := by
      rcases Nat.lt_or_ge j m with h | h
      · exact h
      · exact absurd hj (rowWaits hs hc hn inv _ i rfl him hun j h)
    refine ⟨hjn, ?_⟩
    by_cases hji : j = i
    · subst hji; exact hy.qOpIn hi H
    · have := hdone _ _ H j (ready_mono hj hji)
      omega
  | succ f ih =>
    intro listed a inv hfree hr hy H
    have hun := (mem_ready.1 hr).1
    refine ⟨fun h => (by rw [h] at hr; cases hr), fun j hj => ?_⟩
    have hjn : j < m := by
      rcases Nat.lt_or_ge j m with h | h
      · exact h
      · exact absurd hj (rowWaits hs hc hn inv _ i rfl him hun j h)
    refine ⟨hjn, ?_⟩
    by_cases hji : j = i
    · subst hji; exact hy.qOpIn hi H
    · have h1 := (H.2 j (ready_mono hj hji)).2
      obtain ⟨hjun, oj, hoj, hall⟩ := mem_ready.1 hj
      have hnot : ∀ e ∈ oj.after, Region.binds md e = true → e.on ≠ i := fun e he hb heq => by
        have h1 := hall e he hb
        rw [heq, getD_both hun] at h1
        cases h1
      have h2 := qOpIn_put hoj (hfree j oj hoj hji hjun hnot) (fun cs b => hsel i oi cs b hi) (fun cs b => hsel j oj cs b hoj) hy h1
      have hfree' : ∀ k ok, ops[k]? = some ok → k ≠ i → (listed.setIfInBounds j true).getD k true = false →
          (∀ e ∈ ok.after, Region.binds md e = true → e.on ≠ i) → oi.apart ops ok = true := fun k ok hk hki hun hno => by
        refine hfree k ok hk hki ?_ hno
        by_cases hjk : j = k
        · subst hjk; exact hjun
        · rw [getD_set_ne true hjk] at hun; exact hun
      refine qOpIn_mono (fun a' h3 => ih (listed.setIfInBounds j true) a' (inv.set hj hjn) hfree' (ready_mono hr (Ne.symm hji)) h3.1 ?_) h2
      rw [Array.setIfInBounds_comm _ _ hji]
      exact h3.2

/-- The row comes up in this order and in no other. -/
def rowB (md : Region.Mode) (ops : Array Oper) : List Nat → Array Bool → Bool
  | [], listed => (Region.ready md ops listed).isEmpty
  | k :: js, listed => decide (Region.ready md ops listed = [k]) && rowB md ops js (listed.setIfInBounds k true)

def opsAt (ops : Array Oper) (js : List Nat) : List Oper := js.filterMap (ops[·]?)

theorem wpAnyIn_of_row {Q' : Exit → Act → World → Prop} : ∀ (js : List Nat) (listed : Array Bool) (a : Act) (w : World), rowB md ops js listed = true → wpListIn F n P ops Q' (opsAt ops js) a w → wpAnyIn F n P md ops Q' js.length listed a w
  | [], _, _, _, hB, h => ⟨by simpa [rowB] using hB, h⟩
  | k :: js, listed, a, w, hB, h => by
    simp only [rowB, Bool.and_eq_true, decide_eq_true_eq] at hB
    refine ⟨fun h1 => (by rw [hB.1] at h1; cases h1), fun i hi => ?_⟩
    rw [hB.1] at hi
    have hik : i = k := by simpa using hi
    subst hik
    obtain ⟨_, o, ho, _⟩ := mem_ready.1 (show i ∈ Region.ready md ops listed by rw [hB.1]; simp)
    have hl : opsAt ops (i :: js) = o :: opsAt ops js := by simp [opsAt, ho]
    rw [hl] at h
    have hw : wpOpIn F n P ops Q' i (wpListIn F n P ops Q' (opsAt ops js)) a w := by unfold wpOpIn; simp only [ho]; exact h
    exact wpOpIn_mono (fun a' w' h' => wpAnyIn_of_row js _ a' w' hB.2 h') hw

def headB (md : Region.Mode) (ops : Array Oper) (js : List Nat) : Nat → Nat → Array Bool → Bool
  | 0, _, listed => rowB md ops js listed
  | f + 1, k, listed => (Region.ready md ops listed).contains k && Region.free md ops listed k && headB md ops js f (k + 1) (listed.setIfInBounds k true)

theorem rowB_ready {m : Nat} {js : List Nat} {listed : Array Bool} (h : rowB md ops js listed = true) (hj : js.all (fun j => decide (m ≤ j)) = true) : ∀ j ∈ Region.ready md ops listed, m ≤ j := by
  cases js with
  | nil => intro j hj; simp only [rowB, List.isEmpty_iff] at h; rw [h] at hj; cases hj
  | cons k js =>
    intro j hjj
    simp only [rowB, Bool.and_eq_true, decide_eq_true_eq] at h
    rw [h.1] at hjj
    simp at hjj
    subst hjj
    simp only [List.all_cons, Bool.and_eq_true, decide_eq_true_eq] at hj
    exact hj.1

theorem headQ_lex {m : Nat} {fl js : List Nat} {Lq : Act → Prop} (hsel : Region.noSelect ops = true) (hs : Region.sinkB md ops m = true) (hc : chainF md ops m fl = true) (hn : m < ops.size) (hjs : js.all (fun j => decide (m ≤ j)) = true) :
    ∀ (l : List Oper) (k : Nat) (listed : Array Bool) (a : Act), (∀ j, j < l.length → l[j]? = ops[k + j]?) → k + l.length = m → HInv md ops m fl listed →
    headB md ops js l.length k listed = true → wpQuietIn F n P ops C Lq l a →
    headQ F n P md ops C m (fun listed' a' => rowB md ops js listed' = true ∧ Lq a') l.length listed a
  | [], k, listed, a, _, hk, _, hB, h => ⟨by simpa [headB] using hB, h⟩
  | o :: l, k, listed, a, hl, hk, inv, hB, h => by
    have h0 : ops[k]? = some o := by simpa using (hl 0 (by simp)).symm
    simp only [List.length_cons, headB, Bool.and_eq_true] at hB
    obtain ⟨⟨hr, hf⟩, hB'⟩ := hB
    have hkn : k < m := by simp only [List.length_cons] at hk; omega
    have hr' : k ∈ Region.ready md ops listed := by simpa using hr
    have hst : qOpIn F n P ops C k (wpQuietIn F n P ops C Lq l) a := by unfold qOpIn; simp only [h0]; exact h
    obtain ⟨v, hy, hK⟩ := yieldsQuiet_of_qOpIn h0 hst
    exact headQ_first h0 (Region.noSelect_spec hsel) hs hc hn hkn (fun listed' a' hL => rowB_ready hL.1 hjs) l.length listed a inv (Region.free_spec h0 hf) hr' hy
      (headQ_lex hsel hs hc hn hjs l (k + 1) _ _ (fun j hj => by have := hl (j + 1) (by simp; omega); simpa [Nat.add_assoc, Nat.add_comm 1 j] using this) (by simp only [List.length_cons] at hk; omega) (inv.set hr' hkn) hB' hK)

/-- The addresses that may come up at any time are taken first. -/
def floatQ (P : Program) (ops : Array Oper) (K : Act → Prop) : List Nat → Act → Prop
  | [], a => K a
  | k :: ks, a => match ops[k]? with
    | some o => ∃ v, YieldsFenced P ops o v a ∧ floatQ P ops K ks (a.put o.dst v)
    | none => False
def setAll (listed : Array Bool) : List Nat → Array Bool
  | [] => listed
  | k :: ks => setAll (listed.setIfInBounds k true) ks
def floatB (md : Region.Mode) (ops : Array Oper) : List Nat → Array Bool → Bool
  | [], _ => true
  | k :: ks, listed => (Region.ready md ops listed).contains k && Region.free md ops listed k && floatB md ops ks (listed.setIfInBounds k true)

theorem wpAnyIn_of_float {Q' : Exit → Act → World → Prop} {f : Nat} {w : World} {K : Act → Prop} {Lf : Array Bool} (hro : F.round = none) (hsel : Region.noSelect ops = true) (hQ : ∀ c (a a' : Act) w, a.defers = a'.defers → Q' (.panic c) a w → Q' (.panic c) a' w)
    (hK : ∀ a, K a → wpAnyIn F n P md ops Q' f Lf a w) :
    ∀ (ks : List Nat) (listed : Array Bool) (a : Act), setAll listed ks = Lf → floatB md ops ks listed = true → floatQ P ops K ks a → wpAnyIn F n P md ops Q' (ks.length + f) listed a w
  | [], listed, a, he, _, h => by
    rw [List.length_nil, Nat.zero_add]
    have e : listed = Lf := he
    rw [e]
    exact hK a h
  | k :: ks, listed, a, he, hB, h => by
    simp only [floatB, Bool.and_eq_true] at hB
    obtain ⟨⟨hr, hf⟩, hB'⟩ := hB
    unfold floatQ at h
    split at h
    · rename_i o ho
      obtain ⟨v, hy, h'⟩ := h
      rw [show (k :: ks).length + f = (ks.length + f) + 1 by simp only [List.length_cons]; omega]
      exact wpAnyIn_take hro ho hsel hf hr (fun c a w h => hQ c _ _ w (Act.put_defers' _ _ _) h) hy (wpAnyIn_of_float hro hsel hQ hK ks _ _ he hB' h')
    · exact h.elim

/-- What the kernel looks at: operations 0 to m - 1 quiet and free, those of fl at any time, those of js in this order behind all. -/
def rowRegion (md : Region.Mode) (ops : Array Oper) (m : Nat) (fl js : List Nat) : Bool :=
  Region.noSelect ops && decide (m < ops.size) && Region.sinkB md ops m && chainF md ops m fl && js.all (fun j => decide (m ≤ j)) && fl.all (fun j => decide (m < j) && decide (j < ops.size)) &&
  decide (fl.length + (m + js.length) = ops.size) && floatB md ops fl (Array.replicate ops.size false) && (ops.toList.zipIdx.all fun x => !(fl.contains x.2) || x.1.after.all fun e => !(Region.binds md e) || fl.contains e.on) &&
  headB md ops js m 0 (setAll (Array.replicate ops.size false) fl)

theorem setAll_size : ∀ (ks : List Nat) (listed : Array Bool), (setAll listed ks).size = listed.size
  | [], _ => rfl
  | k :: ks, listed => by unfold setAll; rw [setAll_size ks]; simp
theorem setAll_get : ∀ (ks : List Nat) (listed : Array Bool) (j : Nat) (d : Bool), j < listed.size → (setAll listed ks).getD j d = (ks.contains j || listed.getD j d)
  | [], listed, j, d, _ => by simp [setAll]
  | k :: ks, listed, j, d, hj => by
    unfold setAll
    rw [setAll_get ks _ j d (by simpa using hj)]
    by_cases h : k = j
    · subst h
      have : (listed.setIfInBounds k true).getD k d = true := by simp [Array.getD_eq_getD_getElem?, hj]
      rw [this]
      simp
    · rw [getD_set_ne d h]
      have : (j == k) = false := by simpa using fun e => h e.symm
      rw [List.contains_cons, this, Bool.false_or]

theorem inv_start {m : Nat} {fl : List Nat} (hfl : fl.all (fun j => decide (m < j) && decide (j < ops.size)) = true)
    (hcl : (ops.toList.zipIdx.all fun x => !(fl.contains x.2) || x.1.after.all fun e => !(Region.binds md e) || fl.contains e.on) = true) : HInv md ops m fl (setAll (Array.replicate ops.size false) fl) := by
  have hsz : (setAll (Array.replicate ops.size false) fl).size = ops.size := by rw [setAll_size]; simp
  have hin : ∀ j, fl.contains j = true → j < ops.size := by
    intro j hj
    have := List.all_eq_true.1 hfl j (by simpa using hj)
    simp only [Bool.and_eq_true, decide_eq_true_eq] at this
    exact this.2
  refine ⟨hsz, fun j oj hj hl e he hb => ?_, fun t _ ht hf => ?_, fun t hf => ?_⟩
  · have hjs := (Array.getElem?_eq_some_iff.1 hj).1
    rw [setAll_get _ _ _ _ (by simpa using hjs), getD_replicate_false, Bool.or_false] at hl
    have h1 := List.all_eq_true.1 hcl (oj, j) (by rw [List.mem_iff_getElem?]; exact ⟨j, by rw [List.getElem?_zipIdx]; simp [hj]⟩)
    simp only [hl, Bool.not_true, Bool.false_or] at h1
    have h2 := Array.all_eq_true'.1 h1 e he
    simp only [hb, Bool.not_true, Bool.false_or] at h2
    rw [setAll_get _ _ _ _ (by simpa using hin _ h2), h2]
    rfl
  · rw [setAll_get _ _ _ _ (by simpa using ht), hf, Bool.false_or]
    exact getD_in (by simpa using ht) (getD_replicate_false _ _)
  · rw [setAll_get _ _ _ _ (by simpa using hin _ hf), hf]
    rfl

/-- **Quiet operations, then a forced row: one walk in the order of the text.** -/
theorem wpAnyIn_rowRegion {m : Nat} {fl js : List Nat} {Q : Exit → Act → World → Prop} {a : Act} {w : World} {l : List Oper} (hro : F.round = none) (hB : rowRegion .any l.toArray m fl js = true) (hQ : ∀ c (a a' : Act) w, a.defers = a'.defers → Q (.panic c) a w → Q (.panic c) a' w) (hC : C w)
    (h : floatQ P l.toArray (wpQuietIn F n P l.toArray C (fun a' => ∀ w', C w' → wpListIn F n P l.toArray Q (opsAt l.toArray js) a' w') (l.take m)) fl a) :
    wpAnyIn F n P .any l.toArray Q l.toArray.size (Array.replicate l.toArray.size false) a w := by
  simp only [rowRegion, Bool.and_eq_true, decide_eq_true_eq] at hB
  obtain ⟨⟨⟨⟨⟨⟨⟨⟨⟨hsel, hn⟩, hs⟩, hc⟩, hjs⟩, hfl⟩, hlen⟩, hfB⟩, hcl⟩, hhd⟩ := hB
  have hn' : m < l.length := by simpa using hn
  have htl : (l.take m).length = m := by simp; omega
  have inv := inv_start (md := .any) hfl hcl
  have H := wpAnyIn_of_float (F := F) (n := n) (P := P) (md := .any) (Q' := Q) (f := m + js.length) (w := w) (Lf := setAll (Array.replicate l.toArray.size false) fl) hro hsel hQ
    (K := wpQuietIn F n P l.toArray C (fun a' => ∀ w', C w' → wpListIn F n P l.toArray Q (opsAt l.toArray js) a' w') (l.take m)) (fun a' hq => ?_) fl (Array.replicate l.toArray.size false) a rfl hfB h
  · rwa [hlen] at H
  · have H2 := headQ_lex (F := F) (n := n) (P := P) (md := .any) (C := C) hsel hs hc hn hjs (l.take m) 0 _ a' (fun j hj => by
      have hj' : j < m := by rw [htl] at hj; exact hj
      simp [hj']) (by simpa using htl) inv (by rw [htl]; exact hhd) hq
    rw [htl] at H2
    exact wpAnyIn_of_headQ hro (fun listed a' w' hw' hL => wpAnyIn_of_row js listed a' w' hL.1 (hL.2 w' hw')) m _ a' w hC H2

theorem wpIn_rowRegion {id m : Nat} {fl js : List Nat} {Q : Exit → Act → World → Prop} {a : Act} {w : World} {l : List Oper} (hm : P.follows .mixedOrders = true) (hro : F.round = none) (hB : rowRegion .any l.toArray m fl js = true) (hQ : ∀ c (a a' : Act) w, a.defers = a'.defers → Q (.panic c) a w → Q (.panic c) a' w)
    (hC : C { w with drawn := w.drawn + 1 })
    (h : floatQ P l.toArray (wpQuietIn F n P l.toArray C (fun a' => ∀ w', C w' → wpListIn F n P l.toArray Q (opsAt l.toArray js) a' w') (l.take m)) fl a) : (Code.region id l.toArray true).wpIn F n P Q a w :=
  wpIn_region_any hm (wpAnyIn_rowRegion hro hB hQ hC h)

theorem wpIn_rowRegion_round {id m : Nat} {fl js : List Nat} {Q : Exit → Act → World → Prop} {a : Act} {w : World} {l : List Oper} {r : Nat} (hm : P.follows .mixedOrders = true) (hro : F.round = none) (hd : noDefer l.toArray = true) (hB : rowRegion .any l.toArray m fl js = true) (hQ : ∀ c (a a' : Act) w, a.defers = a'.defers → Q (.panic c) a w → Q (.panic c) a' w)
    (hC : C { w with drawn := w.drawn + 1 })
    (h : floatQ P l.toArray (wpQuietIn F n P l.toArray C (fun a' => ∀ w', C w' → wpListIn F n P l.toArray Q (opsAt l.toArray js) a' w') (l.take m)) fl a) : (Code.region id l.toArray true).wpIn (F.inRound r) n P Q a w :=
  wpIn_region_any hm (wpAnyIn_round hro r hd _ _ _ _ (wpAnyIn_rowRegion hro hB hQ hC h))

/-! The same of code outside a fence. -/
theorem wpQuietIn_of_quiet {Q : Act → Prop} : ∀ {l : List Oper} {a : Act}, wpQuiet P ops C Q l a → wpQuietIn Fence.wide n P ops C Q l a
  | [], _, h => h
  | o :: l, a, h => by
    unfold wpQuiet at h
    unfold wpQuietIn
    refine ⟨fun _ _ _ _ => trivial, ?_⟩
    split
    · rename_i hw
      simp only [hw, if_true] at h
      obtain ⟨v, h1, h2⟩ := h
      refine ⟨v, fun w hw => ?_, wpQuietIn_of_quiet h2⟩
      have h3 := h1 w hw
      unfold Oper.quietAt at h3
      unfold Oper.quietAtIn
      generalize (execOp a.eval o).run P w = r at *
      cases r with
      | ok x w' =>
        cases x <;> simp only [Oper.quietUpon] at h3 <;> simp only [Oper.quietUponIn]
        case enter f args => exact ⟨h3.1, fun h => by simp [Fence.wide] at h, callsIn_wide.2 h3.2⟩
        all_goals exact h3
      | halt x w' => simp only [Oper.quietUpon] at h3
    · rename_i hw
      simp only [hw] at h
      exact wpQuietIn_of_quiet h
theorem qOp_of_wide {i : Nat} {a : Act} {K : Act → Prop} (h : qOpIn Fence.wide n P ops C i K a) : qOp P ops C i K a := by
  unfold qOpIn at h
  unfold qOp
  split
  · rename_i ho; simp only [ho] at h; exact h
  · rename_i o ho
    simp only [ho] at h
    have h := h.2
    split
    · rename_i hw
      simp only [hw, if_true] at h
      obtain ⟨v, h1, h2⟩ := h
      refine ⟨v, fun w hw => ?_, h2⟩
      have h3 := h1 w hw
      unfold Oper.quietAtIn at h3
      unfold Oper.quietAt
      generalize (execOp a.eval o).run P w = r at *
      cases r with
      | ok x w' =>
        cases x <;> simp only [Oper.quietUponIn] at h3 <;> simp only [Oper.quietUpon]
        case enter f args => exact ⟨h3.1, callsIn_wide.1 h3.2.2⟩
        all_goals exact h3
      | halt x w' => simp only [Oper.quietUponIn] at h3
    · rename_i hw
      simp only [hw] at h
      exact h

theorem wpAny_of_headQ {m g : Nat} {L : Array Bool → Act → Prop} {Q' : Exit → Act → World → Prop} (hL : ∀ listed a w, C w → L listed a → wpAny P md ops Q' g listed a w) :
    ∀ (f : Nat) (listed : Array Bool) (a : Act) (w : World), C w → headQ Fence.wide n P md ops C m L f listed a → wpAny P md ops Q' (f + g) listed a w
  | 0, listed, a, w, hw, h => by rw [Nat.zero_add]; exact hL _ _ _ hw h
  | f + 1, listed, a, w, hw, h => by
    rw [show f + 1 + g = (f + g) + 1 by omega]
    exact ⟨fun h0 => absurd h0 h.1, fun i hi => wpOp_of_qOp hw (fun a' w' hw' h' => wpAny_of_headQ hL f _ a' w' hw' h') (qOp_of_wide (h.2 i hi).2)⟩

theorem wpAny_of_row {Q' : Exit → Act → World → Prop} : ∀ (js : List Nat) (listed : Array Bool) (a : Act) (w : World), rowB md ops js listed = true → wpList P ops Q' (opsAt ops js) a w → wpAny P md ops Q' js.length listed a w
  | [], _, _, _, hB, h => ⟨by simpa [rowB] using hB, h⟩
  | k :: js, listed, a, w, hB, h => by
    simp only [rowB, Bool.and_eq_true, decide_eq_true_eq] at hB
    refine ⟨fun h1 => (by rw [hB.1] at h1; cases h1), fun i hi => ?_⟩
    rw [hB.1] at hi
    have hik : i = k := by simpa using hi
    subst hik
    obtain ⟨_, o, ho, _⟩ := mem_ready.1 (show i ∈ Region.ready md ops listed by rw [hB.1]; simp)
    have hl : opsAt ops (i :: js) = o :: opsAt ops js := by simp [opsAt, ho]
    rw [hl] at h
    have hw : wpOp P ops Q' i (wpList P ops Q' (opsAt ops js)) a w := by unfold wpOp; simp only [ho]; exact h
    exact wpOp_mono (fun a' w' h' => wpAny_of_row js _ a' w' hB.2 h') hw

theorem wpAny_of_float {Q' : Exit → Act → World → Prop} {f : Nat} {w : World} {K : Act → Prop} {Lf : Array Bool} (hsel : Region.noSelect ops = true) (hQ : ∀ c (a a' : Act) w, a.defers = a'.defers → Q' (.panic c) a w → Q' (.panic c) a' w)
    (hK : ∀ a, K a → wpAny P md ops Q' f Lf a w) :
    ∀ (ks : List Nat) (listed : Array Bool) (a : Act), setAll listed ks = Lf → floatB md ops ks listed = true → floatQ P ops K ks a → wpAny P md ops Q' (ks.length + f) listed a w
  | [], listed, a, he, _, h => by
    rw [List.length_nil, Nat.zero_add]
    have e : listed = Lf := he
    rw [e]
    exact hK a h
  | k :: ks, listed, a, he, hB, h => by
    simp only [floatB, Bool.and_eq_true] at hB
    obtain ⟨⟨hr, hf⟩, hB'⟩ := hB
    unfold floatQ at h
    split at h
    · rename_i o ho
      obtain ⟨v, hy, h'⟩ := h
      rw [show (k :: ks).length + f = (ks.length + f) + 1 by simp only [List.length_cons]; omega]
      exact wpAny_take ho hsel hf hr (fun c a w h => hQ c _ _ w (Act.put_defers' _ _ _) h) hy.1 (wpAny_of_float hsel hQ hK ks _ _ he hB' h')
    · exact h.elim

theorem wp_rowRegion {id m : Nat} {fl js : List Nat} {Q : Exit → Act → World → Prop} {a : Act} {w : World} {l : List Oper} (hm : P.follows .mixedOrders = true) (hB : rowRegion .any l.toArray m fl js = true) (hQ : ∀ c (a a' : Act) w, a.defers = a'.defers → Q (.panic c) a w → Q (.panic c) a' w)
    (hC : C { w with drawn := w.drawn + 1 })
    (h : floatQ P l.toArray (wpQuiet P l.toArray C (fun a' => ∀ w', C w' → wpList P l.toArray Q (opsAt l.toArray js) a' w') (l.take m)) fl a) : (Code.region id l.toArray true).wp P Q a w := by
  refine wp_region_any hm ?_
  simp only [rowRegion, Bool.and_eq_true, decide_eq_true_eq] at hB
  obtain ⟨⟨⟨⟨⟨⟨⟨⟨⟨hsel, hn⟩, hs⟩, hc⟩, hjs⟩, hfl⟩, hlen⟩, hfB⟩, hcl⟩, hhd⟩ := hB
  have hn' : m < l.length := by simpa using hn
  have htl : (l.take m).length = m := by simp; omega
  have inv := inv_start (md := .any) hfl hcl
  have H := wpAny_of_float (P := P) (md := .any) (Q' := Q) (f := m + js.length) (w := { w with drawn := w.drawn + 1 }) (Lf := setAll (Array.replicate l.toArray.size false) fl) hsel hQ
    (K := wpQuiet P l.toArray C (fun a' => ∀ w', C w' → wpList P l.toArray Q (opsAt l.toArray js) a' w') (l.take m)) (fun a' hq => ?_) fl (Array.replicate l.toArray.size false) a rfl hfB h
  · rwa [hlen] at H
  · have H2 := headQ_lex (F := Fence.wide) (n := 1) (P := P) (md := .any) (C := C) hsel hs hc hn hjs (l.take m) 0 _ a' (fun j hj => by
      have hj' : j < m := by rw [htl] at hj; exact hj
      simp [hj']) (by simpa using htl) inv (by rw [htl]; exact hhd) (wpQuietIn_of_quiet hq)
    rw [htl] at H2
    exact wpAny_of_headQ (fun listed a' w' hw' hL => wpAny_of_row js listed a' w' hL.1 (hL.2 w' hw')) m _ a' _ hC H2

/-- Behind quiet operations that draw, and no more. -/
theorem wp_row_drew {id : Nat} {Q : Exit → Act → World → Prop} {a : Act} {w : World} {l : List Oper} (m : Nat) (fl js : List Nat) (hm : P.follows .mixedOrders = true) (hB : rowRegion .any l.toArray m fl js = true) (hQ : ∀ c (a a' : Act) w, a.defers = a'.defers → Q (.panic c) a w → Q (.panic c) a' w)
    (h : floatQ P l.toArray (wpQuiet P l.toArray (fun w' => ∃ k, w' = w.drewN k) (fun a' => ∀ k, wpList P l.toArray Q (opsAt l.toArray js) a' (w.drewN k)) (l.take m)) fl a) : (Code.region id l.toArray true).wp P Q a w := by
  refine wp_rowRegion (C := fun w' => ∃ k, w' = w.drewN k) hm hB hQ ⟨1, rfl⟩ ?_
  have e : (fun a' => ∀ w', (∃ k, w' = w.drewN k) → wpList P l.toArray Q (opsAt l.toArray js) a' w') = (fun a' => ∀ k, wpList P l.toArray Q (opsAt l.toArray js) a' (w.drewN k)) := by
    funext a'
    exact propext ⟨fun h k => h _ ⟨k, rfl⟩, fun h w' ⟨k, hk⟩ => hk ▸ h k⟩
  rw [e]
  exact h
/-- Behind quiet operations that draw and lay blocks. -/
theorem wp_row_below {id : Nat} {Q : Exit → Act → World → Prop} {a : Act} {w : World} {l : List Oper} (m : Nat) (fl js : List Nat) (hm : P.follows .mixedOrders = true) (hB : rowRegion .any l.toArray m fl js = true) (hQ : ∀ c (a a' : Act) w, a.defers = a'.defers → Q (.panic c) a w → Q (.panic c) a' w)
    (h : floatQ P l.toArray (wpQuiet P l.toArray (fun w' => ∃ p : Regrown, w' = Go.Sort.grow (redrawn w p.d) p.os) (fun a' => ∀ w', Below w.heap.size w w' → wpList P l.toArray Q (opsAt l.toArray js) a' w') (l.take m)) fl a) : (Code.region id l.toArray true).wp P Q a w := by
  refine wp_rowRegion (C := fun w' => ∃ p : Regrown, w' = Go.Sort.grow (redrawn w p.d) p.os) hm hB hQ ⟨⟨w.drawn + 1, #[]⟩, by rw [Go.Sort.grow_empty]; rfl⟩ ?_
  have e : (fun a' => ∀ w', (∃ p : Regrown, w' = Go.Sort.grow (redrawn w p.d) p.os) → wpList P l.toArray Q (opsAt l.toArray js) a' w') = (fun a' => ∀ w', Below w.heap.size w w' → wpList P l.toArray Q (opsAt l.toArray js) a' w') := by
    funext a'
    exact propext ⟨fun h w' hb => h w' (regrown_of_below hb), fun h w' ⟨p, hp⟩ => by subst hp; exact h _ (below_regrown w p.d p.os)⟩
  rw [e]
  exact h
/-- An address of a field of what a pointer points at. -/
theorem fenced_field {o : Oper} {a : Act} {t : TypeId} {x : Operand} {k : Nat} {ad : Addr} {v : Value} (hg : o.guard = none) (ho : o.op = .fieldAddr t x k) (_hx : a.eval x = .pointer (some ad)) (hv : ∀ w, (execOp a.eval o).run P w = .ok (.value v) w) : YieldsFenced P ops o v a := by
  refine ⟨.inl ⟨by simp [Region.wanted, hg], hv⟩, fun w => ?_⟩
  simp [Oper.about, ho]
end
end Go.Nau

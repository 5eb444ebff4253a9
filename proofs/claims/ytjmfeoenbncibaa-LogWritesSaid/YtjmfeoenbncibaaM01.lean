/- Texts of this proof, joined: Q. They hold under no condition beyond what each theorem states. -/
import Derived.ProofKit
import Derived.Sort.BigQuietIn
namespace Go.Nau

section
variable {F : Fence} {n : Nat} {P : Program} {md : Region.Mode}

/-- No operation but plain ones: none defers. -/
def noDefer (ops : Array Oper) : Bool := ops.all fun o => match o.op with | .defer _ => false | _ => true

theorem noDefer_get {ops : Array Oper} (h : noDefer ops = true) {i : Nat} {o : Oper} (ho : ops[i]? = some o) : ∀ c, o.op ≠ .defer c := by
  intro c e
  unfold noDefer at h
  rw [Array.all_eq_true] at h
  obtain ⟨hi, rfl⟩ := Array.getElem?_eq_some_iff.1 ho
  have := h i hi
  rw [e] at this
  exact absurd this (by simp)

theorem wpOpIn_round {ops : Array Oper} {Q : Exit → Act → World → Prop} (hro : F.round = none) (r : Nat) (hd : noDefer ops = true) (i : Nat) (K : Act → World → Prop) (a : Act) (w : World) :
    wpOpIn (F.inRound r) n P ops Q i K a w = wpOpIn F n P ops Q i K a w := by
  unfold wpOpIn
  cases ho : ops[i]? with
  | none => rfl
  | some o =>
    have e : Oper.wpIn (F.inRound r) n P o a w K Q = Oper.wpIn F n P o a w K Q := by
      unfold Oper.wpIn
      rw [hro, Oper.semAt_eq _ _ o (noDefer_get hd ho), Oper.semAt_none]
      rfl
    simp only [e]
    rfl

theorem wpAnyIn_round {ops : Array Oper} {Q : Exit → Act → World → Prop} (hro : F.round = none) (r : Nat) (hd : noDefer ops = true) : ∀ (fuel : Nat) (listed : Array Bool) (a : Act) (w : World),
    wpAnyIn F n P md ops Q fuel listed a w → wpAnyIn (F.inRound r) n P md ops Q fuel listed a w
  | 0, _, _, _, h => h
  | fuel + 1, _, _, _, h => ⟨h.1, fun i hi => by
      rw [wpOpIn_round hro r hd]
      exact wpOpIn_mono (fun a w => wpAnyIn_round hro r hd fuel _ a w) (h.2 i hi)⟩

/-- What is asked of the operations. -/
def guardB (l : List Oper) (x : Oper) : Bool := match x.guard with | none => true | some (j, _) => decide (j < l.length)
def lastB (l : List Oper) (o : Oper) : Bool :=
  (l.all fun x => guardB l x) && o.guard.isNone && ((List.range l.length).all fun i => match l[i]? with | some x => x.after.all fun e => decide (e.on < i) | none => true) &&
    ((List.range l.length).all fun j => o.after.any fun e => Region.binds .any e && (e.on == j || match l[e.on]? with | some x => x.after.any fun e' => e'.on == j && Region.binds .any e' | none => false)) && (o.after.all fun e => decide (e.on < l.length))

structure LastOk (l : List Oper) (o : Oper) : Prop where
  g : ∀ x ∈ l, guardB l x = true
  g' : o.guard = none
  lt : ∀ (i : Nat) x, l[i]? = some x → ∀ e ∈ x.after, e.on < i
  all : ∀ j, j < l.length → ∃ e ∈ o.after, Region.binds .any e = true ∧ (e.on = j ∨ ∃ x, l[e.on]? = some x ∧ ∃ e' ∈ x.after, e'.on = j ∧ Region.binds .any e' = true)
  lt' : ∀ e ∈ o.after, e.on < l.length

theorem lastOk {l : List Oper} {o : Oper} (h : lastB l o = true) : LastOk l o := by
  unfold lastB at h
  simp only [Bool.and_eq_true] at h
  obtain ⟨⟨⟨⟨h1, h2⟩, h3⟩, h4⟩, h5⟩ := h
  refine ⟨?_, by simpa using h2, ?_, ?_, ?_⟩
  · intro x hx
    exact List.all_eq_true.1 h1 x hx
  · intro i x hx e he
    have := List.all_eq_true.1 h3 i (by simpa using (List.getElem?_eq_some_iff.1 hx).1)
    simp only [hx] at this
    rw [Array.all_eq_true] at this
    obtain ⟨k, hk, rfl⟩ := Array.mem_iff_getElem.1 he
    simpa using this k hk
  · intro j hj
    have := List.all_eq_true.1 h4 j (by simpa using hj)
    rw [Array.any_eq_true] at this
    obtain ⟨k, hk, h⟩ := this
    simp only [Bool.and_eq_true, Bool.or_eq_true, beq_iff_eq] at h
    refine ⟨_, Array.getElem_mem hk, h.1, ?_⟩
    rcases h.2 with h | h
    · exact .inl h
    · refine .inr ?_
      cases hx : l[o.after[k].on]? with
      | none => rw [hx] at h; cases h
      | some x =>
        rw [hx] at h
        simp only [Array.any_eq_true, Bool.and_eq_true, beq_iff_eq] at h
        obtain ⟨k', hk', h'⟩ := h
        exact ⟨x, rfl, _, Array.getElem_mem hk', h'.1, h'.2⟩
  · intro e he
    rw [Array.all_eq_true] at h5
    obtain ⟨k, hk, rfl⟩ := Array.mem_iff_getElem.1 he
    simpa using h5 k hk

/-- Two lists of what has come up: of all but the last; of all, the last not yet. -/
structure Lk (l : List Oper) (m : Nat) (x y : Array Bool) : Prop where
  sx : x.size = m
  sy : y.size = m + 1
  eq : ∀ i, i < m → y[i]? = x[i]?
  last : y[m]? = some false
  cl : ∀ (j : Nat) z, l[j]? = some z → x.getD j false = true → ∀ e ∈ z.after, Region.binds .any e = true → x.getD e.on false = true

theorem getD_set (x : Array Bool) (i j : Nat) (h : x.getD j false = true) : (x.setIfInBounds i true).getD j false = true := by
  simp only [Array.getD_eq_getD_getElem?, Array.getElem?_setIfInBounds] at h ⊢
  by_cases e : i = j
  · subst e
    by_cases hi : i < x.size
    · simp [hi]
    · simp [hi] at h
  · simpa [e] using h

theorem Lk.set {l : List Oper} {m : Nat} {x y : Array Bool} (h : Lk l m x y) {i : Nat} (hi : i < m) (hr : i ∈ Region.ready .any l.toArray x) : Lk l m (x.setIfInBounds i true) (y.setIfInBounds i true) := by
  refine ⟨by simp [h.sx], by simp [h.sy], fun j hj => ?_, ?_, fun j z hz hj e he hb => ?_⟩
  · simp only [Array.getElem?_setIfInBounds, h.sx, h.sy, h.eq j hj]
    by_cases e : i = j
    · subst e; simp [hi, Nat.lt_succ_of_lt hi]
    · simp [e]
  · rw [Array.getElem?_setIfInBounds]
    have : ¬ i = m := by omega
    simp [this, h.last]
  · obtain ⟨_, z', hz', ha⟩ := mem_ready.1 hr
    by_cases e1 : i = j
    · subst e1
      have : z' = z := by
        have h9 : l[i]? = some z' := by simpa using hz'
        rw [hz] at h9
        injection h9 with h9
        exact h9.symm
      subst this
      exact getD_set _ _ _ (ha e he hb)
    · refine getD_set _ _ _ (h.cl j z hz ?_ e he hb)
      simp only [Array.getD_eq_getD_getElem?, Array.getElem?_setIfInBounds] at hj ⊢
      simpa [e1] using hj

section
variable {l : List Oper} {o : Oper} {x y : Array Bool}

theorem ready_lt (h : LastOk l o) (k : Lk l l.length x y) {i : Nat} (hi : i < l.length) : i ∈ Region.ready .any (l ++ [o]).toArray y ↔ i ∈ Region.ready .any l.toArray x := by
  rw [mem_ready, mem_ready]
  have e1 : (l ++ [o]).toArray[i]? = l.toArray[i]? := by simp [List.getElem?_append_left hi]
  rw [e1]
  have e2 : y.getD i true = x.getD i true := by simp [Array.getD_eq_getD_getElem?, k.eq i hi]
  rw [e2]
  refine and_congr Iff.rfl (exists_congr fun z => ?_)
  constructor
  · rintro ⟨hz, ha⟩
    refine ⟨hz, fun e he hb => ?_⟩
    have := ha e he hb
    have hlt := h.lt i z (by simpa using hz) e he
    simpa [Array.getD_eq_getD_getElem?, k.eq e.on (by omega)] using this
  · rintro ⟨hz, ha⟩
    refine ⟨hz, fun e he hb => ?_⟩
    have := ha e he hb
    have hlt := h.lt i z (by simpa using hz) e he
    simpa [Array.getD_eq_getD_getElem?, k.eq e.on (by omega)] using this

/-- Where not all have come up, the least of the others may come up. -/
theorem ready_least (h : LastOk l o) (k : Lk l l.length x y) {i : Nat} (hi : i < l.length) (hn : x.getD i true = false) : Region.ready .any l.toArray x ≠ [] := by
  induction i using Nat.strongRecOn with
  | ind i ih =>
    by_cases hex : ∃ j, j < i ∧ x.getD j true = false
    · obtain ⟨j, hj, hj2⟩ := hex
      exact ih j hj (by omega) hj2
    · intro e
      have : i ∈ Region.ready .any l.toArray x := by
        rw [mem_ready]
        refine ⟨hn, l[i], by simp [hi], fun e he _ => ?_⟩
        have hlt := h.lt i l[i] (by simp [hi]) e he
        have hs := k.sx
        have : ¬ x.getD e.on true = false := fun c => hex ⟨_, hlt, c⟩
        simp only [Array.getD_eq_getD_getElem?] at this ⊢
        rw [Array.getElem?_eq_getElem (by omega)] at this ⊢
        simpa using this
      rw [e] at this
      exact absurd this (by simp)

theorem ready_last (h : LastOk l o) (k : Lk l l.length x y) : l.length ∈ Region.ready .any (l ++ [o]).toArray y ↔ Region.ready .any l.toArray x = [] := by
  constructor
  · intro hm
    obtain ⟨_, z, hz, ha⟩ := mem_ready.1 hm
    simp at hz
    subst hz
    rw [List.eq_nil_iff_forall_not_mem]
    intro i hi
    obtain ⟨hu, z, hz, _⟩ := mem_ready.1 hi
    have hlt : i < l.length := by simpa using (Array.getElem?_eq_some_iff.1 hz).1
    obtain ⟨e, he, hb, hor⟩ := h.all i hlt
    have hxe : x.getD e.on false = true := by
      have := ha e he hb
      have hl := h.lt' e he
      simpa [Array.getD_eq_getD_getElem?, k.eq e.on hl] using this
    have : x.getD i false = true := by
      rcases hor with rfl | ⟨z', hz', e', he', rfl, hb'⟩
      · exact hxe
      · exact k.cl _ _ hz' hxe e' he' hb'
    simp only [Array.getD_eq_getD_getElem?] at this hu
    rw [Array.getElem?_eq_getElem (by rw [k.sx]; exact hlt)] at this hu
    simp at this hu
    rw [hu] at this
    cases this
  · intro hr
    rw [mem_ready]
    refine ⟨by simp [Array.getD_eq_getD_getElem?, k.last], o, by simp, fun e he _ => ?_⟩
    have hlt := h.lt' e he
    have hx : ¬ x.getD e.on true = false := fun c => ready_least h k hlt c hr
    simp only [Array.getD_eq_getD_getElem?, k.eq _ hlt] at hx ⊢
    have := k.sx
    rw [Array.getElem?_eq_getElem (by omega)] at hx ⊢
    simpa using hx

theorem wanted_none {z : Oper} (h : z.guard = none) (y : Nat → Option Bool) : Region.wanted z y = true := by
  unfold Region.wanted
  rw [h]

theorem qOpIn_more {C : World → Prop} (h : LastOk l o) {i : Nat} (hi : i < l.length) {K : Act → Prop} {a : Act} (hq : qOpIn F n P l.toArray C i K a) : qOpIn F n P (l ++ [o]).toArray C i K a := by
  unfold qOpIn at *
  have e1 : (l ++ [o]).toArray[i]? = l.toArray[i]? := by simp [List.getElem?_append_left hi]
  rw [e1]
  have e2 : l.toArray[i]? = some l[i] := by simp [hi]
  rw [e2] at hq ⊢
  have hg := h.g _ (List.getElem_mem hi)
  have hw : Region.wanted l[i] (yielded (l ++ [o]).toArray a.tmps) = Region.wanted l[i] (yielded l.toArray a.tmps) := by
    unfold Region.wanted
    unfold guardB at hg
    split
    · rfl
    · rename_i j want hj
      rw [hj] at hg
      have hjl : j < l.length := by simpa using hg
      have : yielded (l ++ [o]).toArray a.tmps j = yielded l.toArray a.tmps j := by
        unfold yielded
        have e3 : (l ++ [o]).toArray[j]? = l.toArray[j]? := by simp [List.getElem?_append_left hjl]
        rw [e3]
      rw [this]
  simp only [hw] at hq ⊢
  exact hq

theorem wpAnyIn_last {C : World → Prop} {Q : Exit → Act → World → Prop} {R : Act → Prop} (h : LastOk l o) (hro : F.round = none)
    (hR : ∀ a w, C w → R a → wpOpIn F n P (l ++ [o]).toArray Q l.length (Q .normal) a w) : ∀ (fuel : Nat) (x y : Array Bool) (a : Act) (w : World), Lk l l.length x y → C w →
      wpAnyQIn F n P .any l.toArray C R fuel x a → wpAnyIn F n P .any (l ++ [o]).toArray Q (fuel + 1) y a w := by
  have done : ∀ (fuel : Nat) (x y : Array Bool) (a : Act) (w : World), Lk l l.length x y → Region.ready .any l.toArray x = [] → C w → R a → wpAnyIn F n P .any (l ++ [o]).toArray Q (fuel + 1) y a w := by
    intro fuel x y a w k hr hC hq
    refine ⟨fun e => ?_, fun i hi => ?_⟩
    · have := (ready_last h k).2 hr
      rw [e] at this
      exact absurd this (by simp)
    · obtain ⟨_, z, hz, _⟩ := mem_ready.1 hi
      have hlt : i < l.length + 1 := by simpa using (Array.getElem?_eq_some_iff.1 hz).1
      rcases Nat.lt_or_ge i l.length with hlt | hge
      · have := (ready_lt h k hlt).1 hi
        rw [hr] at this
        exact absurd this (by simp)
      · obtain rfl : i = l.length := by omega
        refine wpOpIn_mono (fun a w hq => wpAnyIn_done ?_ hq fuel) (hR a w hC hq)
        rw [List.eq_nil_iff_forall_not_mem]
        intro j hj
        obtain ⟨hu, z, hz, hall⟩ := mem_ready.1 hj
        have hlt : j < l.length + 1 := by simpa using (Array.getElem?_eq_some_iff.1 hz).1
        rcases Nat.lt_or_ge j l.length with hlt | hge
        · have hne : ¬ l.length = j := by omega
          have : x.getD j true = false := by
            simpa [Array.getD_eq_getD_getElem?, Array.getElem?_setIfInBounds, hne, k.eq j hlt] using hu
          exact ready_least h k hlt this hr
        · obtain rfl : j = l.length := by omega
          have := k.sy
          simp [Array.getD_eq_getD_getElem?, this] at hu
  intro fuel
  induction fuel with
  | zero =>
    intro x y a w k hC hq
    exact done 0 x y a w k hq.1 hC hq.2
  | succ fuel ih =>
    intro x y a w k hC hq
    by_cases hr : Region.ready .any l.toArray x = []
    · exact done (fuel + 1) x y a w k hr hC (hq.1 hr)
    · refine ⟨fun e => ?_, fun i hi => ?_⟩
      · obtain ⟨j, hj⟩ := List.exists_mem_of_ne_nil _ hr
        obtain ⟨_, z, hz, _⟩ := mem_ready.1 hj
        have hlt : j < l.length := by simpa using (Array.getElem?_eq_some_iff.1 hz).1
        have := (ready_lt h k hlt).2 hj
        rw [e] at this
        exact absurd this (by simp)
      · obtain ⟨_, z, hz, _⟩ := mem_ready.1 hi
        have hlt : i < l.length + 1 := by simpa using (Array.getElem?_eq_some_iff.1 hz).1
        rcases Nat.lt_or_ge i l.length with hlt | hge
        · have hq' := qOpIn_more (n := n) h hlt (hq.2 i ((ready_lt h k hlt).1 hi))
          exact wpOpIn_of_qOpIn hro hC (fun a' w' hw' hk => ih _ _ a' w' (k.set hlt ((ready_lt h k hlt).1 hi)) hw' hk) hq'
        · obtain rfl : i = l.length := by omega
          exact absurd ((ready_last h k).1 hi) hr

/-- **A region whose last operation comes behind all the others, which are quiet: one walk in the order of the text; also in a round.** -/
theorem wpIn_region_last {id : Nat} {Q : Exit → Act → World → Prop} {a : Act} {w : World} {L : List Oper} (hL : L = l ++ [o]) (hm : P.follows .mixedOrders = true) (hro : F.round = none) (hB : Region.lexB .any l.toArray = true) (hk : lastB l o = true)
    (h : wpQuietIn F n P l.toArray (fun w' => ∃ k, w' = w.drewN k) (fun a' => ∀ w', (∃ k, w' = w.drewN k) → Oper.wpIn F n P o a' w' (Q .normal) Q) l a) :
    (Code.region id L.toArray true).wpIn F n P Q a w ∧ (noDefer L.toArray = true → ∀ r, (Code.region id L.toArray true).wpIn (F.inRound r) n P Q a w) := by
  subst hL
  have hok := lastOk hk
  simp only [Region.lexB, Bool.and_eq_true] at hB
  have h2 := wpAnyQIn_lex (F := F) (n := n) (C := fun w' => ∃ k, w' = w.drewN k) (md := .any) hB.1 l 0 (Array.replicate l.length false) a (by simp) (by simpa using hB.2) h
  have h3 := wpAnyIn_last (Q := Q) hok hro (R := fun a' => ∀ w', (∃ k, w' = w.drewN k) → Oper.wpIn F n P o a' w' (Q .normal) Q) (fun a w' hw' hR => by
    unfold wpOpIn
    have : (l ++ [o]).toArray[l.length]? = some o := by simp
    rw [this]
    simp only [wanted_none hok.g', if_true]
    exact hR w' hw') l.length (Array.replicate l.length false) (Array.replicate (l.length + 1) false) a (w.drewN 1)
    ⟨by simp, by simp, fun i hi => by simp [hi, Nat.lt_succ_of_lt hi], by simp, fun j z _ hj => by
      exfalso
      revert hj
      simp only [Array.getD_eq_getD_getElem?, Array.getElem?_replicate]
      split <;> simp⟩ ⟨1, rfl⟩ h2
  have h4 : wpAnyIn F n P .any (l ++ [o]).toArray Q (l ++ [o]).toArray.size (Array.replicate (l ++ [o]).toArray.size false) a { w with drawn := w.drawn + 1 } := by
    have e : (l ++ [o]).toArray.size = l.length + 1 := by simp
    rw [e]
    exact h3
  exact ⟨wpIn_region_any hm h4, fun hd r => wpIn_region_any hm (wpAnyIn_round hro r hd _ _ _ _ h4)⟩

theorem wpIn_region_last_lit {id : Nat} {Q : Exit → Act → World → Prop} {a : Act} {w : World} {L : List Oper} (hne : L ≠ []) (hm : P.follows .mixedOrders = true) (hro : F.round = none) (hB : Region.lexB .any L.dropLast.toArray = true) (hk : lastB L.dropLast (L.getLast hne) = true)
    (h : wpQuietIn F n P L.dropLast.toArray (fun w' => ∃ k, w' = w.drewN k) (fun a' => ∀ w', (∃ k, w' = w.drewN k) → Oper.wpIn F n P (L.getLast hne) a' w' (Q .normal) Q) L.dropLast a) :
    (Code.region id L.toArray true).wpIn F n P Q a w :=
  (wpIn_region_last (List.dropLast_concat_getLast hne).symm hm hro hB hk h).1

theorem wpIn_region_last_round {id : Nat} {Q : Exit → Act → World → Prop} {a : Act} {w : World} {L : List Oper} {r : Nat} (hne : L ≠ []) (hm : P.follows .mixedOrders = true) (hro : F.round = none) (hB : Region.lexB .any L.dropLast.toArray = true) (hk : lastB L.dropLast (L.getLast hne) = true)
    (hd : noDefer L.toArray = true)
    (h : wpQuietIn F n P L.dropLast.toArray (fun w' => ∃ k, w' = w.drewN k) (fun a' => ∀ w', (∃ k, w' = w.drewN k) → Oper.wpIn F n P (L.getLast hne) a' w' (Q .normal) Q) L.dropLast a) :
    (Code.region id L.toArray true).wpIn (F.inRound r) n P Q a w :=
  (wpIn_region_last (List.dropLast_concat_getLast hne).symm hm hro hB hk h).2 hd r
end
end
end Go.Nau

/- Records: what they are; isNumber, isEntry, Right, flag: contracts over the given program. -/
import Derived.Test.YtjpmohennekbaaaRc
namespace Go.Proofs.Ytjpmohennekbaaa
open Go.RowKit Go.Nau Go.Shelf
attribute [local go_sem] Oper.semAt_some

structure Ent where
  kind : Int
  file : Nat
  idx : Nat
  vbn : Nat
structure Rec where
  seq : Nat
  cp : Nat
  ends : Bool
  sync : Bool
  next : Int
  l : List Ent

def entL (x : Ent) : List Value := [.int .i64 x.kind, .int .u32 x.file, .int .u32 x.idx, .int .u32 x.vbn]
def entC (l : List Ent) : List Value := l.flatMap entL
def entV (x : Ent) : Value := .agg #[.int .i64 x.kind, .int .u32 x.file, .int .u32 x.idx, .int .u32 x.vbn]
def recV (r : Rec) (A : Option Addr) (c : Nat) : Value := .agg #[.int .u64 r.seq, .int .u64 r.cp, .bool r.ends, .bool r.sync, .int .i64 r.next, .slice A r.l.length c]

structure Ent.wf (x : Ent) : Prop where
  kind : -9223372036854775808 ≤ x.kind ∧ x.kind ≤ 9223372036854775807
  file : x.file < 4294967296
  idx : x.idx < 4294967296
  vbn : x.vbn < 4294967296
structure Rec.wf (r : Rec) : Prop where
  seq : r.seq < 18446744073709551616
  cp : r.cp < 18446744073709551616
  next : -9223372036854775808 ≤ r.next ∧ r.next ≤ 9223372036854775807
  len : r.l.length ≤ maxLen
  l : ∀ x ∈ r.l, x.wf

theorem entC_length (l : List Ent) : (entC l).length = l.length * 4 := by
  unfold entC
  induction l with
  | nil => rfl
  | cons x l ih => simp only [List.flatMap_cons, List.length_append, ih, List.length_cons, entL, List.length_nil]; omega
theorem entC_snoc (l : List Ent) (x : Ent) : entC (l ++ [x]) = entC l ++ entL x := by simp [entC]
theorem entC_get : ∀ (l : List Ent) (i j : Nat) (x : Ent), l[i]? = some x → j < 4 → (entC l)[i * 4 + j]? = (entL x)[j]?
  | [], i, j, x, h, _ => by simp at h
  | y :: l, 0, j, x, h, hj => by
    simp at h
    subst h
    rw [show 0 * 4 + j = j by omega]
    show (entL y ++ entC l)[j]? = _
    rw [List.getElem?_append_left (by simp [entL]; exact hj)]
  | y :: l, i + 1, j, x, h, hj => by
    simp only [List.getElem?_cons_succ] at h
    show (entL y ++ entC l)[(i + 1) * 4 + j]? = _
    rw [List.getElem?_append_right (by simp [entL]; omega)]
    have : (i + 1) * 4 + j - (entL y).length = i * 4 + j := by simp [entL]; omega
    rw [this]
    exact entC_get l i j x h hj
theorem ent_cells {T : Nat → Prop} {w : World} {A : Option Addr} {n : Nat} {l : List Ent} (hr : Rd T w 4 A n (entC l)) (q : Nat) (x : Ent) (hx : l[q]? = some x) (hq : q < n) :
    ∃ ad, A = some ad ∧ w.cell? (ad.add (q * 4)) = some (.int .i64 x.kind) ∧ w.cell? ⟨(ad.add (q * 4)).block, (ad.add (q * 4)).off + 1, none⟩ = some (.int .u32 x.file) ∧ w.cell? ⟨(ad.add (q * 4)).block, (ad.add (q * 4)).off + 2, none⟩ = some (.int .u32 x.idx) ∧
      w.cell? ⟨(ad.add (q * 4)).block, (ad.add (q * 4)).off + 3, none⟩ = some (.int .u32 x.vbn) := by
  obtain ⟨ad, rfl, _, hc⟩ := hr.2 (by omega)
  have h : ∀ j, j < 4 → w.cell? ((ad.add (q * 4)).add j) = (entL x)[j]? := by
    intro j hj
    have hg := entC_get l q j x hx hj
    have hj' : j < (entL x).length := by simpa [entL] using hj
    rw [List.getElem?_eq_getElem hj'] at hg ⊢
    rw [Go.Nau.add_add]
    exact hc _ _ hg
  exact ⟨ad, rfl, h 0 (by omega), h 1 (by omega), h 2 (by omega), h 3 (by omega)⟩

def numB (n : Nat) : Bool := decide (0 < n) && decide (n < 281474976710656)
def entB (x : Ent) : Bool := if x.kind = 1 ∨ x.kind = 2 then decide (0 < x.file) && decide (0 < x.vbn) else if x.kind = 3 ∨ x.kind = 4 ∨ x.kind = 5 then decide (x.file = 0) && decide (x.vbn = 0) else false

set_option maxHeartbeats 400000 in
theorem isNumber_any (n : Nat) (w : World) : Calls Try.prog 74 #[.int .u64 n] w fun e w' => e = .returned (.bool (numB n)) ∧ w = w' := by
  by_cases h : 0 < n
  · have hi : (0 : Int) < n := by omega
    have hs : numB n = decide ((n : Int) < 281474976710656) := by
      unfold numB
      simp [h]
      omega
    have HS := Lib.hid hs
    clear hs
    go_enter Try.func74, Try.ntmps74
    go_wp2
    go_ret
    exact ⟨by rw [HS.out]; rfl, rfl⟩
  · have hi : ¬ (0 : Int) < n := by omega
    have hs : numB n = false := by unfold numB; simp [h]
    have HS := Lib.hid hs
    clear hs
    go_enter Try.func74, Try.ntmps74
    go_wp2
    go_ret
    exact ⟨by rw [HS.out]; rfl, rfl⟩
theorem rnumber_any (n : Nat) (w : World) : Calls Try.prog 76 #[.int .u64 n] w fun e w' => e = .returned (.bool (numB n)) ∧ w = w' := by
  by_cases h : 0 < n
  · have hi : (1 : Int) ≤ n := by omega
    have hs : numB n = decide ((n : Int) < 281474976710656) := by
      unfold numB
      simp [h]
      omega
    have HS := Lib.hid hs
    clear hs
    go_enter Try.func76, Try.ntmps76
    go_wp2
    go_ret
    exact ⟨by rw [HS.out]; rfl, rfl⟩
  · have hi : ¬ (1 : Int) ≤ n := by omega
    have hs : numB n = false := by unfold numB; simp [h]
    have HS := Lib.hid hs
    clear hs
    go_enter Try.func76, Try.ntmps76
    go_wp2
    go_ret
    exact ⟨by rw [HS.out]; rfl, rfl⟩

set_option maxHeartbeats 1000000 in
theorem isEntry_any (x : Ent) (w : World) : Calls Try.prog 75 #[entV x] w fun e w' => e = .returned (.bool (entB x)) ∧ Below w.heap.size w w' := by
  obtain ⟨k, f, i, v⟩ := x
  unfold entV entB
  dsimp only
  have hb : ∀ o, Below w.heap.size w (w.alloc o) := fun o => (Below.refl _ w).alloc (Nat.le_refl _) o
  by_cases h12 : k = 1 ∨ k = 2
  · rw [if_pos h12]
    by_cases hf : 0 < f
    · have hfi : (0 : Int) < f := by omega
      have hf1 : (1 : Int) ≤ f := by omega
      have hv : (decide (0 < f) && decide (0 < v)) = decide (0 < v) := by simp [hf]
      have hv2 : decide ((1 : Int) ≤ (v : Int)) = decide (0 < v) := by simp; omega
      rw [hv]
      rcases h12 with rfl | rfl
      all_goals
        go_enter Try.func75, Try.ntmps75
        go_wp2
        try go_step3
        go_wp2
        go_ret
        exact ⟨rfl, hb _⟩
    · have hfi : ¬ (0 : Int) < f := by omega
      have hf1 : ¬ (1 : Int) ≤ f := by omega
      have hv : (decide (0 < f) && decide (0 < v)) = false := by simp [hf]
      rw [hv]
      rcases h12 with rfl | rfl
      all_goals
        go_enter Try.func75, Try.ntmps75
        go_wp2
        try go_step3
        go_wp2
        go_ret
        exact ⟨rfl, hb _⟩
  · rw [if_neg h12]
    have n1 : ¬ k = 1 := fun e => h12 (.inl e)
    have n2 : ¬ k = 2 := fun e => h12 (.inr e)
    clear h12
    by_cases h345 : k = 3 ∨ k = 4 ∨ k = 5
    · rw [if_pos h345]
      rcases h345 with rfl | rfl | rfl
      all_goals
        go_enter Try.func75, Try.ntmps75
        go_wp2
        try go_step3
        go_wp2
        all_goals
          go_ret
          refine ⟨?_, hb _⟩
          simp [*]
    · rw [if_neg h345]
      have n3 : ¬ k = 3 := fun e => h345 (.inl e)
      have n4 : ¬ k = 4 := fun e => h345 (.inr (.inl e))
      have n5 : ¬ k = 5 := fun e => h345 (.inr (.inr e))
      clear h345
      go_enter Try.func75, Try.ntmps75
      go_wp2
      try go_step3
      go_wp2
      go_ret
      exact ⟨rfl, hb _⟩
set_option maxHeartbeats 1000000 in
theorem rentry_any (x : Ent) (w : World) : Calls Try.prog 77 #[entV x] w fun e w' => e = .returned (.bool (entB x)) ∧ Below w.heap.size w w' := by
  obtain ⟨k, f, i, v⟩ := x
  unfold entV entB
  dsimp only
  have hb : ∀ o, Below w.heap.size w (w.alloc o) := fun o => (Below.refl _ w).alloc (Nat.le_refl _) o
  by_cases h12 : k = 1 ∨ k = 2
  · rw [if_pos h12]
    by_cases hf : 0 < f
    · have hfi : (0 : Int) < f := by omega
      have hf1 : (1 : Int) ≤ f := by omega
      have hv : (decide (0 < f) && decide (0 < v)) = decide (0 < v) := by simp [hf]
      have hv2 : decide ((1 : Int) ≤ (v : Int)) = decide (0 < v) := by simp; omega
      rw [hv]
      rcases h12 with rfl | rfl
      all_goals
        go_enter Try.func77, Try.ntmps77
        go_wp2
        try go_step3
        go_wp2
        go_ret
        exact ⟨rfl, hb _⟩
    · have hfi : ¬ (0 : Int) < f := by omega
      have hf1 : ¬ (1 : Int) ≤ f := by omega
      have hv : (decide (0 < f) && decide (0 < v)) = false := by simp [hf]
      rw [hv]
      rcases h12 with rfl | rfl
      all_goals
        go_enter Try.func77, Try.ntmps77
        go_wp2
        try go_step3
        go_wp2
        go_ret
        exact ⟨rfl, hb _⟩
  · rw [if_neg h12]
    have n1 : ¬ k = 1 := fun e => h12 (.inl e)
    have n2 : ¬ k = 2 := fun e => h12 (.inr e)
    have c1 : (k == 1) = false := by simpa using n1
    have c2 : (k == 2) = false := by simpa using n2
    clear h12
    by_cases h345 : k = 3 ∨ k = 4 ∨ k = 5
    · rw [if_pos h345]
      have g3 : (3 : Int) ≤ k := by omega
      have g5 : k ≤ 5 := by omega
      by_cases hf : f = 0
      case' pos => have hfe : ((f : Int) == 0) = true := by simp [hf]
      case' neg => have hfe : ((f : Int) == 0) = false := by simp [hf]
      all_goals
        go_enter Try.func77, Try.ntmps77
        go_wp2
        try go_step3
        go_wp2
        all_goals
          go_ret
          refine ⟨?_, hb _⟩
          simp [*]
          try (rw [Bool.eq_iff_iff]; simp)
    · rw [if_neg h345]
      have n3 : ¬ k = 3 := fun e => h345 (.inl e)
      have n4 : ¬ k = 4 := fun e => h345 (.inr (.inl e))
      have n5 : ¬ k = 5 := fun e => h345 (.inr (.inr e))
      have g35 : ¬ (3 ≤ k ∧ k ≤ 5) := by omega
      clear h345
      by_cases g3 : 3 ≤ k
      case' pos => have g5 : ¬ k ≤ 5 := fun h => g35 ⟨g3, h⟩
      all_goals clear g35
      all_goals
        go_enter Try.func77, Try.ntmps77
        go_wp2
        try go_step3
        go_wp2
        go_ret
        exact ⟨rfl, hb _⟩

end Go.Proofs.Ytjpmohennekbaaa

/- The reference's Same, Put, Take, and the law's pick: contracts over the given program. -/
import Derived.Test.YtcgphkghamcgcaaB
import Derived.Deep.QuietTactic
import Derived.BigQuiet
import Derived.Deep.Draws
namespace Go.Proofs.Ytcgphkghamcgcaa
open Go.RowKit Go.Conc Go.Nau

theorem nums_get {l : List Int} {k : Nat} {u : Value} (h : (nums l)[k]? = some u) : ∃ x, l[k]? = some x ∧ u = .int .i64 x := by
  simp [nums] at h
  obtain ⟨x, h1, h2⟩ := h
  exact ⟨x, h1, h2.symm⟩

set_option maxHeartbeats 1000000 in
theorem sameI (T1 T2 : Nat → Prop) (w : World) (A B : Option Addr) (n m c c' : Nat) (l k : List Int) (ha : Rd T1 w 1 A n (nums l)) (hb : Rd T2 w 1 B m (nums k)) (hn : n ≤ maxLen) (hm : m ≤ maxLen) :
    Calls Try.prog 17 #[.slice A n c, .slice B m c'] w fun e w' => e = .returned (.bool (decide (l = k))) ∧ ∃ q, w' = w.drewN q := by
  have hln : l.length = n := by have := ha.1; simpa using this
  have hkm : k.length = m := by have := hb.1; simpa using this
  by_cases hnm : n = m
  · subst hnm
    have Hln := Lib.hid hln
    have Hkm := Lib.hid hkm
    clear hln hkm
    unfold maxLen at hn hm
    go_enter Try.func17, Try.ntmps17
    go_wp2
    go_loopw [5] (fun i wr => ∃ j : Nat, j ≤ n ∧ i = .int .i64 j ∧ l.take j = k.take j ∧ ∃ q, wr = w.drewN q) (fun i wr => n - (intOf i).toNat)
    case atStart => exact ⟨0, Nat.zero_le _, rfl, rfl, 0, rfl⟩
    case round =>
      obtain ⟨j, hj, rfl, hjk, q, rfl⟩ := hrel
      by_cases hlt : j < n
      · obtain ⟨a1, u1, rfl, _, hx1, hc1⟩ := ha.at1 hlt
        obtain ⟨b1, u2, rfl, _, hx2, hc2⟩ := hb.at1 hlt
        obtain ⟨x1, hx1', rfl⟩ := nums_get hx1
        obtain ⟨x2, hx2', rfl⟩ := nums_get hx2
        clear hx1 hx2
        have Hx1 := Lib.hid hx1'
        have Hx2 := Lib.hid hx2'
        clear hx1' hx2'
        have Hjk := Lib.hid hjk
        clear hjk
        have hw1 : wrap64 ((j : Int) + 1) = (j : Int) + 1 := by unfold wrap64; omega
        by_cases hx : x1 = x2
        · subst hx
          have hne : (x1 != x1) = false := by simp
          go_wp2
          go_quiet (fail)
          go_wp2
          go_roundw
          case rel =>
            refine ⟨j + 1, by omega, by go_num, ?_, _, rfl⟩
            rw [List.take_add_one, List.take_add_one, Hjk.out, Hx1.out, Hx2.out]
          case measure => simp [intOf]; omega
        · have hne : (x1 != x2) = true := by simp [hx]
          have hlk : (decide (l = k)) = false := by
            simp only [decide_eq_false_iff_not]
            rintro rfl
            have hx2' := Hx2.out
            rw [Hx1.out] at hx2'
            injection hx2' with h
            exact hx h
          have Hlk := Lib.hid hlk
          clear hlk
          go_wp2
          go_quiet (fail)
          go_wp2
          go_ret
          exact ⟨by rw [Hlk.out]; rfl, _, by first | rfl | exact World.drewN_drewN _ _ _⟩
      · obtain rfl : j = n := by omega
        have hlk : decide (l = k) = true := by
          rw [List.take_of_length_le (by rw [Hln.out]; exact Nat.le_refl _), List.take_of_length_le (by rw [Hkm.out]; exact Nat.le_refl _)] at hjk
          simp [hjk]
        have Hlk := Lib.hid hlk
        clear hlk hjk
        go_wp2
        go_ret
        exact ⟨by rw [Hlk.out]; rfl, _, by first | rfl | exact World.drewN_drewN _ _ _⟩
  · have hlk : decide (l = k) = false := by
      simp only [decide_eq_false_iff_not]
      rintro rfl
      omega
    have hnm' : ((n : Int) != (m : Int)) = true := by simp; omega
    have Hlk := Lib.hid hlk
    clear hlk hln hkm
    go_enter Try.func17, Try.ntmps17
    go_wp2
    go_ret
    exact ⟨by rw [Hlk.out]; rfl, 0, rfl⟩

/-- Which of five calls a raw number speaks of. -/
def pickOf (c : Int) : Int := if c < 0 then -((c + 1).tmod 5) else c % 5
theorem pick_lt (c : Int) : 0 ≤ pickOf c ∧ pickOf c < 5 := by
  unfold pickOf
  split
  · rw [← Int.neg_tmod, Int.tmod_eq_emod_of_nonneg (by omega)]
    omega
  · omega

set_option maxHeartbeats 400000 in
theorem pickI (c : Int) (w : World) (h : -9223372036854775808 ≤ c) (h2 : c ≤ 9223372036854775807) :
    Calls Try.prog 22 #[.int .i64 c, .int .i64 5] w fun e w' => e = .returned (.int .i64 (pickOf c)) ∧ w = w' := by
  by_cases hc : c < 0
  · have hp : pickOf c = -((c + 1).tmod 5) := by unfold pickOf; rw [if_pos hc]
    have Hp := Lib.hid hp
    clear hp
    go_enter Try.func22, Try.ntmps22
    go_wp2
    go_ret
    exact ⟨by rw [Hp.out]; rfl, rfl⟩
  · have hp : pickOf c = c % 5 := by unfold pickOf; rw [if_neg hc]
    have Hp := Lib.hid hp
    clear hp
    go_enter Try.func22, Try.ntmps22
    go_wp2
    go_ret
    exact ⟨by rw [Hp.out]; rfl, rfl⟩

/-- The reference's Take at no numbers. -/
theorem rtake_nil (A : Option Addr) (c : Nat) (w : World) :
    Calls Try.prog 24 #[.slice A 0 c] w fun e w' => e = .returned (.tuple #[.int .i64 0, .slice A 0 c, .bool false]) ∧ w = w' := by
  go_enter Try.func24, Try.ntmps24
  go_wp2
  go_ret3
  exact ⟨rfl, rfl⟩

set_option maxHeartbeats 400000 in
theorem rtake_cons (T : Nat → Prop) (A : Option Addr) (n c : Nat) (x : Int) (l : List Int) (w : World) (h : Rd T w 1 A n (nums (x :: l))) (hn : n ≤ maxLen) (hc : n ≤ c) (hcm : c ≤ maxLen) :
    Calls Try.prog 24 #[.slice A n c] w fun e w' => ∃ A', e = .returned (.tuple #[.int .i64 x, .slice A' l.length (c - 1), .bool true]) ∧ Rd T w 1 A' l.length (nums l) ∧ ∃ q, w' = w.drewN q := by
  obtain rfl : n = l.length + 1 := by have := h.1; simpa using this.symm
  obtain ⟨a1, u1, rfl, _, hx1, hc1⟩ := h.at1 (k := 0) (by omega)
  obtain ⟨x1, hx1', rfl⟩ := nums_get hx1
  obtain rfl : x = x1 := by simpa using hx1'
  have hcut := h.cut (k := 1) (cap := c) (by omega) hc
  simp only [Nat.one_mul, nums, List.map_cons, List.drop_succ_cons, List.drop_zero, Nat.add_sub_cancel] at hcut
  clear hx1 hx1'
  have hc0 : w.cell? a1 = some (.int .i64 x) := by simpa [Addr.add] using hc1
  unfold maxLen at hn hcm
  have h0 : ((l.length + 1 : Nat) : Int) ≠ 0 := by omega
  by_cases hc1' : c = 1
  · subst hc1'
    go_enter Try.func24, Try.ntmps24
    go_wp2
    go_quiet (fail)
    rename_i nq
    go_wp2
    go_ret3
    have hl : l = [] := by cases l with | nil => rfl | cons _ _ => simp at hc
    subst hl
    exact ⟨some a1, rfl, Rd.nil .., nq, rfl⟩
  · go_enter Try.func24, Try.ntmps24
    go_wp2
    go_quiet (fail)
    rename_i nq
    go_wp2
    go_ret3
    rw [if_neg hc1'] at hcut
    exact ⟨some (a1.add 1), rfl, hcut, nq, rfl⟩
end Go.Proofs.Ytcgphkghamcgcaa

/- RecordWraps, RecordRooms: contracts over the given program. -/
import Derived.Test.YtjpmohennekbaaaRv
namespace Go.Proofs.Ytjpmohennekbaaa
open Go.RowKit Go.Nau Go.Shelf
attribute [local go_sem] Oper.semAt_some

set_option maxHeartbeats 4000000 in
set_option maxRecDepth 100000 in
theorem wraps_law (c b : ByteArray) (n : Int) (hc : c.size ≤ maxLen) (w : World) :
    Calls Try.prog 10 #[.string c, .string b, .int .i64 n] w fun e w' => e = .returned (.bool true) ∧ Below w.heap.size w w' := by
  have h1 := fun W => wrap_any c hc W
  have h2 := fun W => rwrap_any c hc W
  have h3 := fun W => unwrap_any b W
  have h4 := fun W => runwrap_any b W
  have h5 := fun W => room_any n W
  have h6 := fun W => rroom_any n W
  generalize wrapO c = x at *
  generalize wrapE c = e1 at *
  generalize unwO b = y at *
  generalize unwE b = e2 at *
  generalize roomI n = z at *
  have H1 := Lib.hid h1
  have H2 := Lib.hid h2
  have H3 := Lib.hid h3
  have H4 := Lib.hid h4
  have H5 := Lib.hid h5
  have H6 := Lib.hid h6
  clear h1 h2 h3 h4 h5 h6
  go_enter Try.func10, Try.ntmps10
  go_wp2_with fail
  refine (shown7_any _).mono ?_
  rintro e w1 ⟨rfl, hb1⟩
  go_wp2_with fail
  refine (H1.out _).mono ?_
  rintro e w2 ⟨rfl, hb2⟩
  go_wp2_with fail
  refine (H2.out _).mono ?_
  rintro e w3 ⟨rfl, hb3⟩
  go_wp2_with fail
  refine (H3.out _).mono ?_
  rintro e w4 ⟨rfl, rfl⟩
  go_wp2_with fail
  refine (H4.out _).mono ?_
  rintro e w5 ⟨rfl, rfl⟩
  go_wp2_with fail
  refine (H5.out _).mono ?_
  rintro e w6 ⟨rfl, rfl⟩
  go_wp2_with fail
  refine (H6.out _).mono ?_
  rintro e w7 ⟨rfl, rfl⟩
  go_wp2_with fail
  go_ret
  exact ⟨by simp, (hb1.trans (hb2.mono hb1.size)).trans (hb3.mono (Nat.le_trans hb1.size hb2.size))⟩

set_option maxHeartbeats 4000000 in
set_option maxRecDepth 100000 in
theorem rooms_law (n : Int) (w : World) :
    Calls Try.prog 14 #[.int .i64 n] w fun e w' => e = .returned (.bool true) ∧ Below w.heap.size w w' := by
  have h5 := fun n W => room_any n W
  have H5 := Lib.hid h5
  clear h5
  by_cases g1 : n < 0
  · have hr : roomI n = 0 := by unfold roomI; rw [if_pos g1]
    have HR := Lib.hid hr
    have g2 : ¬ 0 < n := by omega
    clear hr
    go_enter Try.func14, Try.ntmps14
    go_wp2_with fail
    refine (shown7_any _).mono ?_
    rintro e w1 ⟨rfl, hb1⟩
    go_wp2_with fail
    refine (H5.out _ _).mono ?_
    rintro e w2 ⟨rfl, rfl⟩
    rw [HR.out]
    go_wp2_with fail
    go_ret
    exact ⟨by simp, hb1⟩
  · by_cases g2 : 1099511627776 < n
    · have g3 : 0 < n := by omega
      go_enter Try.func14, Try.ntmps14
      go_wp2_with fail
      refine (shown7_any _).mono ?_
      rintro e w1 ⟨rfl, hb1⟩
      go_wp2_with fail
      go_ret
      exact ⟨by simp, hb1⟩
    · have g0 : 0 ≤ n := by omega
      have g3 : n ≤ 1099511627776 := by omega
      have r1 : roomI n = 15 - n % 16 := by unfold roomI; rw [if_neg g1]
      have r2 : roomI (n + 1) = 15 - (n + 1) % 16 := by unfold roomI; rw [if_neg (by omega)]
      have r3 : roomI (n + 16) = 15 - n % 16 := by unfold roomI; rw [if_neg (by omega)]; omega
      have r4 : (n + 1) % 16 = if n % 16 = 15 then 0 else n % 16 + 1 := by split <;> omega
      rw [r4] at r2
      have hm : 0 ≤ n % 16 ∧ n % 16 < 16 := by omega
      have R1 := Lib.hid r1
      have R2 := Lib.hid r2
      have R3 := Lib.hid r3
      clear r1 r2 r3 r4 g1 g2
      go_enter Try.func14, Try.ntmps14
      go_wp2_with fail
      refine (shown7_any _).mono ?_
      rintro e w1 ⟨rfl, hb1⟩
      go_wp2_with fail
      refine (H5.out _ _).mono ?_
      rintro e w2 ⟨rfl, rfl⟩
      go_wp2_with fail
      refine (H5.out _ _).mono ?_
      rintro e w2 ⟨rfl, rfl⟩
      have R4 : roomI (n + 1) = if n % 16 = 15 then 15 else 15 - n % 16 - 1 := by rw [R2.out]; split <;> omega
      rw [R1.out, R4]
      clear R4
      generalize n % 16 = m at *
      obtain ⟨hm0, hm1⟩ := hm
      by_cases h15 : m = 15
      · rw [if_pos h15]
        subst h15
        go_wp2_with fail
        refine (H5.out _ _).mono ?_
        rintro e w2 ⟨rfl, rfl⟩
        rw [R3.out]
        go_wp2_with fail
        go_ret
        exact ⟨by simp, hb1⟩
      · rw [if_neg h15]
        have k1 : 0 < 15 - m := by omega
        have k2 : 15 - m < 16 := by omega
        have k0 : 0 ≤ 15 - m := by omega
        have k3 : (15 - m == 0) = false := by simp; omega
        go_wp2_with fail
        refine (H5.out _ _).mono ?_
        rintro e w2 ⟨rfl, rfl⟩
        rw [R3.out]
        go_wp2_with fail
        go_ret
        exact ⟨by simp, hb1⟩
end Go.Proofs.Ytjpmohennekbaaa

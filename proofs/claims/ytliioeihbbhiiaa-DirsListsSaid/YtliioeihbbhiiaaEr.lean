/- Directories: the reference's less, Sorted: contracts over the given program. -/
import Derived.Test.YtliioeihbbhiiaaEq
namespace Go.Proofs.Ytliioeihbbhiiaa
open Go.RowKit Go.Nau Go.Shelf
attribute [local go_sem] Oper.semAt_some

def blS (a b : ByteArray) (q : Nat) : Bool := Op.bytesLess (a.data.toList.drop q) (b.data.toList.drop q)
theorem blS_zero (a b : ByteArray) : blS a b 0 = Op.bytesLess a.toList b.toList := by
  unfold blS
  rw [List.drop_zero, List.drop_zero, ByteArray.toList_eq, ByteArray.toList_eq]
theorem drop_at (a : ByteArray) (q : Nat) (h : q < a.size) : a.data.toList.drop q = a[q] :: a.data.toList.drop (q + 1) := by
  rw [List.drop_eq_getElem_cons (by rw [data_length]; exact h)]
  rfl
theorem blS_step (a b : ByteArray) (q : Nat) (ha : q < a.size) (hb : q < b.size) : blS a b q = (decide (a[q] < b[q]) || (a[q] == b[q] && blS a b (q + 1))) := by
  unfold blS
  rw [drop_at a q ha, drop_at b q hb]
  rfl
theorem blS_end (a b : ByteArray) (q : Nat) (ha : q ≤ a.size) (hb : q ≤ b.size) (h : ¬ (q < a.size ∧ q < b.size)) : blS a b q = decide (a.size < b.size) := by
  unfold blS
  by_cases h1 : q < b.size
  · have h2 : q = a.size := by omega
    rw [List.drop_of_length_le (l := a.data.toList) (by rw [data_length]; omega), drop_at b q h1]
    show true = _
    rw [eq_comm, decide_eq_true_eq]
    omega
  · have h2 : b.data.toList.drop q = [] := List.drop_of_length_le (by rw [data_length]; omega)
    rw [h2]
    have h3 : decide (a.size < b.size) = false := by
      rw [decide_eq_false_iff_not]
      omega
    rw [h3]
    cases a.data.toList.drop q <;> rfl

set_option maxHeartbeats 1000000 in
theorem rless_any (a b : ByteArray) (ha : a.size ≤ 9223372036854775807) (hb : b.size ≤ 9223372036854775807) (w : World) : Calls Try.prog 49 #[.string a, .string b] w fun e w' => e = .returned (.bool (Op.bytesLess a.toList b.toList)) ∧ Below w.heap.size w w' := by
  have h0 := blS_zero a b
  rw [← h0]
  clear h0
  go_enter Try.func49, Try.ntmps49
  go_wp2_with fail
  go_loopg [5] a.size (fun k i wr => ∃ q : Nat, k = a.size - q ∧ i = .int .i64 q ∧ q ≤ a.size ∧ q ≤ b.size ∧ blS a b q = blS a b 0 ∧ Below w.heap.size w wr)
  case atStart => exact ⟨0, rfl, rfl, Nat.zero_le _, Nat.zero_le _, rfl, Below.refl _ _⟩
  case round =>
    obtain ⟨q, rfl, rfl, hq, hq2, hbl, hbw⟩ := hrel
    by_cases hlt : q < a.size
    · have hqi : (q : Int) < (a.size : Int) := by omega
      by_cases hlt2 : q < b.size
      · have hqi2 : (q : Int) < (b.size : Int) := by omega
        have hst := blS_step a b q hlt hlt2
        by_cases he : a[q] = b[q]
        · have hei : ((a[q].toNat : Int) == (b[q].toNat : Int)) = true := by rw [he]; simp
          have hn : blS a b (q + 1) = blS a b 0 := by
            rw [← hbl, hst, he]
            have : decide (b[q] < b[q]) = false := by simp
            rw [this]
            simp
          have HN := Lib.hid hn
          clear hbl hst he hn hq hq2
          go_wp2_with fail
          go_quiet (fail)
          rename_i nq
          have hbw2 : Below w.heap.size w (wr.drewN nq) := below_drewN hbw nq
          clear hbw
          go_wp2_with fail
          go_roundg (a.size - (q + 1))
          case measure => omega
          case rel => exact ⟨q + 1, rfl, by simp, by omega, by omega, HN.out, hbw2⟩
        · have hei : ((a[q].toNat : Int) == (b[q].toNat : Int)) = false := by
            simp only [beq_eq_false_iff_ne, ne_eq]
            intro e
            exact he (UInt8.toNat_inj.1 (Int.ofNat_inj.1 e))
          have hr : decide (a[q].toNat < b[q].toNat) = blS a b 0 := by
            rw [← hbl, hst]
            have : (a[q] == b[q]) = false := by simpa using he
            rw [this, Bool.false_and, Bool.or_false]
            rw [Bool.eq_iff_iff, decide_eq_true_eq, decide_eq_true_eq, UInt8.lt_iff_toNat_lt]
          have HR := Lib.hid hr
          clear hbl hst he hr hq hq2
          go_wp2_with fail
          go_quiet (fail)
          rename_i nq
          have hbw2 : Below w.heap.size w (wr.drewN nq) := below_drewN hbw nq
          clear hbw
          go_wp2_with fail
          go_quiet (fail)
          go_wp2_with fail
          go_ret
          exact ⟨by rw [← HR.out]; rfl, below_drewN hbw2 _⟩
      · have hend := blS_end a b q hq hq2 (fun h => hlt2 h.2)
        have hqi2 : (b.size : Int) ≤ (q : Int) := by omega
        have hr : decide (a.size < b.size) = blS a b 0 := by rw [← hbl, hend]
        have HR := Lib.hid hr
        clear hbl hend hr hlt2 hlt hq hq2
        go_wp2_with fail
        go_ret
        exact ⟨by rw [← HR.out]; rfl, hbw⟩
    · have hend := blS_end a b q hq hq2 (fun h => hlt h.1)
      have hqi2 : (a.size : Int) ≤ (q : Int) := by omega
      have hr : decide (a.size < b.size) = blS a b 0 := by rw [← hbl, hend]
      have HR := Lib.hid hr
      clear hbl hend hr hlt hq hq2
      go_wp2_with fail
      go_ret
      exact ⟨by rw [← HR.out]; rfl, hbw⟩
end Go.Proofs.Ytliioeihbbhiiaa

/- The reference's IsName; dirs.one, the reference's Bytes: contracts over the given program. -/
import Derived.Test.YtliioeihbbhiiaaDoorEa
namespace Go.Proofs.YtliioeihbbhiiaaDoor
open Go.RowKit Go.Nau Go.Shelf
attribute [local go_sem] Oper.semAt_some

def RNRel (w0 : World) (s : ByteArray) (k : Nat) (i : Value) (wr : World) : Prop :=
  ∃ q : Nat, k = s.size - q ∧ i = .int .i64 q ∧ q ≤ s.size ∧ cleanL (s.data.toList.take q) = true ∧ wr = w0

theorem cleanL_snoc (l : List UInt8) (c : UInt8) : cleanL (l ++ [c]) = (cleanL l && (!(c == 0) && !(c == 47))) := by simp [cleanL]

set_option maxHeartbeats 1000000 in
set_option maxRecDepth 100000 in
theorem risname_any (s : ByteArray) (hs : s.size ≤ 9223372036854775807) (w : World) : Calls Tryd.prog 22 #[.string s] w fun e w' => e = .returned (.bool (nameB s)) ∧ w = w' := by
  have hsz : s.size = s.data.toList.length := Lib.size_eq s
  have htl : s.toList = s.data.toList := ByteArray.toList_eq s
  by_cases h0 : 1 ≤ s.size
  case neg =>
    have hn : nameB s = false := by unfold nameB; simp [h0]
    have h0i : (s.size : Int) < 1 := by omega
    rw [hn]
    clear hn hsz htl h0
    go_enter Tryd.func22, Tryd.ntmps22
    go_wp2_with fail
    go_ret
    exact ⟨rfl, rfl⟩
  have h0i : 1 ≤ (s.size : Int) := by omega
  by_cases h3 : s.size ≤ 59
  case neg =>
    have hn : nameB s = false := by unfold nameB; simp [h3]
    have h3i : 59 < (s.size : Int) := by omega
    rw [hn]
    clear hn hsz htl h0 h3
    go_enter Tryd.func22, Tryd.ntmps22
    go_wp2_with fail
    go_ret
    exact ⟨rfl, rfl⟩
  have h3i : (s.size : Int) ≤ 59 := by omega
  by_cases h1 : (s.toList == [46]) = true
  · have hn : nameB s = false := by unfold nameB; rw [← htl, h1]; simp
    rw [hn]
    clear hn hsz htl h0 h3
    go_enter Tryd.func22, Tryd.ntmps22
    go_wp2_with fail
    go_ret
    exact ⟨rfl, rfl⟩
  have h1 : (s.toList == [46]) = false := by simpa using h1
  by_cases h2 : (s.toList == [46, 46]) = true
  · have hn : nameB s = false := by unfold nameB; rw [← htl, h2]; simp
    rw [hn]
    clear hn hsz htl h0 h3
    go_enter Tryd.func22, Tryd.ntmps22
    go_wp2_with fail
    go_ret
    exact ⟨rfl, rfl⟩
  have h2 : (s.toList == [46, 46]) = false := by simpa using h2
  have hn : nameB s = cleanL s.data.toList := by
    unfold nameB
    rw [← htl, h1, h2]
    simp [h3, h0]
  rw [hn]
  have HSZ := Lib.hid hsz
  clear hn hsz htl h0 h3
  go_enter Tryd.func22, Tryd.ntmps22
  go_wp2_with fail
  go_loopg [3] s.size (RNRel w s)
  case atStart => exact ⟨0, rfl, rfl, Nat.zero_le _, rfl, rfl⟩
  case round =>
    obtain ⟨q, rfl, rfl, hq, hcl, rfl⟩ := hrel
    clear h1 h2
    by_cases hlt : q < s.size
    · have hqi : (q : Int) < (s.size : Int) := by omega
      have hsn : s.data.toList.take (q + 1) = s.data.toList.take q ++ [s[q]] := by
        rw [List.take_succ_eq_append_getElem (by rw [← HSZ.out]; exact hlt)]; rfl
      have hc1 : cleanL (s.data.toList.take (q + 1)) = (!(s[q] == 0) && !(s[q] == 47)) := by rw [hsn, cleanL_snoc, hcl, Bool.true_and]
      have hbad : cleanL (s.data.toList.take (q + 1)) = false → cleanL s.data.toList = false := fun h => by
        unfold cleanL at h ⊢
        rw [List.all_eq_false] at h ⊢
        obtain ⟨x, hx, hx2⟩ := h
        exact ⟨x, List.mem_of_mem_take hx, hx2⟩
      have HC := Lib.hid hcl
      have HB := Lib.hid hbad
      clear hcl hbad hsn
      by_cases b0 : s[q] = 0
      · have hb0 : ((s[q].toNat : Int) == 0) = true := by rw [b0]; rfl
        rw [b0] at hc1
        have hf := HB.out (by rw [hc1]; rfl)
        have HF := Lib.hid hf
        clear hc1 hf b0 HB
        go_wp2_with fail
        go_ret
        exact ⟨by rw [HF.out]; rfl, rfl⟩
      · have hb0 : ((s[q].toNat : Int) == 0) = false := by
          simp only [beq_eq_false_iff_ne, ne_eq]
          intro e
          exact b0 (UInt8.toNat_inj.1 (by simpa using e))
        by_cases b4 : s[q] = 47
        · have hb4 : ((s[q].toNat : Int) == 47) = true := by rw [b4]; rfl
          rw [b4] at hc1
          have hf := HB.out (by rw [hc1]; rfl)
          have HF := Lib.hid hf
          clear hc1 hf b0 b4 HB
          go_wp2_with fail
          go_ret
          exact ⟨by rw [HF.out]; rfl, rfl⟩
        · have hb4 : ((s[q].toNat : Int) == 47) = false := by
            simp only [beq_eq_false_iff_ne, ne_eq]
            intro e
            exact b4 (UInt8.toNat_inj.1 (by simpa using Int.ofNat_inj.1 e))
          have hc2 : cleanL (s.data.toList.take (q + 1)) = true := by rw [hc1]; simp [b0, b4]
          have HC2 := Lib.hid hc2
          clear hc1 hc2 b0 b4 HB
          go_wp2_with fail
          go_roundg (s.size - (q + 1))
          case measure => omega
          case rel => exact ⟨q + 1, rfl, by simp, by omega, HC2.out, rfl⟩
    · obtain rfl : q = s.size := by omega
      rw [HSZ.out, List.take_length] at hcl
      have HC := Lib.hid hcl
      clear hcl
      go_wp2_with fail
      go_ret
      exact ⟨by rw [HC.out]; rfl, rfl⟩
end Go.Proofs.YtliioeihbbhiiaaDoor

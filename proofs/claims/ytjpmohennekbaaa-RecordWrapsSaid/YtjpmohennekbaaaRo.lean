/- Wrap, Unwrap, Room, of the program and of the reference: contracts over the given program. -/
import Derived.Test.YtjpmohennekbaaaRn
namespace Go.Proofs.Ytjpmohennekbaaa
open Go.RowKit Go.Nau Go.Shelf
attribute [local go_sem] Oper.semAt_some

def pMark : ByteArray := ⟨#[80, 0, 0, 0]⟩
def wrapS (c : ByteArray) : ByteArray := (pMark ++ c) ++ zeroN (508 - c.size)
def wrapO (c : ByteArray) : ByteArray := if c.size ≤ 508 then wrapS c else ⟨#[]⟩
def wrapE (c : ByteArray) : Int := if c.size ≤ 508 then 0 else 70
def isWrap (b : ByteArray) : Bool := decide (b.size = 512) && decide (b.data.toList.take 4 = [80, 0, 0, 0])
def unwO (b : ByteArray) : ByteArray := if isWrap b then ⟨(b.data.toList.drop 4).toArray⟩ else ⟨#[]⟩
def unwE (b : ByteArray) : Int := if isWrap b then 0 else 70
def roomI (n : Int) : Int := if n < 0 then 0 else 15 - n % 16

theorem pMark_size : pMark.size = 4 := rfl

theorem wrap_any (c : ByteArray) (_hc : c.size ≤ maxLen) (w : World) : Calls Try.prog 42 #[.string c] w fun e w' => e = .returned (.tuple #[.string (wrapO c), .int .i64 (wrapE c)]) ∧ Below w.heap.size w w' := by
  unfold wrapO wrapE
  by_cases h : c.size ≤ 508
  · rw [if_pos h, if_pos h]
    have hi : (c.size : Int) ≤ 508 := by omega
    have hf := fit_any (pMark ++ c) 512 (by rw [ByteArray.size_append, pMark_size]; omega) (by omega)
    rw [ByteArray.size_append, pMark_size, show 512 - (4 + c.size) = 508 - c.size by omega] at hf
    have hf' : ∀ W, Calls Try.prog 68 #[.string ((⟨#[80, 0, 0, 0]⟩ : ByteArray) ++ c), .int .i64 512] W fun e w' => e = .returned (.tuple #[.string (wrapS c), .int .i64 0]) ∧ Below W.heap.size W w' := hf
    have hn : ¬ 9223372036854775807 < 4 + c.size := by omega
    have HF := Lib.hid hf'
    clear hf hf' h
    go_enter Try.func42, Try.ntmps42
    go_wp2_with fail
    refine (HF.out _).mono ?_
    rintro e w1 ⟨rfl, hb1⟩
    go_wp2_with fail
    go_ret2
    exact ⟨rfl, hb1⟩
  · rw [if_neg h, if_neg h]
    have hi : ¬ (c.size : Int) ≤ 508 := by omega
    have hi2 : (508 : Int) < c.size := by omega
    clear h
    go_enter Try.func42, Try.ntmps42
    go_wp2_with fail
    go_ret2
    exact ⟨rfl, Below.refl _ _⟩

set_option maxHeartbeats 400000 in
set_option maxRecDepth 100000 in
theorem rwrap_any (c : ByteArray) (_hc : c.size ≤ maxLen) (w : World) : Calls Try.prog 43 #[.string c] w fun e w' => e = .returned (.tuple #[.string (wrapO c), .int .i64 (wrapE c)]) ∧ Below w.heap.size w w' := by
  obtain ⟨i0, hi, hz0, hz1, hz2⟩ := info_parts infoB
  have hcz : ∀ {W W' : World} {n : Nat}, W'.ownsRow W.heap.size 5 1 (.slice (some ⟨W.heap.size, 0, none⟩) n n) n (madeCells (Value.int .u8 0).cells (n * 1)).toList → (convert 76 9 (.slice (some ⟨W.heap.size, 0, none⟩) n n)).run Try.prog W' = .ok (.string (zeroN n)) W' := fun h => conv_made h
  unfold wrapO wrapE
  by_cases h : c.size ≤ 508
  · rw [if_pos h, if_pos h]
    have hi' : (c.size : Int) ≤ 508 := by omega
    have hw : wrapS c = ((⟨#[80, 0, 0, 0]⟩ : ByteArray) ++ c) ++ zeroN (508 - c.size) := rfl
    obtain ⟨n, hn⟩ : ∃ n, n = 508 - c.size := ⟨_, rfl⟩
    rw [← hn] at hw
    have hni : (508 : Int) - (c.size : Int) = (n : Int) := by omega
    have hn5 : n ≤ 508 := by omega
    have hzs := zeroN_size n
    have hnn : ¬ 9223372036854775807 < 4 + c.size := by omega
    have hn6 : ¬ 9223372036854775807 < 4 + c.size + n := by omega
    have HW := Lib.hid hw
    clear hw hn h
    go_enter Try.func43, Try.ntmps43
    go_wp2_with (at_make; refine wpList_make_full _ rfl _ _ 76 rfl w.heap.size 5 i0 (.int .u8 0) 1 Try.underlying76 hi hz0 hz1 _ _ _ _ n rfl rfl rfl rfl (by rw [hz2]; omega) (by unfold maxLen; omega) (Nat.le_refl _) ?_; intro w2 hown2 hg2; have hb2 : Below w.heap.size w w2 := (Below.refl _ _).grown hg2 (Nat.le_refl _) (by simp); have hcv := hcz hown2; clear hown2 hg2)
    go_ret2
    exact ⟨by rw [HW.out]; rfl, hb2⟩
  · rw [if_neg h, if_neg h]
    have hi2 : (508 : Int) < c.size := by omega
    clear h
    go_enter Try.func43, Try.ntmps43
    go_wp2_with fail
    go_ret2
    exact ⟨rfl, Below.refl _ _⟩

theorem unwrap_any (b : ByteArray) (w : World) : Calls Try.prog 44 #[.string b] w fun e w' => e = .returned (.tuple #[.string (unwO b), .int .i64 (unwE b)]) ∧ w = w' := by
  have hcut := fun W => Try.strings_CutPrefix b pMark W
  have hpre : Lib.hasPrefix b.data.toList pMark.data.toList = decide (b.data.toList.take 4 = [80, 0, 0, 0]) := by
    rw [Bool.eq_iff_iff]
    simp only [Lib.hasPrefix, pMark, List.isPrefixOf_iff_prefix, decide_eq_true_eq, List.prefix_iff_eq_take, List.length_cons, List.length_nil]
    exact ⟨fun h => h.symm, fun h => h.symm⟩
  have htrim : Lib.hasPrefix b.data.toList pMark.data.toList = true → Lib.trimPrefix b.data.toList pMark.data.toList = b.data.toList.drop 4 := fun h => by
    unfold Lib.trimPrefix
    rw [if_pos h]
    rfl
  unfold unwO unwE
  cases hp : Lib.hasPrefix b.data.toList pMark.data.toList with
  | true =>
    rw [hp, htrim hp] at hcut
    rw [hp] at hpre
    by_cases h5 : b.size = 512
    · have hw : isWrap b = true := by unfold isWrap; rw [← hpre]; simp [h5]
      rw [hw]
      simp only [if_true]
      have h5' : ((b.size : Int) == 512) = true := by simp; omega
      have HC := Lib.hid hcut
      clear hcut hp hpre htrim h5 hw
      go_enter Try.func44, Try.ntmps44
      go_wp2_with fail
      refine (HC.out _).mono ?_
      rintro e w1 ⟨rfl, hw1⟩
      subst hw1
      go_wp2_with fail
      go_ret2
      exact ⟨rfl, rfl⟩
    · have hw : isWrap b = false := by unfold isWrap; simp [h5]
      rw [hw]
      simp only [Bool.false_eq_true, if_false]
      have h5' : ((b.size : Int) == 512) = false := by simp; omega
      have HC := Lib.hid hcut
      clear hcut hp hpre htrim h5 hw
      go_enter Try.func44, Try.ntmps44
      go_wp2_with fail
      refine (HC.out _).mono ?_
      rintro e w1 ⟨rfl, hw1⟩
      subst hw1
      go_wp2_with fail
      go_ret2
      exact ⟨rfl, rfl⟩
  | false =>
    rw [hp] at hcut
    rw [hp] at hpre
    have hw : isWrap b = false := by unfold isWrap; rw [← hpre]; simp
    rw [hw]
    simp only [Bool.false_eq_true, if_false]
    have HC := Lib.hid hcut
    clear hcut hp hpre htrim hw
    go_enter Try.func44, Try.ntmps44
    go_wp2_with fail
    refine (HC.out _).mono ?_
    rintro e w1 ⟨rfl, hw1⟩
    subst hw1
    go_wp2_with fail
    go_ret2
    exact ⟨rfl, rfl⟩

theorem runwrap_any (b : ByteArray) (w : World) : Calls Try.prog 45 #[.string b] w fun e w' => e = .returned (.tuple #[.string (unwO b), .int .i64 (unwE b)]) ∧ w = w' := by
  unfold unwO unwE
  by_cases h5 : b.size = 512
  · have h5' : ((b.size : Int) != 512) = false := by simp; omega
    have h54 : (4 : Int) ≤ (b.size : Int) := by omega
    have hex : (⟨(b.data.toList.drop 4).toArray⟩ : ByteArray) = b.extract 4 b.size := by
      apply ByteArray.ext
      apply Array.toList_inj.1
      rw [Lib.extract_data, List.take_of_length_le (by simp)]
    have hb4 : (b.extract 0 4).toList = b.data.toList.take 4 := by rw [Lib.extract_toList]; simp
    rw [hex]
    by_cases h4 : b.data.toList.take 4 = [80, 0, 0, 0]
    · have hw : isWrap b = true := by unfold isWrap; simp [h4, h5]
      have ht : (!(b.extract 0 4).toList == [80, 0, 0, 0]) = false := by rw [hb4, h4]; rfl
      rw [hw]
      simp only [if_true]
      clear h5 hw h4 hb4 hex
      go_enter Try.func45, Try.ntmps45
      go_wp2_with fail
      go_ret2
      exact ⟨rfl, rfl⟩
    · have hw : isWrap b = false := by unfold isWrap; simp [h4]
      have ht : (!(b.extract 0 4).toList == [80, 0, 0, 0]) = true := by rw [hb4]; simpa using h4
      rw [hw]
      simp only [Bool.false_eq_true, if_false]
      clear h5 hw h4 hb4 hex
      go_enter Try.func45, Try.ntmps45
      go_wp2_with fail
      go_ret2
      exact ⟨rfl, rfl⟩
  · have hw : isWrap b = false := by unfold isWrap; simp [h5]
    rw [hw]
    simp only [Bool.false_eq_true, if_false]
    have h5' : ((b.size : Int) != 512) = true := by simp; omega
    clear h5 hw
    go_enter Try.func45, Try.ntmps45
    go_wp2_with fail
    go_ret2
    exact ⟨rfl, rfl⟩

theorem room_any (n : Int) (w : World) : Calls Try.prog 46 #[.int .i64 n] w fun e w' => e = .returned (.int .i64 (roomI n)) ∧ w = w' := by
  unfold roomI
  by_cases h : n < 0
  · rw [if_pos h]
    go_enter Try.func46, Try.ntmps46
    go_wp2_with fail
    go_ret
    exact ⟨rfl, rfl⟩
  · rw [if_neg h]
    have h0 : 0 ≤ n := by omega
    clear h
    go_enter Try.func46, Try.ntmps46
    go_wp2_with fail
    go_ret
    refine ⟨congrArg (fun x => Ending.returned (.int .i64 x)) (by omega), rfl⟩
theorem rroom_any (n : Int) (w : World) : Calls Try.prog 47 #[.int .i64 n] w fun e w' => e = .returned (.int .i64 (roomI n)) ∧ w = w' := by
  unfold roomI
  by_cases h : n < 0
  · rw [if_pos h]
    go_enter Try.func47, Try.ntmps47
    go_wp2_with fail
    go_ret
    exact ⟨rfl, rfl⟩
  · rw [if_neg h]
    have h0 : 0 ≤ n := by omega
    clear h
    go_enter Try.func47, Try.ntmps47
    go_wp2_with fail
    go_ret
    refine ⟨congrArg (fun x => Ending.returned (.int .i64 x)) (by omega), rfl⟩
end Go.Proofs.Ytjpmohennekbaaa

/- num.Fit, num.Take, record.take; the reference's Bytes, Take, take: contracts over the given program. -/
import Derived.Test.YtliioeihbbhiiaaNa
namespace Go.Proofs.Ytliioeihbbhiiaa
open Go.RowKit Go.Nau Go.Shelf
attribute [local go_sem] Oper.semAt_some


def takeL : List UInt8 → Nat
  | [] => 0
  | b :: l => b.toNat + 256 * takeL l
theorem takeL_snoc (l : List UInt8) (b : UInt8) : takeL (l ++ [b]) = takeL l + b.toNat * 256 ^ l.length := by
  induction l with
  | nil => simp [takeL]
  | cons x l ih =>
    show x.toNat + 256 * takeL (l ++ [b]) = x.toNat + 256 * takeL l + b.toNat * 256 ^ (l.length + 1)
    rw [ih, Nat.pow_succ, Nat.mul_add, ← Nat.add_assoc]
    congr 1
    rw [Nat.mul_left_comm, Nat.mul_comm 256 (256 ^ l.length)]
theorem takeL_lt (l : List UInt8) : takeL l < 256 ^ l.length := by
  induction l with
  | nil => simp [takeL]
  | cons x l ih =>
    have h := x.toNat_lt
    show x.toNat + 256 * takeL l < 256 ^ (l.length + 1)
    rw [Nat.pow_succ]
    generalize takeL l = t at *
    generalize 256 ^ l.length = u at *
    omega
theorem pow8 (q : Nat) : 2 ^ (8 * q) = 256 ^ q := by rw [Nat.pow_mul]
theorem or_step (t b q : Nat) (ht : t < 256 ^ q) (hb : b < 256) (hq : q ≤ 7) : bits BinOp.or IntKind.u64 (t : Int) (IntKind.u64.wrap (IntKind.u64.wrap (b : Int) * 2 ^ (8 * q))) = ((t + b * 256 ^ q : Nat) : Int) := by
  have hu : 256 ^ q ≤ 72057594037927936 := Nat.le_trans (Nat.pow_le_pow_right (by omega) hq) (by decide)
  have hmul : b * 256 ^ q ≤ 255 * 256 ^ q := Nat.mul_le_mul_right _ (by omega)
  have hw1 : IntKind.u64.wrap (b : Int) = (b : Int) := by rw [IntKind.wrap_u64]; omega
  have hp : ((2 : Int) ^ (8 * q)) = ((256 ^ q : Nat) : Int) := by rw [← pow8]; simp
  rw [hw1, hp, ← Int.natCast_mul]
  have hw2 : IntKind.u64.wrap ((b * 256 ^ q : Nat) : Int) = ((b * 256 ^ q : Nat) : Int) := by rw [IntKind.wrap_u64]; omega
  rw [hw2, bits_or_u64_nat _ _ (by omega) (by omega)]
  congr 1
  rw [← pow8, Nat.or_comm, ← Nat.shiftLeft_eq, ← Nat.shiftLeft_add_eq_or_of_lt (by rw [pow8]; exact ht), Nat.add_comm]
def partS (s : ByteArray) (p k : Nat) : List UInt8 := (s.data.toList.drop p).take k
theorem partS_snoc (s : ByteArray) (p k : Nat) (h : p + k < s.size) : partS s p (k + 1) = partS s p k ++ [s[p + k]] := by
  unfold partS
  have h2 : p + k < s.data.toList.length := by simpa using h
  rw [List.take_add_one, List.getElem?_drop, List.getElem?_eq_getElem h2]
  rfl
theorem partS_length (s : ByteArray) (p k : Nat) (h : p + k ≤ s.size) : (partS s p k).length = k := by
  have h2 : s.data.toList.length = s.size := Array.length_toList
  unfold partS
  rw [List.length_take, List.length_drop]
  omega

def NTRel (w0 : World) (s : ByteArray) (p width : Nat) (k : Nat) (v i : Value) (wr : World) : Prop :=
  wr = w0 ∧ ∃ q : Nat, k = width - q ∧ i = .int .i64 q ∧ q ≤ width ∧ v = .int .u64 (takeL (partS s p q))

set_option maxHeartbeats 1000000 in
theorem ntake_ok (s : ByteArray) (p width : Nat) (h1 : 1 ≤ width) (h8 : width ≤ 8) (hp : p + width ≤ s.size) (hs : s.size ≤ 9223372036854775807) (w : World) :
    Calls Try.prog 56 #[.string s, .int .i64 p, .int .i64 width] w fun e w' => e = .returned (.tuple #[.int .u64 (takeL (partS s p width)), .int .i64 0]) ∧ w = w' := by
  have hW := isWidth_any width w ⟨h1, h8⟩
  have HW := Lib.hid hW
  have a1 : (p : Int) ≤ (s.size : Int) := by omega
  have a2 : (width : Int) ≤ (s.size : Int) - (p : Int) := by omega
  have a3 : (s.size : Int) ≤ 9223372036854775807 := by omega
  have a4 : (width : Int) ≤ 8 := by omega
  have d1 : decide ((p : Int) < 0) = false := by simp
  have d2 : decide (s.size < p) = false := by simp; omega
  have d3 : decide ((s.size : Int) - (p : Int) < (width : Int)) = false := by simp; omega
  clear hW
  go_enter Try.func56, Try.ntmps56
  go_wp2_with fail
  refine HW.out.mono ?_
  rintro e w1 ⟨rfl, rfl⟩
  go_wp2_with fail
  go_loopg [8, 32] width (NTRel w s p width)
  case atStart => exact ⟨rfl, 0, rfl, rfl, Nat.zero_le _, by simp [partS, takeL]⟩
  case round =>
    obtain ⟨rfl, q, rfl, rfl, hq, rfl⟩ := hrel
    by_cases hlt : q < width
    · have b1 : (q : Int) < (width : Int) := by omega
      have b2 : (p : Int) + (q : Int) < (s.size : Int) := by omega
      have hpq : p + q < s.size := by omega
      have hsn := partS_snoc s p q hpq
      have hsl := partS_length s p q (by omega)
      have htl := takeL_lt (partS s p q)
      rw [hsl] at htl
      have hor := or_step (takeL (partS s p q)) (s[p + q]'hpq).toNat q htl (UInt8.toNat_lt _) (by omega)
      have hnx : takeL (partS s p (q + 1)) = takeL (partS s p q) + (s[p + q]'hpq).toNat * 256 ^ q := by rw [hsn, takeL_snoc, hsl]
      have HO := Lib.hid hor
      have HN := Lib.hid hnx
      clear hsn hsl htl hor hnx
      go_wp2_with fail
      go_roundg (width - (q + 1))
      case measure => omega
      case rel => exact ⟨rfl, q + 1, rfl, by simp, by omega, by rw [HO.out, HN.out]⟩
    · obtain rfl : q = width := by omega
      go_wp2_with fail
      go_ret2
      exact ⟨rfl, rfl⟩

theorem ntake_bad (s : ByteArray) (p width : Nat) (h1 : 1 ≤ width) (h8 : width ≤ 8) (hp : s.size < p + width) (hs : s.size ≤ 9223372036854775807) (_hp2 : p ≤ 1000000) (w : World) :
    Calls Try.prog 56 #[.string s, .int .i64 p, .int .i64 width] w fun e w' => e = .returned (.tuple #[.int .u64 0, .int .i64 2]) ∧ w = w' := by
  have hW := isWidth_any width w ⟨h1, h8⟩
  have HW := Lib.hid hW
  have a3 : (s.size : Int) ≤ 9223372036854775807 := by omega
  have a4 : (width : Int) ≤ 8 := by omega
  clear hW
  by_cases h : p ≤ s.size
  · have a1 : (p : Int) ≤ (s.size : Int) := by omega
    have a2 : (s.size : Int) - (p : Int) < (width : Int) := by omega
    go_enter Try.func56, Try.ntmps56
    go_wp2_with fail
    refine HW.out.mono ?_
    rintro e w1 ⟨rfl, rfl⟩
    go_wp2_with fail
    go_ret2
    exact ⟨rfl, rfl⟩
  · have a1 : (s.size : Int) < (p : Int) := by omega
    go_enter Try.func56, Try.ntmps56
    go_wp2_with fail
    refine HW.out.mono ?_
    rintro e w1 ⟨rfl, rfl⟩
    go_wp2_with fail
    go_ret2
    exact ⟨rfl, rfl⟩

/-- The number at a place; 0 where there are too few bytes. -/
def takeN (s : ByteArray) (p width : Nat) : Nat := if p + width ≤ s.size then takeL (partS s p width) else 0

/-- num.Take's error. -/
def takeE (s : ByteArray) (p width : Nat) : Int := if p + width ≤ s.size then 0 else 2
theorem ntake_any (s : ByteArray) (p width : Nat) (h1 : 1 ≤ width) (h8 : width ≤ 8) (hs : s.size ≤ 9223372036854775807) (hp2 : p ≤ 1000000) (w : World) :
    Calls Try.prog 56 #[.string s, .int .i64 p, .int .i64 width] w fun e w' => e = .returned (.tuple #[.int .u64 (takeN s p width), .int .i64 (takeE s p width)]) ∧ w = w' := by
  unfold takeN takeE
  split
  · rename_i h
    exact ntake_ok s p width h1 h8 h hs w
  · rename_i h
    exact ntake_bad s p width h1 h8 (by omega) hs hp2 w
end Go.Proofs.Ytliioeihbbhiiaa

/- Texts of this proof, joined: Rb Rc Rd. They hold under no condition beyond what each theorem states. -/
import Derived.Test.YtjmfeoenbncibaaM07
namespace Go.Proofs.Ytjmfeoenbncibaa
open Go.RowKit Go.Nau Go.Shelf
attribute [local go_sem] Oper.semAt_some

set_option maxHeartbeats 400000 in
theorem fit_any (s : ByteArray) (n : Nat) (hs : s.size ≤ n) (hn : n ≤ 65536) (w : World) :
    Calls Try.prog 75 #[.string s, .int .i64 n] w fun e w' => e = .returned (.tuple #[.string (s ++ zeroN (n - s.size)), .int .i64 0]) ∧ Below w.heap.size w w' := by
  have hsi : (s.size : Int) ≤ n := by omega
  have hni : (n : Int) ≤ 65536 := by omega
  obtain ⟨m, hm⟩ : ∃ m, m = n - s.size := ⟨_, rfl⟩
  have hmi : (n : Int) - (s.size : Int) = (m : Int) := by omega
  have hrep : ∀ W, Calls Try.prog 41 #[.string ⟨#[0]⟩, .int .i64 m] W fun e w' => e = .returned (.string (zeroN m)) ∧ Below W.heap.size W w' := fun W => by
    rw [← repeat_zero]
    exact Try.strings_Repeat ⟨#[0]⟩ m W (by omega) (by show 1 * m ≤ _; omega)
  have hzm := zeroN_size m
  have hn6 : ¬ 9223372036854775807 < s.size + (zeroN m).size := by omega
  rw [← hm]
  have HR := Lib.hid hrep
  clear hrep hm hzm
  go_enter Try.func75, Try.ntmps75
  go_wp2_with fail
  refine (HR.out _).mono ?_
  rintro e w1 ⟨rfl, hb1⟩
  go_wp2_with fail
  go_ret2
  exact ⟨rfl, hb1⟩
theorem fit_bad (s : ByteArray) (n : Nat) (hs : n < s.size) (w : World) :
    Calls Try.prog 75 #[.string s, .int .i64 n] w fun e w' => e = .returned (.tuple #[.string ⟨#[]⟩, .int .i64 2]) ∧ w = w' := by
  have hsi : (n : Int) < (s.size : Int) := by omega
  go_enter Try.func75, Try.ntmps75
  go_wp2_with fail
  go_ret2
  exact ⟨rfl, rfl⟩

/-- The number of bytes, the lowest one first. -/
def takeL : List UInt8 → Nat
  | [] => 0
  | b :: l => b.toNat + 256 * takeL l
theorem takeL_snoc (l : List UInt8) (b : UInt8) : takeL (l ++ [b]) = takeL l + b.toNat * 256 ^ l.length := by
  induction l with
  | nil => simp [takeL]
  | cons x l ih =>
    show x.toNat + 256 * takeL (l ++ [b]) = x.toNat + 256 * takeL l + b.toNat * 256 ^ (l.length + 1)
    rw [ih, Nat.pow_succ, Nat.mul_add, ← Nat.add_assoc]
    congr 1
    rw [Nat.mul_left_comm, Nat.mul_comm 256 (256 ^ l.length)]
theorem takeL_lt (l : List UInt8) : takeL l < 256 ^ l.length := by
  induction l with
  | nil => simp [takeL]
  | cons x l ih =>
    have h := x.toNat_lt
    show x.toNat + 256 * takeL l < 256 ^ (l.length + 1)
    rw [Nat.pow_succ]
    generalize takeL l = t at *
    generalize 256 ^ l.length = u at *
    omega
theorem pow8 (q : Nat) : 2 ^ (8 * q) = 256 ^ q := by rw [Nat.pow_mul]
theorem or_step (t b q : Nat) (ht : t < 256 ^ q) (hb : b < 256) (hq : q ≤ 7) : bits BinOp.or IntKind.u64 (t : Int) (IntKind.u64.wrap (IntKind.u64.wrap (b : Int) * 2 ^ (8 * q))) = ((t + b * 256 ^ q : Nat) : Int) := by
  have hu : 256 ^ q ≤ 72057594037927936 := Nat.le_trans (Nat.pow_le_pow_right (by omega) hq) (by decide)
  have hmul : b * 256 ^ q ≤ 255 * 256 ^ q := Nat.mul_le_mul_right _ (by omega)
  have hw1 : IntKind.u64.wrap (b : Int) = (b : Int) := by rw [IntKind.wrap_u64]; omega
  have hp : ((2 : Int) ^ (8 * q)) = ((256 ^ q : Nat) : Int) := by rw [← pow8]; simp
  rw [hw1, hp, ← Int.natCast_mul]
  have hw2 : IntKind.u64.wrap ((b * 256 ^ q : Nat) : Int) = ((b * 256 ^ q : Nat) : Int) := by rw [IntKind.wrap_u64]; omega
  rw [hw2, bits_or_u64_nat _ _ (by omega) (by omega)]
  congr 1
  rw [← pow8, Nat.or_comm, ← Nat.shiftLeft_eq, ← Nat.shiftLeft_add_eq_or_of_lt (by rw [pow8]; exact ht), Nat.add_comm]
def partS (s : ByteArray) (p k : Nat) : List UInt8 := (s.data.toList.drop p).take k
theorem partS_snoc (s : ByteArray) (p k : Nat) (h : p + k < s.size) : partS s p (k + 1) = partS s p k ++ [s[p + k]] := by
  unfold partS
  have h2 : p + k < s.data.toList.length := by simpa using h
  rw [List.take_add_one, List.getElem?_drop, List.getElem?_eq_getElem h2]
  rfl
theorem partS_length (s : ByteArray) (p k : Nat) (h : p + k ≤ s.size) : (partS s p k).length = k := by
  have h2 : s.data.toList.length = s.size := Array.length_toList
  unfold partS
  rw [List.length_take, List.length_drop]
  omega

def NTRel (w0 : World) (s : ByteArray) (p width : Nat) (k : Nat) (v i : Value) (wr : World) : Prop :=
  wr = w0 ∧ ∃ q : Nat, k = width - q ∧ i = .int .i64 q ∧ q ≤ width ∧ v = .int .u64 (takeL (partS s p q))

set_option maxHeartbeats 1000000 in
theorem ntake_ok (s : ByteArray) (p width : Nat) (h1 : 1 ≤ width) (h8 : width ≤ 8) (hp : p + width ≤ s.size) (hs : s.size ≤ 9223372036854775807) (w : World) :
    Calls Try.prog 117 #[.string s, .int .i64 p, .int .i64 width] w fun e w' => e = .returned (.tuple #[.int .u64 (takeL (partS s p width)), .int .i64 0]) ∧ w = w' := by
  have hW := isWidth_any width w ⟨h1, h8⟩
  have HW := Lib.hid hW
  have a1 : (p : Int) ≤ (s.size : Int) := by omega
  have a2 : (width : Int) ≤ (s.size : Int) - (p : Int) := by omega
  have a3 : (s.size : Int) ≤ 9223372036854775807 := by omega
  have a4 : (width : Int) ≤ 8 := by omega
  have d1 : decide ((p : Int) < 0) = false := by simp
  have d2 : decide (s.size < p) = false := by simp; omega
  have d3 : decide ((s.size : Int) - (p : Int) < (width : Int)) = false := by simp; omega
  clear hW
  go_enter Try.func117, Try.ntmps117
  go_wp2_with fail
  refine HW.out.mono ?_
  rintro e w1 ⟨rfl, rfl⟩
  go_wp2_with fail
  go_loopg [8, 32] width (NTRel w s p width)
  case atStart => exact ⟨rfl, 0, rfl, rfl, Nat.zero_le _, by simp [partS, takeL]⟩
  case round =>
    obtain ⟨rfl, q, rfl, rfl, hq, rfl⟩ := hrel
    by_cases hlt : q < width
    · have b1 : (q : Int) < (width : Int) := by omega
      have b2 : (p : Int) + (q : Int) < (s.size : Int) := by omega
      have hpq : p + q < s.size := by omega
      have hsn := partS_snoc s p q hpq
      have hsl := partS_length s p q (by omega)
      have htl := takeL_lt (partS s p q)
      rw [hsl] at htl
      have hor := or_step (takeL (partS s p q)) (s[p + q]'hpq).toNat q htl (UInt8.toNat_lt _) (by omega)
      have hnx : takeL (partS s p (q + 1)) = takeL (partS s p q) + (s[p + q]'hpq).toNat * 256 ^ q := by rw [hsn, takeL_snoc, hsl]
      have HO := Lib.hid hor
      have HN := Lib.hid hnx
      clear hsn hsl htl hor hnx
      go_wp2_with fail
      go_roundg (width - (q + 1))
      case measure => omega
      case rel => exact ⟨rfl, q + 1, rfl, by simp, by omega, by rw [HO.out, HN.out]⟩
    · obtain rfl : q = width := by omega
      go_wp2_with fail
      go_ret2
      exact ⟨rfl, rfl⟩

theorem ntake_bad (s : ByteArray) (p width : Nat) (h1 : 1 ≤ width) (h8 : width ≤ 8) (hp : s.size < p + width) (hs : s.size ≤ 9223372036854775807) (_hp2 : p ≤ 1000000) (w : World) :
    Calls Try.prog 117 #[.string s, .int .i64 p, .int .i64 width] w fun e w' => e = .returned (.tuple #[.int .u64 0, .int .i64 2]) ∧ w = w' := by
  have hW := isWidth_any width w ⟨h1, h8⟩
  have HW := Lib.hid hW
  have a3 : (s.size : Int) ≤ 9223372036854775807 := by omega
  have a4 : (width : Int) ≤ 8 := by omega
  clear hW
  by_cases h : p ≤ s.size
  · have a1 : (p : Int) ≤ (s.size : Int) := by omega
    have a2 : (s.size : Int) - (p : Int) < (width : Int) := by omega
    go_enter Try.func117, Try.ntmps117
    go_wp2_with fail
    refine HW.out.mono ?_
    rintro e w1 ⟨rfl, rfl⟩
    go_wp2_with fail
    go_ret2
    exact ⟨rfl, rfl⟩
  · have a1 : (s.size : Int) < (p : Int) := by omega
    go_enter Try.func117, Try.ntmps117
    go_wp2_with fail
    refine HW.out.mono ?_
    rintro e w1 ⟨rfl, rfl⟩
    go_wp2_with fail
    go_ret2
    exact ⟨rfl, rfl⟩

/-- The number at a place; 0 where there are too few bytes. -/
def takeN (s : ByteArray) (p width : Nat) : Nat := if p + width ≤ s.size then takeL (partS s p width) else 0

theorem take_any (s : ByteArray) (p width : Nat) (h1 : 1 ≤ width) (h8 : width ≤ 8) (hs : s.size ≤ 9223372036854775807) (hp2 : p ≤ 1000000) (w : World) :
    Calls Try.prog 108 #[.string s, .int .i64 p, .int .i64 width] w fun e w' => e = .returned (.int .u64 (takeN s p width)) ∧ w = w' := by
  have hT : ∃ er, Calls Try.prog 117 #[.string s, .int .i64 p, .int .i64 width] w fun e w' => e = .returned (.tuple #[.int .u64 (takeN s p width), .int .i64 er]) ∧ w = w' := by
    unfold takeN
    split
    · rename_i h
      exact ⟨0, ntake_ok s p width h1 h8 h hs w⟩
    · rename_i h
      exact ⟨2, ntake_bad s p width h1 h8 (by omega) hs hp2 w⟩
  obtain ⟨er, hT⟩ := hT
  generalize takeN s p width = x at *
  go_enter Try.func108, Try.ntmps108
  go_wp2_with fail
  refine hT.mono ?_
  rintro e w1 ⟨rfl, rfl⟩
  go_wp2_with fail
  go_ret
  exact ⟨rfl, rfl⟩
end Go.Proofs.Ytjmfeoenbncibaa
namespace Go.Proofs.Ytjmfeoenbncibaa
open Go.RowKit Go.Nau Go.Shelf
attribute [local go_sem] Oper.semAt_some

theorem conv_bytes {w : World} {base : Nat} {v : Value} {l : List UInt8} (h : w.ownsRow base 5 1 v l.length (Lib.byteCells l)) : (convert 128 9 v).run Try.prog w = .ok (.string ⟨l.toArray⟩) w := by
  rcases h.2 with ⟨rfl, h0⟩ | ⟨g, cap, cur, rfl, _, hh, _⟩
  · rw [Lib.run_convert_nil_bytes w 128 9 5 0 Try.underlying128 Try.underlying5 Try.underlying9]
    have : l = [] := List.eq_nil_of_length_eq_zero h0
    subst this
    rfl
  · have hB : Lib.Bytes w g 0 ⟨l.toArray⟩ := by
      intro i hi
      have hil : i < l.length := by simpa [ByteArray.size] using hi
      rw [Nat.zero_add]
      have hx : (Lib.byteCells l)[i]? = some (.int .u8 ((⟨l.toArray⟩ : ByteArray)[i]'hi).toNat) := by
        have e : ((⟨l.toArray⟩ : ByteArray)[i]'hi) = l[i] := by
          show l.toArray[i]'_ = _
          simp
        rw [e]
        simp [Lib.byteCells, hil]
      exact (own_at h hx).1
    have := Lib.run_convert_whole (P := Try.prog) w 128 5 9 Try.underlying128 Try.underlying5 Try.underlying9 g 0 ⟨l.toArray⟩ hB cap
    have e : (⟨l.toArray⟩ : ByteArray).size = l.length := by simp [ByteArray.size]
    rw [e] at this
    exact this

def RBRel (w0 : World) (n width : Nat) (k : Nat) (nv v i : Value) (wr : World) : Prop :=
  ∃ q : Nat, k = width - q ∧ i = .int .i64 q ∧ q ≤ width ∧ nv = .int .u64 (hi n q) ∧ wr.ownsRow w0.heap.size 5 1 v q (Lib.byteCells (bytesL n q)) ∧ Below w0.heap.size w0 wr

theorem rd_byte (W : World) (x : Int) : Rd (fun _ => True) (W.alloc (.cells #[.int .u8 x] 5)) 1 (some ⟨W.heap.size, 0, none⟩) 1 [.int .u8 x] := by
  refine ⟨rfl, fun _ => ⟨_, rfl, trivial, fun j u hu => ?_⟩⟩
  have hj : j = 0 := by have := (List.getElem?_eq_some_iff.1 hu).1; simpa using this
  subst hj
  have hnew := heap_alloc_new W (.cells #[.int .u8 x] 5)
  have : (⟨W.heap.size, 0, none⟩ : Addr).add 0 = ⟨W.heap.size, 0, none⟩ := by unfold Addr.add; split <;> simp_all
  rw [this, cell_of_row _ W.heap.size 0 _ _ _ hnew]
  simpa using hu

set_option maxHeartbeats 1000000 in
set_option maxRecDepth 100000 in
theorem rbytes_any (n width : Nat) (_hn : n < 18446744073709551616) (h8 : width ≤ 1000) (w : World) :
    Calls Try.prog 115 #[.int .u64 n, .int .i64 width] w fun e w' => e = .returned (.string (bytesS n width)) ∧ Below w.heap.size w w' := by
  obtain ⟨i0, hi0, hz0, hz1, hz2⟩ := info_parts infoB
  have hwi : (width : Int) ≤ 1000 := by omega
  go_enter Try.func115, Try.ntmps115
  go_wp2_with fail
  go_loopg [0, 5, 6] width (RBRel w n width)
  case atStart => exact ⟨0, rfl, rfl, Nat.zero_le _, by rw [hi_zero], ⟨by simp [bytesL, Lib.byteCells], .inl ⟨rfl, rfl⟩⟩, Below.refl _ _⟩
  case round =>
    obtain ⟨q, rfl, rfl, hq, rfl, hown, hb⟩ := hrel
    have hbs := hb.size
    by_cases hlt : q < width
    · have hqi : (q : Int) < (width : Int) := by omega
      have hle := hi_le n q
      have hsu := hi_succ n q
      have hsn := bytesL_snoc n q
      have hbc : Lib.byteCells (bytesL n (q + 1)) = Lib.byteCells (bytesL n q) ++ [.int .u8 ((hi n q : Int) % 256)] := by
        rw [hsn, ← byte_cast]
        simp [Lib.byteCells]
      have hnx : ((hi n (q + 1) : Nat) : Int) = (hi n q : Int) / 256 := by rw [hsu]; rfl
      have HO := Lib.hid hown
      have HC := Lib.hid hbc
      have HX := Lib.hid hnx
      clear hown hbc hnx hsn hsu
      generalize hi n q = a at *
      go_wp2_with (at_builtin; refine wpList_append_rd _ rfl (.tmp 12) (.tmp 15) 128 rfl w.heap.size 5 i0 _ 1 1 Try.underlying128 hi0 hz0 hz1 hz2 rfl (by decide) _ q (Lib.byteCells (bytesL n q)) rfl (HO.out.alloc _) _ (some ⟨wr.heap.size, 0, none⟩) 1 1 [.int .u8 ((a : Int) % 256)] rfl (rd_byte wr _) (by simp [Value.oneCell']) (by unfold maxLen; omega) (by omega) (by simp; omega) ?_; intro v2 w2 hown2 hg2 hat2)
      rw [← HC.out] at hown2
      have hb2 := hb.trans ((((Fr.refl (fun k => _ = some k) wr).alloc _).grown hg2 (fun k hk _ => hk)).below hbs (fun k hk => (HO.out.lt k hk).1))
      have HO2 := Lib.hid hown2
      clear hown2 hg2 hat2
      go_wp2_with fail
      go_roundg (width - (q + 1))
      case measure => omega
      case rel => exact ⟨q + 1, rfl, by simp, by omega, by rw [HX.out], HO2.out, hb2⟩
    · obtain rfl : q = width := by omega
      have hcv := conv_bytes (l := bytesL n q) (by rw [bytesL_length]; exact hown)
      have HC := Lib.hid hcv
      clear hown hcv hlt hq
      go_wp2_with fail
      simp only [HC.out]
      go_wp2_with fail
      go_ret
      exact ⟨rfl, hb⟩

theorem or_step2 (t b : Nat) (ht : t < 72057594037927936) (hb : b < 256) : bits BinOp.or IntKind.u64 (IntKind.u64.wrap ((t : Int) * 256)) (IntKind.u64.wrap (b : Int)) = ((b + 256 * t : Nat) : Int) := by
  have hw1 : IntKind.u64.wrap (b : Int) = (b : Int) := by rw [IntKind.wrap_u64]; omega
  have hw2 : IntKind.u64.wrap ((t : Int) * 256) = ((t * 256 : Nat) : Int) := by rw [IntKind.wrap_u64]; omega
  rw [hw1, hw2, bits_or_u64_nat _ _ (by omega) (by omega)]
  congr 1
  rw [show t * 256 = t <<< 8 by rw [Nat.shiftLeft_eq], ← Nat.shiftLeft_add_eq_or_of_lt (by omega), Nat.shiftLeft_eq]
  omega

def RTRel (w0 : World) (s : ByteArray) (p width : Nat) (k : Nat) (v i : Value) (wr : World) : Prop :=
  wr = w0 ∧ ∃ q : Nat, q = k ∧ i = .int .i64 ((q : Int) - 1) ∧ q ≤ width ∧ v = .int .u64 (takeL (partS s (p + q) (width - q)))

theorem partS_cons (s : ByteArray) (p q width : Nat) (hq : q < width) (h : p + width ≤ s.size) : partS s (p + q) (width - q) = s[p + q] :: partS s (p + (q + 1)) (width - (q + 1)) := by
  have h2 : s.data.toList.length = s.size := Array.length_toList
  unfold partS
  rw [List.drop_eq_getElem_cons (by omega)]
  obtain ⟨m, hm⟩ : ∃ m, width - q = m + 1 := ⟨width - q - 1, by omega⟩
  rw [hm, List.take_succ_cons]
  have : width - (q + 1) = m := by omega
  rw [this]
  rfl

set_option maxHeartbeats 1000000 in
theorem rtake_ok (s : ByteArray) (p width : Nat) (h1 : 1 ≤ width) (h8 : width ≤ 8) (hp : p + width ≤ s.size) (hs : s.size ≤ 9223372036854775807) (w : World) :
    Calls Try.prog 112 #[.string s, .int .i64 p, .int .i64 width] w fun e w' => e = .returned (.tuple #[.int .u64 (takeL (partS s p width)), .int .i64 0]) ∧ w = w' := by
  have a0 : (1 : Int) ≤ width := by omega
  have a1 : (p : Int) ≤ (s.size : Int) := by omega
  have a2 : (width : Int) ≤ (s.size : Int) - (p : Int) := by omega
  have a3 : (s.size : Int) ≤ 9223372036854775807 := by omega
  have a4 : (width : Int) ≤ 8 := by omega
  have d1 : decide ((p : Int) < 0) = false := by simp
  have d2 : decide (s.size < p) = false := by simp; omega
  have d3 : decide ((s.size : Int) - (p : Int) < (width : Int)) = false := by simp; omega
  have d4 : decide ((width : Int) < 1) = false := by simp; omega
  have d5 : decide ((8 : Int) < (width : Int)) = false := by simp; omega
  go_enter Try.func112, Try.ntmps112
  go_wp2_with fail
  go_loopg [8, 9] width (RTRel w s p width)
  case atStart => exact ⟨rfl, width, rfl, rfl, Nat.le_refl _, by rw [Nat.sub_self]; simp [partS, takeL]⟩
  case round =>
    obtain ⟨rfl, q, rfl, rfl, hq, rfl⟩ := hrel
    by_cases hlt : 0 < q
    · obtain ⟨j, rfl⟩ : ∃ j, q = j + 1 := ⟨q - 1, by omega⟩
      have ej : ((j + 1 : Nat) : Int) - 1 = (j : Int) := by omega
      rw [ej]
      have b2 : (p : Int) + (j : Int) < (s.size : Int) := by omega
      have hpq : p + j < s.size := by omega
      have hcons := partS_cons s p j width (by omega) hp
      have htl := takeL_lt (partS s (p + (j + 1)) (width - (j + 1)))
      rw [partS_length s _ _ (by omega)] at htl
      have hpow : 256 ^ (width - (j + 1)) ≤ 72057594037927936 := Nat.le_trans (Nat.pow_le_pow_right (by omega) (show width - (j + 1) ≤ 7 by omega)) (by decide)
      have hor := or_step2 (takeL (partS s (p + (j + 1)) (width - (j + 1)))) (s[p + j]'hpq).toNat (by omega) (UInt8.toNat_lt _)
      have hnx : takeL (partS s (p + j) (width - j)) = (s[p + j]'hpq).toNat + 256 * takeL (partS s (p + (j + 1)) (width - (j + 1))) := by rw [hcons]; rfl
      have HO := Lib.hid hor
      have HN := Lib.hid hnx
      clear hor hnx hcons htl hpow
      go_wp2_with fail
      go_roundg j
      case measure => omega
      case rel => exact ⟨rfl, j, rfl, rfl, by omega, by rw [HO.out, HN.out]⟩
    · obtain rfl : q = 0 := by omega
      go_wp2_with fail
      go_ret2
      exact ⟨rfl, rfl⟩

theorem rtake_bad (s : ByteArray) (p width : Nat) (h1 : 1 ≤ width) (h8 : width ≤ 8) (hp : s.size < p + width) (hs : s.size ≤ 9223372036854775807) (_hp2 : p ≤ 1000000) (w : World) :
    Calls Try.prog 112 #[.string s, .int .i64 p, .int .i64 width] w fun e w' => e = .returned (.tuple #[.int .u64 0, .int .i64 2]) ∧ w = w' := by
  have a0 : (1 : Int) ≤ width := by omega
  have a3 : (s.size : Int) ≤ 9223372036854775807 := by omega
  have a4 : (width : Int) ≤ 8 := by omega
  have d4 : decide ((width : Int) < 1) = false := by simp; omega
  have d5 : decide ((8 : Int) < (width : Int)) = false := by simp; omega
  by_cases h : p ≤ s.size
  · have a1 : (p : Int) ≤ (s.size : Int) := by omega
    have a2 : (s.size : Int) - (p : Int) < (width : Int) := by omega
    go_enter Try.func112, Try.ntmps112
    go_wp2_with fail
    go_ret2
    exact ⟨rfl, rfl⟩
  · have a1 : (s.size : Int) < (p : Int) := by omega
    go_enter Try.func112, Try.ntmps112
    go_wp2_with fail
    go_ret2
    exact ⟨rfl, rfl⟩

theorem rtaken_any (s : ByteArray) (p width : Nat) (h1 : 1 ≤ width) (h8 : width ≤ 8) (hs : s.size ≤ 9223372036854775807) (hp2 : p ≤ 1000000) (w : World) :
    Calls Try.prog 100 #[.string s, .int .i64 p, .int .i64 width] w fun e w' => e = .returned (.int .u64 (takeN s p width)) ∧ w = w' := by
  have hT : ∃ er, Calls Try.prog 112 #[.string s, .int .i64 p, .int .i64 width] w fun e w' => e = .returned (.tuple #[.int .u64 (takeN s p width), .int .i64 er]) ∧ w = w' := by
    unfold takeN
    split
    · rename_i h
      exact ⟨0, rtake_ok s p width h1 h8 h hs w⟩
    · rename_i h
      exact ⟨2, rtake_bad s p width h1 h8 (by omega) hs hp2 w⟩
  obtain ⟨er, hT⟩ := hT
  generalize takeN s p width = x at *
  go_enter Try.func100, Try.ntmps100
  go_wp2_with fail
  refine hT.mono ?_
  rintro e w1 ⟨rfl, rfl⟩
  go_wp2_with fail
  go_ret
  exact ⟨rfl, rfl⟩
end Go.Proofs.Ytjmfeoenbncibaa
namespace Go.Proofs.Ytjmfeoenbncibaa
open Go.RowKit Go.Nau Go.Shelf
attribute [local go_sem] Oper.semAt_some

structure Ent where
  kind : Int
  file : Nat
  idx : Nat
  vbn : Nat
structure Rec where
  seq : Nat
  cp : Nat
  ends : Bool
  sync : Bool
  next : Int
  l : List Ent

def entL (x : Ent) : List Value := [.int .i64 x.kind, .int .u32 x.file, .int .u32 x.idx, .int .u32 x.vbn]
def entC (l : List Ent) : List Value := l.flatMap entL
def entV (x : Ent) : Value := .agg #[.int .i64 x.kind, .int .u32 x.file, .int .u32 x.idx, .int .u32 x.vbn]
def recV (r : Rec) (A : Option Addr) (c : Nat) : Value := .agg #[.int .u64 r.seq, .int .u64 r.cp, .bool r.ends, .bool r.sync, .int .i64 r.next, .slice A r.l.length c]

structure Ent.wf (x : Ent) : Prop where
  kind : -9223372036854775808 ≤ x.kind ∧ x.kind ≤ 9223372036854775807
  file : x.file < 4294967296
  idx : x.idx < 4294967296
  vbn : x.vbn < 4294967296
structure Rec.wf (r : Rec) : Prop where
  seq : r.seq < 18446744073709551616
  cp : r.cp < 18446744073709551616
  next : -9223372036854775808 ≤ r.next ∧ r.next ≤ 9223372036854775807
  len : r.l.length ≤ maxLen
  l : ∀ x ∈ r.l, x.wf

theorem entC_length (l : List Ent) : (entC l).length = l.length * 4 := by
  unfold entC
  induction l with
  | nil => rfl
  | cons x l ih => simp only [List.flatMap_cons, List.length_append, ih, List.length_cons, entL, List.length_nil]; omega
theorem entC_snoc (l : List Ent) (x : Ent) : entC (l ++ [x]) = entC l ++ entL x := by simp [entC]
theorem entC_get : ∀ (l : List Ent) (i j : Nat) (x : Ent), l[i]? = some x → j < 4 → (entC l)[i * 4 + j]? = (entL x)[j]?
  | [], i, j, x, h, _ => by simp at h
  | y :: l, 0, j, x, h, hj => by
    simp at h
    subst h
    rw [show 0 * 4 + j = j by omega]
    show (entL y ++ entC l)[j]? = _
    rw [List.getElem?_append_left (by simp [entL]; exact hj)]
  | y :: l, i + 1, j, x, h, hj => by
    simp only [List.getElem?_cons_succ] at h
    show (entL y ++ entC l)[(i + 1) * 4 + j]? = _
    rw [List.getElem?_append_right (by simp [entL]; omega)]
    have : (i + 1) * 4 + j - (entL y).length = i * 4 + j := by simp [entL]; omega
    rw [this]
    exact entC_get l i j x h hj
theorem ent_cells {T : Nat → Prop} {w : World} {A : Option Addr} {n : Nat} {l : List Ent} (hr : Rd T w 4 A n (entC l)) (q : Nat) (x : Ent) (hx : l[q]? = some x) (hq : q < n) :
    ∃ ad, A = some ad ∧ w.cell? (ad.add (q * 4)) = some (.int .i64 x.kind) ∧ w.cell? ⟨(ad.add (q * 4)).block, (ad.add (q * 4)).off + 1, none⟩ = some (.int .u32 x.file) ∧ w.cell? ⟨(ad.add (q * 4)).block, (ad.add (q * 4)).off + 2, none⟩ = some (.int .u32 x.idx) ∧
      w.cell? ⟨(ad.add (q * 4)).block, (ad.add (q * 4)).off + 3, none⟩ = some (.int .u32 x.vbn) := by
  obtain ⟨ad, rfl, _, hc⟩ := hr.2 (by omega)
  have h : ∀ j, j < 4 → w.cell? ((ad.add (q * 4)).add j) = (entL x)[j]? := by
    intro j hj
    have hg := entC_get l q j x hx hj
    have hj' : j < (entL x).length := by simpa [entL] using hj
    rw [List.getElem?_eq_getElem hj'] at hg ⊢
    rw [Go.Nau.add_add]
    exact hc _ _ hg
  exact ⟨ad, rfl, h 0 (by omega), h 1 (by omega), h 2 (by omega), h 3 (by omega)⟩

def numB (n : Nat) : Bool := decide (0 < n) && decide (n < 281474976710656)
def entB (x : Ent) : Bool := if x.kind = 1 ∨ x.kind = 2 then decide (0 < x.file) && decide (0 < x.vbn) else if x.kind = 3 ∨ x.kind = 4 ∨ x.kind = 5 then decide (x.file = 0) && decide (x.vbn = 0) else false

set_option maxHeartbeats 400000 in
theorem isNumber_any (n : Nat) (w : World) : Calls Try.prog 95 #[.int .u64 n] w fun e w' => e = .returned (.bool (numB n)) ∧ w = w' := by
  by_cases h : 0 < n
  · have hi : (0 : Int) < n := by omega
    have hs : numB n = decide ((n : Int) < 281474976710656) := by
      unfold numB
      simp [h]
      omega
    have HS := Lib.hid hs
    clear hs
    go_enter Try.func95, Try.ntmps95
    go_wp2
    go_ret
    exact ⟨by rw [HS.out]; rfl, rfl⟩
  · have hi : ¬ (0 : Int) < n := by omega
    have hs : numB n = false := by unfold numB; simp [h]
    have HS := Lib.hid hs
    clear hs
    go_enter Try.func95, Try.ntmps95
    go_wp2
    go_ret
    exact ⟨by rw [HS.out]; rfl, rfl⟩
theorem rnumber_any (n : Nat) (w : World) : Calls Try.prog 113 #[.int .u64 n] w fun e w' => e = .returned (.bool (numB n)) ∧ w = w' := by
  by_cases h : 0 < n
  · have hi : (1 : Int) ≤ n := by omega
    have hs : numB n = decide ((n : Int) < 281474976710656) := by
      unfold numB
      simp [h]
      omega
    have HS := Lib.hid hs
    clear hs
    go_enter Try.func113, Try.ntmps113
    go_wp2
    go_ret
    exact ⟨by rw [HS.out]; rfl, rfl⟩
  · have hi : ¬ (1 : Int) ≤ n := by omega
    have hs : numB n = false := by unfold numB; simp [h]
    have HS := Lib.hid hs
    clear hs
    go_enter Try.func113, Try.ntmps113
    go_wp2
    go_ret
    exact ⟨by rw [HS.out]; rfl, rfl⟩

set_option maxHeartbeats 1000000 in
theorem isEntry_any (x : Ent) (w : World) : Calls Try.prog 96 #[entV x] w fun e w' => e = .returned (.bool (entB x)) ∧ Below w.heap.size w w' := by
  obtain ⟨k, f, i, v⟩ := x
  unfold entV entB
  dsimp only
  have hb : ∀ o, Below w.heap.size w (w.alloc o) := fun o => (Below.refl _ w).alloc (Nat.le_refl _) o
  by_cases h12 : k = 1 ∨ k = 2
  · rw [if_pos h12]
    by_cases hf : 0 < f
    · have hfi : (0 : Int) < f := by omega
      have hf1 : (1 : Int) ≤ f := by omega
      have hv : (decide (0 < f) && decide (0 < v)) = decide (0 < v) := by simp [hf]
      have hv2 : decide ((1 : Int) ≤ (v : Int)) = decide (0 < v) := by simp; omega
      rw [hv]
      rcases h12 with rfl | rfl
      all_goals
        go_enter Try.func96, Try.ntmps96
        go_wp2
        try go_step3
        go_wp2
        go_ret
        exact ⟨rfl, hb _⟩
    · have hfi : ¬ (0 : Int) < f := by omega
      have hf1 : ¬ (1 : Int) ≤ f := by omega
      have hv : (decide (0 < f) && decide (0 < v)) = false := by simp [hf]
      rw [hv]
      rcases h12 with rfl | rfl
      all_goals
        go_enter Try.func96, Try.ntmps96
        go_wp2
        try go_step3
        go_wp2
        go_ret
        exact ⟨rfl, hb _⟩
  · rw [if_neg h12]
    have n1 : ¬ k = 1 := fun e => h12 (.inl e)
    have n2 : ¬ k = 2 := fun e => h12 (.inr e)
    clear h12
    by_cases h345 : k = 3 ∨ k = 4 ∨ k = 5
    · rw [if_pos h345]
      rcases h345 with rfl | rfl | rfl
      all_goals
        go_enter Try.func96, Try.ntmps96
        go_wp2
        try go_step3
        go_wp2
        all_goals
          go_ret
          refine ⟨?_, hb _⟩
          simp [*]
    · rw [if_neg h345]
      have n3 : ¬ k = 3 := fun e => h345 (.inl e)
      have n4 : ¬ k = 4 := fun e => h345 (.inr (.inl e))
      have n5 : ¬ k = 5 := fun e => h345 (.inr (.inr e))
      clear h345
      go_enter Try.func96, Try.ntmps96
      go_wp2
      try go_step3
      go_wp2
      go_ret
      exact ⟨rfl, hb _⟩
set_option maxHeartbeats 1000000 in
theorem rentry_any (x : Ent) (w : World) : Calls Try.prog 114 #[entV x] w fun e w' => e = .returned (.bool (entB x)) ∧ Below w.heap.size w w' := by
  obtain ⟨k, f, i, v⟩ := x
  unfold entV entB
  dsimp only
  have hb : ∀ o, Below w.heap.size w (w.alloc o) := fun o => (Below.refl _ w).alloc (Nat.le_refl _) o
  by_cases h12 : k = 1 ∨ k = 2
  · rw [if_pos h12]
    by_cases hf : 0 < f
    · have hfi : (0 : Int) < f := by omega
      have hf1 : (1 : Int) ≤ f := by omega
      have hv : (decide (0 < f) && decide (0 < v)) = decide (0 < v) := by simp [hf]
      have hv2 : decide ((1 : Int) ≤ (v : Int)) = decide (0 < v) := by simp; omega
      rw [hv]
      rcases h12 with rfl | rfl
      all_goals
        go_enter Try.func114, Try.ntmps114
        go_wp2
        try go_step3
        go_wp2
        go_ret
        exact ⟨rfl, hb _⟩
    · have hfi : ¬ (0 : Int) < f := by omega
      have hf1 : ¬ (1 : Int) ≤ f := by omega
      have hv : (decide (0 < f) && decide (0 < v)) = false := by simp [hf]
      rw [hv]
      rcases h12 with rfl | rfl
      all_goals
        go_enter Try.func114, Try.ntmps114
        go_wp2
        try go_step3
        go_wp2
        go_ret
        exact ⟨rfl, hb _⟩
  · rw [if_neg h12]
    have n1 : ¬ k = 1 := fun e => h12 (.inl e)
    have n2 : ¬ k = 2 := fun e => h12 (.inr e)
    have c1 : (k == 1) = false := by simpa using n1
    have c2 : (k == 2) = false := by simpa using n2
    clear h12
    by_cases h345 : k = 3 ∨ k = 4 ∨ k = 5
    · rw [if_pos h345]
      have g3 : (3 : Int) ≤ k := by omega
      have g5 : k ≤ 5 := by omega
      by_cases hf : f = 0
      case' pos => have hfe : ((f : Int) == 0) = true := by simp [hf]
      case' neg => have hfe : ((f : Int) == 0) = false := by simp [hf]
      all_goals
        go_enter Try.func114, Try.ntmps114
        go_wp2
        try go_step3
        go_wp2
        all_goals
          go_ret
          refine ⟨?_, hb _⟩
          simp [*]
          try (rw [Bool.eq_iff_iff]; simp)
    · rw [if_neg h345]
      have n3 : ¬ k = 3 := fun e => h345 (.inl e)
      have n4 : ¬ k = 4 := fun e => h345 (.inr (.inl e))
      have n5 : ¬ k = 5 := fun e => h345 (.inr (.inr e))
      have g35 : ¬ (3 ≤ k ∧ k ≤ 5) := by omega
      clear h345
      by_cases g3 : 3 ≤ k
      case' pos => have g5 : ¬ k ≤ 5 := fun h => g35 ⟨g3, h⟩
      all_goals clear g35
      all_goals
        go_enter Try.func114, Try.ntmps114
        go_wp2
        try go_step3
        go_wp2
        go_ret
        exact ⟨rfl, hb _⟩

end Go.Proofs.Ytjmfeoenbncibaa

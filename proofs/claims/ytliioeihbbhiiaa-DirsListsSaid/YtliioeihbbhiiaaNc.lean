/- The reference's Bytes, Take, take; number: contracts over the given program. -/
import Derived.Test.YtliioeihbbhiiaaNb
namespace Go.Proofs.Ytliioeihbbhiiaa
open Go.RowKit Go.Nau Go.Shelf
attribute [local go_sem] Oper.semAt_some

theorem conv_bytes {w : World} {base : Nat} {v : Value} {l : List UInt8} (h : w.ownsRow base 5 1 v l.length (Lib.byteCells l)) : (convert 80 9 v).run Try.prog w = .ok (.string ⟨l.toArray⟩) w := by
  rcases h.2 with ⟨rfl, h0⟩ | ⟨g, cap, cur, rfl, _, hh, _⟩
  · rw [Lib.run_convert_nil_bytes w 80 9 5 0 Try.underlying80 Try.underlying5 Try.underlying9]
    have : l = [] := List.eq_nil_of_length_eq_zero h0
    subst this
    rfl
  · have hB : Lib.Bytes w g 0 ⟨l.toArray⟩ := by
      intro i hi
      have hil : i < l.length := by simpa [ByteArray.size] using hi
      rw [Nat.zero_add]
      have hx : (Lib.byteCells l)[i]? = some (.int .u8 ((⟨l.toArray⟩ : ByteArray)[i]'hi).toNat) := by
        have e : ((⟨l.toArray⟩ : ByteArray)[i]'hi) = l[i] := by
          show l.toArray[i]'_ = _
          simp
        rw [e]
        simp [Lib.byteCells, hil]
      exact (own_at h hx).1
    have := Lib.run_convert_whole (P := Try.prog) w 80 5 9 Try.underlying80 Try.underlying5 Try.underlying9 g 0 ⟨l.toArray⟩ hB cap
    have e : (⟨l.toArray⟩ : ByteArray).size = l.length := by simp [ByteArray.size]
    rw [e] at this
    exact this

def RBRel (w0 : World) (n width : Nat) (k : Nat) (nv v i : Value) (wr : World) : Prop :=
  ∃ q : Nat, k = width - q ∧ i = .int .i64 q ∧ q ≤ width ∧ nv = .int .u64 (hi n q) ∧ wr.ownsRow w0.heap.size 5 1 v q (Lib.byteCells (bytesL n q)) ∧ Below w0.heap.size w0 wr

theorem rd_byte (W : World) (x : Int) : Rd (fun _ => True) (W.alloc (.cells #[.int .u8 x] 5)) 1 (some ⟨W.heap.size, 0, none⟩) 1 [.int .u8 x] := by
  refine ⟨rfl, fun _ => ⟨_, rfl, trivial, fun j u hu => ?_⟩⟩
  have hj : j = 0 := by have := (List.getElem?_eq_some_iff.1 hu).1; simpa using this
  subst hj
  have hnew := heap_alloc_new W (.cells #[.int .u8 x] 5)
  have : (⟨W.heap.size, 0, none⟩ : Addr).add 0 = ⟨W.heap.size, 0, none⟩ := by unfold Addr.add; split <;> simp_all
  rw [this, cell_of_row _ W.heap.size 0 _ _ _ hnew]
  simpa using hu

set_option maxHeartbeats 1000000 in
set_option maxRecDepth 100000 in
theorem rbytes_any (n width : Nat) (_hn : n < 18446744073709551616) (h8 : width ≤ 1000) (w : World) :
    Calls Try.prog 42 #[.int .u64 n, .int .i64 width] w fun e w' => e = .returned (.string (bytesS n width)) ∧ Below w.heap.size w w' := by
  obtain ⟨i0, hi0, hz0, hz1, hz2⟩ := info_parts infoB
  have hwi : (width : Int) ≤ 1000 := by omega
  go_enter Try.func42, Try.ntmps42
  go_wp2_with fail
  go_loopg [0, 5, 6] width (RBRel w n width)
  case atStart => exact ⟨0, rfl, rfl, Nat.zero_le _, by rw [hi_zero], ⟨by simp [bytesL, Lib.byteCells], .inl ⟨rfl, rfl⟩⟩, Below.refl _ _⟩
  case round =>
    obtain ⟨q, rfl, rfl, hq, rfl, hown, hb⟩ := hrel
    have hbs := hb.size
    by_cases hlt : q < width
    · have hqi : (q : Int) < (width : Int) := by omega
      have hle := hi_le n q
      have hsu := hi_succ n q
      have hsn := bytesL_snoc n q
      have hbc : Lib.byteCells (bytesL n (q + 1)) = Lib.byteCells (bytesL n q) ++ [.int .u8 ((hi n q : Int) % 256)] := by
        rw [hsn, ← byte_cast]
        simp [Lib.byteCells]
      have hnx : ((hi n (q + 1) : Nat) : Int) = (hi n q : Int) / 256 := by rw [hsu]; rfl
      have HO := Lib.hid hown
      have HC := Lib.hid hbc
      have HX := Lib.hid hnx
      clear hown hbc hnx hsn hsu
      generalize hi n q = a at *
      go_wp2_with (at_builtin; refine wpList_append_rd _ rfl (.tmp 12) (.tmp 15) 80 rfl w.heap.size 5 i0 _ 1 1 Try.underlying80 hi0 hz0 hz1 hz2 rfl (by decide) _ q (Lib.byteCells (bytesL n q)) rfl (HO.out.alloc _) _ (some ⟨wr.heap.size, 0, none⟩) 1 1 [.int .u8 ((a : Int) % 256)] rfl (rd_byte wr _) (by simp [Value.oneCell']) (by unfold maxLen; omega) (by omega) (by simp; omega) ?_; intro v2 w2 hown2 hg2 hat2)
      rw [← HC.out] at hown2
      have hb2 := hb.trans ((((Fr.refl (fun k => _ = some k) wr).alloc _).grown hg2 (fun k hk _ => hk)).below hbs (fun k hk => (HO.out.lt k hk).1))
      have HO2 := Lib.hid hown2
      clear hown2 hg2 hat2
      go_wp2_with fail
      go_roundg (width - (q + 1))
      case measure => omega
      case rel => exact ⟨q + 1, rfl, by simp, by omega, by rw [HX.out], HO2.out, hb2⟩
    · obtain rfl : q = width := by omega
      have hcv := conv_bytes (l := bytesL n q) (by rw [bytesL_length]; exact hown)
      have HC := Lib.hid hcv
      clear hown hcv hlt hq
      go_wp2_with fail
      simp only [HC.out]
      go_wp2_with fail
      go_ret
      exact ⟨rfl, hb⟩

theorem or_step2 (t b : Nat) (ht : t < 72057594037927936) (hb : b < 256) : bits BinOp.or IntKind.u64 (IntKind.u64.wrap ((t : Int) * 256)) (IntKind.u64.wrap (b : Int)) = ((b + 256 * t : Nat) : Int) := by
  have hw1 : IntKind.u64.wrap (b : Int) = (b : Int) := by rw [IntKind.wrap_u64]; omega
  have hw2 : IntKind.u64.wrap ((t : Int) * 256) = ((t * 256 : Nat) : Int) := by rw [IntKind.wrap_u64]; omega
  rw [hw1, hw2, bits_or_u64_nat _ _ (by omega) (by omega)]
  congr 1
  rw [show t * 256 = t <<< 8 by rw [Nat.shiftLeft_eq], ← Nat.shiftLeft_add_eq_or_of_lt (by omega), Nat.shiftLeft_eq]
  omega

def RTRel (w0 : World) (s : ByteArray) (p width : Nat) (k : Nat) (v i : Value) (wr : World) : Prop :=
  wr = w0 ∧ ∃ q : Nat, q = k ∧ i = .int .i64 ((q : Int) - 1) ∧ q ≤ width ∧ v = .int .u64 (takeL (partS s (p + q) (width - q)))

theorem partS_cons (s : ByteArray) (p q width : Nat) (hq : q < width) (h : p + width ≤ s.size) : partS s (p + q) (width - q) = s[p + q] :: partS s (p + (q + 1)) (width - (q + 1)) := by
  have h2 : s.data.toList.length = s.size := Array.length_toList
  unfold partS
  rw [List.drop_eq_getElem_cons (by omega)]
  obtain ⟨m, hm⟩ : ∃ m, width - q = m + 1 := ⟨width - q - 1, by omega⟩
  rw [hm, List.take_succ_cons]
  have : width - (q + 1) = m := by omega
  rw [this]
  rfl

set_option maxHeartbeats 1000000 in
theorem rtake_ok (s : ByteArray) (p width : Nat) (h1 : 1 ≤ width) (h8 : width ≤ 8) (hp : p + width ≤ s.size) (hs : s.size ≤ 9223372036854775807) (w : World) :
    Calls Try.prog 47 #[.string s, .int .i64 p, .int .i64 width] w fun e w' => e = .returned (.tuple #[.int .u64 (takeL (partS s p width)), .int .i64 0]) ∧ w = w' := by
  have a0 : (1 : Int) ≤ width := by omega
  have a1 : (p : Int) ≤ (s.size : Int) := by omega
  have a2 : (width : Int) ≤ (s.size : Int) - (p : Int) := by omega
  have a3 : (s.size : Int) ≤ 9223372036854775807 := by omega
  have a4 : (width : Int) ≤ 8 := by omega
  have d1 : decide ((p : Int) < 0) = false := by simp
  have d2 : decide (s.size < p) = false := by simp; omega
  have d3 : decide ((s.size : Int) - (p : Int) < (width : Int)) = false := by simp; omega
  have d4 : decide ((width : Int) < 1) = false := by simp; omega
  have d5 : decide ((8 : Int) < (width : Int)) = false := by simp; omega
  go_enter Try.func47, Try.ntmps47
  go_wp2_with fail
  go_loopg [8, 9] width (RTRel w s p width)
  case atStart => exact ⟨rfl, width, rfl, rfl, Nat.le_refl _, by rw [Nat.sub_self]; simp [partS, takeL]⟩
  case round =>
    obtain ⟨rfl, q, rfl, rfl, hq, rfl⟩ := hrel
    by_cases hlt : 0 < q
    · obtain ⟨j, rfl⟩ : ∃ j, q = j + 1 := ⟨q - 1, by omega⟩
      have ej : ((j + 1 : Nat) : Int) - 1 = (j : Int) := by omega
      rw [ej]
      have b2 : (p : Int) + (j : Int) < (s.size : Int) := by omega
      have hpq : p + j < s.size := by omega
      have hcons := partS_cons s p j width (by omega) hp
      have htl := takeL_lt (partS s (p + (j + 1)) (width - (j + 1)))
      rw [partS_length s _ _ (by omega)] at htl
      have hpow : 256 ^ (width - (j + 1)) ≤ 72057594037927936 := Nat.le_trans (Nat.pow_le_pow_right (by omega) (show width - (j + 1) ≤ 7 by omega)) (by decide)
      have hor := or_step2 (takeL (partS s (p + (j + 1)) (width - (j + 1)))) (s[p + j]'hpq).toNat (by omega) (UInt8.toNat_lt _)
      have hnx : takeL (partS s (p + j) (width - j)) = (s[p + j]'hpq).toNat + 256 * takeL (partS s (p + (j + 1)) (width - (j + 1))) := by rw [hcons]; rfl
      have HO := Lib.hid hor
      have HN := Lib.hid hnx
      clear hor hnx hcons htl hpow
      go_wp2_with fail
      go_roundg j
      case measure => omega
      case rel => exact ⟨rfl, j, rfl, rfl, by omega, by rw [HO.out, HN.out]⟩
    · obtain rfl : q = 0 := by omega
      go_wp2_with fail
      go_ret2
      exact ⟨rfl, rfl⟩

theorem rtake_bad (s : ByteArray) (p width : Nat) (h1 : 1 ≤ width) (h8 : width ≤ 8) (hp : s.size < p + width) (hs : s.size ≤ 9223372036854775807) (_hp2 : p ≤ 1000000) (w : World) :
    Calls Try.prog 47 #[.string s, .int .i64 p, .int .i64 width] w fun e w' => e = .returned (.tuple #[.int .u64 0, .int .i64 2]) ∧ w = w' := by
  have a0 : (1 : Int) ≤ width := by omega
  have a3 : (s.size : Int) ≤ 9223372036854775807 := by omega
  have a4 : (width : Int) ≤ 8 := by omega
  have d4 : decide ((width : Int) < 1) = false := by simp; omega
  have d5 : decide ((8 : Int) < (width : Int)) = false := by simp; omega
  by_cases h : p ≤ s.size
  · have a1 : (p : Int) ≤ (s.size : Int) := by omega
    have a2 : (s.size : Int) - (p : Int) < (width : Int) := by omega
    go_enter Try.func47, Try.ntmps47
    go_wp2_with fail
    go_ret2
    exact ⟨rfl, rfl⟩
  · have a1 : (s.size : Int) < (p : Int) := by omega
    go_enter Try.func47, Try.ntmps47
    go_wp2_with fail
    go_ret2
    exact ⟨rfl, rfl⟩

theorem rtake_any (s : ByteArray) (p width : Nat) (h1 : 1 ≤ width) (h8 : width ≤ 8) (hs : s.size ≤ 9223372036854775807) (hp2 : p ≤ 1000000) (w : World) :
    Calls Try.prog 47 #[.string s, .int .i64 p, .int .i64 width] w fun e w' => e = .returned (.tuple #[.int .u64 (takeN s p width), .int .i64 (takeE s p width)]) ∧ w = w' := by
  unfold takeN takeE
  split
  · rename_i h
    exact rtake_ok s p width h1 h8 h hs w
  · rename_i h
    exact rtake_bad s p width h1 h8 (by omega) hs hp2 w
end Go.Proofs.Ytliioeihbbhiiaa

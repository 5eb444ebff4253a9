/- Texts of this proof, joined: Dh Ra. They hold under no condition beyond what each theorem states. -/
import Derived.Test.YtjmfeoenbncibaaM06
import Derived.Lib.QuietBelow
import Derived.Test.YtjmfeoenbncibaaM01
import Derived.Test.YtjmfeoenbncibaaM02
import Derived.Shelf.Strings.BuilderK
namespace Go.Proofs.Ytjmfeoenbncibaa
open Go.RowKit Go.Nau Go.Shelf
attribute [local go_sem] Oper.semAt_some

def zeroN (n : Nat) : ByteArray := ⟨(List.replicate n 0).toArray⟩
theorem repeat_zero (n : Nat) : (⟨(Lib.repeatL [0] n).toArray⟩ : ByteArray) = zeroN n := by
  have : ∀ n, Lib.repeatL [0] n = List.replicate n (0 : UInt8) := by
    intro n
    induction n with
    | zero => rfl
    | succ n ih => rw [Lib.repeatL, ih]; rfl
  unfold zeroN
  rw [← this]
theorem zero_eq : zero = zeroN 512 := repeat_zero 512
theorem zeroN_size (n : Nat) : (zeroN n).size = n := by simp [zeroN, ByteArray.size]
theorem zero_size : zero.size = 512 := by rw [zero_eq, zeroN_size]
theorem conv_zeroN (W : World) (b n : Nat) (h : W.heap[b]? = some (.cells (madeCells #[.int .u8 0] n) 5 (0, 0))) (c : Nat) : (convert 128 9 (.slice (some ⟨b, 0, none⟩) n c)).run Try.prog W = .ok (.string (zeroN n)) W := by
  have hB : Lib.Bytes W b 0 (zeroN n) := by
    intro i hi
    rw [zeroN_size] at hi
    rw [Nat.zero_add, cell_of_row W b i _ _ _ h]
    have e : ((zeroN n)[i]'(by rw [zeroN_size]; exact hi)) = 0 := by
      show (List.replicate n (0 : UInt8)).toArray[i]'_ = _
      simp
    rw [e]
    have : (madeCells #[Value.int .u8 0] n) = (List.replicate n (Value.int .u8 0)).toArray := by
      rw [← toList_madeCells_one]
    rw [this]
    simp [hi]
  have := Lib.run_convert_whole (P := Try.prog) W 128 5 9 Try.underlying128 Try.underlying5 Try.underlying9 b 0 (zeroN n) hB c
  rw [zeroN_size] at this
  exact this
theorem conv_zero (W : World) (b : Nat) (h : W.heap[b]? = some (.cells (madeCells #[.int .u8 0] 512) 5 (0, 0))) (c : Nat) : (convert 128 9 (.slice (some ⟨b, 0, none⟩) 512 c)).run Try.prog W = .ok (.string zero) W := by
  rw [zero_eq]
  exact conv_zeroN W b 512 h c

theorem conv_made {W W' : World} {n : Nat} (h : W'.ownsRow W.heap.size 5 1 (.slice (some ⟨W.heap.size, 0, none⟩) n n) n (madeCells (Value.int .u8 0).cells (n * 1)).toList) :
    (convert 128 9 (.slice (some ⟨W.heap.size, 0, none⟩) n n)).run Try.prog W' = .ok (.string (zeroN n)) W' := by
  rcases h.2 with ⟨h0, _⟩ | ⟨g, cap, cur, hv, _, hh, _, _, hsz, ht⟩
  · cases h0
  · simp only [Value.slice.injEq, Option.some.injEq, Addr.mk.injEq, and_true, true_and] at hv
    obtain ⟨rfl, rfl⟩ := hv
    refine conv_zeroN W' _ n ?_ _
    rw [hh]
    congr 2
    rw [List.take_of_length_le (by simp; omega)] at ht
    have : cur = cur.toList.toArray := by simp
    rw [this, ht, Nat.mul_one]
    rfl
theorem conv_512 {W W' : World} (h : W'.ownsRow W.heap.size 5 1 (.slice (some ⟨W.heap.size, 0, none⟩) 512 512) 512 (madeCells (Value.int .u8 0).cells (512 * 1)).toList) :
    (convert 128 9 (.slice (some ⟨W.heap.size, 0, none⟩) 512 512)).run Try.prog W' = .ok (.string zero) W' := by
  rw [zero_eq]
  exact conv_made h

theorem full_cut (c n m : Nat) (h : m ≤ n) : (fullS c n).extract 0 m = fullS c m := by
  apply ByteArray.ext
  rw [ByteArray.data_extract]
  show (fullL c n).toArray.extract 0 m = (fullL c m).toArray
  rw [List.extract_toArray]
  congr 1
  unfold fullL
  rw [List.extract_eq_take_drop, List.drop_zero, ← List.map_take, List.take_range, Nat.sub_zero, Nat.min_eq_left h]
theorem full_split : (fullS 7 512).extract 0 256 = fullS 7 256 := full_cut 7 512 256 (by decide)

def Z128 : List ByteArray := List.replicate 128 zero
def shown0 : DS := ⟨Z128, Z128, [], 0, -1, false⟩
def shownS (F : ByteArray) : DS := wrote shown0 3 F
theorem shown_ok (F : ByteArray) (h : F.size = 512) : DOk (shownS F) := by
  refine ⟨by simp [shownS, wrote, shown0], ?_, ?_, ?_⟩
  · intro x hx
    have : x = zero := List.eq_of_mem_replicate hx
    rw [this, zero_size]
  · intro x hx
    rcases List.mem_or_eq_of_mem_set hx with hx | hx
    · have : x = zero := List.eq_of_mem_replicate hx
      rw [this, zero_size]
    · rw [hx, h]
  · intro x hx
    have : x = (3, F) := by simpa [shownS, wrote, shown0] using hx
    subst this
    exact ⟨by simp [shownS, wrote, shown0, Z128], h⟩
theorem shown_c1 (F : ByteArray) : crashed (shownS F) 0 (-1) = Z128 := by
  have e : stays 0 0 (-1) = 0 := by decide
  simp [crashed, shownS, wrote, fates, torn1, e, shown0]
def Z128x (F256 : ByteArray) : List ByteArray := Z128.set 3 (F256 ++ zero.extract 256 512)
theorem shown_c2 (F : ByteArray) : crashed (shownS F) 0 0 = Z128x (F.extract 0 256) := by
  have e : stays 0 0 0 = 256 := by decide
  have g : Z128.getD 3 ⟨#[]⟩ = zero := by simp [Z128, List.getD]
  simp only [crashed, shownS, wrote, shown0, fates, torn1, List.nil_append, List.zipIdx_singleton, List.map_cons, List.map_nil, List.foldl_cons, List.foldl_nil, e]
  rw [if_neg (by decide), g]
  rfl
theorem Z128_get : Z128[3]? = some zero := by simp [Z128]
theorem Z128x_get (F256 : ByteArray) : (Z128x F256)[3]? = some (F256 ++ zero.extract 256 512) := by
  unfold Z128x
  rw [List.getElem?_set_self]
  simp [Z128]
theorem shown_len (F : ByteArray) : (shownS F).now.length ≤ 8192 ∧ (shownS F).loose.length ≤ 1073741824 := by simp [shownS, wrote, shown0, Z128]
theorem shown0_3 : 3 < shown0.now.length := by simp [shown0, Z128]

end Go.Proofs.Ytjmfeoenbncibaa
namespace Go.Proofs.Ytjmfeoenbncibaa
open Go.RowKit Go.Nau Go.Shelf
attribute [local go_sem] Oper.semAt_some

def renB : Go.Shelf.Ren := ⟨fun | 166 => 70 | 167 => 99 | 240 => 90 | 276 => 106 | n => n,
  fun | 0 => 0 | 3 => 3 | 4 => 4 | 5 => 5 | 9 => 9 | 20 => 20 | 37 => 128 | 70 => 127 | 72 => 130 | 75 => 132 | 76 => 133 | 80 => 135 | 164 => 164 | n => n, fun | n => n⟩
theorem lays167 : Go.Proofs.Lays.n167 Try.prog renB := {
  mixed := by kernel_rfl
  f167 := Try.func99.trans (congrArg some (by kernel_rfl))
  f240 := Try.func90.trans (congrArg some (by kernel_rfl))
  f276 := Try.func106.trans (congrArg some (by kernel_rfl))
  t0 := Try.underlying0
  a0 := Try.isAgg0
  z0 := Try.sizeOf0
  v0 := Try.zeroValue0
  t4 := Try.underlying4
  a4 := Try.isAgg4
  z4 := Try.sizeOf4
  v4 := Try.zeroValue4
  t5 := Try.underlying5
  a5 := Try.isAgg5
  z5 := Try.sizeOf5
  v5 := Try.zeroValue5
  t9 := Try.underlying9
  a9 := Try.isAgg9
  z9 := Try.sizeOf9
  v9 := Try.zeroValue9
  t20 := Try.underlying20
  a20 := Try.isAgg20
  z20 := Try.sizeOf20
  v20 := Try.zeroValue20
  t37 := Try.underlying128
  a37 := Try.isAgg128
  z37 := Try.sizeOf128
  v37 := Try.zeroValue128
  t70 := Try.underlying127
  a70 := Try.isAgg127
  z70 := Try.sizeOf127
  v70 := Try.zeroValue127
  t72 := Try.underlying130
  a72 := Try.isAgg130
  z72 := Try.sizeOf130
  v72 := Try.zeroValue130
  t75 := Try.underlying132
  a75 := Try.isAgg132
  z75 := Try.sizeOf132
  v75 := Try.zeroValue132
  t164 := Try.underlying164
  a164 := Try.isAgg164
  z164 := Try.sizeOf164
  v164 := Try.zeroValue164 }
theorem extraB : Builder.Extra Try.prog renB := {
  sizeBuilder := by kernel_rfl
  liesBuilder := by kernel_rfl
  t5 := Try.underlying5
  a5 := Try.isAgg5
  z5 := Try.sizeOf5
  v5 := Try.zeroValue5
  infoByte := by kernel_rfl
  cellsByte := by kernel_rfl
  sizeByte := by kernel_rfl
  neB5 := by decide }

/-- A builder at block b, its own blocks from b on. -/
def Bld (b : Nat) (l : List UInt8) (W : World) : Prop := Lib.IsBuilderF 130 5 b b (Lib.byteCells l) W

theorem writeByte_any (b : Nat) (l : List UInt8) (c : UInt8) (W : World) (h : Bld b l W) (hl : l.length ≤ 1000000) :
    Calls Try.prog 99 #[.pointer (some ⟨b, 0, none⟩), .int .u8 c.toNat] W fun e W' => e = .returned .nilIface ∧ Bld b (l ++ [c]) W' ∧ Below b W W' ∧ Lib.OthersKept 5 (some b) W W' := by
  have hb : b ≤ W.heap.size := by
    rcases h with h | h <;> exact Nat.le_of_lt h.lt
  refine (Any.Builder_WriteByte_k lays167 extraB b b (Lib.byteCells l) c.toNat W h (by rw [Lib.byteCells_length]; omega) hb).mono ?_
  rintro e W' ⟨rfl, h1, h2, h3⟩
  refine ⟨rfl, .inr ?_, h2, h3⟩
  have e : Lib.byteCells (l ++ [c]) = Lib.byteCells l ++ [.int .u8 c.toNat] := by simp [Lib.byteCells]
  rw [e]
  exact h1
theorem writeString_any (b : Nat) (l : List UInt8) (s : ByteArray) (W : World) (h : Bld b l W) (hl : l.length ≤ 1000000) (hs : s.size ≤ 1000000) :
    Calls Try.prog 70 #[.pointer (some ⟨b, 0, none⟩), .string s] W fun e W' => e = .returned (.tuple #[.int .i64 s.size, .nilIface]) ∧ Bld b (l ++ s.data.toList) W' ∧ Below b W W' ∧ Lib.OthersKept 5 (some b) W W' := by
  have hb : b ≤ W.heap.size := by
    rcases h with h | h <;> exact Nat.le_of_lt h.lt
  refine (Any.Builder_WriteString_k { Try.lays105 with } Try.Builder_Extra_105 b b (Lib.byteCells l) s W h (by rw [Lib.byteCells_length]; omega) hb).mono ?_
  rintro e W' ⟨rfl, h1, h2, h3⟩
  refine ⟨rfl, .inr ?_, h2, h3⟩
  have e : Lib.byteCells (l ++ s.data.toList) = Lib.byteCells l ++ Lib.strCells s := by simp [Lib.byteCells, Lib.strCells]
  rw [e]
  exact h1
theorem string_any (b : Nat) (l : List UInt8) (W : World) (h : Bld b l W) :
    Calls Try.prog 72 #[.pointer (some ⟨b, 0, none⟩)] W fun e W' => e = .returned (.string ⟨l.toArray⟩) ∧ Bld b l W' ∧ Below b W W' ∧ Lib.OthersKept 5 (some b) W W' := by
  have hb : b ≤ W.heap.size := by
    rcases h with h | h <;> exact Nat.le_of_lt h.lt
  exact Try.Builder_String_any_k b b l W h hb

/-- Worlds in which a builder lies as it lay. -/
theorem Bld.kept {b : Nat} {l : List UInt8} {W W' : World} {S : Nat → Prop} (h : Bld b l W) (hf : Fr S W W') (hS : ∀ k cs t fz, W.heap[k]? = some (.cells cs t fz) → (k = b ∨ t = 5) → ¬ S k) : Bld b l W' := by
  have go : ∀ p, Lib.BuilderAtF 130 5 b b p (Lib.byteCells l) W → Lib.BuilderAtF 130 5 b b p (Lib.byteCells l) W' := by
    rintro p ⟨hB, v, hb, ho, hne⟩
    refine ⟨hB, v, hf.get (hS _ _ _ _ hb (.inl rfl)) hb, ⟨ho.1, ?_⟩, hne⟩
    rcases ho.2 with h2 | ⟨g, cap, cur, fz, hv, hg, hh, r⟩
    · exact .inl h2
    · exact .inr ⟨g, cap, cur, fz, hv, hg, hf.get (hS _ _ _ _ hh (.inr rfl)) hh, r⟩
  rcases h with h | h
  · exact .inl (go _ h)
  · exact .inr (go _ h)
theorem Bld.putObj {b : Nat} {l : List UInt8} {W : World} (h : Bld b l W) (r : Nat) (o o' : Obj) (hr : W.heap[r]? = some o) (ho : o.isCells = false) : Bld b l (W.putObj r o') := by
  refine h.kept (S := fun k => k = r) ((Fr.of_grown (grownBy_putObj' W r o')).mono (fun k e => by injection e)) (fun k cs t fz hk _ e => ?_)
  subst e
  rw [hk] at hr
  injection hr with hr
  subst hr
  cases ho
theorem Bld.new (W : World) : Bld W.heap.size [] (W.alloc (.cells #[.pointer none, .slice none 0 0] 130)) :=
  .inl ⟨Nat.le_refl _, .slice none 0 0, heap_alloc_new W _, World.ownsRowF_nil _ _ _ _, by simp [Value.ownBlock]⟩
theorem Bld.lt {b : Nat} {l : List UInt8} {W : World} (h : Bld b l W) : b < W.heap.size := by
  rcases h with h | h <;> exact h.lt
theorem kept_others {b : Nat} {W W' : World} (h : Lib.OthersKept 5 (some b) W W') {k : Nat} {cs : Array Value} {t : TypeId} {fz : Nat × Nat} (hk : W.heap[k]? = some (.cells cs t fz)) (hb : k ≠ b) (ht : t ≠ 5) : W'.heap[k]? = some (.cells cs t fz) :=
  h k _ hk (fun e => hb (by injection e)) (fun c f e => by injection e with _ h2 _; exact ht h2)

/-- The first bytes of a number. -/
def hi (n k : Nat) : Nat := n / 256 ^ k
theorem hi_zero (n : Nat) : hi n 0 = n := by simp [hi]
theorem hi_succ (n k : Nat) : hi n (k + 1) = hi n k / 256 := by unfold hi; rw [Nat.div_div_eq_div_mul, Nat.pow_succ]
theorem hi_le (n k : Nat) : hi n k ≤ n := Nat.div_le_self _ _
def bytesL (n k : Nat) : List UInt8 := (List.range k).map fun i => UInt8.ofNat (hi n i)
theorem bytesL_snoc (n k : Nat) : bytesL n (k + 1) = bytesL n k ++ [UInt8.ofNat (hi n k)] := by simp [bytesL, List.range_succ]
theorem bytesL_length (n k : Nat) : (bytesL n k).length = k := by simp [bytesL]
def bytesS (n k : Nat) : ByteArray := ⟨(bytesL n k).toArray⟩
theorem bytesS_size (n k : Nat) : (bytesS n k).size = k := by simp [bytesS, ByteArray.size, bytesL_length]

theorem isWidth_any (k : Nat) (W : World) (h : 1 ≤ k ∧ k ≤ 8) : Calls Try.prog 97 #[.int .i64 k] W fun e W' => e = .returned (.bool true) ∧ W = W' := by
  have h1 : (1 : Int) ≤ k := by omega
  have h2 : (k : Int) ≤ 8 := by omega
  go_enter Try.func97, Try.ntmps97
  go_wp2
  go_ret
  exact ⟨by simp, rfl⟩

/-- What the iterator of a number's bytes, and its caller, know between two rounds. -/
structure PIn (w : World) (n k width j : Nat) (W : World) : Prop where
  bld : Bld w.heap.size (bytesL n k) W
  left : W.heap[w.heap.size + 1]? = some (.cells #[.int .u64 (hi n k : Int)] 22 (0, 0))
  num : W.heap[w.heap.size + 2]? = some (.cells #[.int .u64 (hi n j : Int)] 22 (0, 0))
  wid : W.heap[w.heap.size + 3]? = some (.cells #[.int .i64 (width : Int)] 3 (0, 0))
  bel : Below w.heap.size w W

theorem PIn.putObj {w W : World} {n k width j : Nat} (h : PIn w n k width j W) (r : Nat) (o o' : Obj) (hr : W.heap[r]? = some o) (ho : o.isCells = false) (hw : w.heap.size ≤ r) : PIn w n k width j (W.putObj r o') := by
  have ne : ∀ i cs t fz, W.heap[i]? = some (.cells cs t fz) → r ≠ i := by
    intro i cs t fz hi e
    subst e
    rw [hi] at hr
    injection hr with hr
    subst hr
    cases ho
  refine ⟨h.bld.putObj r o o' hr ho, (World.putObj_heap_other (ne _ _ _ _ h.left).symm).trans h.left, (World.putObj_heap_other (ne _ _ _ _ h.num).symm).trans h.num, (World.putObj_heap_other (ne _ _ _ _ h.wid).symm).trans h.wid, ?_⟩
  exact h.bel.trans (((Fr.of_grown (grownBy_putObj' W r o')).mono (fun k e => Option.some.inj e)).below (S := fun k => k = r) h.bel.size (fun k e => by subst e; exact hw))
theorem PIn.alloc {w W : World} {n k width j : Nat} (h : PIn w n k width j W) (o : Obj) : PIn w n k width j (W.alloc o) := by
  have hf : Fr (fun _ => False) W (W.alloc o) := (Fr.refl _ W).alloc o
  exact ⟨h.bld.kept hf (fun _ _ _ _ _ _ => id), hf.get id h.left, hf.get id h.num, hf.get id h.wid, h.bel.alloc h.bel.size o⟩

set_option maxRecDepth 100000 in
set_option maxHeartbeats 2000000 in
theorem parts1_in (w : World) (n width : Nat) (_hn : n < 18446744073709551616) (hw8 : width ≤ 8) (B : Nat) (hB : w.heap.size + 4 ≤ B) (m : Nat) (hm : 1 ≤ m) (l : Nat) (r : Loop) (W : World)
    (hY : ∀ k W1, k < width → PIn w n k width (k + 1) W1 → Book B r W1 → YieldAt Fence.wide (m - 1) Try.prog l #[.int .u8 ((hi n k : Int) % 256), .int .u64 ((hi n k : Int) / 256)] W1 fun e W' => e = .returned (.bool true) ∧ PIn w n (k + 1) width (k + 1) W' ∧ Book B r W')
    (h0 : PIn w n 0 width 0 W) (hbk : Book B r W) :
    CallsIn Fence.wide m Try.prog 111 #[.func (.yield l) #[] #[], .pointer (some ⟨w.heap.size + 3, 0, none⟩), .pointer (some ⟨w.heap.size + 2, 0, none⟩)] W fun e W' => (∃ v, e = .returned v) ∧ PIn w n width width width W' ∧ Book B r W' := by
  have c3 := blk_cell h0.wid 0
  simp at c3
  have hwi : (width : Int) ≤ 8 := by omega
  refine callsIn_of_wp Try.func111 rfl trivial ?_ rfl
  simp only [Try.ntmps111, List.size_toArray, List.length_cons, List.length_nil, Nat.reduceAdd, Nat.reduceSub, Array.replicate_succ, Array.replicate_zero, List.push_toArray, List.append_toArray, List.nil_append, List.cons_append]
  gi_wp2
  gi_loopw [6] (fun i wr => ∃ k : Nat, k ≤ width ∧ i = .int .i64 k ∧ PIn w n k width k wr ∧ Book B r wr) (fun i _ => width - (intOf i).toNat)
  case atStart => exact ⟨0, Nat.zero_le _, rfl, h0, hbk⟩
  case round =>
    obtain ⟨k, hk, rfl, hP, hBk⟩ := hrel
    by_cases hlt : k < width
    · have hlti : (k : Int) < (width : Int) := by omega
      have n2 := blk_cell hP.num 0
      have z2 := blk_frozen hP.num 0
      simp at n2
      have hle := hi_le n k
      have hf : Fr (· = w.heap.size + 2) wr (wr.setCell ⟨w.heap.size + 2, 0, none⟩ (.int .u64 ((hi n k : Int) / 256))) := Fr.set1 _ _ _ _
      have hP1 : PIn w n k width (k + 1) (wr.setCell ⟨w.heap.size + 2, 0, none⟩ (.int .u64 ((hi n k : Int) / 256))) := by
        refine ⟨hP.bld.kept hf (fun i cs t fz hi ht e => ?_), hf.get (by omega) hP.left, ?_, hf.get (by omega) hP.wid, hP.bel.setCell (by dsimp only; omega) _⟩
        · rcases ht with ht | ht
          · omega
          · subst e
            rw [hP.num] at hi
            injection hi with hi
            injection hi with _ hi _
            rw [ht] at hi
            exact absurd hi (by decide)
        · rw [blk_set hP.num 0 _, hi_succ]
          rfl
      have hB1 : Book B r (wr.setCell ⟨w.heap.size + 2, 0, none⟩ (.int .u64 ((hi n k : Int) / 256))) := ⟨hf.get (by omega) hBk.1, hf.get (by omega) hBk.2⟩
      obtain ⟨fn, tmps, assign, body, hy, hRR⟩ := hY k _ hlt hP1 hB1
      clear hP1 hB1 hf hY
      generalize hi n k = a at *
      gi_wp2
      refine hRR.mono ?_
      rintro e W3 ⟨rfl, hP3, hB3⟩
      gi_wp2
      go_roundw
      case rel => exact ⟨k + 1, by omega, by go_num, hP3, hB3⟩
      case measure => simp [intOf]; omega
    · obtain rfl : k = width := by omega
      gi_wp2
      go_end0
      exact ⟨⟨_, rfl⟩, hP, hBk⟩

theorem parts_any (n width : Nat) (W : World) : Calls Try.prog 98 #[.int .u64 n, .int .i64 width] W fun e W' =>
    e = .returned (.func (.func 111) #[] #[.pointer (some ⟨W.heap.size + 1, 0, none⟩), .pointer (some ⟨W.heap.size, 0, none⟩)]) ∧ W' = (W.alloc (.cells #[.int .u64 n] 22)).alloc (.cells #[.int .i64 width] 3) := by
  go_enter Try.func98, Try.ntmps98
  go_wp2
  go_ret
  exact ⟨rfl, rfl⟩

theorem byte_cast (a : Nat) : (((UInt8.ofNat a).toNat : Nat) : Int) = (a : Int) % 256 := by simp

set_option maxHeartbeats 1000000 in
set_option maxRecDepth 100000 in
theorem put_any (n width : Nat) (hn : n < 18446744073709551616) (h1 : 1 ≤ width) (h8 : width ≤ 8) (hfit : n < 256 ^ width) (w : World) :
    Calls Try.prog 78 #[.int .u64 n, .int .i64 width] w fun e w' => e = .returned (.tuple #[.string (bytesS n width), .int .i64 0]) ∧ Below w.heap.size w w' := by
  have hzero : hi n width = 0 := Nat.div_eq_of_lt hfit
  have hW := isWidth_any width w ⟨h1, h8⟩
  have HW := Lib.hid hW
  have hni : (n : Int) < 18446744073709551616 := by omega
  refine (callsIn_wide (n := 7)).1 (callsIn_of_wp_marks Try.func78 rfl trivial ?_ rfl)
  simp only [Try.ntmps78, List.size_toArray, List.length_nil, List.length_cons, Nat.reduceSub, Nat.reduceAdd, Array.replicate_succ, Array.replicate_zero, List.push_toArray, List.append_toArray, List.nil_append, List.cons_append]
  refine wpIn_wide.2 ?_
  go_wp2_with fail
  refine HW.out.mono ?_
  rintro e w1 ⟨rfl, rfl⟩
  clear hW HW
  go_wp2_with fail
  refine (parts_any n width _).mono ?_
  rintro e w2 ⟨rfl, hw2⟩
  simp only [World.size_alloc] at hw2 ⊢
  have hP0 : PIn w n 0 width 0 w2 := by
    rw [hw2]
    have e1 : (w.alloc (.cells #[.pointer none, .slice none 0 0] 130)).heap.size = w.heap.size + 1 := by simp
    have e2 : ((w.alloc (.cells #[.pointer none, .slice none 0 0] 130)).alloc (.cells #[.int .u64 n] 22)).heap.size = w.heap.size + 2 := by simp
    have e3 : (((w.alloc (.cells #[.pointer none, .slice none 0 0] 130)).alloc (.cells #[.int .u64 n] 22)).alloc (.cells #[.int .u64 n] 22)).heap.size = w.heap.size + 3 := by simp
    have f1 : ∀ W o, Fr (fun _ => False) W (World.alloc W o) := fun W o => (Fr.refl _ W).alloc o
    refine ⟨?_, ?_, ?_, ?_, ?_⟩
    · exact (((Bld.new w).kept (f1 _ _) (fun _ _ _ _ _ _ => id)).kept (f1 _ _) (fun _ _ _ _ _ _ => id)).kept (f1 _ _) (fun _ _ _ _ _ _ => id)
    · rw [hi_zero]
      have := heap_alloc_new (w.alloc (.cells #[.pointer none, .slice none 0 0] 130)) (.cells #[.int .u64 n] 22)
      rw [e1] at this
      exact (f1 _ _).get id ((f1 _ _).get id this)
    · rw [hi_zero]
      have := heap_alloc_new ((w.alloc (.cells #[.pointer none, .slice none 0 0] 130)).alloc (.cells #[.int .u64 n] 22)) (.cells #[.int .u64 n] 22)
      rw [e2] at this
      exact (f1 _ _).get id this
    · have := heap_alloc_new (((w.alloc (.cells #[.pointer none, .slice none 0 0] 130)).alloc (.cells #[.int .u64 n] 22)).alloc (.cells #[.int .u64 n] 22)) (.cells #[.int .i64 width] 3)
      rw [e3] at this
      exact this
    · exact ((((Below.refl _ w).alloc (Nat.le_refl _) _).alloc (by simp) _).alloc (by simp; omega) _).alloc (by simp; omega) _
  have hsz : w2.heap.size = w.heap.size + 4 := by rw [hw2]; simp
  clear hw2
  go_wp2_with fail
  refine wpIn_wide.1 (rangeFunc_all (F := Fence.wide) (n := 6) rfl (by omega) (gf := 111) (lb := #[.pointer (some ⟨w.heap.size + 1 + 1 + 1, 0, none⟩), .pointer (some ⟨w.heap.size + 1 + 1, 0, none⟩)]) rfl trivial (enters_of Try.func111 (by kernel_rfl) rfl)
    width (fun k => #[.int .u8 ((hi n k : Int) % 256), .int .u64 ((hi n k : Int) / 256)]) (fun _ => rfl) (fun k W => PIn w n k width k W) (fun k W => PIn w n k width (k + 1) W)
    (fun k => { tmps := #[.int .u64 n, .int .i64 width, undef, undef, .string ⟨#[]⟩, .int .i64 0, .pointer (some ⟨w.heap.size, 0, none⟩), .pointer (some ⟨w.heap.size + 1, 0, none⟩), .int .u8 ((hi n k : Int) % 256), .int .u64 ((hi n k : Int) / 256), .int .i64 width, .bool true, .bool false, .int .u64 n, .int .u64 n, .int .i64 width, .func (.func 111) #[] #[.pointer (some ⟨w.heap.size + 1 + 1 + 1, 0, none⟩), .pointer (some ⟨w.heap.size + 1 + 1, 0, none⟩)], .int .u8 ((hi n k : Int) % 256), .int .u64 ((hi n k : Int) / 256), undef, undef, undef, undef, undef, undef], defers := [] })
    (fun W o h => h.alloc o) hP0 (fun k W r o o' h hr ho hc => h.putObj r o o' ho hc (by omega)) (fun k W r o o' h hr ho hc => h.putObj r o o' ho hc (by omega))
    (fun l r W hY hI hBk => parts1_in w n width hn h8 w2.heap.size (by omega) 5 (by omega) l r W hY hI hBk) ?assign ?body ?done)
  case assign =>
    intro l k W K hK
    gi_wp2
    exact hK
  case body =>
    rintro l k W hk hP hl
    have hle := hi_le n k
    have hbl : (bytesL n k).length ≤ 1000000 := by rw [bytesL_length]; omega
    have hwb := writeByte_any w.heap.size (bytesL n k) (UInt8.ofNat (hi n k)) W hP.bld hbl
    rw [byte_cast] at hwb
    have hsn := bytesL_snoc n k
    have hsu := hi_succ n k
    have HWB := Lib.hid hwb
    clear hwb
    have hfin : ∀ W3, Bld w.heap.size (bytesL n k ++ [UInt8.ofNat (hi n k)]) W3 → Below w.heap.size W W3 → Lib.OthersKept 5 (some w.heap.size) W W3 →
        KeepsFrom w2.heap.size W (W3.setCell ⟨w.heap.size + 1, 0, none⟩ (.int .u64 ((hi n k : Int) / 256))) ∧ PIn w n (k + 1) width (k + 1) (W3.setCell ⟨w.heap.size + 1, 0, none⟩ (.int .u64 ((hi n k : Int) / 256))) ∧
        (∃ v, W3.cell? ⟨w.heap.size + 1, 0, none⟩ = some v) ∧ W3.frozen? ⟨w.heap.size + 1, 0, none⟩ = false := by
      intro W3 hB3 hbe hok
      have hl3 := kept_others hok hP.left (by omega) (by decide)
      have hn3 := kept_others hok hP.num (by omega) (by decide)
      have hw3 := kept_others hok hP.wid (by omega) (by decide)
      have hf : Fr (· = w.heap.size + 1) W3 (W3.setCell ⟨w.heap.size + 1, 0, none⟩ (.int .u64 ((hi n k : Int) / 256))) := Fr.set1 _ _ _ _
      have c1 := blk_cell hl3 0
      refine ⟨⟨Nat.le_trans hbe.size hf.size, fun i o hBi hi ho => ?_⟩, ⟨?_, ?_, hf.get (by omega) hn3, hf.get (by omega) hw3, (hP.bel.trans hbe).setCell (by dsimp only; omega) _⟩, ⟨_, c1⟩, blk_frozen hl3 0⟩
      · refine hf.get (by omega) (hok i o hi (fun e => by injection e with e; omega) (fun c fz e => ?_))
        subst e
        cases ho
      · rw [hsn]
        refine hB3.kept hf (fun i cs t fz hi ht e => ?_)
        rcases ht with ht | ht
        · omega
        · subst e
          rw [hl3] at hi
          injection hi with hi
          injection hi with _ hi _
          rw [ht] at hi
          exact absurd hi (by decide)
      · rw [blk_set hl3 0 _, hsu]
        rfl
    have HF := Lib.hid hfin
    clear hfin hsn hsu
    generalize hi n k = x at *
    gi_wp2_with fail
    refine ⟨trivial, (CallsIn.inRound l (callsIn_wide.2 HWB.out)).mono ?_⟩
    rintro e W3 ⟨rfl, hB3, hbe, hok⟩
    obtain ⟨g1, g2, ⟨v, g3⟩, g4⟩ := HF.out W3 hB3 hbe hok
    have G1 := Lib.hid g1
    have G2 := Lib.hid g2
    clear g1 g2 hB3 hok
    gi_wp2
    exact ⟨G1.out, G2.out⟩
  case done =>
    intro D W hD hP hK
    have c1 := blk_cell hP.left 0
    rw [hzero] at c1
    simp at c1
    have hst := string_any w.heap.size (bytesL n width) W hP.bld
    have HS := Lib.hid hst
    clear hst
    have hbe := hP.bel
    have hsW := hbe.size
    have hbl := hP.bld.lt
    clear hP
    simp only [Exit.inBlock, Exit.then]
    go_at_K
    go_wp2_with fail
    refine HS.out.mono ?_
    rintro e W4 ⟨rfl, _, hb4, hok⟩
    go_wp2_with fail
    have hK4 := hok D _ hK (fun e => by injection e with e; omega) (fun c fz e => by cases e)
    refine ⟨by simp, .inl ⟨_, _, rfl, run_takeDeferred hK4, ?_⟩⟩
    have hf : Fr (fun k => k = D) W4 (W4.putObj D (.deferred none)) := (Fr.of_grown (grownBy_putObj' W4 D _)).mono (fun k e => Option.some.inj e)
    exact ⟨_, results_tmp2 rfl _ _ _, rfl, (hbe.trans hb4).trans (hf.below (Nat.le_trans hsW hb4.size) (fun k e => by omega))⟩
end Go.Proofs.Ytjmfeoenbncibaa

/- Paths: a text's pieces: the iterator of strings.SplitSeq at one byte: over the given program. -/
import Derived.Test.YtliioeihbbhiiaaDoorEb
import Derived.Test.YtliioeihbbhiiaaDoorX
namespace Go.Proofs.YtliioeihbbhiiaaDoor
open Go.RowKit Go.Nau Go.Shelf
attribute [local go_sem] Oper.semAt_some

/-- Bytes cut at each '/'. -/
def spl : List UInt8 → List (List UInt8)
  | [] => [[]]
  | c :: r => if c = 47 then [] :: spl r else match spl r with
    | p :: ps => (c :: p) :: ps
    | [] => [[c]]
theorem spl_ne (l : List UInt8) : spl l ≠ [] := by
  cases l with
  | nil => simp [spl]
  | cons c r =>
    unfold spl
    split
    · simp
    · split <;> simp
theorem spl_none : ∀ (l : List UInt8), Lib.indexByte l 47 < 0 → spl l = [l]
  | [], _ => rfl
  | c :: r, h => by
    have hge := Lib.indexByte_ge r 47
    unfold Lib.indexByte at h
    by_cases hc : c = 47
    · subst hc
      simp at h
    · have hb : (c == 47) = false := by simpa using hc
      rw [hb] at h
      simp only [Bool.false_eq_true, if_false] at h
      have h1 : Lib.indexByte r 47 < 0 := by
        by_cases h2 : Lib.indexByte r 47 = -1
        · omega
        · have h3 : (Lib.indexByte r 47 == -1) = false := by simpa using h2
          rw [h3] at h
          simp only [Bool.false_eq_true, if_false] at h
          omega
      unfold spl
      rw [if_neg hc, spl_none r h1]
theorem spl_some : ∀ (l : List UInt8) (i : Nat), Lib.indexByte l 47 = i → i < l.length ∧ spl l = l.take i :: spl (l.drop (i + 1))
  | [], i, h => by
    unfold Lib.indexByte at h
    omega
  | c :: r, i, h => by
    unfold Lib.indexByte at h
    by_cases hc : c = 47
    · subst hc
      simp at h
      have hi : i = 0 := by omega
      subst hi
      simp [spl]
    · have hb : (c == 47) = false := by simpa using hc
      rw [hb] at h
      simp only [Bool.false_eq_true, if_false] at h
      by_cases h2 : Lib.indexByte r 47 = -1
      · rw [h2] at h
        simp at h
      · have h3 : (Lib.indexByte r 47 == -1) = false := by simpa using h2
        rw [h3] at h
        simp only [Bool.false_eq_true, if_false] at h
        have hge := Lib.indexByte_ge r 47
        obtain ⟨j, rfl⟩ : ∃ j, i = j + 1 := ⟨i - 1, by omega⟩
        obtain ⟨h4, h5⟩ := spl_some r j (by omega)
        refine ⟨by simpa using h4, ?_⟩
        have hu : spl (c :: r) = (match spl r with
          | p :: ps => (c :: p) :: ps
          | [] => [[c]]) := by
          conv => lhs; unfold spl
          rw [if_neg hc]
        rw [hu, h5, List.drop_succ_cons, List.take_succ_cons]
def txt (l : List UInt8) : ByteArray := ⟨l.toArray⟩
theorem txt_size (l : List UInt8) : (txt l).size = l.length := by simp [txt, ByteArray.size]
theorem txt_list (l : List UInt8) : (txt l).data.toList = l := by simp [txt]
def splB (s : ByteArray) : List ByteArray := (spl s.data.toList).map txt
theorem dat_length (s : ByteArray) : s.data.toList.length = s.size := Array.length_toList
theorem ext_list (s : ByteArray) (a b : Nat) : (s.extract a b).data.toList = (s.data.toList.drop a).take (b - a) := by
  rw [ByteArray.data_extract, Array.toList_extract, List.extract_eq_take_drop]
theorem txt_of (s : ByteArray) : txt s.data.toList = s := by
  apply ByteArray.ext
  simp [txt]
theorem splB_none {s : ByteArray} (h : Lib.indexByte s.data.toList 47 < 0) : splB s = [s] := by
  unfold splB
  rw [spl_none _ h]
  simp [txt_of]
theorem splB_some {s : ByteArray} {i : Nat} (h : Lib.indexByte s.data.toList 47 = i) : i < s.size ∧ splB s = s.extract 0 i :: splB (s.extract (i + 1) s.size) := by
  obtain ⟨h1, h2⟩ := spl_some _ _ h
  rw [dat_length] at h1
  refine ⟨h1, ?_⟩
  unfold splB
  rw [h2, List.map_cons, ext_list]
  congr 1
  · apply ByteArray.ext
    apply Array.toList_inj.mp
    rw [ext_list]
    simp [txt]
  · rw [List.take_of_length_le]
    rw [List.length_drop, dat_length]
    omega
/-- The length of the text in a box. -/
def strAt (W : World) (B : Nat) : Nat := match W.cell? ⟨B, 0, none⟩ with
  | some (.string s) => s.size
  | _ => 0

structure SBox (Bs Bp Bv : Nat) (r : ByteArray) (W : World) : Prop where
  s : W.heap[Bs]? = some (.cells #[.string r] 9 (0, 0))
  p : W.heap[Bp]? = some (.cells #[.string ⟨#[47]⟩] 9 (0, 0))
  v : W.heap[Bv]? = some (.cells #[.int .i64 0] 3 (0, 0))
theorem SBox.fr {Bs Bp Bv : Nat} {r : ByteArray} {W W' : World} (h : SBox Bs Bp Bv r W) (hf : Fr (fun k => k ≠ Bs ∧ k ≠ Bp ∧ k ≠ Bv) W W') : SBox Bs Bp Bv r W' :=
  ⟨hf.get (by simp) h.s, hf.get (by simp) h.p, hf.get (by simp) h.v⟩

set_option maxHeartbeats 2000000 in
set_option maxRecDepth 100000 in
theorem splitseq_in (n : Nat) (hn : 1 ≤ n) (l Bs Bp Bv : Nat) (s : ByteArray) (hs : s.size ≤ 900000) (W : World) (hB : SBox Bs Bp Bv s W) (hne : Bs ≠ Bp ∧ Bs ≠ Bv) (J Jx : List ByteArray → World → Prop)
    (hJ : ∀ pre A u, J pre A → J pre (A.setCell ⟨Bs, 0, none⟩ u))
    (hY : ∀ pre x W1, J pre W1 → (∃ r, SBox Bs Bp Bv r W1) → pre ++ [x] <+: splB s → YieldAt Fence.wide (n - 1) Tryd.prog l #[.string x] W1 fun e W' => (e = .returned (.bool true) ∧ J (pre ++ [x]) W' ∧ Fr (fun k => k ≠ Bs ∧ k ≠ Bp ∧ k ≠ Bv) W1 W') ∨ (e = .returned (.bool false) ∧ Jx (pre ++ [x]) W'))
    (h0 : J [] W) :
    CallsIn Fence.wide n Tryd.prog 35 #[.func (.yield l) #[] #[], .pointer (some ⟨Bp, 0, none⟩), .pointer (some ⟨Bs, 0, none⟩), .pointer (some ⟨Bv, 0, none⟩)] W fun e W' =>
      (∃ v, e = .returned v) ∧ ((∃ ys, ys = splB s ∧ J ys W') ∨ (∃ pre, pre <+: splB s ∧ Jx pre W')) := by
  have bp0 := blk_cell hB.p 0
  simp at bp0
  refine callsIn_of_wp Tryd.func35 rfl trivial ?_ rfl
  simp only [Tryd.ntmps35, List.size_toArray, List.length_cons, List.length_nil, Nat.reduceAdd, Nat.reduceSub, Array.replicate_succ, Array.replicate_zero, List.push_toArray, List.append_toArray, List.nil_append, List.cons_append]
  gi_wp2
  clear bp0
  gi_loopw [7, 8] (fun _ _ wr => ∃ (pre : List ByteArray) (r : ByteArray), r.size ≤ 900000 ∧ SBox Bs Bp Bv r wr ∧ J pre wr ∧ pre ++ splB r = splB s) (fun _ _ wr => strAt wr Bs)
  case atStart => exact ⟨[], s, hs, hB, h0, rfl⟩
  case round =>
    obtain ⟨pre, r, hr, hb, hJp, hseq⟩ := hrel
    have hsz : strAt wr Bs = r.size := by
      unfold strAt
      rw [blk_cell hb.s 0]
      rfl
    have s0 := blk_cell hb.s 0
    have p0 := blk_cell hb.p 0
    have v0 := blk_cell hb.v 0
    have sz0 := blk_frozen hb.s 0
    simp at s0 p0 v0
    have hidx := fun W => Tryd.strings_Index_one r 47 W
    have HB := Lib.hid hb
    have HJ := Lib.hid hJp
    have HSZ := Lib.hid hsz
    rcases Int.lt_or_le (Lib.indexByte r.data.toList 47) 0 with hlt | hge
    · have hsp := splB_none hlt
      rw [hsp] at hseq
      generalize Lib.indexByte r.data.toList 47 = i at *
      have HI := Lib.hid hidx
      have HSQ := Lib.hid hseq
      clear hidx hseq hsp hb hJp hsz
      gi_wp2_with fail
      refine ⟨trivial, (callsIn_wide.2 (HI.out _)).mono ?_⟩
      rintro e w1 ⟨rfl, hw1⟩
      subst hw1
      obtain ⟨fn, tmps, assign, body, hy, hRR⟩ := hY pre r _ HJ.out ⟨r, HB.out⟩ (by rw [HSQ.out]; exact List.prefix_refl _)
      gi_wp2
      refine hRR.mono ?_
      rintro e W3 (⟨rfl, hJ3, hk3⟩ | ⟨rfl, hJx3⟩)
      · have HJ3 := Lib.hid hJ3
        clear hJ3 hk3 hRR hy s0 p0 v0 sz0
        gi_wp2
        go_end0
        exact ⟨⟨_, rfl⟩, .inl ⟨_, HSQ.out, HJ3.out⟩⟩
      · have HJ3 := Lib.hid hJx3
        clear hJx3 hRR hy s0 p0 v0 sz0
        gi_wp2
        go_end0
        exact ⟨⟨_, rfl⟩, .inr ⟨_, by rw [HSQ.out]; exact List.prefix_refl _, HJ3.out⟩⟩
    · obtain ⟨j, hj⟩ := Int.eq_ofNat_of_zero_le hge
      obtain ⟨h1, h2⟩ := splB_some hj
      rw [h2] at hseq
      rw [hj] at hidx
      have hpr : pre ++ [r.extract 0 j] <+: splB s := ⟨splB (r.extract (j + 1) r.size), by rw [← hseq]; simp⟩
      have hsq2 : (pre ++ [r.extract 0 j]) ++ splB (r.extract (j + 1) r.size) = splB s := by rw [← hseq]; simp
      have hji : (j : Int) < (r.size : Int) := by omega
      have hri : (r.size : Int) ≤ 900000 := by omega
      have hrn : (r.extract (j + 1) r.size).size < r.size := by rw [ByteArray.size_extract]; omega
      have HI := Lib.hid hidx
      have HSQ := Lib.hid hsq2
      have HPR := Lib.hid hpr
      have HRN := Lib.hid hrn
      clear hidx hseq hsq2 hpr hb hJp hsz hj h1 h2 hge hrn
      gi_wp2_with fail
      refine ⟨trivial, (callsIn_wide.2 (HI.out _)).mono ?_⟩
      rintro e w1 ⟨rfl, hw1⟩
      subst hw1
      obtain ⟨fn, tmps, assign, body, hy, hRR⟩ := hY pre (r.extract 0 j) _ HJ.out ⟨r, HB.out⟩ HPR.out
      have hy2 := hy
      gi_wp2
      refine hRR.mono ?_
      rintro e W3 (⟨rfl, hJ3, hk3⟩ | ⟨rfl, hJx3⟩)
      · have hb3 := HB.out.fr hk3
        have hb4 : SBox Bs Bp Bv (r.extract (j + 1) r.size) (W3.setCell ⟨Bs, 0, none⟩ (.string (r.extract (j + 1) r.size))) := by
          have f := Fr.set1 W3 Bs 0 (.string (r.extract (j + 1) r.size))
          exact ⟨blk_set hb3.s 0 _, f.get (fun e => hne.1 e.symm) hb3.p, f.get (fun e => hne.2 e.symm) hb3.v⟩
        have hJ4 := hJ _ _ (.string (r.extract (j + 1) r.size)) hJ3
        have t0 := blk_cell hb3.s 0
        have tp0 := blk_cell hb3.p 0
        have tv0 := blk_cell hb3.v 0
        have tz0 := blk_frozen hb3.s 0
        simp at t0 tp0 tv0
        have HB4 := Lib.hid hb4
        have HJ4 := Lib.hid hJ4
        have hm : strAt (W3.setCell ⟨Bs, 0, none⟩ (.string (r.extract (j + 1) r.size))) Bs = (r.extract (j + 1) r.size).size := by
          unfold strAt
          rw [blk_cell hb4.s 0]
          rfl
        have HM := Lib.hid hm
        clear hJ3 hk3 hRR hy hy2 s0 p0 v0 sz0 hb3 hb4 hJ4 hm
        gi_wp2
        go_roundw
        case rel => exact ⟨_, _, by have := HRN.out; omega, HB4.out, HJ4.out, HSQ.out⟩
        case measure =>
          rw [HM.out, HSZ.out]
          exact HRN.out
      · have HJ3 := Lib.hid hJx3
        clear hJx3 hRR hy hy2 s0 p0 v0 sz0
        gi_wp2
        refine bodyPost_ret (results_none rfl _ _ _) rfl ?_
        exact ⟨⟨_, rfl⟩, .inr ⟨_, HPR.out, HJ3.out⟩⟩
end Go.Proofs.YtliioeihbbhiiaaDoor

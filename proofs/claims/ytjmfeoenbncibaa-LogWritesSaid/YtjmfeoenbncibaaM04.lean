/- Texts of this proof, joined: Da Db. They hold under no condition beyond what each theorem states. -/
import Derived.Test.YtjmfeoenbncibaaRows
import Derived.Test.YtjmfeoenbncibaaM02
import Derived.Test.YtjmfeoenbncibaaM03
import Derived.WalkKit
import Derived.WalkSpells
import Derived.WalkLawsBesides
import Derived.Deep.LoopGhost
import Derived.Deep.RegionLaw
import Derived.Deep.QuietTactic
import Derived.BigQuiet
import Derived.IntWalk
namespace Go.Proofs.Ytjmfeoenbncibaa
open Go.RowKit Go.Nau

abbrev strs (l : List ByteArray) : List Value := l.map Value.string
theorem strs_one (l : List ByteArray) : ∀ u ∈ strs l, u.oneCell' = true := by
  intro u hu
  simp [strs] at hu
  obtain ⟨x, _, rfl⟩ := hu
  rfl
theorem strs_get {l : List ByteArray} {k : Nat} {u : Value} (h : (strs l)[k]? = some u) : ∃ x, l[k]? = some x ∧ u = .string x := by
  simp [strs] at h
  obtain ⟨x, h1, h2⟩ := h
  exact ⟨x, h1, h2.symm⟩
theorem strs_at {l : List ByteArray} {k : Nat} {x : ByteArray} (h : l[k]? = some x) : (strs l)[k]? = some (.string x) := by
  simp [strs, h]

theorem infoS : (Try.prog.info? 9).map (fun i => (i.zero, i.size, i.bytes)) = some (some (.string ⟨#[]⟩), 1, 16) := by kernel_rfl
theorem sizeS : (Try.prog.info? 9).map (·.size) = some 1 := by kernel_rfl

theorem mul_one_n (n : Nat) (hn : n ≤ 4096) (w : World) : Calls Try.prog 67 #[.int .u64 1, .int .u64 n] w fun e w' => e = .returned (.tuple #[.int .u64 0, .int .u64 n]) ∧ w = w' := by
  have h := Try.bits_Mul 1 n (by omega) (by omega) w
  rw [Nat.one_mul, Nat.div_eq_of_lt (by omega), Nat.mod_eq_of_lt (by omega)] at h
  refine h.mono ?_
  rintro e w' ⟨he, rfl⟩
  exact ⟨he, rfl⟩

/-- What the new list holds when so many places are filled. -/
def filled (s : ByteArray) (n q : Nat) : List Value := List.replicate q (Value.string s) ++ List.replicate (n - q) (Value.string ⟨#[]⟩)
theorem filled_length (s : ByteArray) (n q : Nat) (h : q ≤ n) : (filled s n q).length = n := by unfold filled; simp; omega
theorem filled_splice (s : ByteArray) (n q m : Nat) (h : q + m ≤ n) : splice (filled s n q) q (List.replicate m (Value.string s)) = filled s n (q + m) := by
  unfold splice filled
  rw [List.take_append_of_le_length (by simp), List.take_of_length_le (by simp), List.length_replicate, List.drop_append, List.drop_of_length_le (by simp), List.nil_append, List.length_replicate, List.drop_replicate,
    ← List.append_assoc, List.replicate_append_replicate]
  congr 2
  omega
theorem filled_get (s : ByteArray) (n q j : Nat) (h : j < q) : (filled s n q)[j]? = some (Value.string s) := by
  unfold filled
  rw [List.getElem?_append_left (by simpa using h)]
  simp [h]

theorem made_filled {w w2 : World} {n : Nat} {s : ByteArray} (h : w2.ownsRow w.heap.size 9 1 (.slice (some ⟨w.heap.size, 0, none⟩) n n) n (madeCells (Value.string ⟨#[]⟩).cells (n * 1)).toList) (hn : 0 < n) :
    w2.heap[w.heap.size]? = some (.cells (filled s n 0).toArray 9 (0, 0)) := by
  obtain ⟨g, cap, cur, hv, _, hh, _, _, hsz, ht⟩ := own_form h hn
  simp only [Value.slice.injEq, Option.some.injEq, Addr.mk.injEq, and_true, true_and] at hv
  obtain ⟨rfl, rfl⟩ := hv
  rw [hh]
  congr 2
  rw [List.take_of_length_le (by simp; omega)] at ht
  have : cur = cur.toList.toArray := by simp
  rw [this, ht, Nat.mul_one]
  show (madeCells #[Value.string ⟨#[]⟩] n).toList.toArray = _
  rw [toList_madeCells_one]
  simp [filled]

def RepRel (w0 : World) (B g n : Nat) (s : ByteArray) (k : Nat) (v : Value) (wr : World) : Prop :=
  ∃ q : Nat, k = n - q ∧ v = .int .i64 q ∧ 1 ≤ q ∧ q ≤ n ∧ wr.heap[g]? = some (.cells (filled s n q).toArray 9 (0, 0)) ∧ Below B w0 wr

def RepPost (w : World) (n : Nat) (s : ByteArray) (e : Ending) (w' : World) : Prop :=
  ∃ v, e = .returned v ∧ w'.ownsRow w.heap.size 9 1 v n (strs (List.replicate n s)) ∧ Below w.heap.size w w'

set_option maxHeartbeats 1000000 in
set_option maxRecDepth 100000 in
theorem repeat_any (A : Option Addr) (c n : Nat) (s : ByteArray) (w : World) (T : Nat → Prop) (hr : Rd T w 1 A 1 [.string s]) (hT : ∀ k, T k → k < w.heap.size) (h1 : 1 ≤ n) (hn : n ≤ 4096) :
    Calls Try.prog 40 #[.slice A 1 c, .int .i64 n] w (RepPost w n s) := by
  obtain ⟨i0, hi, hz0, hz1, hz2⟩ := info_parts infoS
  have hmul := mul_one_n n hn
  go_enter Try.func40, Try.ntmps40
  go_wp2_with fail
  refine (hmul _).mono ?_
  rintro e w1 ⟨rfl, rfl⟩
  have hni : (n : Int) ≤ 4096 := by omega
  have h1i : (1 : Int) ≤ n := by omega
  obtain ⟨a1, ea, ta, hca⟩ := hr.2 (by omega)
  subst ea
  have hca0 : ∀ j v, [Value.string s][j]? = some v → w.cell? (a1.add j) = some v := hca
  have HC := Lib.hid hca0
  clear hca hca0 hr
  have hab := hT _ ta
  have e1 : [Value.string s].length = Nat.min 1 n := (Nat.min_eq_left h1).symm
  have E1 := Lib.hid e1
  have e2 : 0 + [Value.string s].length ≤ (filled s n 0).length := by rw [filled_length _ _ _ (by omega)]; simpa using h1
  have E2 := Lib.hid e2
  have e3 : ∀ v ∈ [Value.string s], v.oneCell' = true := by simp [Value.oneCell']
  have E3 := Lib.hid e3
  clear e1 e2 e3
  go_wp2_with (first
    | (refine wpList_make_full _ rfl _ _ 43 rfl w.heap.size 9 i0 (.string ⟨#[]⟩) 1 Try.underlying43 hi hz0 hz1 _ _ _ _ n rfl rfl rfl rfl (by rw [hz2]; omega) (by unfold maxLen; omega) (Nat.le_refl _) ?_; intro w2 hown2 hg2; have hb2 : Below w.heap.size w w2 := (Below.refl _ _).grown hg2 (Nat.le_refl _) (by simp); have HG : Hid (w2.heap[w.heap.size]? = some (.cells (filled s n 0).toArray 9 (0, 0))) := made_filled hown2 (by omega); clear hown2 hg2)
    | (refine wpList_copy_splice rfl (.tmp 31) (.tmp 32) 43 43 rfl 9 Try.underlying43 sizeS (some ⟨w.heap.size, 0, none⟩) (some a1) n n 1 c rfl rfl w.heap.size 0 (filled s n 0) 9 HG.out [.string s] (by exact E1.out) (fun _ => ⟨rfl, a1, rfl, fun j v hv => (hb2.cell (p := a1.add j) (by rw [add_block]; exact hab)).trans (HC.out j v hv)⟩) (by exact E2.out) (by exact E3.out) w.heap.size w hb2 (Nat.le_refl _) ?_; intro w3 hg3 hb3))
  have hg3' : Hid (w3.heap[w.heap.size]? = some (.cells (filled s n 1).toArray 9 (0, 0))) := by
    have := hg3.out
    rw [show [Value.string s] = List.replicate 1 (Value.string s) from rfl, filled_splice s n 0 1 (by omega)] at this
    exact this
  clear hg3
  go_loopg [8] (n - 1) (RepRel w w.heap.size w.heap.size n s)
  case atStart => exact ⟨1, rfl, rfl, Nat.le_refl _, h1, hg3'.out, hb3⟩
  case round =>
    obtain ⟨q, rfl, rfl, hq1, hqn, hgq, hbq⟩ := hrel
    have HQ := Lib.hid hgq
    clear hgq hg3'
    by_cases hlt : q < n
    · obtain ⟨m, hm⟩ : ∃ m, m = Nat.min q (n - q) := ⟨_, rfl⟩
      have hm1 : 1 ≤ m := by rw [hm]; show 1 ≤ min q (n - q); omega
      have hm2 : q + m ≤ n := by rw [hm]; show q + min q (n - q) ≤ n; omega
      have e1 : (List.replicate m (Value.string s)).length = Nat.min q (n - q) := by rw [List.length_replicate]; exact hm
      have E1 := Lib.hid e1
      have e2 : q + (List.replicate m (Value.string s)).length ≤ (filled s n q).length := by rw [filled_length _ _ _ hqn, List.length_replicate]; exact hm2
      have E2 := Lib.hid e2
      have e3 : ∀ v ∈ List.replicate m (Value.string s), v.oneCell' = true := by
        intro v hv
        rw [List.eq_of_mem_replicate hv]
        rfl
      have E3 := Lib.hid e3
      have e4 : ∀ (j : Nat) (v : Value), (List.replicate m (Value.string s))[j]? = some v → wr.cell? ((⟨w.heap.size, 0, none⟩ : Addr).add j) = some v := by
        intro j v hv
        have hjm : j < m := by have := (List.getElem?_eq_some_iff.1 hv).1; simpa using this
        have hjq : j < q := by rw [hm] at hjm; have : j < min q (n - q) := hjm; omega
        rw [List.getElem?_replicate, if_pos hjm] at hv
        have : (⟨w.heap.size, 0, none⟩ : Addr).add j = ⟨w.heap.size, j, none⟩ := by unfold Addr.add; split <;> simp_all
        rw [this, cell_of_row wr w.heap.size j _ _ _ HQ.out]
        simp only [List.getElem?_toArray]
        rw [filled_get s n q j hjq]
        exact hv
      have E4 := Lib.hid e4
      have Hm := Lib.hid hm
      clear e1 e2 e3 e4 hm
      have hnq : ¬ n = q := by omega
      go_wp2_with fail
      go_region_law (refine step_copy_splice rfl (.tmp 41) (.tmp 44) 43 43 rfl 9 Try.underlying43 sizeS (some ⟨w.heap.size, q, none⟩) (some ⟨w.heap.size, 0, none⟩) (n - q) (n - q) q n (by go_simp) (by go_simp) w.heap.size q (filled s n q) 9 (by exact HQ.out) (List.replicate m (Value.string s)) (by exact E1.out) (fun _ => ⟨rfl, _, rfl, by exact E4.out⟩) (by exact E2.out) (by exact E3.out) w.heap.size w (by exact hbq.drew) (Nat.le_refl _) ?_; intro w4 hg4 hb4)
      have hg5 : w4.heap[w.heap.size]? = some (.cells (filled s n (q + m)).toArray 9 (0, 0)) := by rw [hg4.out, filled_splice s n q m hm2]
      have HG5 := Lib.hid hg5
      clear hg4 hg5
      have hmi : (q : Int) + (m : Int) ≤ n := by omega
      all_goals
        go_wp2
        go_roundg (n - (q + m))
        case measure => omega
        case rel => exact ⟨q + m, rfl, by simp; exact IntWalk.i64_in _ (by omega), by omega, hm2, HG5.out, hb4⟩
    · obtain rfl : q = n := by omega
      have hown : wr.ownsRow w.heap.size 9 1 (.slice (some ⟨w.heap.size, 0, none⟩) q q) q (strs (List.replicate q s)) := by
        refine ⟨by simp, .inr ⟨w.heap.size, q, _, rfl, Nat.le_refl _, HQ.out, Nat.le_refl _, by unfold maxLen; omega, by simp [filled], ?_⟩⟩
        simp [filled, strs]
      go_wp2_with fail
      go_ret
      exact ⟨_, rfl, hown, hbq⟩

/-- May a disk have so many blocks? -/
def sizeB (n : Int) : Bool := decide (128 ≤ n) && decide (n ≤ 4096) && decide (n % 16 = 0)

set_option maxHeartbeats 400000 in
theorem issize_any (n : Int) (w : World) (h : -9223372036854775808 ≤ n ∧ n ≤ 9223372036854775807) :
    Calls Try.prog 38 #[.int .i64 n] w fun e w' => e = .returned (.bool (sizeB n)) ∧ w = w' := by
  by_cases h1 : 128 ≤ n
  · by_cases h2 : n ≤ 4096
    · have hs : sizeB n = (n % 16 == 0) := by
        unfold sizeB
        simp [h1, h2]
        rw [Bool.eq_iff_iff]; simp
      have Hs := Lib.hid hs
      clear hs
      go_enter Try.func38, Try.ntmps38
      go_wp2
      go_ret
      exact ⟨by rw [Hs.out]; rfl, rfl⟩
    · have hs : sizeB n = false := by
        unfold sizeB
        simp [h2]
      have Hs := Lib.hid hs
      clear hs
      go_enter Try.func38, Try.ntmps38
      go_wp2
      go_ret
      exact ⟨by rw [Hs.out]; rfl, rfl⟩
  · have hs : sizeB n = false := by
      unfold sizeB
      simp [h1]
    have Hs := Lib.hid hs
    clear hs
    go_enter Try.func38, Try.ntmps38
    go_wp2
    go_ret
    exact ⟨by rw [Hs.out]; rfl, rfl⟩

/-- What a disk is: what was flushed, what is read, loose writes, operations, where the power goes, whether it is gone. -/
structure DS where
  safe : List ByteArray
  now : List ByteArray
  loose : List (Nat × ByteArray)
  ops : Nat
  cut : Int
  gone : Bool

def wcells (l : List (Nat × ByteArray)) : List Value := l.flatMap fun x => [.int .i64 x.1, .string x.2]

/-- A disk lies at block d; F: its own blocks. -/
def Dsk (w : World) (F : Nat → Prop) (d : Nat) (s : DS) : Prop :=
  ∃ (sb sc mb mc : Nat) (L : Value), w.heap[d]? = some (.cells #[.slice (some ⟨sb, 0, none⟩) s.now.length sc, .slice (some ⟨mb, 0, none⟩) s.now.length mc, L, .int .i64 s.ops, .int .i64 s.cut, .bool s.gone] 101 (0, 0)) ∧
    w.ownsRow 0 9 1 (.slice (some ⟨sb, 0, none⟩) s.now.length sc) s.now.length (strs s.safe) ∧ w.ownsRow 0 9 1 (.slice (some ⟨mb, 0, none⟩) s.now.length mc) s.now.length (strs s.now) ∧
    w.ownsRow 0 122 2 L s.loose.length (wcells s.loose) ∧ F d ∧ F sb ∧ F mb ∧ (∀ k, L.ownBlock = some k → F k) ∧ sb ≠ mb ∧ 0 < s.now.length

def OfPost (w : World) (B : Nat) (l : List ByteArray) (sb : Nat) (e : Ending) (w' : World) : Prop :=
  ∃ d, e = .returned (.pointer (some ⟨d, 0, none⟩)) ∧ Dsk w' (fun k => k = sb ∨ (B ≤ k ∧ k < w'.heap.size)) d ⟨l, l, [], 0, -1, false⟩ ∧ B ≤ d ∧ Below B w w'

set_option maxHeartbeats 1000000 in
set_option maxRecDepth 100000 in
theorem of_any (sb sc : Nat) (l : List ByteArray) (w : World) (hown : w.ownsRow 0 9 1 (.slice (some ⟨sb, 0, none⟩) l.length sc) l.length (strs l)) (h0 : 0 < l.length) (hl : l.length ≤ 8192) :
    Calls Try.prog 39 #[.slice (some ⟨sb, 0, none⟩) l.length sc] w (OfPost w w.heap.size l sb) := by
  obtain ⟨i0, hi, hz0, hz1, hz2⟩ := info_parts infoS
  have hlt := hown.lt sb rfl
  obtain ⟨A0, c0, ev, _, _, hrd⟩ := Rd.of_own hown
  obtain ⟨rfl, rfl⟩ : A0 = some ⟨sb, 0, none⟩ ∧ c0 = sc := by
    simp only [Value.slice.injEq, true_and] at ev
    exact ⟨ev.1.symm, ev.2.symm⟩
  clear ev
  have hll : (l.length : Int) ≤ 8192 := by omega
  generalize hn : l.length = n at *
  have Hn := Lib.hid hn
  clear hn
  go_enter Try.func39, Try.ntmps39
  go_wp2_with (first
    | (refine wpList_make_full _ rfl _ _ 43 rfl w.heap.size 9 i0 (.string ⟨#[]⟩) 1 Try.underlying43 hi hz0 hz1 _ _ _ _ n rfl rfl rfl rfl (by rw [hz2]; omega) (by unfold maxLen; omega) (Nat.le_refl _) ?_; intro w2 hown2 hg2; have hb2 : Below w.heap.size w w2 := (Below.refl _ _).grown hg2 (Nat.le_refl _) (by simp); have hrd2 := hrd.kept (Fr.of_grown hg2) (by simp))
    | (refine wpList_copy_full rfl (.tmp 7) (.tmp 8) 43 43 rfl 9 Try.underlying43 sizeS w.heap.size n n w.heap.size _ h0 rfl hown2 _ _ _ (strs l) rfl hrd2 (strs_one l) ?_; intro w3 hown3 hf3))
  go_ret
  have hz := hb2.size
  have hz3 := hf3.size
  have hm0 := hown2.lt w.heap.size rfl
  have hb3 : Below w.heap.size w w3 := hb2.trans (hf3.below hz (fun k hk => by omega))
  have hsb3 : w3.ownsRow 0 9 1 (.slice (some ⟨sb, 0, none⟩) n c0) n (strs l) := Fr.own (Fr.own hown (Fr.new hb2 (fun _ => False)) (fun _ _ => id)) hf3 (fun k hk e => (by have h9 : sb = k := (by simpa [Value.ownBlock] using hk); have e9 : k = w.heap.size := e; omega))
  have hnew := heap_alloc_new w3 (.cells #[.slice (some ⟨sb, 0, none⟩) n c0, .slice (some ⟨w.heap.size, 0, none⟩) n n, .slice none 0 0, .int .i64 0, .int .i64 (-1), .bool false] 101)
  refine ⟨w3.heap.size, rfl, ⟨sb, c0, w.heap.size, n, .slice none 0 0, ?_, ?_, ?_, World.ownsRow_nil _ _ _ _, .inr ⟨by omega, by simp⟩, .inl rfl, .inr ⟨Nat.le_refl _, by simp; omega⟩, by simp [Value.ownBlock], by omega, ?_⟩, by omega, hb3.alloc (by omega) _⟩
  · show _ = some (Obj.cells #[.slice (some ⟨sb, 0, none⟩) l.length c0, .slice (some ⟨w.heap.size, 0, none⟩) l.length n, .slice none 0 0, .int .i64 0, .int .i64 (-1), .bool false] 101 (0, 0))
    rw [Hn.out]
    exact hnew
  · show World.ownsRow _ 0 9 1 (.slice (some ⟨sb, 0, none⟩) l.length c0) l.length (strs l)
    rw [Hn.out]
    exact hsb3.alloc _
  · show World.ownsRow _ 0 9 1 (.slice (some ⟨w.heap.size, 0, none⟩) l.length n) l.length (strs l)
    rw [Hn.out]
    exact (own_base hown3 (Nat.zero_le _)).alloc _
  · show 0 < l.length
    rw [Hn.out]
    exact h0

/-- A block of bytes 0. -/
def zero : ByteArray := ⟨(Lib.repeatL [0] 512).toArray⟩

def NewPost (w : World) (n : Nat) (e : Ending) (w' : World) : Prop :=
  ∃ d, e = .returned (.tuple #[.pointer (some ⟨d, 0, none⟩), .int .i64 0]) ∧ Dsk w' (fun k => w.heap.size ≤ k ∧ k < w'.heap.size) d ⟨List.replicate n zero, List.replicate n zero, [], 0, -1, false⟩ ∧ w.heap.size ≤ d ∧ Below w.heap.size w w'

theorem Dsk.monoF {w : World} {F F' : Nat → Prop} {d : Nat} {s : DS} (h : Dsk w F d s) (hF : ∀ k, k < w.heap.size → F k → F' k) : Dsk w F' d s := by
  obtain ⟨sb, sc, mb, mc, L, h1, h2, h3, h4, f1, f2, f3, f4, h5⟩ := h
  exact ⟨sb, sc, mb, mc, L, h1, h2, h3, h4, hF _ (Array.getElem?_eq_some_iff.1 h1).1 f1, hF _ (h2.lt sb rfl).2 f2, hF _ (h3.lt mb rfl).2 f3, fun k hk => hF _ (h4.lt k hk).2 (f4 k hk), h5⟩

set_option maxHeartbeats 400000 in
theorem new_bad (n : Int) (w : World) (hi : -9223372036854775808 ≤ n ∧ n ≤ 9223372036854775807) (h : sizeB n = false) :
    Calls Try.prog 10 #[.int .i64 n] w fun e w' => e = .returned (.tuple #[.pointer none, .int .i64 40]) ∧ w = w' := by
  go_enter Try.func10, Try.ntmps10
  go_wp2_with fail
  refine (issize_any _ _ hi).mono ?_
  rintro e w1 ⟨rfl, rfl⟩
  rw [h]
  go_wp2_with fail
  go_ret2
  exact ⟨rfl, rfl⟩

set_option maxHeartbeats 400000 in
theorem new_ok (n : Nat) (w : World) (h : sizeB n = true) :
    Calls Try.prog 10 #[.int .i64 n] w (NewPost w n) := by
  have hb : 128 ≤ n ∧ n ≤ 4096 := by
    unfold sizeB at h
    simp at h
    omega
  go_enter Try.func10, Try.ntmps10
  go_wp2_with fail
  refine (issize_any _ _ (by omega)).mono ?_
  rintro e w1 ⟨rfl, rfl⟩
  rw [h]
  have hrep := Try.strings_Repeat ⟨#[0]⟩ 512 w (by omega) (by decide)
  go_wp2_with fail
  refine hrep.mono ?_
  rintro e w2 ⟨rfl, hb2⟩
  rw [show (ByteArray.mk (Lib.repeatL (ByteArray.mk #[0]).data.toList 512).toArray) = zero from rfl]
  go_wp2_with fail
  have hrd : Rd (fun k => k = w2.heap.size) (w2.alloc (.cells #[.string zero] 9)) 1 (some ⟨w2.heap.size, 0, none⟩) 1 [.string zero] := by
    refine ⟨rfl, fun _ => ⟨_, rfl, rfl, fun j u hu => ?_⟩⟩
    have hj : j = 0 := by have := (List.getElem?_eq_some_iff.1 hu).1; simpa using this
    subst hj
    have hn := heap_alloc_new w2 (.cells #[.string zero] 9)
    simp only [Addr.add, if_true, World.cell?, hn]
    simpa using hu
  refine (repeat_any _ _ n zero _ _ hrd (fun k hk => by simp; omega) (by omega) hb.2).mono ?_
  rintro e w3 ⟨v, rfl, hown, hb3⟩
  obtain ⟨g, cap, cur, rfl, hg, _⟩ := own_form hown (by omega)
  have hlen : (List.replicate n zero).length = n := List.length_replicate
  have hof := of_any g cap (List.replicate n zero) w3 (by rw [hlen]; exact own_base hown (Nat.zero_le _)) (by omega) (by omega)
  rw [hlen] at hof
  have hg3 := (hown.lt g rfl).2
  go_wp2_with fail
  refine hof.mono ?_
  rintro e w4 ⟨d, rfl, hD, hd, hb4⟩
  go_wp2_with fail
  go_ret2
  have hz2 := hb2.size
  have hz3 := hb3.size
  have hz4 := hb4.size
  simp at hg hz3
  refine ⟨d, rfl, hD.monoF (fun k hk h => ?_), by omega, ((hb2.alloc hz2 _).trans (hb3.mono (by simp; omega))).trans (hb4.mono (by omega))⟩
  rcases h with rfl | h
  · omega
  · omega
end Go.Proofs.Ytjmfeoenbncibaa
namespace Go.Proofs.Ytjmfeoenbncibaa
open Go.RowKit Go.Nau

theorem blk_cell {w : World} {d : Nat} {cs : Array Value} {t : TypeId} (h : w.heap[d]? = some (.cells cs t (0, 0))) (i : Nat) : w.cell? ⟨d, i, none⟩ = cs[i]? := cell_of_row w d i cs t (0, 0) h
theorem blk_frozen {w : World} {d : Nat} {cs : Array Value} {t : TypeId} (h : w.heap[d]? = some (.cells cs t (0, 0))) (i : Nat) : w.frozen? ⟨d, i, none⟩ = false := by simp [World.frozen?, h]
theorem blk_set {w : World} {d : Nat} {cs : Array Value} {t : TypeId} (h : w.heap[d]? = some (.cells cs t (0, 0))) (i : Nat) (u : Value) : (w.setCell ⟨d, i, none⟩ u).heap[d]? = some (.cells (cs.setIfInBounds i u) t (0, 0)) := by
  simp [World.setCell, Array.getElem?_modify, h]

/-- What a call leaves of a disk. -/
def DPost (w : World) (F : Nat → Prop) (d : Nat) (s : DS) (w' : World) : Prop :=
  ∃ F', Dsk w' F' d s ∧ (∀ k, F' k → F k ∨ (w.heap.size ≤ k ∧ k < w'.heap.size)) ∧ Fr F w w'

/-- The pointer's block as it reads. -/
def dcells (n sb sc mb mc : Nat) (L : Value) (ops : Nat) (cut : Int) (gone : Bool) : Array Value :=
  #[.slice (some ⟨sb, 0, none⟩) n sc, .slice (some ⟨mb, 0, none⟩) n mc, L, .int .i64 ops, .int .i64 cut, .bool gone]

theorem blocks_nil (w : World) : Calls Try.prog 42 #[.pointer none] w fun e w' => e = .returned (.int .i64 0) ∧ w = w' := by
  go_enter Try.func42, Try.ntmps42
  go_wp2
  go_ret
  exact ⟨rfl, rfl⟩
theorem ops_nil (w : World) : Calls Try.prog 16 #[.pointer none] w fun e w' => e = .returned (.int .i64 0) ∧ w = w' := by
  go_enter Try.func16, Try.ntmps16
  go_wp2
  go_ret
  exact ⟨rfl, rfl⟩
theorem loose_nil (w : World) : Calls Try.prog 33 #[.pointer none] w fun e w' => e = .returned (.int .i64 0) ∧ w = w' := by
  go_enter Try.func33, Try.ntmps33
  go_wp2
  go_ret
  exact ⟨rfl, rfl⟩
theorem image_nil (w : World) : Calls Try.prog 27 #[.pointer none] w fun e w' => e = .returned (.slice none 0 0) ∧ w = w' := by
  go_enter Try.func27, Try.ntmps27
  go_wp2
  go_ret
  exact ⟨rfl, rfl⟩
theorem read_nil (n : Int) (w : World) : Calls Try.prog 92 #[.pointer none, .int .i64 n] w fun e w' => e = .returned (.tuple #[.string ⟨#[]⟩, .int .i64 1]) ∧ w = w' := by
  go_enter Try.func92, Try.ntmps92
  go_wp2
  go_ret2
  exact ⟨rfl, rfl⟩
theorem cutat_nil (n : Int) (w : World) : Calls Try.prog 34 #[.pointer none, .int .i64 n] w fun e w' => e = .returned (.tuple #[]) ∧ w = w' := by
  go_enter Try.func34, Try.ntmps34
  go_wp2
  go_end0
  exact ⟨rfl, rfl⟩
theorem write_nil (n : Int) (s : ByteArray) (w : World) : Calls Try.prog 48 #[.pointer none, .int .i64 n, .string s] w fun e w' => e = .returned (.int .i64 1) ∧ w = w' := by
  go_enter Try.func48, Try.ntmps48
  go_wp2
  go_ret
  exact ⟨rfl, rfl⟩
theorem flush_nil (w : World) : Calls Try.prog 50 #[.pointer none] w fun e w' => e = .returned (.int .i64 1) ∧ w = w' := by
  go_enter Try.func50, Try.ntmps50
  go_wp2
  go_ret
  exact ⟨rfl, rfl⟩

section
variable {w : World} {F : Nat → Prop} {d : Nat} {s : DS}
theorem blocks_dsk (h : Dsk w F d s) : Calls Try.prog 42 #[.pointer (some ⟨d, 0, none⟩)] w fun e w' => e = .returned (.int .i64 s.now.length) ∧ w = w' := by
  obtain ⟨sb, sc, mb, mc, L, hd, _⟩ := h
  have c1 := blk_cell hd 1
  simp at c1
  go_enter Try.func42, Try.ntmps42
  go_wp2
  go_ret
  exact ⟨rfl, rfl⟩
theorem ops_dsk (h : Dsk w F d s) : Calls Try.prog 16 #[.pointer (some ⟨d, 0, none⟩)] w fun e w' => e = .returned (.int .i64 s.ops) ∧ w = w' := by
  obtain ⟨sb, sc, mb, mc, L, hd, _⟩ := h
  have c1 := blk_cell hd 3
  simp at c1
  go_enter Try.func16, Try.ntmps16
  go_wp2
  go_ret
  exact ⟨rfl, rfl⟩
theorem loose_dsk (h : Dsk w F d s) : Calls Try.prog 33 #[.pointer (some ⟨d, 0, none⟩)] w fun e w' => e = .returned (.int .i64 s.loose.length) ∧ w = w' := by
  obtain ⟨sb, sc, mb, mc, L, hd, _, _, hL, _⟩ := h
  obtain ⟨A, c, rfl, _⟩ := Rd.of_own hL
  have c1 := blk_cell hd 2
  simp at c1
  go_enter Try.func33, Try.ntmps33
  go_wp2
  go_ret
  exact ⟨rfl, rfl⟩

set_option maxHeartbeats 400000 in
theorem read_ok (h : Dsk w F d s) (k : Nat) (x : ByteArray) (hx : s.now[k]? = some x) : Calls Try.prog 92 #[.pointer (some ⟨d, 0, none⟩), .int .i64 k] w fun e w' => e = .returned (.tuple #[.string x, .int .i64 0]) ∧ w = w' := by
  obtain ⟨sb, sc, mb, mc, L, hd, _, hM, _⟩ := h
  have c1 := blk_cell hd 1
  simp at c1
  have hk : k < s.now.length := (List.getElem?_eq_some_iff.1 hx).1
  have hki : (k : Int) < (s.now.length : Int) := by omega
  obtain ⟨hc, _⟩ := own_at hM (strs_at hx)
  clear hx
  go_enter Try.func92, Try.ntmps92
  go_wp2
  go_ret2
  exact ⟨rfl, rfl⟩
set_option maxHeartbeats 400000 in
theorem read_bad (h : Dsk w F d s) (k : Int) (hk : k < 0 ∨ (s.now.length : Int) ≤ k) : Calls Try.prog 92 #[.pointer (some ⟨d, 0, none⟩), .int .i64 k] w fun e w' => e = .returned (.tuple #[.string ⟨#[]⟩, .int .i64 41]) ∧ w = w' := by
  obtain ⟨sb, sc, mb, mc, L, hd, _, hM, _⟩ := h
  have c1 := blk_cell hd 1
  simp at c1
  rcases hk with hk | hk
  · go_enter Try.func92, Try.ntmps92
    go_wp2
    go_ret2
    exact ⟨rfl, rfl⟩
  · have hk0 : ¬ k < 0 := by omega
    go_enter Try.func92, Try.ntmps92
    go_wp2
    go_ret2
    exact ⟨rfl, rfl⟩

set_option maxHeartbeats 400000 in
theorem image_dsk (h : Dsk w F d s) (hn : s.now.length ≤ 8192) : Calls Try.prog 27 #[.pointer (some ⟨d, 0, none⟩)] w fun e w' =>
    ∃ v, e = .returned v ∧ w'.ownsRow w.heap.size 9 1 v s.now.length (strs s.now) ∧ Below w.heap.size w w' := by
  obtain ⟨sb, sc, mb, mc, L, hd, _, hM, _⟩ := h
  have c1 := blk_cell hd 1
  simp at c1
  have hcl := Try.slices_Clone_string mb 0 s.now.length mc s.now w (Nat.le_refl _) (by omega) (fun j hj => by
    have := (own_at hM (strs_at (List.getElem?_eq_getElem hj))).1
    rw [Nat.zero_add, this]
    simp [List.getD, List.getElem?_eq_getElem hj])
  rw [List.take_length] at hcl
  have HC := Lib.hid hcl
  clear hcl
  go_enter Try.func27, Try.ntmps27
  go_wp2_with fail
  refine HC.out.mono ?_
  rintro e w2 ⟨v, rfl, hown, _, hb⟩
  go_wp2_with fail
  go_ret
  exact ⟨v, rfl, hown, hb⟩

/-- Only the three last fields have turned. -/
theorem Dsk.turned {w' : World} {s' : DS} (h : Dsk w F d s) (hf : Fr (· = d) w w') (h1 : s'.safe = s.safe) (h2 : s'.now = s.now) (h3 : s'.loose = s.loose)
    (hc : ∀ sb sc mb mc L, w.heap[d]? = some (.cells (dcells s.now.length sb sc mb mc L s.ops s.cut s.gone) 101 (0, 0)) → w'.heap[d]? = some (.cells (dcells s.now.length sb sc mb mc L s'.ops s'.cut s'.gone) 101 (0, 0))) : DPost w F d s' w' := by
  obtain ⟨sb, sc, mb, mc, L, hd, o1, o2, o3, f0, f1, f2, f3, h4⟩ := h
  have hx := hc sb sc mb mc L hd
  refine ⟨F, ⟨sb, sc, mb, mc, L, ?_, ?_, ?_, ?_, f0, f1, f2, f3, ?_⟩, fun k hk => .inl hk, hf.mono (fun k hk => by subst hk; exact f0)⟩
  · rw [h2]
    exact hx
  · rw [h1, h2]
    exact Fr.own o1 hf (fun k hk => own_ne o1 hd (by decide) k hk)
  · rw [h2]
    exact Fr.own o2 hf (fun k hk => own_ne o2 hd (by decide) k hk)
  · rw [h3]
    exact Fr.own o3 hf (fun k hk => own_ne o3 hd (by decide) k hk)
  · rw [h2]
    exact h4

theorem Fr.set1 (w : World) (d i : Nat) (u : Value) : Fr (· = d) w (w.setCell ⟨d, i, none⟩ u) := Fr.setCell (S := (· = d)) (p := ⟨d, i, none⟩) (Fr.refl _ _) (fun _ => rfl) _
theorem Fr.drewN (S : Nat → Prop) (w : World) (n : Nat) : Fr S w (w.drewN n) := Fr.new (below_drewN (Below.refl _ _) n) S

set_option maxHeartbeats 400000 in
theorem cutat_dsk (h : Dsk w F d s) (c : Int) : Calls Try.prog 34 #[.pointer (some ⟨d, 0, none⟩), .int .i64 c] w fun e w' => e = .returned (.tuple #[]) ∧ DPost w F d { s with cut := c, gone := false } w' := by
  have h0 := h
  obtain ⟨sb, sc, mb, mc, L, hd, _⟩ := h
  have c4 := blk_cell hd 4
  have c5 := blk_cell hd 5
  have z4 := blk_frozen hd 4
  have z5 := blk_frozen hd 5
  simp at c4 c5
  go_enter Try.func34, Try.ntmps34
  go_wp2
  go_end0
  refine ⟨rfl, h0.turned ((Fr.set1 _ _ _ _).trans (Fr.set1 _ _ _ _)) rfl rfl rfl (fun sb sc mb mc L hd => ?_)⟩
  rw [blk_set (blk_set hd 4 _) 5 _]
  rfl

/-- Is the power gone? -/
def offB (s : DS) : Bool := s.gone || (decide (0 ≤ s.cut) && decide (s.cut ≤ s.ops))

set_option maxHeartbeats 1000000 in
theorem off_dsk (h : Dsk w F d s) : Calls Try.prog 80 #[.pointer (some ⟨d, 0, none⟩)] w fun e w' => e = .returned (.bool (offB s)) ∧ DPost w F d { s with gone := offB s } w' := by
  have h0 := h
  obtain ⟨sb, sc, mb, mc, L, hd, _⟩ := h
  have c3 := blk_cell hd 3
  have c4 := blk_cell hd 4
  have c5 := blk_cell hd 5
  have z5 := blk_frozen hd 5
  simp at c3 c4 c5
  have fin1 : ∀ q, offB s = true → DPost w F d { s with gone := offB s } ((w.drewN q).setCell ⟨d, 5, none⟩ (.bool true)) := fun q ho =>
    h0.turned ((Fr.drewN _ _ q).trans (Fr.set1 _ _ _ _)) rfl rfl rfl (fun sb sc mb mc L hd => by
      rw [ho, blk_set (w := w.drewN q) hd 5 _]
      rfl)
  have fin2 : ∀ q, offB s = s.gone → DPost w F d { s with gone := offB s } (w.drewN q) := fun q ho =>
    h0.turned (Fr.drewN _ _ q) rfl rfl rfl (fun sb sc mb mc L hd => by
      rw [ho]
      exact hd)
  have F1 := Lib.hid fin1
  have F2 := Lib.hid fin2
  clear fin1 fin2
  by_cases g1 : 0 ≤ s.cut
  · by_cases g2 : s.cut ≤ s.ops
    · have ho : offB s = true := by simp [offB, g1, g2]
      have HO := Lib.hid ho
      clear ho
      go_enter Try.func80, Try.ntmps80
      go_wp2
      go_quiet (fail)
      rename_i nq
      go_wp2
      go_ret
      exact ⟨by rw [HO.out]; rfl, F1.out nq HO.out⟩
    · have ho : offB s = s.gone := by simp [offB, g1, g2]
      have HO := Lib.hid ho
      clear ho
      go_enter Try.func80, Try.ntmps80
      go_wp2
      go_quiet (fail)
      rename_i nq
      go_wp2
      go_ret
      exact ⟨by rw [HO.out]; rfl, F2.out nq HO.out⟩
  · have ho : offB s = s.gone := by simp [offB, g1]
    have g1' : decide (0 ≤ s.cut) = false := by simpa using g1
    have HO := Lib.hid ho
    clear ho
    go_enter Try.func80, Try.ntmps80
    go_wp2
    go_quiet (fail)
    rename_i nq
    go_wp2
    go_ret
    exact ⟨by rw [HO.out]; rfl, F2.out nq HO.out⟩
end
end Go.Proofs.Ytjmfeoenbncibaa

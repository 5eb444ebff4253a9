/- The reference disk: size, block, settled, off, Read, CutAt, Same: contracts over the given program. -/
import Derived.Test.YtjpmohennekbaaaDh
namespace Go.Proofs.Ytjpmohennekbaaa
open Go.RowKit Go.Nau Go.Shelf
attribute [local go_sem] Oper.semAt_some

set_option maxHeartbeats 400000 in
theorem rsize_any (n : Int) (w : World) (h : -9223372036854775808 ≤ n ∧ n ≤ 9223372036854775807) :
    Calls Try.prog 51 #[.int .i64 n] w fun e w' => e = .returned (.bool (sizeB n)) ∧ w = w' := by
  by_cases h1 : 128 ≤ n
  · by_cases h2 : n ≤ 4096
    · have hs : sizeB n = (n % 16 == 0) := by
        unfold sizeB
        simp [h1, h2]
        rw [Bool.eq_iff_iff]; simp
      have Hs := Lib.hid hs
      clear hs
      go_enter Try.func51, Try.ntmps51
      go_wp2
      go_ret
      exact ⟨by rw [Hs.out]; rfl, rfl⟩
    · have hs : sizeB n = false := by
        unfold sizeB
        simp [h2]
      have Hs := Lib.hid hs
      clear hs
      go_enter Try.func51, Try.ntmps51
      go_wp2
      go_ret
      exact ⟨by rw [Hs.out]; rfl, rfl⟩
  · have hs : sizeB n = false := by
      unfold sizeB
      simp [h1]
    have Hs := Lib.hid hs
    clear hs
    go_enter Try.func51, Try.ntmps51
    go_wp2
    go_ret
    exact ⟨by rw [Hs.out]; rfl, rfl⟩

/-- A block of a text's bytes. -/
def blockS (s : ByteArray) : ByteArray := s ++ zeroN (512 - s.size)
theorem blockS_size (s : ByteArray) (h : s.size ≤ 512) : (blockS s).size = 512 := by
  unfold blockS
  rw [ByteArray.size_append, zeroN_size]
  omega

set_option maxHeartbeats 400000 in
set_option maxRecDepth 100000 in
theorem rblock_any (s : ByteArray) (h : s.size ≤ 512) (w : World) :
    Calls Try.prog 52 #[.string s] w fun e w' => e = .returned (.string (blockS s)) ∧ Below w.heap.size w w' := by
  obtain ⟨i0, hi, hz0, hz1, hz2⟩ := info_parts infoB
  have hcz : ∀ {W W' : World} {n : Nat}, W'.ownsRow W.heap.size 5 1 (.slice (some ⟨W.heap.size, 0, none⟩) n n) n (madeCells (Value.int .u8 0).cells (n * 1)).toList → (convert 76 9 (.slice (some ⟨W.heap.size, 0, none⟩) n n)).run Try.prog W' = .ok (.string (zeroN n)) W' := fun h => conv_made h
  have hb : blockS s = s ++ zeroN (512 - s.size) := rfl
  obtain ⟨n, hn⟩ : ∃ n, n = 512 - s.size := ⟨_, rfl⟩
  have hni : (512 : Int) - (s.size : Int) = (n : Int) := by omega
  have hzs := zeroN_size n
  rw [← hn] at hb
  generalize blockS s = bs at *
  have HB := Lib.hid hb
  have hn6 : ¬ 9223372036854775807 < s.size + (zeroN n).size := by omega
  have hn5 : n ≤ 512 := by omega
  clear hb hn
  go_enter Try.func52, Try.ntmps52
  go_wp2_with (at_make; refine wpList_make_full _ rfl _ _ 76 rfl w.heap.size 5 i0 (.int .u8 0) 1 Try.underlying76 hi hz0 hz1 _ _ _ _ n rfl rfl rfl rfl (by rw [hz2]; omega) (by unfold maxLen; omega) (Nat.le_refl _) ?_; intro w2 hown2 hg2; have hb2 : Below w.heap.size w w2 := (Below.refl _ _).grown hg2 (Nat.le_refl _) (by simp); have hcv := hcz hown2; clear hown2 hg2)
  go_ret
  exact ⟨by rw [HB.out]; rfl, hb2⟩

/-- Blocks, behind writes. -/
def settledL (b : List ByteArray) (l : List (Nat × ByteArray)) : List ByteArray := l.foldl (fun b x => b.set x.1 x.2) b
theorem settledL_snoc (b : List ByteArray) (l : List (Nat × ByteArray)) (x : Nat × ByteArray) : settledL b (l ++ [x]) = (settledL b l).set x.1 x.2 := by simp [settledL]
theorem settledL_length (b : List ByteArray) (l : List (Nat × ByteArray)) : (settledL b l).length = b.length := by
  induction l generalizing b with
  | nil => rfl
  | cons x l ih =>
    show (settledL (b.set x.1 x.2) l).length = _
    rw [ih, List.length_set]

def SetRel (w0 : World) (g gc n : Nat) (b : List ByteArray) (l : List (Nat × ByteArray)) (k : Nat) (i : Value) (wr : World) : Prop :=
  ∃ q : Nat, k = l.length - q ∧ i = .int .i64 q ∧ q ≤ l.length ∧ wr.ownsRow w0.heap.size 9 1 (.slice (some ⟨g, 0, none⟩) n gc) n (strs (settledL b (l.take q))) ∧ Below w0.heap.size w0 wr

def SetPost (w : World) (n : Nat) (x : List ByteArray) (e : Ending) (w' : World) : Prop :=
  ∃ g gc, e = .returned (.slice (some ⟨g, 0, none⟩) n gc) ∧ w.heap.size ≤ g ∧ w'.ownsRow w.heap.size 9 1 (.slice (some ⟨g, 0, none⟩) n gc) n (strs x) ∧ Below w.heap.size w w'

set_option maxHeartbeats 2000000 in
set_option maxRecDepth 100000 in
theorem settled_any (A A2 : Option Addr) (n ca c2 : Nat) (b : List ByteArray) (l : List (Nat × ByteArray)) (w : World) (hr : Rd (· < w.heap.size) w 1 A n (strs b)) (hr2 : Rd (· < w.heap.size) w 2 A2 l.length (wcells l))
    (hl : ∀ x ∈ l, x.1 < n) (h0 : 0 < n) (hn : n ≤ 8192) (hm : l.length ≤ 1073741824) :
    Calls Try.prog 54 #[.slice A n ca, .slice A2 l.length c2] w (SetPost w n (settledL b l)) := by
  obtain ⟨i0, hi, hz0, hz1, hz2⟩ := info_parts infoS
  have hmi : (l.length : Int) ≤ 1073741824 := by omega
  have hbl : b.length = n := by have := hr.1; simpa using this
  have HR := Lib.hid hr
  have HR2 := Lib.hid hr2
  clear hr hr2
  go_enter Try.func54, Try.ntmps54
  go_wp2_with (first
    | (at_make; refine wpList_make_own _ rfl _ _ 22 rfl w.heap.size 9 i0 (.string ⟨#[]⟩) 1 Try.underlying22 hi hz0 hz1 _ _ _ n rfl rfl rfl (by rw [hz2]; omega) (by unfold maxLen; omega) (Nat.le_refl _) ?_; intro w2 hown2 hg2; have hb2 : Below w.heap.size w w2 := (Below.refl _ _).grown hg2 (Nat.le_refl _) (by simp); have hrd2 := HR.out.kept (Fr.of_grown hg2) (by simp))
    | (at_builtin; refine wpList_append_rd _ rfl (.tmp 9) (.tmp 10) 22 rfl w.heap.size 9 i0 _ 1 16 Try.underlying22 hi hz0 hz1 hz2 rfl (by decide) _ 0 [] rfl hown2 _ A n ca (strs b) rfl hrd2 (strs_one b) (by unfold maxLen; omega) (by omega) hb2.size ?_; intro v3 w3 hown3 hg3 hat3))
  have hg3' : w2.grownBy w3 (some w.heap.size) := hg3
  have hb3 : Below w.heap.size w w3 := hb2.trans ((Fr.of_grown hg3').below hb2.size (fun k e => by injection e with e; omega))
  rw [Nat.zero_add, List.nil_append] at hown3
  obtain ⟨g, gc, cur, rfl, hgb, _⟩ := own_form hown3 h0
  clear hg3 hg3' hat3 hown2 hg2 hrd2 hb2
  have HO3 := Lib.hid hown3
  clear hown3
  go_loopg [6] l.length (SetRel w g gc n b l)
  case atStart => exact ⟨0, rfl, rfl, Nat.zero_le _, HO3.out, hb3⟩
  case round =>
    obtain ⟨q, rfl, rfl, hq, hown, hb⟩ := hrel
    clear HO3 hb3
    by_cases hlt : q < l.length
    · have hlti : (q : Int) < (l.length : Int) := by omega
      obtain ⟨x, hx⟩ : ∃ x, l[q]? = some x := ⟨_, List.getElem?_eq_getElem hlt⟩
      obtain ⟨ad, rfl, _, hcell⟩ := (HR2.out.kept (Fr.of_below hb) (fun k hk => by omega)).2 (by omega)
      obtain ⟨g0, g1⟩ := wcells_get _ _ _ hx
      have e0 := hcell _ _ g0
      have e1 := hcell _ _ g1
      rw [← Go.Nau.add_add] at e1
      have e1' : wr.cell? ⟨(ad.add (q * 2)).block, (ad.add (q * 2)).off + 1, none⟩ = some (.string x.2) := e1
      have hxn := hl x (List.mem_of_getElem? hx)
      have hxni : (x.1 : Int) < (n : Int) := by omega
      obtain ⟨old, hold⟩ : ∃ old, (settledL b (l.take q))[x.1]? = some old := ⟨_, List.getElem?_eq_getElem (by rw [settledL_length]; omega)⟩
      obtain ⟨m0, m1⟩ := own_at hown (strs_at hold)
      have hsn : settledL b (l.take (q + 1)) = (settledL b (l.take q)).set x.1 x.2 := by
        rw [← settledL_snoc, List.take_add_one, hx]
        rfl
      have fin : ∀ nq, ((wr.drewN nq).setCell ⟨g, x.1, none⟩ (.string x.2)).ownsRow w.heap.size 9 1 (.slice (some ⟨g, 0, none⟩) n gc) n (strs (settledL b (l.take (q + 1)))) ∧ Below w.heap.size w ((wr.drewN nq).setCell ⟨g, x.1, none⟩ (.string x.2)) := by
        intro nq
        refine ⟨?_, (below_drewN hb nq).setCell hgb _⟩
        have := own_set (Fr.own hown (Fr.drewN (fun _ => False) wr nq) (fun _ _ => id)) x.1 (.string x.2)
        rw [hsn, show strs ((settledL b (l.take q)).set x.1 x.2) = (strs (settledL b (l.take q))).set x.1 (.string x.2) by simp [strs, List.map_set]]
        exact this
      have FI := Lib.hid fin
      clear fin hsn hold hown hcell e1 g0 g1 hx hl
      go_wp2_with fail
      refine wpIn_wide.1 (wpIn_region_last_lit (F := Fence.wide) (n := 1) (by simp) (by kernel_rfl) rfl (by kernel_rfl) (by kernel_rfl) ?_)
      dsimp only [List.dropLast, List.getLast]
      repeat (gi_big_quiet_step (fail))
      refine wpQuietIn_nil ?_
      rintro w' ⟨nq, rfl⟩
      go_simp
      go_wp2_with fail
      go_roundg (l.length - (q + 1))
      case measure => omega
      case rel => exact ⟨q + 1, rfl, by simp, by omega, (FI.out nq).1, (FI.out nq).2⟩
    · obtain rfl : q = l.length := by omega
      rw [List.take_length] at hown
      have HO := Lib.hid hown
      clear hown
      go_wp2_with fail
      go_ret
      exact ⟨g, gc, rfl, hgb, HO.out, hb⟩
end Go.Proofs.Ytjpmohennekbaaa

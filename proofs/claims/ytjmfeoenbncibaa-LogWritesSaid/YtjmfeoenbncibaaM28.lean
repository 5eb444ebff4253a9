/- Texts of this proof, joined: Lm Ln. They hold under no condition beyond what each theorem states. -/
import Derived.Test.YtjmfeoenbncibaaM27
namespace Go.Proofs.Ytjmfeoenbncibaa
open Go.RowKit Go.Nau Go.Shelf
attribute [local go_sem] Oper.semAt_some

def ScPost (w : World) (d : Nat) (now : List ByteArray) (p : Int) (sq : Nat) (nx : Int) (e : Ending) (w' : World) : Prop :=
  (beginB now.length p sq nx = false ∧ e = .returned (.tuple #[.slice none 0 0, .pointer none, .int .i64 151]) ∧ w' = w) ∨
  (beginB now.length p sq nx = true ∧ ∃ N v, ScanN now (beginL p sq nx) N ∧ e = .returned (.tuple #[v, .pointer (some ⟨w.heap.size, 0, none⟩), .int .i64 0]) ∧ FRow w' (w.heap.size + 1) v (fndL now (beginL p sq nx) N) ∧
    Lg w' w.heap.size d (stL now (beginL p sq nx) N) ∧ Below w.heap.size w w')

/-- What the caller of the iterator keeps: the list so far. -/
def CIn (now : List ByteArray) (l : LS) (N : Nat) (w : World) (pre : List FV) (W : World) : Prop :=
  pre.map FV.f = fndL now l pre.length ∧ Below w.heap.size w W ∧ w.heap.size + 5 ≤ W.heap.size ∧ ∃ v, W.heap[w.heap.size + 1]? = some (.cells #[v] 31 (0, 0)) ∧ W.ownsRow (w.heap.size + 5) 81 8 v pre.length (fvsC pre) ∧
    ∀ x ∈ pre, FIn (fun k => w.heap.size + 5 ≤ k ∧ k < W.heap.size ∧ v.ownBlock ≠ some k) W x
theorem CIn.fr {now : List ByteArray} {l : LS} {N : Nat} {w A A' : World} {pre : List FV} {S : Nat → Prop} (h : CIn now l N w pre A) (hf : Fr S A A') (h1 : ∀ k, S k → w.heap.size ≤ k ∧ k ≠ w.heap.size + 1 ∧ k < w.heap.size + 5) : CIn now l N w pre A' := by
  obtain ⟨a1, a2, a3, v, a4, a5, a6⟩ := h
  have hs := hf.size
  refine ⟨a1, a2.trans (hf.below a2.size (fun k hk => (h1 k hk).1)), by omega, v, hf.get (fun e => (h1 _ e).2.1 rfl) a4, Fr.own a5 hf (fun k hk e => ?_), fun x hx => ?_⟩
  · have := (a5.lt k hk).1
    have := (h1 k e).2.2
    omega
  · exact ((a6 x hx).kept hf (fun k hk e => by have := (h1 k e).2.2; omega)).mono (fun k hk => ⟨hk.1, by omega, hk.2.2⟩)

/-- What is told with a record. -/
def CAdm (now : List ByteArray) (l : LS) (N d bk : Nat) (w : World) (pre : List FV) (x : FV) (W : World) : Prop :=
  pre.length < N ∧ x.f = fndAt now (stL now l pre.length) ∧ Lg W w.heap.size d (stL now l (pre.length + 1)) ∧ ∃ A, CIn now l N w pre A ∧ Fr (fun k => k = w.heap.size ∨ k = bk) A W ∧ FIn (fun k => A.heap.size ≤ k ∧ k < W.heap.size) W x
theorem CAdm.fr {now : List ByteArray} {l : LS} {N d bk : Nat} {w W W' : World} {pre : List FV} {x : FV} (h : CAdm now l N d bk w pre x W) (hf : Fr (· = bk) W W') (hb : w.heap.size < bk) (hb5 : bk < w.heap.size + 5) : CAdm now l N d bk w pre x W' := by
  obtain ⟨a1, a2, a3, A, a4, a5, a6⟩ := h
  refine ⟨a1, a2, hf.get (by omega) a3, A, a4, a5.trans (hf.mono (fun k e => .inr e)), (a6.kept hf (fun k hk e => ?_)).mono (fun k hk => ⟨hk.1, by have := hf.size; omega⟩)⟩
  have := a4.2.2.1
  omega
/-- What the caller's list is behind one more. -/
theorem CIn.step {now : List ByteArray} {l : LS} {N d bk : Nat} {w W W1 w3 : World} {pre : List FV} {x : FV} {v v3 : Value} (h : CIn now l N w pre W) (hv : W.heap[w.heap.size + 1]? = some (.cells #[v] 31 (0, 0))) (ha : CAdm now l N d bk w pre x W) (hbk : w.heap.size + 1 < bk) (hbk5 : bk < w.heap.size + 5) (hf : Fr (fun _ => False) W W1)
    (hg : W1.grownBy w3 v.ownBlock) (hat : v3.ownBlock = v.ownBlock ∨ v3.ownBlock = some W1.heap.size) (hown : w3.ownsRow (w.heap.size + 5) 81 8 v3 (pre.length + 1) (fvsC pre ++ fvC x)) :
    CIn now l N w (pre ++ [x]) (w3.setCell ⟨w.heap.size + 1, 0, none⟩ v3) ∧ Fr (fun k => k = w.heap.size + 1 ∨ w.heap.size + 5 ≤ k) W (w3.setCell ⟨w.heap.size + 1, 0, none⟩ v3) := by
  obtain ⟨a1, a2, a3, v', a4, a5, a6⟩ := h
  have ev : v' = v := by
    rw [hv] at a4
    injection a4 with a4
    injection a4 with a4
    simpa using a4.symm
  subst ev
  obtain ⟨b1, b2, b3, A, b4, b5, b6⟩ := ha
  obtain ⟨c1, c2, c3, vA, c4, c5, c6⟩ := b4
  have evA : vA = v' := by
    have := b5.get (by omega) c4
    rw [hv] at this
    injection this with this
    injection this with this
    simpa using this.symm
  subst evA
  have hlt : ∀ k, vA.ownBlock = some k → w.heap.size + 5 ≤ k ∧ k < A.heap.size := fun k hk => c5.lt k hk
  have hs1 := hf.size
  have hs3 := hg.size
  have hne : ∀ k, vA.ownBlock = some k → k ≠ w.heap.size + 1 := fun k hk e => by have := hlt k hk; omega
  have hwx : W1.heap[w.heap.size + 1]? = some (.cells #[vA] 31 (0, 0)) := hf.get id hv
  have hw3 : w3.heap[w.heap.size + 1]? = some (.cells #[vA] 31 (0, 0)) := (Fr.of_grown hg).get (fun e => hne _ e.symm rfl) hwx
  have fs : Fr (· = w.heap.size + 1) w3 (w3.setCell ⟨w.heap.size + 1, 0, none⟩ v3) := Fr.set1 _ _ _ _
  have hAW := b5.size
  have hmid := fin_snoc (W := A) (W1 := W1) (w3 := w3) (base := w.heap.size + 5) (v' := v3) (x := x) c6 (b5.trans (hf.mono (fun _ h => h.elim))) (fun k hk e => by omega) ((b6.kept hf (fun _ _ => id)).mono (fun k hk => ⟨hk.1, by omega⟩)) hg hat (fun k hk => (c5.lt k hk).2) c3
  · refine ⟨⟨?_, ?_, ?_, v3, blk_set hw3 0 v3, ?_, fun y hy => ?_⟩, ?_⟩
    · rw [List.map_append, a1, List.length_append, List.length_singleton, fndL_succ, List.map_singleton, b2]
    · refine a2.trans ((((hf.mono (T := fun k => w.heap.size ≤ k) (fun _ h => h.elim)).trans ((Fr.of_grown hg).mono (T := fun k => w.heap.size ≤ k) (fun k e => by have := hlt k e.symm; omega))).trans (fs.mono (T := fun k => w.heap.size ≤ k) (fun k e => by omega))).below a2.size (fun k hk => hk))
    · have := fs.size
      omega
    · rw [List.length_append, List.length_singleton, fvsC_snoc]
      exact Fr.own hown fs (fun k hk e => by have := (hown.lt k hk).1; omega)
    · exact ((hmid y hy).kept fs (fun k hk e => by omega)).mono (fun k hk => ⟨hk.1, by have := fs.size; omega, hk.2.2⟩)
    · exact ((hf.mono (fun _ h => h.elim)).trans ((Fr.of_grown hg).mono (fun k e => .inr (hlt k e.symm).1))).trans (fs.mono (fun k e => .inl e))
set_option maxHeartbeats 4000000 in
set_option maxRecDepth 100000 in
theorem scan_core (d : Nat) (p : Int) (sq : Nat) (nx : Int) (now : List ByteArray) (w : World) (hB : Calls Try.prog 11 #[.pointer (some ⟨d, 0, none⟩), .int .i64 p, .int .u64 sq, .int .i64 nx] w (BegPost w d now.length p sq nx))
    (h16 : now.length % 16 = 0) (h4 : now.length ≤ 4096)
    (hT : ∀ W l, Below w.heap.size w W → LOk now.length l → Lg W w.heap.size d l → Calls Try.prog 74 #[.pointer (some ⟨w.heap.size, 0, none⟩)] W (ThPost W now l)) :
    Calls Try.prog 12 #[.pointer (some ⟨d, 0, none⟩), .int .i64 p, .int .u64 sq, .int .i64 nx] w (ScPost w d now p sq nx) := by
  have HB := Lib.hid hB
  have HT := Lib.hid hT
  clear hB hT
  refine (callsIn_wide (n := 9)).1 (callsIn_of_wp_marks Try.func12 rfl trivial ?_ rfl)
  simp only [Try.ntmps12, List.size_toArray, List.length_nil, List.length_cons, Nat.reduceSub, Nat.reduceAdd, Array.replicate_succ, Array.replicate_zero, List.push_toArray, List.append_toArray, List.nil_append, List.cons_append]
  refine wpIn_wide.2 ?_
  go_wp2_with fail
  refine HB.out.mono ?_
  rintro e w1 hb
  rcases hb with ⟨hb, rfl, hl, hbe, hsz⟩ | ⟨hb, rfl, rfl⟩
  case inr =>
    have HBB := Lib.hid hb
    clear hb
    go_wp2_with fail
    exact ⟨_, results_tmp3 rfl _ _ _, .inl ⟨HBB.out, rfl, rfl⟩⟩
  have hlo := beginL_ok h16 h4 hb
  have HBB := Lib.hid hb
  clear hb
  obtain ⟨N, hN⟩ := scanN_ex now (beginL p sq nx)
  generalize hL : beginL p sq nx = l at *
  have HN := Lib.hid hN
  have HLO := Lib.hid hlo
  have HL := Lib.hid hL
  have HLG := Lib.hid hl
  have HBE := Lib.hid hbe
  clear hN hlo hL hl hbe
  obtain ⟨i0, hi0, hiz0, hiz1, hiz2⟩ := info_parts infoF
  go_wp2_with fail
  refine (records_any _ _).mono ?_
  rintro e w2 ⟨rfl, hw2⟩
  simp only [World.size_alloc] at hw2 ⊢
  rw [hsz]
  have hbe1 := HBE.out
  have hw2s : w2.heap.size = w.heap.size + 3 := by rw [hw2]; simp; omega
  have hob : w2.heap[w.heap.size + 1]? = some (.cells #[.slice none 0 0] 31 (0, 0)) := by
    rw [hw2]
    have := heap_alloc_new w1 (.cells #[.slice none 0 0] 31)
    rw [hsz] at this
    exact old_alloc this _
  have hbx : w2.heap[w.heap.size + 1 + 1]? = some (.cells #[.pointer (some ⟨w.heap.size, 0, none⟩)] 28 (0, 0)) := by
    rw [hw2]
    have := heap_alloc_new (w1.alloc (.cells #[.slice none 0 0] 31)) (.cells #[.pointer (some ⟨w.heap.size, 0, none⟩)] 28)
    rw [World.size_alloc, hsz] at this
    exact this
  have hlg2 : Lg w2 w.heap.size d l := by rw [hw2]; exact old_alloc (old_alloc HLG.out _) _
  have hbw2 : Below w.heap.size w w2 := by rw [hw2]; exact (hbe1.alloc (by omega) _).alloc (by simp; omega) _
  clear hw2 hbe1
  go_wp2_with fail
  refine wpIn_wide.1 (rangeFunc_exitA (n := 8) rfl (by omega) (gf := 73) (lb := #[.pointer (some ⟨w.heap.size + 1 + 1, 0, none⟩)]) rfl trivial (enters_of Try.func73 (by kernel_rfl) rfl)
    (fun x : FV => #[.agg (fndV x.f x.A x.c x.B x.c2)]) (fun _ => rfl) (fun A B => Fr (fun k => w.heap.size < k ∧ k ≠ w.heap.size + 1 + 1) A B) (fun ys => ys.length = N) (fun _ => False) (fun pre x W => CAdm now l N d (w.heap.size + 4) w pre x W)
    (fun h k => Fr.trans h k) (fun A o h => (Fr.of_grown (grownBy_putObj' A _ o)).mono (fun k e => by injection e with e; omega))
    (fun pre W => CIn now l N w pre W ∧ (pre.length = N → Lg W w.heap.size d (stL now l N))) (fun _ _ _ => False) ?ip (fun _ _ _ _ _ h => h) ?ap ?h0
    (fun x a' W => ∃ Bx, W.heap[Bx]? = some (.cells (fndV x.f x.A x.c x.B x.c2) 81 (0, 0)) ∧ w.heap.size + 5 ≤ Bx ∧ a' = { tmps := #[.pointer (some ⟨d, 0, none⟩), .int .i64 p, .int .u64 sq, .int .i64 nx, undef, undef, undef, undef, .slice none 0 0, .pointer none, .int .i64 0, .pointer (some ⟨w.heap.size, 0, none⟩), .int .i64 0, .pointer (some ⟨w.heap.size + 1, 0, none⟩), .pointer (some ⟨Bx, 0, none⟩), .tuple #[.pointer (some ⟨w.heap.size, 0, none⟩), .int .i64 0], .pointer (some ⟨d, 0, none⟩), .int .i64 p, .int .u64 sq, .int .i64 nx, .tuple #[.pointer (some ⟨w.heap.size, 0, none⟩), .int .i64 0], .pointer (some ⟨w.heap.size, 0, none⟩), .int .i64 0, .int .i64 0, .bool false, undef, .pointer (some ⟨w.heap.size, 0, none⟩), .func (.func 73) #[] #[.pointer (some ⟨w.heap.size + 1 + 1, 0, none⟩)], .agg (fndV x.f x.A x.c x.B x.c2), undef, undef, undef, undef, undef, undef], defers := [] })
    ?a1 ?seq ?assign ?body ?done (fun _ _ _ h => h.elim))
  case ip =>
    rintro pre A o hlt ⟨i1, i2⟩
    have f : Fr (fun k => k = w2.heap.size + 1) A (A.putObj (w2.heap.size + 1) o) := (Fr.of_grown (grownBy_putObj' A _ o)).mono (fun k e => by injection e)
    exact ⟨i1.fr f (fun k e => by omega), fun h => f.get (by omega) (i2 h)⟩
  case ap =>
    rintro pre x A o hlt h
    have f : Fr (fun k => k = w.heap.size + 4) A (A.putObj (w2.heap.size + 1) o) := (Fr.of_grown (grownBy_putObj' A _ o)).mono (fun k e => by injection e with e; omega)
    exact h.fr f (by omega) (by omega)
  case h0 =>
    intro r
    have f : Fr (fun _ => False) w2 ((w2.alloc (.deferred (some []))).alloc (.loop r)) := ((Fr.refl _ w2).alloc _).alloc _
    refine ⟨⟨rfl, hbw2.trans (f.below hbw2.size (fun _ h => h.elim)), by simp; omega, _, f.get id hob, ⟨rfl, .inl ⟨rfl, rfl⟩⟩, by simp⟩, fun h => ?_⟩
    rw [← h]
    exact f.get id hlg2
  case a1 =>
    rintro x a A o hlt ⟨Bx, b1, b2, b3⟩
    exact ⟨Bx, (World.putObj_heap_other (by omega)).trans b1, b2, b3⟩
  case seq =>
    intro r J Jx hJ hJx hy h0'
    subst hJ hJx
    have f : Fr (fun _ => False) w2 ((w2.alloc (.deferred (some []))).alloc (.loop r)) := ((Fr.refl _ w2).alloc _).alloc _
    refine (records_in 7 (by omega) (w2.heap.size + 1) w.heap.size (w.heap.size + 1 + 1) d now l N _ HN.out HLO.out (by omega) (f.get id hbx) (f.get id hlg2) ?_ (fun pre W => (CIn now l N w pre W ∧ (pre.length = N → Lg W w.heap.size d (stL now l N))) ∧ Book w2.heap.size r W) (fun _ _ => False) ?_ ?_ h0').mono ?_
    · intro W st hfr hst hl
      refine HT.out W st ?_ hst hl
      exact (hbw2.trans (f.below hbw2.size (fun _ h => h.elim))).trans (hfr.below (by simp; have := hbw2.size; omega) (fun k hk => hk))
    · rintro pre A A' ⟨⟨j1, j2⟩, jb1, jb2⟩ hf
      refine ⟨⟨j1.fr hf (fun k hk => by omega), fun h => hf.get (fun e => by omega) (j2 h)⟩, hf.get (fun e => by omega) jb1, hf.get (fun e => by omega) jb2⟩
    · rintro pre x A W ⟨⟨a1, a2⟩, _⟩ hfAW hJW hlt hxf hl hxi
      obtain ⟨fn, tmps, assign, body, hy', hR⟩ := hy pre x W hJW ⟨hlt, hxf, hl, A, a1, hfAW.mono (fun k e => .inl e), hxi⟩
      refine ⟨fn, tmps, assign, body, hy', hR.mono fun e W' h => ?_⟩
      rcases h with h | ⟨_, ⟨c, hc, _⟩, _⟩
      · exact h
      · exact hc.elim
    · rintro e W' ⟨hv, ys, h1, h2, _, _⟩
      exact ⟨hv, .inl ⟨ys, h1, h2⟩⟩
  case assign =>
    rintro pre x W K ⟨r, hr⟩ ⟨i1, i2⟩ ha hK
    have hrl := (Array.getElem?_eq_some_iff.1 hr).1
    have f : ∀ o, Fr (fun _ => False) W (W.alloc o) := fun o => (Fr.refl _ W).alloc o
    have hK2 := hK
    dsimp only [fndV, fndC]
    gi_wp2
    refine hK _ _ ⟨i1.fr (f _) (fun k h => h.elim), fun h => (f _).get id (i2 h)⟩ (ha.fr ((f _).mono (fun k h => h.elim)) (by omega) (by omega)) (Kept2.of_fr (f _) hrl id id) ((f _).mono (fun k h => h.elim)) ⟨W.heap.size, heap_alloc_new W _, i1.2.2.1, rfl⟩
  case body =>
    rintro pre x a' W ⟨r, hr⟩ ⟨i1, i2⟩ ha ⟨Bx, bX, hBx, rfl⟩
    have hrl := (Array.getElem?_eq_some_iff.1 hr).1
    have hb5 := i1.2.2.1
    obtain ⟨v, hvb, hown, _⟩ := i1.2.2.2
    have hlt := ha.1
    have hNq := scanN_le HN.out.1
    have bX' := bX
    unfold fndV fndC at bX
    have x0 := blk_cell bX 0
    have x1 := blk_cell bX 1
    have x2 := blk_cell bX 2
    have x3 := blk_cell bX 3
    have x4 := blk_cell bX 4
    have x5 := blk_cell bX 5
    have x6 := blk_cell bX 6
    have x7 := blk_cell bX 7
    simp at x0 x1 x2 x3 x4 x5 x6 x7
    have o0 := blk_cell hvb 0
    have oz := blk_frozen hvb 0
    simp at o0
    have hbl := (Array.getElem?_eq_some_iff.1 bX).1
    have hrx := rd_new8 W x
    have HRX := Lib.hid hrx
    have HO := Lib.hid hown
    have HI := Lib.hid i1
    have HI2 := Lib.hid i2
    have HA := Lib.hid ha
    have HVB := Lib.hid hvb
    have HR := Lib.hid hrl
    clear hr hrl i1 i2 ha bX bX' hrx hown hvb
    gi_wp2_with (gi_at_builtin; refine wpListIn_append_rd _ rfl (.tmp 29) (.tmp 31) 31 rfl (w.heap.size + 5) 81 i0 _ 8 88 Try.underlying31 hi0 hiz0 hiz1 hiz2 rfl (by decide) _ pre.length (fvsC pre) rfl (HO.out.alloc _) _ (some ⟨W.heap.size, 0, none⟩) 1 1 (fvC x) rfl HRX.out (fvC_one x) (by unfold maxLen; omega) (by omega) (by simp; omega) ?_; intro v3 w3 hown3 hg3 hat3; obtain ⟨A3, c3, rfl, _, _⟩ := Rd.of_own2 hown3; have hw3 : w3.heap[w.heap.size + 1]? = _ := (Fr.of_grown hg3).get (fun e => (by have := (HO.out.lt _ e.symm).1; omega)) (old_alloc HVB.out _); have p0 := blk_cell hw3 0; have pz := blk_frozen hw3 0; simp at p0; have HO3 := Lib.hid hown3; have HG3 := Lib.hid hg3; have HT3 := Lib.hid hat3; clear hown3 hg3 hat3 hw3)
    obtain ⟨s1, s2⟩ := CIn.step HI.out HVB.out HA.out (by omega) (by omega) ((Fr.refl (fun _ => False) W).alloc _) HG3.out HT3.out HO3.out
    refine ⟨Kept2.of_fr s2 HR.out (by omega) (by omega), s2.mono (fun k hk => by omega), s1, fun h => ?_⟩
    have hl := HA.out.2.2.1
    rw [List.length_append, List.length_singleton] at h
    rw [h] at hl
    exact s2.get (by omega) hl
  case done =>
    rintro xs W hlen ⟨i1, i2⟩ hlt hK
    obtain ⟨a1, a2, a3, v, a4, a5, a6⟩ := i1
    have hl := i2 hlen
    have o0 := blk_cell a4 0
    simp at o0
    have hlt2 := (Array.getElem?_eq_some_iff.1 a4).1
    have f : Fr (fun k => k = w2.heap.size) W (W.putObj w2.heap.size (.deferred none)) := (Fr.of_grown (grownBy_putObj' W _ _)).mono (fun k e => by injection e)
    have hfin : ScPost w d now p sq nx (.returned (.tuple #[v, .pointer (some ⟨w.heap.size, 0, none⟩), .int .i64 0])) (W.putObj w2.heap.size (.deferred none)) := by
      refine .inr ⟨HBB.out, ?_⟩
      rw [HL.out]
      refine ⟨N, v, HN.out, rfl, ⟨xs, ?_, ?_, fun x hx => ?_⟩, f.get (by omega) hl, a2.trans (f.below a2.size (fun k e => by omega))⟩
      · rw [a1, hlen]
      · rw [fndL_length, ← hlen]
        exact own_base (Fr.own a5 f (fun k hk e => by have := (a5.lt k hk).1; omega)) (by omega)
      · exact ((a6 x hx).kept f (fun k hk e => by omega)).mono (fun k hk => ⟨by omega, by have := f.size; omega, hk.2.2⟩)
    have HF := Lib.hid hfin
    clear hfin f a1 a2 a3 a4 a5 a6 hl i2
    simp only [Exit.inBlock, Exit.then]
    go_at_K
    go_wp2_with fail
    refine ⟨by simp, .inl ⟨_, _, rfl, run_takeDeferred hK, ?_⟩⟩
    refine ⟨_, results_tmp3 rfl _ _ _, ?_⟩
    exact HF.out
end Go.Proofs.Ytjmfeoenbncibaa
namespace Go.Proofs.Ytjmfeoenbncibaa
open Go.RowKit Go.Nau Go.Shelf
attribute [local go_sem] Oper.semAt_some

theorem scan_nil (p : Int) (sq : Nat) (nx : Int) (w : World) : Calls Try.prog 12 #[.pointer none, .int .i64 p, .int .u64 sq, .int .i64 nx] w fun e w' => e = .returned (.tuple #[.slice none 0 0, .pointer none, .int .i64 1]) ∧ w = w' := by
  have HB := Lib.hid (begin_nil p sq nx w)
  refine (callsIn_wide (n := 9)).1 (callsIn_of_wp_marks Try.func12 rfl trivial ?_ rfl)
  simp only [Try.ntmps12, List.size_toArray, List.length_nil, List.length_cons, Nat.reduceSub, Nat.reduceAdd, Array.replicate_succ, Array.replicate_zero, List.push_toArray, List.append_toArray, List.nil_append, List.cons_append]
  refine wpIn_wide.2 ?_
  go_wp2_with fail
  refine HB.out.mono ?_
  rintro e w1 ⟨rfl, rfl⟩
  go_wp2_with fail
  exact ⟨_, results_tmp3 rfl _ _ _, rfl, rfl⟩
section
variable {w : World} {d : Nat} {s : DS}
theorem scan_any {F : Nat → Prop} (hd : Dsk w F d s) (hF : ∀ k, F k → k < w.heap.size) (hi : DInv s) (h16 : s.now.length % 16 = 0) (p : Int) (sq : Nat) (nx : Int) (hp : -9223372036854775808 ≤ p ∧ p ≤ 9223372036854775807) (hs : sq < 18446744073709551616) (hx : -9223372036854775808 ≤ nx ∧ nx ≤ 9223372036854775807) :
    Calls Try.prog 12 #[.pointer (some ⟨d, 0, none⟩), .int .i64 p, .int .u64 sq, .int .i64 nx] w (ScPost w d s.now p sq nx) := by
  refine scan_core d p sq nx s.now w (begin_any hd hi.n1 p sq nx hp hs hx) h16 hi.n1 (fun W l hW hl hg => ?_)
  have hz := hW.size
  exact there_any (hd.kept (Fr.of_below hW) (fun k hk h2 => by have := hF k hk; omega)) (fun k hk => by have := hF k hk; omega) hi hg hl
theorem rscan_any {G : Nat → Prop} (hd : RDsk w G d s) (hG : ∀ k, G k → k < w.heap.size) (hi : DInv s) (hll : s.loose.length ≤ 1073741824) (h16 : s.now.length % 16 = 0) (p : Int) (sq : Nat) (nx : Int) (hp : -9223372036854775808 ≤ p ∧ p ≤ 9223372036854775807) (hs : sq < 18446744073709551616) (hx : -9223372036854775808 ≤ nx ∧ nx ≤ 9223372036854775807) :
    Calls Try.prog 22 #[.pointer (some ⟨d, 0, none⟩), .int .i64 p, .int .u64 sq, .int .i64 nx] w (RScPost w d s.now p sq nx) := by
  have hb := rbegin_any hd (by rw [hi.ok.len]; exact hi.n1) p sq nx hp hs hx
  rw [hi.ok.len] at hb
  refine rscan_core d p sq nx s.now w hb h16 hi.n1 (fun W l hW hl => ?_)
  have hz := hW.size
  exact rthere_any (hd.kept (Fr.of_below hW) (fun k hk h2 => by have := hG k hk; omega)) (fun k hk => by have := hG k hk; omega) hi hll hl
end

/-- An item as its cells. -/
def itL (x : Ent × ByteArray) : List Value := entL x.1 ++ [.string x.2]
def itC (l : List (Ent × ByteArray)) : List Value := l.flatMap itL
theorem itL_length (x : Ent × ByteArray) : (itL x).length = 5 := rfl
theorem itC_length (l : List (Ent × ByteArray)) : (itC l).length = l.length * 5 := by
  unfold itC
  induction l with
  | nil => rfl
  | cons x l ih => simp only [List.flatMap_cons, List.length_append, ih, List.length_cons, itL_length]; omega
theorem itC_get : ∀ (l : List (Ent × ByteArray)) (i j : Nat) (x : Ent × ByteArray), l[i]? = some x → j < 5 → (itC l)[i * 5 + j]? = (itL x)[j]?
  | [], i, j, x, h, _ => by simp at h
  | y :: l, 0, j, x, h, hj => by
    simp at h
    subst h
    rw [show 0 * 5 + j = j by omega]
    show (itL y ++ itC l)[j]? = _
    rw [List.getElem?_append_left (by rw [itL_length]; exact hj)]
  | y :: l, i + 1, j, x, h, hj => by
    simp only [List.getElem?_cons_succ] at h
    show (itL y ++ itC l)[(i + 1) * 5 + j]? = _
    rw [List.getElem?_append_right (by rw [itL_length]; omega)]
    have : (i + 1) * 5 + j - (itL y).length = i * 5 + j := by rw [itL_length]; omega
    rw [this]
    exact itC_get l i j x h hj
theorem it_cells {T : Nat → Prop} {w : World} {A : Option Addr} {n : Nat} {l : List (Ent × ByteArray)} (hr : Rd T w 5 A n (itC l)) (q : Nat) (x : Ent × ByteArray) (hx : l[q]? = some x) (hq : q < n) :
    ∃ ad, A = some ad ∧ w.cell? (ad.add (q * 5)) = some (.int .i64 x.1.kind) ∧ w.cell? ⟨(ad.add (q * 5)).block, (ad.add (q * 5)).off + 1, none⟩ = some (.int .u32 x.1.file) ∧ w.cell? ⟨(ad.add (q * 5)).block, (ad.add (q * 5)).off + 2, none⟩ = some (.int .u32 x.1.idx) ∧
      w.cell? ⟨(ad.add (q * 5)).block, (ad.add (q * 5)).off + 3, none⟩ = some (.int .u32 x.1.vbn) ∧ w.cell? ⟨(ad.add (q * 5)).block, (ad.add (q * 5)).off + 4, none⟩ = some (.string x.2) := by
  obtain ⟨ad, rfl, _, hc⟩ := hr.2 (by omega)
  have h : ∀ j, j < 5 → w.cell? ((ad.add (q * 5)).add j) = (itL x)[j]? := by
    intro j hj
    have hg := itC_get l q j x hx hj
    have hj' : j < (itL x).length := hj
    rw [List.getElem?_eq_getElem hj'] at hg ⊢
    rw [Go.Nau.add_add]
    exact hc _ _ hg
  exact ⟨ad, rfl, h 0 (by omega), h 1 (by omega), h 2 (by omega), h 3 (by omega), h 4 (by omega)⟩

/-- Blocks of contents written one behind the other: till one is refused. -/
def wBlocks : DS → Nat → List ByteArray → Int × DS
  | s, _, [] => (0, s)
  | s, p, c :: cs => if (wres s p (wrapS c)).1 = 0 then wBlocks (wres s p (wrapS c)).2 (p + 1) cs else wres s p (wrapS c)
theorem wBlocks_nil (s : DS) (p : Nat) : wBlocks s p [] = (0, s) := by unfold wBlocks; rfl
theorem wBlocks_cons (s : DS) (p : Nat) (c : ByteArray) (cs : List ByteArray) : wBlocks s p (c :: cs) = if (wres s p (wrapS c)).1 = 0 then wBlocks (wres s p (wrapS c)).2 (p + 1) cs else wres s p (wrapS c) := by conv => lhs; unfold wBlocks
theorem wBlocks_append : ∀ (a b : List ByteArray) (s : DS) (p : Nat), wBlocks s p (a ++ b) = if (wBlocks s p a).1 = 0 then wBlocks (wBlocks s p a).2 (p + a.length) b else wBlocks s p a
  | [], b, s, p => by rw [wBlocks_nil]; simp
  | c :: a, b, s, p => by
    rw [List.cons_append, wBlocks_cons, wBlocks_cons]
    by_cases h : (wres s p (wrapS c)).1 = 0
    · rw [if_pos h, if_pos h, wBlocks_append a b, List.length_cons, show p + 1 + a.length = p + (a.length + 1) by omega]
    · rw [if_neg h, if_neg h, if_neg h]
theorem wBlocks_snoc {cs : List ByteArray} {q : Nat} {c : ByteArray} {s : DS} {p : Nat} (hc : cs[q]? = some c) (h : (wBlocks s p (cs.take q)).1 = 0) : wBlocks s p (cs.take (q + 1)) = wres (wBlocks s p (cs.take q)).2 ((p + q : Nat) : Int) (wrapS c) := by
  have hl : (cs.take q).length = q := by
    have := (List.getElem?_eq_some_iff.1 hc).1
    rw [List.length_take]
    omega
  rw [List.take_add_one, hc, Option.toList_some, wBlocks_append, if_pos h, hl]
  generalize (wBlocks s p (cs.take q)).2 = t
  rw [wBlocks_cons, wBlocks_nil]
  by_cases h1 : (wres t ((p + q : Nat) : Int) (wrapS c)).1 = 0
  · rw [if_pos h1]
    exact Prod.ext h1.symm rfl
  · rw [if_neg h1]
theorem wBlocks_stop {cs : List ByteArray} {q : Nat} {s : DS} {p : Nat} (h : (wBlocks s p (cs.take q)).1 ≠ 0) : wBlocks s p cs = wBlocks s p (cs.take q) := by
  have := wBlocks_append (cs.take q) (cs.drop q) s p
  rw [List.take_append_drop, if_neg h] at this
  exact this
theorem wBlocks_inv : ∀ (cs : List ByteArray) (s : DS) (p : Nat), DInv s → DInv (wBlocks s p cs).2 ∧ (wBlocks s p cs).2.now.length = s.now.length ∧ (wBlocks s p cs).2.ops ≤ s.ops + cs.length ∧ (wBlocks s p cs).2.loose.length ≤ s.loose.length + cs.length
  | [], s, p, h => ⟨h, rfl, by show s.ops ≤ _; omega, by show s.loose.length ≤ _; omega⟩
  | c :: cs, s, p, h => by
    obtain ⟨h1, h2, h3, h4⟩ := wres_inv h p (wrapS c)
    rw [wBlocks_cons, List.length_cons]
    split
    · obtain ⟨k1, k2, k3, k4⟩ := wBlocks_inv cs (wres s p (wrapS c)).2 (p + 1) h1
      exact ⟨k1, k2.trans h2, by omega, by omega⟩
    · exact ⟨h1, h2, by omega, by omega⟩

/-- What stands behind the blocks: flushed, the record written, flushed again. -/
def fin3 (s : DS) (p : Nat) (h : ByteArray) : Int × DS :=
  if (fres s).1 = 0 then if (wres (fres s).2 p h).1 = 0 then fres (wres (fres s).2 p h).2 else wres (fres s).2 p h else fres s
theorem fin3_inv {s : DS} (hi : DInv s) (p : Nat) (h : ByteArray) : DInv (fin3 s p h).2 ∧ (fin3 s p h).2.now.length = s.now.length ∧ (fin3 s p h).2.ops ≤ s.ops + 3 ∧ (fin3 s p h).2.loose.length ≤ s.loose.length + 3 := by
  obtain ⟨a1, a2, a3, a4⟩ := fres_inv hi
  obtain ⟨b1, b2, b3, b4⟩ := wres_inv a1 p h
  obtain ⟨c1, c2, c3, c4⟩ := fres_inv b1
  unfold fin3
  split
  · split
    · exact ⟨c1, by omega, by omega, by omega⟩
    · exact ⟨b1, by omega, by omega, by omega⟩
  · exact ⟨a1, by omega, by omega, by omega⟩

def recOf (l : LS) (cp : Nat) (its : List (Ent × ByteArray)) (ends syncs : Bool) : Rec := ⟨l.seq, cp, ends, syncs, l.next, its.map (·.1)⟩
def putD (s : DS) (p : Nat) (cs : List ByteArray) (h : ByteArray) : Int × DS := if (wBlocks s (p + 1) cs).1 = 0 then fin3 (wBlocks s (p + 1) cs).2 p h else wBlocks s (p + 1) cs
theorem putD_inv {s : DS} (hi : DInv s) (p : Nat) (cs : List ByteArray) (h : ByteArray) : DInv (putD s p cs h).2 ∧ (putD s p cs h).2.now.length = s.now.length ∧ (putD s p cs h).2.ops ≤ s.ops + cs.length + 3 ∧ (putD s p cs h).2.loose.length ≤ s.loose.length + cs.length + 3 := by
  obtain ⟨a1, a2, a3, a4⟩ := wBlocks_inv cs s (p + 1) hi
  obtain ⟨b1, b2, b3, b4⟩ := fin3_inv a1 p h
  unfold putD
  split
  · exact ⟨b1, by omega, by omega, by omega⟩
  · exact ⟨a1, a2, by omega, by omega⟩
/-- May that be written? -/
def wrB (l : LS) (cp : Nat) (its : List (Ent × ByteArray)) (ends syncs : Bool) : Bool :=
  decide (its.length ≤ 15 - l.pos % 16) && (its.all (fun x => decide (x.2.size ≤ 508)) && rightB (recOf l cp its ends syncs))
structure WrRes where
  at_ : List Nat
  e : Int
  l : LS
  s : DS
/-- What Write answers, and leaves. -/
def lwrite (l : LS) (s : DS) (cp : Nat) (its : List (Ent × ByteArray)) (ends syncs : Bool) : WrRes :=
  if l.next = 0 then ⟨[], 152, l, s⟩ else
  if wrB l cp its ends syncs then
    if (putD s l.pos (its.map (·.2)) (encS (recOf l cp its ends syncs))).1 = 0 then
      ⟨(List.range its.length).map (fun i => l.pos + 1 + i), 0, goN l its.length l.next, (putD s l.pos (its.map (·.2)) (encS (recOf l cp its ends syncs))).2⟩
    else ⟨[], (putD s l.pos (its.map (·.2)) (encS (recOf l cp its ends syncs))).1, l, (putD s l.pos (its.map (·.2)) (encS (recOf l cp its ends syncs))).2⟩
  else ⟨[], 2, l, s⟩
theorem rightB_num {r : Rec} (h : rightB r = true) : r.seq < 281474976710656 ∧ 0 < r.seq ∧ r.cp < 281474976710656 ∧ 0 ≤ r.next ∧ r.next ≤ 255 ∧ r.l.length ≠ 0 ∧ r.l.length ≤ 15 := by
  unfold rightB headB numB at h
  simp only [Bool.and_eq_true, decide_eq_true_eq] at h
  omega
theorem lwrite_inv {l : LS} {s : DS} (hi : DInv s) (hl : LOk s.now.length l) (cp : Nat) (its : List (Ent × ByteArray)) (ends syncs : Bool) :
    DInv (lwrite l s cp its ends syncs).s ∧ (lwrite l s cp its ends syncs).s.now.length = s.now.length ∧ LOk s.now.length (lwrite l s cp its ends syncs).l ∧ (lwrite l s cp its ends syncs).s.ops ≤ s.ops + 18 ∧ (lwrite l s cp its ends syncs).s.loose.length ≤ s.loose.length + 18 := by
  unfold lwrite
  split
  · exact ⟨hi, rfl, hl, by dsimp only; omega, by dsimp only; omega⟩
  · rename_i hn
    split
    · rename_i hb
      unfold wrB at hb
      simp only [Bool.and_eq_true, decide_eq_true_eq] at hb
      obtain ⟨h1, _, h3⟩ := hb
      obtain ⟨a1, a2, a3, a4⟩ := putD_inv hi l.pos (its.map (·.2)) (encS (recOf l cp its ends syncs))
      rw [List.length_map] at a3 a4
      have hr := rightB_num h3
      split
      · refine ⟨a1, a2, hl.goN h1 ?_ hr.1, by dsimp only; omega, by dsimp only; omega⟩
        rcases hl.next with h | h
        · exact absurd h hn
        · exact h
      · exact ⟨a1, a2, hl, by dsimp only; omega, by dsimp only; omega⟩
    · exact ⟨hi, rfl, hl, by dsimp only; omega, by dsimp only; omega⟩
end Go.Proofs.Ytjmfeoenbncibaa

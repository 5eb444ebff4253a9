/- Texts of this proof, joined: Lk. They hold under no condition beyond what each theorem states. -/
import Derived.Test.YtjmfeoenbncibaaM25
namespace Go.Proofs.Ytjmfeoenbncibaa
open Go.RowKit Go.Nau Go.Shelf
attribute [local go_sem] Oper.semAt_some

def RScRel (w : World) (d : Nat) (now : List ByteArray) (l : LS) (N : Nat) (k : Nat) (v : Value) (wr : World) : Prop :=
  ∃ q : Nat, k = N - q ∧ q ≤ N ∧ FRow wr (w.heap.size + 1) v (fndL now l q) ∧ RLg wr w.heap.size d (stL now l q) ∧ Below w.heap.size w wr ∧ w.heap.size + 1 ≤ wr.heap.size

theorem rsc_step {w wr W1 w3 w4 : World} {d N q : Nat} {now : List ByteArray} {l : LS} {v v3 : Value} {xs : List FV} {x : FV} (hq : q < N) (hxs : xs.map FV.f = fndL now l q) (hin : ∀ x ∈ xs, FIn (fun k => w.heap.size + 1 ≤ k ∧ k < wr.heap.size ∧ v.ownBlock ≠ some k) wr x) (hlt : ∀ k, v.ownBlock = some k → w.heap.size + 1 ≤ k ∧ k < wr.heap.size)
    (hbw : Below w.heap.size w wr) (hsz : w.heap.size + 1 ≤ wr.heap.size) (hxf : x.f = fndAt now (stL now l q)) (hf : Fr (fun _ => False) wr W1) (hx : FIn (fun k => wr.heap.size ≤ k ∧ k < W1.heap.size) W1 x)
    (hg : W1.grownBy w3 v.ownBlock) (hat : v3.ownBlock = v.ownBlock ∨ v3.ownBlock = some W1.heap.size) (hown : w3.ownsRow (w.heap.size + 1) 81 8 v3 (q + 1) (fvsC xs ++ fvC x))
    (hl : RLg w4 w.heap.size d (goN (stL now l q) x.f.r.l.length x.f.r.next.toNat)) (h4 : Fr (· = w.heap.size) w3 w4) : RScRel w d now l N (N - (q + 1)) v3 w4 := by
  have hs1 := hf.size
  have hs3 := hg.size
  have hs4 := h4.size
  refine ⟨q + 1, rfl, hq, ?_, ?_, ?_, by omega⟩
  · refine FRow.kept (w := w3) ⟨xs ++ [x], ?_, ?_, fin_snoc hin hf (fun _ _ => id) hx hg hat (fun k hk => (hlt k hk).2) hsz⟩ h4 (fun k hk e => by omega)
    · rw [List.map_append, hxs, fndL_succ, List.map_singleton, hxf]
    · rw [fndL_length, fvsC_snoc]
      exact hown
  · show RLg w4 w.heap.size d (goN _ _ _)
    rw [hxf] at hl
    exact hl
  · refine hbw.trans ((((hf.mono (T := fun k => w.heap.size ≤ k) (fun _ h => h.elim)).trans ((Fr.of_grown hg).mono (T := fun k => w.heap.size ≤ k) (fun k e => ?_))).trans (h4.mono (T := fun k => w.heap.size ≤ k) (fun k e => by omega))).below hbw.size (fun k hk => hk))
    have := (hlt k e.symm).1
    omega

def RScPost (w : World) (d : Nat) (now : List ByteArray) (p : Int) (sq : Nat) (nx : Int) (e : Ending) (w' : World) : Prop :=
  (beginB now.length p sq nx = false ∧ e = .returned (.tuple #[.slice none 0 0, .pointer none, .int .i64 151]) ∧ w' = w) ∨
  (beginB now.length p sq nx = true ∧ ∃ N v, ScanN now (beginL p sq nx) N ∧ e = .returned (.tuple #[v, .pointer (some ⟨w.heap.size, 0, none⟩), .int .i64 0]) ∧ FRow w' (w.heap.size + 1) v (fndL now (beginL p sq nx) N) ∧
    RLg w' w.heap.size d (stL now (beginL p sq nx) N) ∧ Below w.heap.size w w')

set_option maxHeartbeats 4000000 in
set_option maxRecDepth 100000 in
theorem rscan_core (d : Nat) (p : Int) (sq : Nat) (nx : Int) (now : List ByteArray) (w : World) (hB : Calls Try.prog 29 #[.pointer (some ⟨d, 0, none⟩), .int .i64 p, .int .u64 sq, .int .i64 nx] w (RBegPost w d now.length p sq nx))
    (h16 : now.length % 16 = 0) (h4 : now.length ≤ 4096)
    (hT : ∀ W l, Below w.heap.size w W → LOk now.length l → Calls Try.prog 56 #[.pointer (some ⟨d, 0, none⟩), .int .i64 l.pos, .int .u64 l.seq] W (ThPost W now l)) :
    Calls Try.prog 22 #[.pointer (some ⟨d, 0, none⟩), .int .i64 p, .int .u64 sq, .int .i64 nx] w (RScPost w d now p sq nx) := by
  have HB := Lib.hid hB
  have HT := Lib.hid hT
  clear hB hT
  go_enter Try.func22, Try.ntmps22
  go_wp2_with fail
  refine HB.out.mono ?_
  rintro e w1 hb
  rcases hb with ⟨hb, rfl, hl, hbe, hsz⟩ | ⟨hb, rfl, rfl⟩
  case inr =>
    have HBB := Lib.hid hb
    clear hb
    go_wp2_with fail
    go_ret3
    exact .inl ⟨HBB.out, rfl, rfl⟩
  have hlo := beginL_ok h16 h4 hb
  have HBB := Lib.hid hb
  clear hb
  obtain ⟨N, hN⟩ := scanN_ex now (beginL p sq nx)
  generalize hL : beginL p sq nx = l at *
  have HN := Lib.hid hN
  have HLO := Lib.hid hlo
  have HL := Lib.hid hL
  have HLG := Lib.hid hl
  have HBE := Lib.hid hbe
  have HSZ := Lib.hid hsz
  clear hN hlo hL hl hbe hsz
  obtain ⟨i0, hi0, hiz0, hiz1, hiz2⟩ := info_parts infoF
  go_wp2_with fail
  have hr0 : Hid (RScRel w d now l N N (.slice none 0 0) w1) := Lib.hid ⟨0, rfl, Nat.zero_le _, FRow.nil _ _, HLG.out, HBE.out, by have := HSZ.out; omega⟩
  go_loopg [13] N (RScRel w d now l N)
  case atStart => exact hr0.out
  case round =>
    obtain ⟨q, rfl, hq, hF, hlg, hbw, hsz⟩ := hrel
    have hlo := HLO.out.stL HN.out.1 q hq
    have hth := fun W (hW : Below wr.heap.size wr W) => HT.out W _ (hbw.trans (hW.mono hbw.size)) hlo
    have c0 := blk_cell hlg 0
    have c1 := blk_cell hlg 1
    have c2 := blk_cell hlg 2
    simp [lgC] at c0 c1 c2
    have hgl := (Array.getElem?_eq_some_iff.1 hlg).1
    obtain ⟨pv, hpv⟩ : ∃ pv : Int, pv = ((stL now l q).pos : Int) := ⟨_, rfl⟩
    obtain ⟨sv, hsv⟩ : ∃ sv : Int, sv = ((stL now l q).seq : Int) := ⟨_, rfl⟩
    rw [← hpv] at c1 hth
    rw [← hsv] at c2 hth
    by_cases hlt : q < N
    · have ht := HN.out.1 q hlt
      have hth2 : ∀ W, Below wr.heap.size wr W → Calls Try.prog 56 #[.pointer (some ⟨d, 0, none⟩), .int .i64 pv, .int .u64 sv] W fun e W' => ∃ x : FV, x.f = fndAt now (stL now l q) ∧ e = .returned (.tuple #[.agg (fndV x.f x.A x.c x.B x.c2), .bool true]) ∧ FIn (fun k => W.heap.size ≤ k ∧ k < W'.heap.size) W' x ∧ Below W.heap.size W W' := fun W hW =>
        (hth W hW).mono fun e W' ⟨hb, hh⟩ => by
          rcases hh with ⟨_, A, c, B, c2, he, k1, k2, k3, k4⟩ | ⟨hf, _⟩
          · exact ⟨⟨_, A, c, B, c2⟩, rfl, he, ⟨k1, k2, k3, k4⟩, hb⟩
          · rw [ht] at hf; cases hf
      obtain ⟨hs1, hs2, hs3, hs4, hs5⟩ := headT_iff.1 (thereT_head ht)
      have hsx : decide ((281474976710656 : Int) ≤ sv) = false := decide_eq_false (by omega)
      have HTH := Lib.hid hth2
      have HLO2 := Lib.hid hlo
      have HLG2 := Lib.hid hlg
      have HBW := Lib.hid hbw
      have HPV := Lib.hid hpv
      have HSV := Lib.hid hsv
      have HT2 := Lib.hid ht
      have HS3 := Lib.hid hs3
      have HS4 := Lib.hid hs4
      have HS5 := Lib.hid hs5
      have HS1 := Lib.hid hs1
      have hNq := scanN_le HN.out.1
      obtain ⟨xs, hxs, hown, hin⟩ := hF
      rw [fndL_length] at hown
      have hlt' : ∀ k, u13.ownBlock = some k → w.heap.size + 1 ≤ k ∧ k < wr.heap.size := fun k hk => hown.lt k hk
      have HXS := Lib.hid hxs
      have HOW := Lib.hid hown
      have HIN := Lib.hid hin
      have HLT := Lib.hid hlt'
      clear hxs hown hin hlt'
      clear hth hth2 hlo hlg hbw hpv hsv ht hs1 hs2 hs3 hs4 hs5
      go_wp2_with fail
      refine wp_callbox (fun V => V.cell? ⟨w.heap.size, 1, none⟩ = some (.int .i64 pv) ∧ V.cell? ⟨w.heap.size, 2, none⟩ = some (.int .u64 sv)) [0, 1, 2, 3, 4, 5, 6, 7, 8] [10, 11, 12] [14, 15] 9 13 #[true, true, true, true, true, true, true, true, true, false, false, false, false, false, false, false] #[true, true, true, true, true, true, true, true, true, true, false, false, false, false, false, false] #[true, true, true, true, true, true, true, true, true, true, true, true, true, false, false, false] #[true, true, true, true, true, true, true, true, true, false, false, false, false, true, false, false] #[true, true, true, true, true, true, true, true, true, true, false, false, false, true, false, false] #[true, true, true, true, true, true, true, true, true, true, true, true, true, true, false, false] (by kernel_rfl) (by kernel_rfl) (fun _ _ _ _ e h => ⟨e ▸ h.1, h.2⟩) ⟨c1, c2⟩ ?_
      iterate 9
        refine heldQ_step rfl (yieldsIf_of rfl (fun V hV => by obtain ⟨s1, s2⟩ := hV; go_simp; first | done | rfl)) (fun K' hK' => ?_)
        go_simp
        refine hK' _ ?_
        clear hK' K'
      refine ⟨?_, ?_⟩
      · refine wpAt_step rfl rfl (fun K' hK' => ?_)
        go_simp
        refine (HTH.out _ (below_drewN (Below.refl _ _) 1)).mono ?_
        rintro e w2 ⟨x, hxf, rfl, hxi, hb⟩
        have HXF := Lib.hid hxf
        clear hxf
        unfold fndV fndC
        refine hK' _ _ ?_
        clear hK' K'
        iterate 3
          refine heldQ_step rfl (yieldsIf_of rfl (fun V hV => by go_simp; first | done | rfl)) (fun K' hK' => ?_)
          go_simp
          refine hK' _ ?_
          clear hK' K'
        simp only [heldQ, opsAt, List.filterMap_cons, List.filterMap_nil, List.getElem?_toArray, List.getElem?_cons_succ, List.getElem?_cons_zero]
        show wpList _ _ _ (_ :: _) _ _
        have hs2 : wr.heap.size ≤ w2.heap.size := hb.size
        have hl2 : w.heap.size < w2.heap.size := by omega
        have k2 := (hb.cell (p := ⟨w.heap.size, 2, none⟩) (by simp; omega)).trans c2
        have hf2 : Fr (fun _ => False) wr w2 := (Fr.drewN _ wr 1).trans (Fr.new hb _)
        have HF2 := Lib.hid hf2
        have HXI := Lib.hid hxi
        have HB2 := Lib.hid hb
        have hrx : ∀ o, Rd (fun _ => True) ((w2.alloc o).alloc (.cells (fndV x.f x.A x.c x.B x.c2) 81)) 8 (some ⟨w2.heap.size + 1, 0, none⟩) 1 (fvC x) := fun o => by have := rd_new8 (w2.alloc o) x; rwa [World.size_alloc] at this
        have HRX := Lib.hid hrx
        clear hf2 hxi hb hrx
        go_wp2_with (at_builtin; refine wpList_append_rd _ rfl (.tmp 51) (.tmp 53) 31 rfl (w.heap.size + 1) 81 i0 _ 8 88 Try.underlying31 hi0 hiz0 hiz1 hiz2 rfl (by decide) _ q (fvsC xs) rfl (Fr.own HOW.out ((HF2.out.alloc _).alloc _) (fun _ _ => id)) _ (some ⟨w2.heap.size + 1, 0, none⟩) 1 1 (fvC x) rfl (HRX.out _) (fvC_one x) (by unfold maxLen; omega) (by omega) (by simp; omega) ?_; intro v3 w3 hown3 hg3 hat3; have hX3 : w3.heap[w2.heap.size]? = some (.cells (fndV x.f x.A x.c x.B x.c2) 81 (0, 0)) := (Fr.of_grown hg3).get (fun e => (by have := HLT.out _ e.symm; omega)) (old_alloc (heap_alloc_new w2 _) _); have f5 := blk_cell hX3 5; have f6 := blk_cell hX3 6; simp [fndV, fndC] at f5 f6; have hl3 : RLg w3 w.heap.size d (stL now l q) := (Fr.of_grown hg3).get (fun e => (by have := HLT.out _ e.symm; omega)) (old_alloc (old_alloc (HF2.out.get id HLG2.out) _) _); have HL3 := Lib.hid hl3; have HO3 := Lib.hid hown3; have HG3 := Lib.hid hg3; have HT3 := Lib.hid hat3; clear hX3 hl3 hown3 hg3 hat3)
        have hxr : x.f.r = recAt now (stL now l q).pos := by rw [HXF.out]; rfl
        have hgo := rgoes_any HL3.out x.f.r.l.length x.f.r.next (by have := HLO2.out.hi; omega) (Nat.le_of_lt HS1.out) (by rw [hxr]; exact HS4.out) (by
          have h5 := segB_iff.1 HS5.out
          rw [hxr]
          omega)
        have HGO := Lib.hid hgo
        clear hgo hxr
        go_wp2_with fail
        refine HGO.out.mono ?_
        rintro e w4 ⟨rfl, hl4, hf4⟩
        have HL4 := Lib.hid hl4
        have HF4 := Lib.hid hf4
        clear hl4 hf4
        go_wp2_with fail
        go_roundg (N - (q + 1))
        case measure => omega
        case rel =>
          exact rsc_step (W1 := (w2.alloc _).alloc _) hlt HXS.out HIN.out HLT.out HBW.out hsz HXF.out ((HF2.out.alloc _).alloc _) ((HXI.out.kept ((Fr.refl (fun _ => False) w2).alloc _ |>.alloc _) (fun _ _ => id)).mono (fun k hk => ⟨by have := hk.1; simp at this; omega, by have := hk.2; simp; omega⟩)) HG3.out HT3.out HO3.out HL4.out HF4.out
      · refine wpAt_step rfl rfl (fun K' hK' => ?_)
        go_simp
        refine hK' _ _ ⟨⟨old_cell c1 _, old_cell c2 _⟩, ?_⟩
        clear hK' K'
        refine wpAt_step rfl rfl (fun K' hK' => ?_)
        go_simp
        refine (HTH.out _ ((below_drewN (Below.refl _ _) 1).alloc (Nat.le_refl _) _)).mono ?_
        rintro e w2 ⟨x, hxf, rfl, hxi, hb⟩
        have HXF := Lib.hid hxf
        clear hxf
        unfold fndV fndC
        refine hK' _ _ ?_
        clear hK' K'
        iterate 3
          refine heldQ_step rfl (yieldsIf_of rfl (fun V hV => by go_simp; first | done | rfl)) (fun K' hK' => ?_)
          go_simp
          refine hK' _ ?_
          clear hK' K'
        simp only [heldQ, opsAt, List.filterMap_cons, List.filterMap_nil, List.getElem?_toArray, List.getElem?_cons_succ, List.getElem?_cons_zero]
        show wpList _ _ _ (_ :: _) _ _
        have hs2 : wr.heap.size + 1 ≤ w2.heap.size := by have := hb.size; simpa using this
        have hl2 : w.heap.size < w2.heap.size := by omega
        have k2 := (hb.cell (p := ⟨w.heap.size, 2, none⟩) (by simp; omega)).trans (old_cell c2 _)
        have hKb : w2.heap[wr.heap.size]? = some (.cells zeroF 81 (0, 0)) := (hb.block wr.heap.size (by simp)).trans (heap_alloc_new (wr.drewN 1) _)
        have b0 := blk_cell hKb 0
        have b1 := blk_cell hKb 1
        have b2 := blk_cell hKb 2
        have b3 := blk_cell hKb 3
        have b4 := blk_cell hKb 4
        have b5 := blk_cell hKb 5
        have b6 := blk_cell hKb 6
        have b7 := blk_cell hKb 7
        have bz0 := blk_frozen hKb 0
        have bz1 := blk_frozen hKb 1
        have bz2 := blk_frozen hKb 2
        have bz3 := blk_frozen hKb 3
        have bz4 := blk_frozen hKb 4
        have bz5 := blk_frozen hKb 5
        have bz6 := blk_frozen hKb 6
        have bz7 := blk_frozen hKb 7
        simp [zeroF] at b0 b1 b2 b3 b4 b5 b6 b7
        have hf2 : Fr (fun _ => False) wr w2 := ((Fr.drewN _ wr 1).alloc _).trans (Fr.new hb _)
        obtain ⟨s1, s2⟩ := set_fnd hKb (.int .i64 x.f.pos) (.int .u64 x.f.r.seq) (.int .u64 x.f.r.cp) (.bool x.f.r.ends) (.bool x.f.r.sync) (.int .i64 x.f.r.next) (.slice x.A x.f.r.l.length x.c) (.slice x.B x.f.c.length x.c2)
        have hf3 : Fr (fun _ => False) wr (set8 w2 wr.heap.size (.int .i64 x.f.pos) (.int .u64 x.f.r.seq) (.int .u64 x.f.r.cp) (.bool x.f.r.ends) (.bool x.f.r.sync) (.int .i64 x.f.r.next) (.slice x.A x.f.r.l.length x.c) (.slice x.B x.f.c.length x.c2)) := hf2.after s2 (fun i hi e => by omega)
        have hx3 := hxi.kept s2 (fun k hk e => by have := hk.1; simp at this; omega)
        have HF2 := Lib.hid hf3
        have HXI := Lib.hid hx3
        have HS1' := Lib.hid s1
        have hsz8 : w2.heap.size = (set8 w2 wr.heap.size (.int .i64 x.f.pos) (.int .u64 x.f.r.seq) (.int .u64 x.f.r.cp) (.bool x.f.r.ends) (.bool x.f.r.sync) (.int .i64 x.f.r.next) (.slice x.A x.f.r.l.length x.c) (.slice x.B x.f.c.length x.c2)).heap.size := by simp
        have HZ8 := Lib.hid hsz8
        have hrx : Rd (fun _ => True) ((set8 w2 wr.heap.size (.int .i64 x.f.pos) (.int .u64 x.f.r.seq) (.int .u64 x.f.r.cp) (.bool x.f.r.ends) (.bool x.f.r.sync) (.int .i64 x.f.r.next) (.slice x.A x.f.r.l.length x.c) (.slice x.B x.f.c.length x.c2)).alloc (.cells (fndV x.f x.A x.c x.B x.c2) 81)) 8 (some ⟨w2.heap.size, 0, none⟩) 1 (fvC x) := by
          have := rd_new8 (set8 w2 wr.heap.size (.int .i64 x.f.pos) (.int .u64 x.f.r.seq) (.int .u64 x.f.r.cp) (.bool x.f.r.ends) (.bool x.f.r.sync) (.int .i64 x.f.r.next) (.slice x.A x.f.r.l.length x.c) (.slice x.B x.f.c.length x.c2)) x
          rwa [← hsz8] at this
        have HRX := Lib.hid hrx
        clear hf2 hf3 hxi hx3 hb hrx hKb s1 s2 hsz8
        go_wp2_with (at_builtin; refine wpList_append_rd _ rfl (.tmp 51) (.tmp 53) 31 rfl (w.heap.size + 1) 81 i0 _ 8 88 Try.underlying31 hi0 hiz0 hiz1 hiz2 rfl (by decide) _ q (fvsC xs) rfl (Fr.own HOW.out (HF2.out.alloc _) (fun _ _ => id)) _ (some ⟨w2.heap.size, 0, none⟩) 1 1 (fvC x) rfl HRX.out (fvC_one x) (by unfold maxLen; omega) (by omega) (by simp; omega) ?_; intro v3 w3 hown3 hg3 hat3; have hX3 : w3.heap[wr.heap.size]? = some (.cells (fndV x.f x.A x.c x.B x.c2) 81 (0, 0)) := (Fr.of_grown hg3).get (fun e => (by have := HLT.out _ e.symm; omega)) (old_alloc HS1'.out _); have f5 := blk_cell hX3 5; have f6 := blk_cell hX3 6; simp [fndV, fndC] at f5 f6; have hl3 : RLg w3 w.heap.size d (stL now l q) := (Fr.of_grown hg3).get (fun e => (by have := HLT.out _ e.symm; omega)) (old_alloc (HF2.out.get id HLG2.out) _); have HL3 := Lib.hid hl3; have HO3 := Lib.hid hown3; have HG3 := Lib.hid hg3; have HT3 := Lib.hid hat3; clear hX3 hl3 hown3 hg3 hat3)
        have hxr : x.f.r = recAt now (stL now l q).pos := by rw [HXF.out]; rfl
        have hgo := rgoes_any HL3.out x.f.r.l.length x.f.r.next (by have := HLO2.out.hi; omega) (Nat.le_of_lt HS1.out) (by rw [hxr]; exact HS4.out) (by
          have h5 := segB_iff.1 HS5.out
          rw [hxr]
          omega)
        have HGO := Lib.hid hgo
        clear hgo hxr
        go_wp2_with fail
        refine HGO.out.mono ?_
        rintro e w4 ⟨rfl, hl4, hf4⟩
        have HL4 := Lib.hid hl4
        have HF4 := Lib.hid hf4
        clear hl4 hf4
        go_wp2_with fail
        go_roundg (N - (q + 1))
        case measure => omega
        case rel =>
          exact rsc_step (W1 := (set8 w2 wr.heap.size _ _ _ _ _ _ _ _).alloc _) hlt HXS.out HIN.out HLT.out HBW.out hsz HXF.out (HF2.out.alloc _) ((HXI.out.kept ((Fr.refl (fun _ => False) _).alloc _) (fun _ _ => id)).mono (fun k hk => ⟨by have := hk.1; simp at this; omega, by have := hk.2; simp; omega⟩)) HG3.out HT3.out HO3.out HL4.out HF4.out
    · obtain rfl : q = N := by omega
      have ht := HN.out.2
      have hth2 : ∀ W, Below wr.heap.size wr W → Calls Try.prog 56 #[.pointer (some ⟨d, 0, none⟩), .int .i64 pv, .int .u64 sv] W fun e W' => e = .returned (.tuple #[.agg zeroF, .bool false]) ∧ Below W.heap.size W W' := fun W hW =>
        (hth W hW).mono fun e W' ⟨hb, hh⟩ => by
          rcases hh with ⟨hf, _⟩ | ⟨_, he⟩
          · rw [ht] at hf; cases hf
          · exact ⟨he, hb⟩
      have HTH := Lib.hid hth2
      have HF := Lib.hid hF
      have HLG2 := Lib.hid hlg
      have HBW := Lib.hid hbw
      have hfin : ∀ W, Fr (fun _ => False) wr W → RScPost w d now p sq nx (.returned (.tuple #[u13, .pointer (some ⟨w.heap.size, 0, none⟩), .int .i64 0])) W := fun W hW =>
        .inr ⟨HBB.out, by
          rw [HL.out]
          exact ⟨q, u13, HN.out, rfl, HF.out.kept hW (fun _ _ => id), hW.get id HLG2.out, HBW.out.trans (hW.below HBW.out.size (fun _ h => h.elim))⟩⟩
      have FIN := Lib.hid hfin
      clear hth hth2 hlo hF hlg hbw hpv hsv ht hfin
      go_wp2_with fail
      refine wp_callbox (fun V => V.cell? ⟨w.heap.size, 1, none⟩ = some (.int .i64 pv) ∧ V.cell? ⟨w.heap.size, 2, none⟩ = some (.int .u64 sv)) [0, 1, 2, 3, 4, 5, 6, 7, 8] [10, 11, 12] [14, 15] 9 13 #[true, true, true, true, true, true, true, true, true, false, false, false, false, false, false, false] #[true, true, true, true, true, true, true, true, true, true, false, false, false, false, false, false] #[true, true, true, true, true, true, true, true, true, true, true, true, true, false, false, false] #[true, true, true, true, true, true, true, true, true, false, false, false, false, true, false, false] #[true, true, true, true, true, true, true, true, true, true, false, false, false, true, false, false] #[true, true, true, true, true, true, true, true, true, true, true, true, true, true, false, false] (by kernel_rfl) (by kernel_rfl) (fun _ _ _ _ e h => ⟨e ▸ h.1, h.2⟩) ⟨c1, c2⟩ ?_
      iterate 9
        refine heldQ_step rfl (yieldsIf_of rfl (fun V hV => by obtain ⟨s1, s2⟩ := hV; go_simp; first | done | rfl)) (fun K' hK' => ?_)
        go_simp
        refine hK' _ ?_
        clear hK' K'
      refine ⟨?_, ?_⟩
      · refine wpAt_step rfl rfl (fun K' hK' => ?_)
        go_simp
        refine (HTH.out _ (below_drewN (Below.refl _ _) 1)).mono ?_
        rintro e w2 ⟨rfl, hb⟩
        unfold zeroF
        refine hK' _ _ ?_
        clear hK' K'
        iterate 3
          refine heldQ_step rfl (yieldsIf_of rfl (fun V hV => by go_simp; first | done | rfl)) (fun K' hK' => ?_)
          go_simp
          refine hK' _ ?_
          clear hK' K'
        simp only [heldQ, opsAt, List.filterMap_cons, List.filterMap_nil, List.getElem?_toArray, List.getElem?_cons_succ, List.getElem?_cons_zero]
        show wpList _ _ _ (_ :: _) _ _
        have hf2 : Fr (fun _ => False) wr w2 := (Fr.drewN _ wr 1).trans (Fr.new hb _)
        have HF2 := Lib.hid hf2
        clear hf2 hb
        go_wp2_with fail
        go_ret3
        exact FIN.out _ (HF2.out.alloc _)
      · refine wpAt_step rfl rfl (fun K' hK' => ?_)
        go_simp
        refine hK' _ _ ⟨⟨old_cell c1 _, old_cell c2 _⟩, ?_⟩
        clear hK' K'
        refine wpAt_step rfl rfl (fun K' hK' => ?_)
        go_simp
        refine (HTH.out _ ((below_drewN (Below.refl _ _) 1).alloc (Nat.le_refl _) _)).mono ?_
        rintro e w2 ⟨rfl, hb⟩
        unfold zeroF
        refine hK' _ _ ?_
        clear hK' K'
        iterate 3
          refine heldQ_step rfl (yieldsIf_of rfl (fun V hV => by go_simp; first | done | rfl)) (fun K' hK' => ?_)
          go_simp
          refine hK' _ ?_
          clear hK' K'
        simp only [heldQ, opsAt, List.filterMap_cons, List.filterMap_nil, List.getElem?_toArray, List.getElem?_cons_succ, List.getElem?_cons_zero]
        show wpList _ _ _ (_ :: _) _ _
        have hKb : w2.heap[wr.heap.size]? = some (.cells zeroF 81 (0, 0)) := (hb.block wr.heap.size (by simp)).trans (heap_alloc_new (wr.drewN 1) _)
        have b0 := blk_cell hKb 0
        have b1 := blk_cell hKb 1
        have b2 := blk_cell hKb 2
        have b3 := blk_cell hKb 3
        have b4 := blk_cell hKb 4
        have b5 := blk_cell hKb 5
        have b6 := blk_cell hKb 6
        have b7 := blk_cell hKb 7
        have bz0 := blk_frozen hKb 0
        have bz1 := blk_frozen hKb 1
        have bz2 := blk_frozen hKb 2
        have bz3 := blk_frozen hKb 3
        have bz4 := blk_frozen hKb 4
        have bz5 := blk_frozen hKb 5
        have bz6 := blk_frozen hKb 6
        have bz7 := blk_frozen hKb 7
        simp [zeroF] at b0 b1 b2 b3 b4 b5 b6 b7
        have hf2 : Fr (fun _ => False) wr w2 := ((Fr.drewN _ wr 1).alloc _).trans (Fr.new hb _)
        obtain ⟨s1, s2⟩ := set_fnd hKb (.int .i64 0) (.int .u64 0) (.int .u64 0) (.bool false) (.bool false) (.int .i64 0) (.slice none 0 0) (.slice none 0 0)
        have hf3 : Fr (fun _ => False) wr (set8 w2 wr.heap.size (.int .i64 0) (.int .u64 0) (.int .u64 0) (.bool false) (.bool false) (.int .i64 0) (.slice none 0 0) (.slice none 0 0)) := hf2.after s2 (fun i hi e => by omega)
        have HF2 := Lib.hid hf3
        clear hf2 hf3 hb hKb s1 s2
        go_wp2_with fail
        go_ret3
        exact FIN.out _ HF2.out
end Go.Proofs.Ytjmfeoenbncibaa

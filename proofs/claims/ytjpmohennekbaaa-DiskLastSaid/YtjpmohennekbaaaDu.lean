/- The law DiskStays walked. -/
import Derived.Test.YtjpmohennekbaaaDt
namespace Go.Proofs.Ytjpmohennekbaaa
open Go.RowKit Go.Nau Go.Shelf
attribute [local go_sem] Oper.semAt_some

theorem stays_all (i : Nat) : stays i 18446744073709551615 (-1) = 512 := by
  unfold stays
  rw [if_neg (by omega)]
  have h : ∀ j, j < 64 → (bits BinOp.and IntKind.u64 (18446744073709551615 / 2 ^ j) 1 == 1) = true := by decide +kernel
  rw [if_pos (h (i % 64) (Nat.mod_lt _ (by omega)))]
theorem torn1_all (b : List ByteArray) (x : Nat × ByteArray) (hx : x.2.size = 512) : torn1 b (x, 512) = b.set x.1 x.2 := by
  unfold torn1
  rw [if_neg (by simp)]
  show b.set x.1 (x.2.extract 0 512 ++ (b.getD x.1 ⟨#[]⟩).extract 512 512) = _
  have e1 : x.2.extract 0 512 = x.2 := by rw [← hx]; simp
  rw [e1]
  simp
theorem crashTo_keep (s : DS) (hl : ∀ x ∈ s.loose, x.2.size = 512) : ∀ q, q ≤ s.loose.length → crashTo s 18446744073709551615 (-1) q = settledL s.safe (s.loose.take q)
  | 0, _ => rfl
  | q + 1, h => by
    obtain ⟨x, hx⟩ : ∃ x, s.loose[q]? = some x := ⟨_, List.getElem?_eq_getElem (by omega)⟩
    rw [crashTo_succ _ _ _ _ _ hx, crashTo_keep s hl q (by omega), stays_all, torn1_all _ _ (hl x (List.mem_of_getElem? hx)), List.take_add_one, hx]
    exact (settledL_snoc _ _ _).symm
theorem crashed_keep (s : DS) (h : DInv s) : crashed s 18446744073709551615 (-1) = s.now := by
  rw [← crashTo_all, crashTo_keep s (fun x hx => (h.ok.loose x hx).2) _ (Nat.le_refl _), List.take_length, h.set]
theorem crashed_none (s : DS) (h : s.loose = []) (keep torn : Int) : crashed s keep torn = s.safe := by
  unfold crashed fates
  rw [h]
  rfl
theorem offB_cut (s : DS) : offB { s with cut := -1, gone := false } = false := by simp [offB]

/-- The loop of a script without crashes. -/
def LpRel (w0 : World) (l : List DOp) (d r nb most : Nat) (P : World → Prop) (k : Nat) (iv : Value) (wr : World) : Prop :=
  ∃ (q : Nat) (s : DS) (F G : Nat → Prop), k = l.length - q ∧ iv = .int .i64 q ∧ q ≤ l.length ∧ q ≤ most ∧ Both (w0.heap.size + 1) wr F G d r s ∧ Below w0.heap.size w0 wr ∧ P wr ∧ DInv s ∧ s.now.length = nb ∧ s.ops ≤ q ∧ s.loose.length ≤ q

theorem both_new {B : Nat} {w1 w2 w3 : World} {d r n : Nat} (hB : B ≤ w1.heap.size) (hb2 : Below w1.heap.size w1 w2) (hb3 : Below w2.heap.size w2 w3) (hD : Dsk w2 (fun k => w1.heap.size ≤ k ∧ k < w2.heap.size) d ⟨List.replicate n zero, List.replicate n zero, [], 0, -1, false⟩) (hR : RDsk w3 (fun k => w2.heap.size ≤ k ∧ k < w3.heap.size) r (freshDS (List.replicate n zero)))
    (hn : 0 < n) (hn2 : n ≤ 4096) : ∃ s, Both B w3 (fun k => w1.heap.size ≤ k ∧ k < w2.heap.size) (fun k => w2.heap.size ≤ k ∧ k < w3.heap.size) d r s ∧ DInv s ∧ s.now.length = n ∧ s.ops = 0 ∧ s.loose.length = 0 := by
  have h2 := hb2.size
  have h3 := hb3.size
  refine ⟨freshDS (List.replicate n zero), ⟨hD.kept (Fr.new hb3 (fun _ => False)) (fun _ _ => id), hR, fun k h1 h2 => by omega, fun k hk => by omega, fun k hk => by omega⟩, ?_, by simp [freshDS], rfl, rfl⟩
  exact DInv.fresh (fun x hx => by rw [List.eq_of_mem_replicate hx]; exact zero_size) (by simp; omega) (by simp; omega)

set_option maxHeartbeats 4000000 in
set_option maxRecDepth 100000 in
theorem diskstays_any (A : Option Addr) (n c : Nat) (l : List DOp) (keep torn : Int) (w : World) (hr : Rd (· < w.heap.size) w 6 A n (opsC l)) (hl : l.length = n) (hn : n ≤ maxLen) (hwf : ∀ x ∈ l, x.wf) :
    Calls Try.prog 5 #[.slice A n c, .agg #[.int .u64 keep, .int .i64 torn]] w fun e w' => e = .returned (.bool true) ∧ Below w.heap.size w w' := by
  subst hl
  have hni : (l.length : Int) ≤ 9223372036854775807 := by unfold maxLen at hn; omega
  obtain ⟨W0, hW0⟩ : ∃ W0, W0 = w.alloc (.cells #[.int .u64 keep, .int .i64 torn] 37) := ⟨_, rfl⟩
  have hbox : W0.heap[w.heap.size]? = some (.cells #[.int .u64 keep, .int .i64 torn] 37 (0, 0)) := by rw [hW0]; exact heap_alloc_new w _
  have hb0 : Below w.heap.size w W0 := by rw [hW0]; exact (Below.refl _ w).alloc (Nat.le_refl _) _
  have hs0 : W0.heap.size = w.heap.size + 1 := by rw [hW0]; simp
  have hS := Lib.hid (shown_any W0)
  have HR := Lib.hid hr
  have HWF := Lib.hid hwf
  have HW := Lib.hid hW0
  have HPK := Lib.hid pick_any
  clear hr hwf hW0
  go_enter Try.func5, Try.ntmps5
  go_wp2_with fail
  try go_step3
  go_wp2_with fail
  rw [← HW.out]
  refine hS.out.mono ?_
  rintro e w1 ⟨rfl, hb1⟩
  have hs1 := hb1.size
  have hnew := new_ok 128 w1 (by decide)
  have HNW := Lib.hid hnew
  clear hnew
  go_wp2_with fail
  refine HNW.out.mono ?_
  rintro e w2 ⟨d, rfl, hD, hd, hb2⟩
  have hs2 := hb2.size
  have hrnew := rnew_ok 128 w2 (by decide)
  have HRN := Lib.hid hrnew
  clear hrnew
  go_wp2_with fail
  refine HRN.out.mono ?_
  rintro e w3 ⟨r, rfl, hRr, hb3⟩
  have hs3 := hb3.size
  obtain ⟨s0, hbo, hi0, hlen0, ho0, hl0⟩ := both_new (B := w.heap.size + 1) (by omega) hb2 hb3 hD hRr (by omega) (by omega)
  have hb13 : Below W0.heap.size W0 w3 := (hb1.trans (hb2.mono (by omega))).trans (hb3.mono (by omega))
  have hb03 : Below w.heap.size w w3 := hb0.trans (hb13.mono (by omega))
  have hbox3 := (hb13.block w.heap.size (by omega)).trans hbox
  clear HNW HRN hD hRr
  go_wp2_with fail
  go_loopg [10] l.length (LpRel w l d r 128 100 (fun W => W.heap[w.heap.size]? = some (.cells #[.int .u64 keep, .int .i64 torn] 37 (0, 0))))
  case atStart => exact ⟨0, s0, _, _, rfl, rfl, Nat.zero_le _, Nat.zero_le _, hbo, hb03, hbox3, hi0, hlen0, by omega, by omega⟩
  case round =>
    obtain ⟨q, s, F, G, rfl, rfl, hq, hq2, hbo', hbw, hbx, hi, hlen, ho, hlo⟩ := hrel
    clear hbo hb03 hi0 hlen0 ho0 hl0 hbox3
    have hwz : w.heap.size < wr.heap.size := (Array.getElem?_eq_some_iff.1 hbx).1
    by_cases hgo : q < l.length ∧ q < 100
    · obtain ⟨hlt, hlt2⟩ := hgo
      have hqi : (q : Int) < (l.length : Int) := by omega
      have hq2i : (q : Int) < 100 := by omega
      obtain ⟨x, hx⟩ : ∃ x, l[q]? = some x := ⟨_, List.getElem?_eq_getElem hlt⟩
      obtain ⟨ad, rfl, e0, e1, e2, e3, e4, e5⟩ := ops_cells (HR.out.kept (Fr.of_below hbw) (fun k hk => by omega)) q x hx hlt
      have hxw := HWF.out x (List.mem_of_getElem? hx)
      have hdo := fun W (hB : Both (w.heap.size + 1) W F G d r s) (hz : w.heap.size + 1 ≤ W.heap.size) => does_any hB hz hi x hxw (by omega) (by omega)
      have hpk := HPK.out x.kind 6 (by have := hxw.kind; omega) (by omega) (by omega)
      have hfin : ∀ o, Both (w.heap.size + 1) (wr.alloc o) F G d r s ∧ (wr.alloc o).heap[w.heap.size]? = some (.cells #[.int .u64 keep, .int .i64 torn] 37 (0, 0)) ∧ Below w.heap.size w (wr.alloc o) := fun o =>
        ⟨hbo'.kept ((Fr.refl (fun _ => False) wr).alloc o) (fun _ _ => id) (fun _ _ => id), ((Fr.refl (fun _ => False) wr).alloc o).get id hbx, hbw.alloc (by omega) o⟩
      have HDO := Lib.hid hdo
      have HPX := Lib.hid hpk
      have HFI := Lib.hid hfin
      clear hx hdo hpk hfin
      go_wp2_with fail
      refine (HPX.out _).mono ?_
      rintro e w4 ⟨rfl, hw4⟩
      rw [hw4]
      clear hw4 w4
      by_cases h5 : pk x.kind 6 = 5
      · have h5' : ((pk x.kind 6 : Int) != 5) = false := by rw [h5]; rfl
        clear h5
        go_wp2_with fail
        go_roundg (l.length - (q + 1))
        case measure => omega
        case rel =>
          obtain ⟨f1, f2, f3⟩ := HFI.out (.cells #[.int .i64 x.kind, .int .i64 x.place, .int .i64 x.n, .int .u8 x.c, .int .u64 x.keep, .int .i64 x.torn] 42)
          exact ⟨q + 1, s, F, G, rfl, by simp, by omega, by omega, f1, f3, f2, hi, hlen, by omega, by omega⟩
      · have h5' : ((pk x.kind 6 : Int) != 5) = true := by simp; omega
        obtain ⟨f1, f2, f3⟩ := HFI.out (.cells #[.int .i64 x.kind, .int .i64 x.place, .int .i64 x.n, .int .u8 x.c, .int .u64 x.keep, .int .i64 x.torn] 42)
        have hdn := HDO.out _ f1 (by simp; omega)
        have HDN := Lib.hid hdn
        have H5 := Lib.hid h5
        have F2 := Lib.hid f2
        clear hdn h5 f1 f2
        go_wp2_with fail
        refine HDN.out.mono ?_
        rintro e w5 ⟨d', r', s', F', G', rfl, hbo5, hbw5, hi5, hl5, ho5, hlo5, hdr⟩
        obtain ⟨rfl, rfl⟩ := hdr H5.out
        have hbx5 := (hbw5.block w.heap.size (by omega)).trans F2.out
        go_wp2_with fail
        go_roundg (l.length - (q + 1))
        case measure => omega
        case rel => exact ⟨q + 1, s', F', G', rfl, by simp, by omega, by omega, hbo5, f3.trans (hbw5.mono (by omega)), hbx5, hi5, by omega, by omega, by omega⟩
    · have hcut := fun {W} (hD : Dsk W F d s) => cutat_dsk hD (-1)
      obtain ⟨s1, hs1e⟩ : ∃ s1, s1 = ({ s with cut := -1, gone := false } : DS) := ⟨_, rfl⟩
      have hi1 : DInv s1 := by rw [hs1e]; exact hi.cut _ _
      have hoff1 : offB s1 = false := by rw [hs1e]; exact offB_cut s
      have hlen1 : s1.now.length = 128 := by rw [hs1e]; exact hlen
      have hops1 : s1.ops ≤ 1000 := by rw [hs1e]; dsimp only; omega
      have hlo1 : s1.loose.length ≤ 1000 := by rw [hs1e]; dsimp only; omega
      have hck := crashed_keep s1 hi1
      have hcn := crashed_none (flushed s1) rfl keep torn
      have hfs : (flushed s1).safe = s1.now := rfl
      have hfi := hi1.flushed
      have hfl : (flushed s1).now.length = 128 := hlen1
      have hfo : (flushed s1).loose.length ≤ 1073741824 := by simp [flushed]
      rw [hfs] at hcn
      rw [← hs1e] at hcut
      have hgo2 : (q < l.length ∧ q = 100) ∨ q = l.length := by omega
      rcases hgo2 with ⟨hlt, rfl⟩ | rfl
      case' inl => have hqi : ((100 : Nat) : Int) < (l.length : Int) := by omega
      all_goals
        go_wp2_with fail
        refine (hcut hbo'.1).mono ?_
        rintro e w4 ⟨rfl, F4, hD4, hF4, hf4⟩
        have hs4 := hf4.size
        obtain ⟨F5, hD4b, hF5⟩ : ∃ F5 : Nat → Prop, Dsk w4 F5 d s1 ∧ ∀ k, F5 k → w.heap.size + 1 ≤ k ∧ k < w4.heap.size := ⟨fun k => F4 k ∧ k < w4.heap.size, hD4.monoF (fun k hk h => ⟨h, hk⟩), fun k hk => ⟨by
          rcases hF4 k hk.1 with h | h
          · exact (hbo'.2.2.2.1 k h).1
          · omega, hk.2⟩⟩
        have hbw4 : Below w.heap.size w w4 := hbw.trans (hf4.below (by omega) (fun k hk => by have := (hbo'.2.2.2.1 k hk).1; omega))
        have hbx4 := hf4.get (fun hk => by have := (hbo'.2.2.2.1 _ hk).1; omega) hbx
        go_wp2_with fail
        refine (crash_dsk hD4b hi1.ok (by omega) (by omega) 18446744073709551615 (-1)).mono ?_
        rintro e w5 ⟨d5, rfl, hD5, hd5, hb5⟩
        rw [hck] at hD5
        have hs5 := hb5.size
        have hd5' := hD4b.kept (Fr.new hb5 (fun _ => False)) (fun _ _ => id)
        go_wp2_with fail
        refine (image_dsk hD5 (by dsimp only; omega)).mono ?_
        rintro e w6 ⟨v6, rfl, hown6, hb6⟩
        dsimp only at hown6
        rw [hlen1] at hown6
        obtain ⟨A6, c6, rfl, hrd6⟩ := Rd.lt_own (own_base hown6 (Nat.zero_le _))
        have hs6 := hb6.size
        have hd6' := hd5'.kept (Fr.new hb6 (fun _ => False)) (fun _ _ => id)
        go_wp2_with fail
        refine (image_dsk hd6' (by omega)).mono ?_
        rintro e w7 ⟨v7, rfl, hown7, hb7⟩
        rw [hlen1] at hown7
        obtain ⟨A7, c7, rfl, hrd7⟩ := Rd.lt_own (own_base hown7 (Nat.zero_le _))
        have hs7 := hb7.size
        have hd7' := hd6'.kept (Fr.new hb7 (fun _ => False)) (fun _ _ => id)
        have hrd6' := hrd6.kept (Fr.new hb7 (fun _ => False)) (fun _ _ => id)
        go_wp2_with fail
        refine (same_any _ _ A6 A7 128 c6 c7 s1.now w7 hrd6' hrd7 (by omega)).mono ?_
        rintro e w8 ⟨rfl, q8, rfl⟩
        have hd8' := hd7'.kept (Fr.drewN (fun _ => False) w7 q8) (fun _ _ => id)
        go_wp2_with fail
        refine (image_dsk hd8' (by omega)).mono ?_
        rintro e w9 ⟨v9, rfl, hown9, hb9⟩
        rw [hlen1] at hown9
        obtain ⟨A9, c9, rfl, hrd9⟩ := Rd.of_own hown9
        have hs9 : w7.heap.size ≤ w9.heap.size := hb9.size
        have hd9' := hd8'.kept (Fr.new hb9 (fun _ => False)) (fun _ _ => id)
        have hrd9 := hrd9.2.2
        have hbw9 : Below w.heap.size w w9 := ((((hbw4.trans (hb5.mono (by omega))).trans (hb6.mono (by omega))).trans (hb7.mono (by omega))).trans (((Below.refl w7.heap.size w7) |> fun h => below_drewN h q8).mono (by omega))).trans (hb9.mono (by show w.heap.size ≤ w7.heap.size; omega))
        have hb49 : Below w4.heap.size w4 w9 := ((((hb5).trans (hb6.mono (by omega))).trans (hb7.mono (by omega))).trans (((Below.refl w7.heap.size w7) |> fun h => below_drewN h q8).mono (by omega))).trans (hb9.mono (by show w4.heap.size ≤ w7.heap.size; omega))
        have hbx9 := (hb49.block w.heap.size (by omega)).trans hbx4
        go_wp2_with fail
        refine (flush_ok hd9' hoff1 (by omega)).mono ?_
        rintro e w10 ⟨rfl, F10, hD10, hF10, hf10⟩
        have hs10 := hf10.size
        have hbw10 : Below w.heap.size w w10 := hbw9.trans (hf10.below (by omega) (fun k hk => by have := (hF5 k hk).1; omega))
        have hbx10 := hf10.get (fun hk => by have := (hF5 _ hk).1; omega) hbx9
        have hrd10 := hrd9.kept hf10 (fun k hk hF => by have h1 : w7.heap.size ≤ k := hk; have := (hF5 k hF).2; omega)
        have k0 := blk_cell hbx10 0
        have k1 := blk_cell hbx10 1
        simp at k0 k1
        go_wp2_with fail
        refine (crash_dsk hD10 hfi.ok (by omega) hfo keep torn).mono ?_
        rintro e w11 ⟨d11, rfl, hD11, hd11, hb11⟩
        rw [hcn] at hD11
        have hs11 := hb11.size
        have hrd11 := (Rd.inb hrd10).kept (Fr.of_below hb11) (fun k hk => by omega)
        go_wp2_with fail
        refine (image_dsk hD11 (by dsimp only; omega)).mono ?_
        rintro e w12 ⟨v12, rfl, hown12, hb12⟩
        dsimp only at hown12
        rw [hlen1] at hown12
        obtain ⟨A12, c12, rfl, hrd12⟩ := Rd.lt_own (own_base hown12 (Nat.zero_le _))
        have hs12 := hb12.size
        have hrd12' := hrd11.kept (Fr.of_below hb12) (fun k hk => by omega)
        have hD12 := hD11.kept (Fr.new hb12 (fun _ => False)) (fun _ _ => id)
        go_wp2_with fail
        refine (same_any _ _ A12 A9 128 c12 c9 s1.now w12 hrd12 hrd12' (by omega)).mono ?_
        rintro e w13 ⟨rfl, q13, rfl⟩
        have hD13 := hD12.kept (Fr.drewN (fun _ => False) w12 q13) (fun _ _ => id)
        go_wp2_with fail
        refine (loose_dsk hD13).mono ?_
        rintro e w14 ⟨rfl, rfl⟩
        go_wp2_with fail
        refine (ops_dsk hD13).mono ?_
        rintro e w14 ⟨rfl, rfl⟩
        go_wp2_with fail
        go_ret
        exact ⟨rfl, below_drewN ((hbw10.trans (hb11.mono (by omega))).trans (hb12.mono (by omega))) q13⟩
end Go.Proofs.Ytjpmohennekbaaa

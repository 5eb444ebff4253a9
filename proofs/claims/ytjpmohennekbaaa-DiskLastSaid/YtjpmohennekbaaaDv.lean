/- The law DiskLast walked. -/
import Derived.Test.YtjpmohennekbaaaDu
namespace Go.Proofs.Ytjpmohennekbaaa
open Go.RowKit Go.Nau Go.Shelf
attribute [local go_sem] Oper.semAt_some

theorem fullN_512 : fullN 512 = 512 := by decide
theorem full_9 (W : World) : Calls Try.prog 28 #[.int .u8 9, .int .i64 512] W fun e w' => e = .returned (.string (fullS 9 512)) ∧ Below W.heap.size W w' := by
  have := full_any 9 (by decide) 512 (by omega) W
  rw [fullN_512] at this
  exact this

set_option maxHeartbeats 4000000 in
set_option maxRecDepth 100000 in
theorem disklast_any (A : Option Addr) (n c : Nat) (l : List DOp) (pa po keep torn : Int) (hpa : -9223372036854775808 ≤ pa ∧ pa ≤ 9223372036854775807) (hpo : -9223372036854775808 ≤ po ∧ po ≤ 9223372036854775807) (w : World) (hr : Rd (· < w.heap.size) w 6 A n (opsC l)) (hl : l.length = n) (hn : n ≤ maxLen) (hwf : ∀ x ∈ l, x.wf) :
    Calls Try.prog 4 #[.slice A n c, .int .i64 pa, .int .i64 po, .agg #[.int .u64 keep, .int .i64 torn]] w fun e w' => e = .returned (.bool true) ∧ Below w.heap.size w w' := by
  subst hl
  have hni : (l.length : Int) ≤ 9223372036854775807 := by unfold maxLen at hn; omega
  obtain ⟨W0, hW0⟩ : ∃ W0, W0 = w.alloc (.cells #[.int .u64 keep, .int .i64 torn] 37) := ⟨_, rfl⟩
  have hbox : W0.heap[w.heap.size]? = some (.cells #[.int .u64 keep, .int .i64 torn] 37 (0, 0)) := by rw [hW0]; exact heap_alloc_new w _
  have hb0 : Below w.heap.size w W0 := by rw [hW0]; exact (Below.refl _ w).alloc (Nat.le_refl _) _
  have hs0 : W0.heap.size = w.heap.size + 1 := by rw [hW0]; simp
  have hS := Lib.hid (shown_any W0)
  have HR := Lib.hid hr
  have HWF := Lib.hid hwf
  have HW := Lib.hid hW0
  have HPK := Lib.hid pick_any
  clear hr hwf hW0
  go_enter Try.func4, Try.ntmps4
  go_wp2_with fail
  try go_step3
  go_wp2_with fail
  rw [← HW.out]
  refine hS.out.mono ?_
  rintro e w1 ⟨rfl, hb1⟩
  have hs1 := hb1.size
  have hnew := new_ok 128 w1 (by decide)
  have HNW := Lib.hid hnew
  clear hnew
  go_wp2_with fail
  refine HNW.out.mono ?_
  rintro e w2 ⟨d, rfl, hD, hd, hb2⟩
  have hs2 := hb2.size
  have hrnew := rnew_ok 128 w2 (by decide)
  have HRN := Lib.hid hrnew
  clear hrnew
  go_wp2_with fail
  refine HRN.out.mono ?_
  rintro e w3 ⟨r, rfl, hRr, hb3⟩
  have hs3 := hb3.size
  obtain ⟨s0, hbo, hi0, hlen0, ho0, hl0⟩ := both_new (B := w.heap.size + 1) (by omega) hb2 hb3 hD hRr (by omega) (by omega)
  have hb13 : Below W0.heap.size W0 w3 := (hb1.trans (hb2.mono (by omega))).trans (hb3.mono (by omega))
  have hb03 : Below w.heap.size w w3 := hb0.trans (hb13.mono (by omega))
  have hbox3 := (hb13.block w.heap.size (by omega)).trans hbox
  clear HNW HRN hD hRr
  go_wp2_with fail
  go_loopg [14] l.length (LpRel w l d r 128 60 (fun W => W.heap[w.heap.size]? = some (.cells #[.int .u64 keep, .int .i64 torn] 37 (0, 0))))
  case atStart => exact ⟨0, s0, _, _, rfl, rfl, Nat.zero_le _, Nat.zero_le _, hbo, hb03, hbox3, hi0, hlen0, by omega, by omega⟩
  case round =>
    obtain ⟨q, s, F, G, rfl, rfl, hq, hq2, hbo', hbw, hbx, hi, hlen, ho, hlo⟩ := hrel
    clear hbo hb03 hi0 hlen0 ho0 hl0 hbox3
    have hwz : w.heap.size < wr.heap.size := (Array.getElem?_eq_some_iff.1 hbx).1
    by_cases hgo : q < l.length ∧ q < 60
    · obtain ⟨hlt, hlt2⟩ := hgo
      have hqi : (q : Int) < (l.length : Int) := by omega
      have hq2i : (q : Int) < 60 := by omega
      obtain ⟨x, hx⟩ : ∃ x, l[q]? = some x := ⟨_, List.getElem?_eq_getElem hlt⟩
      obtain ⟨ad, rfl, e0, e1, e2, e3, e4, e5⟩ := ops_cells (HR.out.kept (Fr.of_below hbw) (fun k hk => by omega)) q x hx hlt
      have hxw := HWF.out x (List.mem_of_getElem? hx)
      have hdo := fun W (hB : Both (w.heap.size + 1) W F G d r s) (hz : w.heap.size + 1 ≤ W.heap.size) => does_any hB hz hi x hxw (by omega) (by omega)
      have hpk := HPK.out x.kind 6 (by have := hxw.kind; omega) (by omega) (by omega)
      have HDO := Lib.hid hdo
      have HPX := Lib.hid hpk
      clear hx hdo hpk
      go_wp2_with fail
      refine (HPX.out _).mono ?_
      rintro e w4 ⟨rfl, hw4⟩
      rw [hw4]
      clear hw4 w4
      by_cases h5 : pk x.kind 6 = 5
      · have h5' : ((pk x.kind 6 : Int) != 5) = false := by rw [h5]; rfl
        clear h5
        go_wp2_with fail
        go_roundg (l.length - (q + 1))
        case measure => omega
        case rel =>
          exact ⟨q + 1, s, F, G, rfl, by simp, by omega, by omega, hbo', hbw, hbx, hi, hlen, by omega, by omega⟩
      · have h5' : ((pk x.kind 6 : Int) != 5) = true := by simp; omega
        have hdn := HDO.out _ hbo' (by omega)
        have HDN := Lib.hid hdn
        have H5 := Lib.hid h5
        clear hdn h5
        go_wp2_with fail
        refine HDN.out.mono ?_
        rintro e w5 ⟨d', r', s', F', G', rfl, hbo5, hbw5, hi5, hl5, ho5, hlo5, hdr⟩
        obtain ⟨rfl, rfl⟩ := hdr H5.out
        have hbx5 := (hbw5.block w.heap.size (by omega)).trans hbx
        go_wp2_with fail
        go_roundg (l.length - (q + 1))
        case measure => omega
        case rel => exact ⟨q + 1, s', F', G', rfl, by simp, by omega, by omega, hbo5, hbw.trans (hbw5.mono (by omega)), hbx5, hi5, by omega, by omega, by omega⟩
    · have hcut := fun {W} (hD : Dsk W F d s) => cutat_dsk hD (-1)
      obtain ⟨s1, hs1e⟩ : ∃ s1, s1 = ({ s with cut := -1, gone := false } : DS) := ⟨_, rfl⟩
      have hi1 : DInv s1 := by rw [hs1e]; exact hi.cut _ _
      have hoff1 : offB s1 = false := by rw [hs1e]; exact offB_cut s
      have hlen1 : s1.now.length = 128 := by rw [hs1e]; exact hlen
      have hops1 : s1.ops ≤ 1000 := by rw [hs1e]; dsimp only; omega
      have hlo1 : s1.loose.length ≤ 1000 := by rw [hs1e]; dsimp only; omega
      obtain ⟨F9, hF9⟩ : ∃ F9, F9 = fullS 9 512 := ⟨_, rfl⟩
      have hF9s : F9.size = 512 := by rw [hF9, fullS_size]
      have hFull := fun W => full_9 W
      rw [← hF9] at hFull
      clear hF9
      have ha := pk_lt pa 128 (by omega)
      have hoo := pk_lt po 128 (by omega)
      have hpka := HPK.out pa 128 (by omega) (by omega) (by omega)
      have hpko := HPK.out po 128 (by omega) (by omega) (by omega)
      generalize pk pa 128 = a at *
      generalize pk po 128 = o at *
      have hwi := hi1.wrote a (by omega) F9 hF9s
      have hwl : (wrote s1 a F9).now.length = 128 := by show (s1.now.set a F9).length = _; rw [List.length_set, hlen1]
      have hwo : (wrote s1 a F9).loose.length ≤ 2000 := by simp [wrote]; omega
      obtain ⟨was, hwas⟩ : ∃ y, s.now[o]? = some y := ⟨_, List.getElem?_eq_getElem (by omega)⟩
      have hga : (wrote s1 a F9).now[a]? = some F9 := by show (s1.now.set a F9)[a]? = _; rw [List.getElem?_set_self (by omega)]
      obtain ⟨bv, yv, hoi, hgo', hbv⟩ : ∃ bv yv, ((o : Int) == (a : Int)) = bv ∧ (wrote s1 a F9).now[o]? = some yv ∧ (bv = true ∨ (bv = false ∧ yv = was)) := by
        by_cases e : o = a
        · exact ⟨true, F9, by rw [e]; simp, by rw [e]; exact hga, .inl rfl⟩
        · refine ⟨false, was, by simp; omega, ?_, .inr ⟨rfl, rfl⟩⟩
          show (s1.now.set a F9)[o]? = _
          rw [List.getElem?_set_ne (fun h => e h.symm), hs1e]
          exact hwas
      have HOI := Lib.hid hoi
      clear hoi
      rw [← hs1e] at hcut
      have hgo2 : (q < l.length ∧ q = 60) ∨ q = l.length := by omega
      rcases hgo2 with ⟨hlt, rfl⟩ | rfl
      case' inl => have hqi : ((60 : Nat) : Int) < (l.length : Int) := by omega
      all_goals
        go_wp2_with fail
        refine (hpka wr).mono ?_
        rintro e w4 ⟨rfl, hw4⟩
        rw [hw4]
        clear hw4 w4
        go_wp2_with fail
        refine (hpko wr).mono ?_
        rintro e w4 ⟨rfl, hw4⟩
        rw [hw4]
        clear hw4 w4
        go_wp2_with fail
        refine (read_ok hbo'.1 o was hwas).mono ?_
        rintro e w4 ⟨rfl, rfl⟩
        go_wp2_with fail
        refine (hcut hbo'.1).mono ?_
        rintro e w4 ⟨rfl, F4, hD4, hF4, hf4⟩
        have hs4 := hf4.size
        obtain ⟨F5, hD4b, hF5⟩ : ∃ F5 : Nat → Prop, Dsk w4 F5 d s1 ∧ ∀ k, F5 k → w.heap.size + 1 ≤ k ∧ k < w4.heap.size := ⟨fun k => F4 k ∧ k < w4.heap.size, hD4.monoF (fun k hk h => ⟨h, hk⟩), fun k hk => ⟨by
          rcases hF4 k hk.1 with h | h
          · exact (hbo'.2.2.2.1 k h).1
          · omega, hk.2⟩⟩
        have hbw4 : Below w.heap.size w w4 := hbw.trans (hf4.below (by omega) (fun k hk => by have := (hbo'.2.2.2.1 k hk).1; omega))
        have hbx4 := hf4.get (fun hk => by have := (hbo'.2.2.2.1 _ hk).1; omega) hbx
        go_wp2_with fail
        refine (hFull w4).mono ?_
        rintro e w5 ⟨rfl, hb5⟩
        have hs5 := hb5.size
        have hD5 := hD4b.kept (Fr.new hb5 (fun _ => False)) (fun _ _ => id)
        have hbx5 := (hb5.block w.heap.size (by omega)).trans hbx4
        go_wp2_with fail
        refine (write_ok hD5 hoff1 a (by omega) F9 hF9s (by omega) (by omega)).mono ?_
        rintro e w6 ⟨rfl, F6, hD6, hF6, hf6⟩
        have hs6 := hf6.size
        obtain ⟨F7, hD6b, hF7⟩ : ∃ F7 : Nat → Prop, Dsk w6 F7 d (wrote s1 a F9) ∧ ∀ k, F7 k → w.heap.size + 1 ≤ k ∧ k < w6.heap.size := ⟨fun k => F6 k ∧ k < w6.heap.size, hD6.monoF (fun k hk h => ⟨h, hk⟩), fun k hk => ⟨by
          rcases hF6 k hk.1 with h | h
          · exact (hF5 k h).1
          · omega, hk.2⟩⟩
        have hbw6 : Below w.heap.size w w6 := (hbw4.trans (hb5.mono (by omega))).trans (hf6.below (by omega) (fun k hk => by have := (hF5 k hk).1; omega))
        have hbx6 := hf6.get (fun hk => by have := (hF5 _ hk).1; omega) hbx5
        generalize wrote s1 a F9 = s2 at *
        go_wp2_with fail
        refine (read_ok hD6b a F9 hga).mono ?_
        rintro e w7 ⟨rfl, rfl⟩
        go_wp2_with fail
        refine (read_ok hD6b o _ hgo').mono ?_
        rintro e w7 ⟨rfl, rfl⟩
        go_wp2_with fail
        refine (image_dsk hD6b (by omega)).mono ?_
        rintro e w7 ⟨v7, rfl, hown7, hb7⟩
        rw [hwl] at hown7
        obtain ⟨A7, c7, rfl, hrd7⟩ := Rd.lt_own (own_base hown7 (Nat.zero_le _))
        have hs7 := hb7.size
        have hD7 := hD6b.kept (Fr.new hb7 (fun _ => False)) (fun _ _ => id)
        have hbx7 := (hb7.block w.heap.size (by omega)).trans hbx6
        have k0 := blk_cell hbx7 0
        have k1 := blk_cell hbx7 1
        simp at k0 k1
        go_wp2_with fail
        refine (crash_dsk hD7 hwi.ok (by omega) (by omega) keep torn).mono ?_
        rintro e w8 ⟨d8, rfl, hD8, hd8, hb8⟩
        have hs8 := hb8.size
        have hDd8 := hD7.kept (Fr.new hb8 (fun _ => False)) (fun _ _ => id)
        have hbx8 := (hb8.block w.heap.size (by omega)).trans hbx7
        have k0' := blk_cell hbx8 0
        have k1' := blk_cell hbx8 1
        simp at k0' k1'
        have hcl : (crashed s2 keep torn).length = 128 := by rw [crashed_length, hwi.ok.len, hwl]
        have hCR := fun {W} (hD : Dsk W F7 d s2) => crash_dsk hD hwi.ok (by omega) (by omega) keep torn
        generalize crashed s2 keep torn = cr at *
        go_wp2_with fail
        refine (hCR hDd8).mono ?_
        rintro e w9 ⟨d9, rfl, hD9, hd9, hb9⟩
        have hs9 := hb9.size
        have hDd9 := hDd8.kept (Fr.new hb9 (fun _ => False)) (fun _ _ => id)
        have hD8' := hD8.kept (Fr.new hb9 (fun _ => False)) (fun _ _ => id)
        have hrd9 := (hrd7.kept (Fr.new hb8 (fun _ => False)) (fun _ _ => id)).kept (Fr.new hb9 (fun _ => False)) (fun _ _ => id)
        have hbw9 : Below w.heap.size w w9 := ((hbw6.trans (hb7.mono (by omega))).trans (hb8.mono (by omega))).trans (hb9.mono (by omega))
        have hoi := HOI.out
        rcases hbv with rfl | ⟨rfl, rfl⟩
        all_goals
          go_wp2_with fail
          refine (hFull w9).mono ?_
          rintro e w10 ⟨rfl, hb10⟩
          have hs10 := hb10.size
          have hf10 : Fr (fun _ => False) w9 w10 := Fr.new hb10 _
          have hDd10 := hDd9.kept hf10 (fun _ _ => id)
          have hD8a := hD8'.kept hf10 (fun _ _ => id)
          have hD9a := hD9.kept hf10 (fun _ _ => id)
          have hrd10 := hrd9.kept hf10 (fun _ _ => id)
          go_wp2_with fail
          refine (image_dsk hDd10 (by omega)).mono ?_
          rintro e w11 ⟨v11, rfl, hown11, hb11⟩
          rw [hwl] at hown11
          obtain ⟨A11, c11, rfl, hrd11⟩ := Rd.lt_own (own_base hown11 (Nat.zero_le _))
          have hs11 := hb11.size
          have hf11 : Fr (fun _ => False) w10 w11 := Fr.new hb11 _
          go_wp2_with fail
          refine (same_any _ _ A11 A7 128 c11 c7 s2.now w11 hrd11 (hrd10.kept hf11 (fun _ _ => id)) (by omega)).mono ?_
          rintro e w12 ⟨rfl, q12, rfl⟩
          have hf12 : Fr (fun _ => False) w10 (w11.drewN q12) := hf11.trans (Fr.drewN _ _ _)
          go_wp2_with fail
          refine (image_dsk (hD8a.kept hf12 (fun _ _ => id)) (by dsimp only; omega)).mono ?_
          rintro e w13 ⟨v13, rfl, hown13, hb13⟩
          dsimp only at hown13
          rw [hcl] at hown13
          obtain ⟨A13, c13, rfl, hrd13⟩ := Rd.lt_own (own_base hown13 (Nat.zero_le _))
          have hs13 : w11.heap.size ≤ w13.heap.size := hb13.size
          have hf13 : Fr (fun _ => False) w10 w13 := hf12.trans (Fr.new hb13 _)
          go_wp2_with fail
          refine (image_dsk (hD9a.kept hf13 (fun _ _ => id)) (by dsimp only; omega)).mono ?_
          rintro e w14 ⟨v14, rfl, hown14, hb14⟩
          dsimp only at hown14
          rw [hcl] at hown14
          obtain ⟨A14, c14, rfl, hrd14⟩ := Rd.lt_own (own_base hown14 (Nat.zero_le _))
          have hs14 := hb14.size
          have hf14 : Fr (fun _ => False) w13 w14 := Fr.new hb14 _
          go_wp2_with fail
          refine (same_any _ _ A13 A14 128 c13 c14 cr w14 (hrd13.kept hf14 (fun _ _ => id)) hrd14 (by omega)).mono ?_
          rintro e w15 ⟨rfl, q15, rfl⟩
          have hf15 : Fr (fun _ => False) w10 (w14.drewN q15) := (hf13.trans hf14).trans (Fr.drewN _ _ _)
          have hblk := blocks_dsk (hD8a.kept hf15 (fun _ _ => id))
          dsimp only at hblk
          rw [hcl] at hblk
          go_wp2_with fail
          refine hblk.mono ?_
          rintro e w16 ⟨rfl, rfl⟩
          go_wp2_with fail
          go_ret
          exact ⟨rfl, below_drewN ((((hbw9.trans (hb10.mono (by omega))).trans (hb11.mono (by omega))).trans ((below_drewN (Below.refl w11.heap.size w11) q12).mono (by omega)) |>.trans (hb13.mono (by show w.heap.size ≤ w11.heap.size; omega))).trans (hb14.mono (by omega))) q15⟩
end Go.Proofs.Ytjpmohennekbaaa

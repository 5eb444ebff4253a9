/- Texts of this proof, joined: Rn. They hold under no condition beyond what each theorem states. -/
import Derived.Test.YtjmfeoenbncibaaM13
import Derived.Test.YtjmfeoenbncibaaM14
import Derived.Deep.RegionHeld3
namespace Go.Proofs.Ytjmfeoenbncibaa
open Go.RowKit Go.Nau Go.Shelf
attribute [local go_sem] Oper.semAt_some

def RDRel (w : World) (s : ByteArray) (v0 v1 v2 v3 v4 : Value) (k : Nat) (i : Value) (W : World) : Prop :=
  ∃ (q : Nat) (A : Option Addr) (c : Nat), k = 16 - q ∧ i = .int .i64 q ∧ q ≤ 16 ∧ q ≤ entN s ∧
    W.heap[w.heap.size + 1]? = some (.cells #[v0, v1, v2, v3, v4, .slice A q c] 79 (0, 0)) ∧ W.ownsRow (w.heap.size + 2) 85 4 (.slice A q c) q (entC ((entsL s).take q)) ∧
    W.heap[w.heap.size]? = some (.cells #[.int .u64 0, .int .u64 0, .bool false, .bool false, .int .i64 0, .slice none 0 0] 79 (0, 0)) ∧ Below w.heap.size w W

theorem extract_left (a b : ByteArray) (n : Nat) (h : a.size = n) : (a ++ b).extract 0 n = a := by
  apply ByteArray.ext
  apply Array.toList_inj.1
  rw [Lib.extract_data, Nat.sub_zero, List.drop_zero]
  simp only [ByteArray.data_append, Array.toList_append]
  rw [List.take_append_of_le_length (by rw [← h]; exact Nat.le_refl _), List.take_of_length_le (by rw [← h]; exact Nat.le_refl _)]
theorem sec256_size (r : Rec) (h : r.l.length ≤ 15) : (sec256 r).size = 256 := by
  unfold sec256
  rw [ByteArray.size_append, strL_size, zeroN_size, secL_length]
  omega
theorem sec_of_enc (r : Rec) (h : r.l.length ≤ 15) : (encS r).extract 0 256 = sec256 r := by
  rw [enc_sec r h]
  exact extract_left _ _ _ (sec256_size r h)
theorem rd_new4 (W : World) (x y z t : Value) : Rd (fun _ => True) (W.alloc (.cells #[x, y, z, t] 85)) 4 (some ⟨W.heap.size, 0, none⟩) 1 [x, y, z, t] := by
  refine ⟨rfl, fun _ => ⟨_, rfl, trivial, fun j u hu => ?_⟩⟩
  have hn := heap_alloc_new W (.cells #[x, y, z, t] 85)
  have ha : (⟨W.heap.size, 0, none⟩ : Addr).add j = ⟨W.heap.size, j, none⟩ := by unfold Addr.add; split <;> simp_all
  rw [ha]
  rw [cell_of_row _ W.heap.size j _ _ _ hn]
  simpa using hu

set_option maxHeartbeats 4000000 in
set_option maxRecDepth 100000 in
theorem rdecode_any (s : ByteArray) (hs : s.size ≤ 9223372036854775807) (w : World) : Calls Try.prog 82 #[.string s] w (DecPost w s) := by
  obtain ⟨i0, hi0, hz0, hz1, hz2⟩ := info_parts infoEnt
  by_cases h5 : s.size = 512
  case neg =>
    clear hi0 hz0 hz1 hz2
    have h5' : ((s.size : Int) == 512) = false := by simp; omega
    have ho : okDec s = false := by unfold okDec; simp [h5]
    have HO := Lib.hid ho
    clear ho h5
    go_enter Try.func82, Try.ntmps82
    go_wp2_with fail
    refine bodyPost_ret (res_rec2 rfl _ _ rfl (load_rec w.heap.size _ (.int .u64 0) (.int .u64 0) (.bool false) (.bool false) (.int .i64 0) (.slice none 0 0) (heap_alloc_new w _))) rfl ?_
    unfold DecPost decO decE
    rw [HO.out]
    exact ⟨none, 0, rfl, Nat.le_refl _, Rd.nil _ _ _ _, (Below.refl _ w).alloc (Nat.le_refl _) _⟩
  have h5' : ((s.size : Int) == 512) = true := by simp; omega
  obtain ⟨f, hf⟩ : ∃ f, f = takeN s 13 1 := ⟨_, rfl⟩
  obtain ⟨sq, hsq⟩ : ∃ x, x = takeN s 1 6 := ⟨_, rfl⟩
  obtain ⟨cp, hcp⟩ : ∃ x, x = takeN s 7 6 := ⟨_, rfl⟩
  obtain ⟨nx, hnx⟩ : ∃ x, x = takeN s 14 2 := ⟨_, rfl⟩
  have t13 := fun W => rtaken_any s 13 1 (by omega) (by omega) hs (by omega) W
  have t1 := fun W => rtaken_any s 1 6 (by omega) (by omega) hs (by omega) W
  have t7 := fun W => rtaken_any s 7 6 (by omega) (by omega) hs (by omega) W
  have t14 := fun W => rtaken_any s 14 2 (by omega) (by omega) hs (by omega) W
  have t16 := fun W => rtaken_any s 16 1 (by omega) (by omega) hs (by omega) W
  have b14 : takeN s 14 2 < 65536 := takeN_lt s 14 2
  have bN := entN_lt s
  have hll := entsL_length s
  have hge := fun q h => @entsL_get s q h
  have hrel0 : RDRel w s (.int .u64 sq) (.int .u64 cp) (.bool ((f : Int) == 1)) (.bool ((f : Int) == 2)) (.int .i64 nx) 16 (.int .i64 0) ((w.alloc (.cells #[.int .u64 0, .int .u64 0, .bool false, .bool false, .int .i64 0, .slice none 0 0] 79)).alloc (.cells #[.int .u64 sq, .int .u64 cp, .bool ((f : Int) == 1), .bool ((f : Int) == 2), .int .i64 nx, .slice none 0 0] 79)) := by
    refine ⟨0, none, 0, rfl, rfl, by omega, by omega, ?_, ⟨rfl, .inl ⟨rfl, rfl⟩⟩, ?_, ((Below.refl _ w).alloc (Nat.le_refl _) _).alloc (by simp) _⟩
    · have := heap_alloc_new (w.alloc (.cells #[.int .u64 0, .int .u64 0, .bool false, .bool false, .int .i64 0, .slice none 0 0] 79)) (.cells #[.int .u64 sq, .int .u64 cp, .bool ((f : Int) == 1), .bool ((f : Int) == 2), .int .i64 nx, .slice none 0 0] 79)
      rw [World.size_alloc] at this
      exact this
    · exact old_alloc (heap_alloc_new w _) _
  rw [show takeN s 16 1 = entN s from rfl] at t16
  rw [← hf] at t13
  rw [← hsq] at t1
  rw [← hcp] at t7
  rw [← hnx] at t14 b14
  have HF := Lib.hid hf
  have HSQ := Lib.hid hsq
  have HCP := Lib.hid hcp
  have HNX := Lib.hid hnx
  have T13 := Lib.hid t13
  have T1 := Lib.hid t1
  have T7 := Lib.hid t7
  have T14 := Lib.hid t14
  have T16 := Lib.hid t16
  have HL := Lib.hid hll
  have HG := Lib.hid hge
  have H5 := Lib.hid h5
  have HR0 := Lib.hid hrel0
  clear hf hsq hcp hnx t13 t1 t7 t14 t16 hll hge h5 hrel0
  generalize hN : entN s = N at *
  have HN := Lib.hid hN
  clear hN
  go_enter Try.func82, Try.ntmps82
  go_wp2_with fail
  refine (T13.out _).mono ?_
  rintro e w1 ⟨rfl, hw1⟩
  rw [← hw1]
  clear hw1 w1
  go_wp2_with fail
  refine (T1.out _).mono ?_
  rintro e w1 ⟨rfl, hw1⟩
  rw [← hw1]
  clear hw1 w1
  go_wp2_with fail
  refine (T7.out _).mono ?_
  rintro e w1 ⟨rfl, hw1⟩
  rw [← hw1]
  clear hw1 w1
  go_wp2_with fail
  refine (T14.out _).mono ?_
  rintro e w1 ⟨rfl, hw1⟩
  rw [← hw1]
  clear hw1 w1
  go_wp2_with fail
  refine (T16.out _).mono ?_
  rintro e w1 ⟨rfl, hw1⟩
  rw [← hw1]
  clear hw1 w1
  go_wp2_with fail
  go_loopg [7] 16 (RDRel w s (.int .u64 sq) (.int .u64 cp) (.bool ((f : Int) == 1)) (.bool ((f : Int) == 2)) (.int .i64 nx))
  case atStart => exact HR0.out
  case round =>
    obtain ⟨q, A, c, rfl, rfl, hq, hqN, hR, hown, hres, hbw⟩ := hrel
    rw [HN.out] at hqN
    have r5 := blk_cell hR 5
    have z5 := blk_frozen hR 5
    simp at r5
    have hwz := hbw.size
    have hRlt := (Array.getElem?_eq_some_iff.1 hR).1
    by_cases hgo : q < N ∧ q ≤ 15
    · obtain ⟨g1, g2⟩ := hgo
      have g1i : (q : Int) < (N : Int) := by omega
      have g2i : (q : Int) ≤ 15 := by omega
      have HO := Lib.hid hown
      have HR := Lib.hid hR
      have HRES := Lib.hid hres
      clear hown hR hres
      obtain ⟨x, hx⟩ : ∃ x, x = entAt s q := ⟨_, rfl⟩
      have hxg := HG.out q g1
      rw [← hx] at hxg
      have hsn : entC ((entsL s).take (q + 1)) = entC ((entsL s).take q) ++ entL x := by rw [List.take_add_one, hxg, ← entC_snoc]; rfl
      have tt : ∀ (p wd : Int) (W : World), 0 ≤ p → p ≤ 1000000 → 1 ≤ wd → wd ≤ 8 → Calls Try.prog 100 #[.string s, .int .i64 p, .int .i64 wd] W fun e w' => e = .returned (.int .u64 (takeI s p wd)) ∧ W = w' := fun p wd W h1 h2 h3 h4 => by
        have := rtaken_any s p.toNat wd.toNat (by omega) (by omega) hs (by omega) W
        rwa [Int.toNat_of_nonneg h1, Int.toNat_of_nonneg (by omega : 0 ≤ wd)] at this
      have b0 := takeI_lt s (17 + 13 * (q : Int)) 1
      have b1 := takeI_lt s (17 + 13 * (q : Int) + 1) 4
      have b2 := takeI_lt s (17 + 13 * (q : Int) + 5) 4
      have b3 := takeI_lt s (17 + 13 * (q : Int) + 9) 4
      have hxe : entL x = [.int .i64 (takeI s (17 + 13 * (q : Int)) 1), .int .u32 (takeI s (17 + 13 * (q : Int) + 1) 4), .int .u32 (takeI s (17 + 13 * (q : Int) + 5) 4), .int .u32 (takeI s (17 + 13 * (q : Int) + 9) 4)] := by
        rw [hx]
        rfl
      rw [hxe] at hsn
      have tq : ∀ (p wd : Int) (k : Nat), 0 ≤ p → p ≤ 1000000 → 1 ≤ wd → wd ≤ 8 → Calls Try.prog 100 #[.string s, .int .i64 p, .int .i64 wd] (wr.drewN k) fun e w' => e = .returned (.int .u64 (takeI s p wd)) ∧ ∃ n, w' = wr.drewN n := fun p wd k h1 h2 h3 h4 => (tt p wd _ h1 h2 h3 h4).mono fun e w' ⟨he, hw⟩ => ⟨he, k, hw.symm⟩
      have TQ := Lib.hid tq
      have HSN := Lib.hid hsn
      have TT := Lib.hid tt
      clear hsn hxg hxe hx tt tq TT
      generalize takeI s = g at *
      have b0' : 0 ≤ g (17 + 13 * (q : Int)) 1 ∧ g (17 + 13 * (q : Int)) 1 < 256 := b0
      have b1' : 0 ≤ g (17 + 13 * (q : Int) + 1) 4 ∧ g (17 + 13 * (q : Int) + 1) 4 < 4294967296 := b1
      have b2' : 0 ≤ g (17 + 13 * (q : Int) + 5) 4 ∧ g (17 + 13 * (q : Int) + 5) 4 < 4294967296 := b2
      have b3' : 0 ≤ g (17 + 13 * (q : Int) + 9) 4 ∧ g (17 + 13 * (q : Int) + 9) 4 < 4294967296 := b3
      clear b0 b1 b2 b3
      obtain ⟨b00, b01⟩ := b0'
      obtain ⟨b10, b11⟩ := b1'
      obtain ⟨b20, b21⟩ := b2'
      obtain ⟨b30, b31⟩ := b3'
      have e1 : IntKind.i64.wrap (17 + 13 * (q : Int) + 1) = 17 + 13 * (q : Int) + 1 := by rw [IntKind.wrap_i64]; omega
      have e5 : IntKind.i64.wrap (17 + 13 * (q : Int) + 5) = 17 + 13 * (q : Int) + 5 := by rw [IntKind.wrap_i64]; omega
      have e9 : IntKind.i64.wrap (17 + 13 * (q : Int) + 9) = 17 + 13 * (q : Int) + 9 := by rw [IntKind.wrap_i64]; omega
      have f0 : IntKind.i64.wrap (g (17 + 13 * (q : Int)) 1) = g (17 + 13 * (q : Int)) 1 := by rw [IntKind.wrap_i64]; omega
      have f1 : IntKind.u32.wrap (g (17 + 13 * (q : Int) + 1) 4) = g (17 + 13 * (q : Int) + 1) 4 := by rw [IntKind.wrap_u32]; omega
      have f2 : IntKind.u32.wrap (g (17 + 13 * (q : Int) + 5) 4) = g (17 + 13 * (q : Int) + 5) 4 := by rw [IntKind.wrap_u32]; omega
      have f3 : IntKind.u32.wrap (g (17 + 13 * (q : Int) + 9) 4) = g (17 + 13 * (q : Int) + 9) 4 := by rw [IntKind.wrap_u32]; omega
      have hne : ¬ some (w.heap.size + 1) = (Value.slice A q c).ownBlock := fun e => by have := (HO.out.lt _ e.symm).1; omega
      go_wp2_with fail
      have sk : ∀ k, (wr.drewN k).cell? ⟨w.heap.size + 1, 5, none⟩ = some (.slice A q c) := fun k => r5
      refine wp_rows_drew (fun V => V.cell? ⟨w.heap.size + 1, 5, none⟩ = some (.slice A q c)) [0, 1] [2, 3, 4, 5, 6, 7, 8, 9, 10, 11, 12, 13, 14, 15, 16, 17, 18, 19, 20, 21] [22] [23, 24, 25] (by kernel_rfl) (by kernel_rfl) (fun _ _ _ _ e h => ⟨e ▸ h.1, h.2⟩) sk ?_
      refine heldQ_step rfl (yieldsIf_of rfl (fun V hV => by go_simp; first | done | rfl)) (fun K' hK' => ?_)
      go_simp
      refine hK' _ ?_
      clear hK' K'
      refine heldQ_step rfl (yieldsIf_of rfl (fun V hV => by go_simp; first | done | rfl)) (fun K' hK' => ?_)
      go_simp
      refine hK' _ ?_
      clear hK' K'
      simp only [heldQ, opsAt, List.filterMap_cons, List.filterMap_nil, List.getElem?_toArray, List.getElem?_cons_succ, List.getElem?_cons_zero]
      repeat (show wpQuiet _ _ _ _ (_ :: _) _; go_big_quiet_step (exact TQ.out _ _ _ (by omega) (by omega) (by omega) (by omega)))
      refine wpQuiet_nil ?_
      intro nq
      refine wpListS_step rfl (fun K' hK' => ?_)
      go_simp
      refine hK' _ _ (old_cell r5 _) ?_
      clear hK' K'
      have hne : ¬ some (w.heap.size + 1) = (Value.slice A q c).ownBlock := fun e => by have := (HO.out.lt _ e.symm).1; omega
      simp only [wpListS]
      show wpList _ _ _ (_ :: _ :: _ :: []) _ _
      go_wp2_with (at_builtin; refine wpList_append_rd _ rfl (.tmp 44) (.tmp 65) 77 rfl (w.heap.size + 2) 85 i0 _ 4 24 Try.underlying77 hi0 hz0 hz1 hz2 rfl (by decide) _ q (entC ((entsL s).take q)) rfl (Fr.own HO.out ((Fr.drewN (fun _ => False) wr nq).alloc _) (fun _ _ => id)) _ (some ⟨wr.heap.size, 0, none⟩) 1 1 [.int .i64 (g (17 + 13 * (q : Int)) 1), .int .u32 (g (17 + 13 * (q : Int) + 1) 4), .int .u32 (g (17 + 13 * (q : Int) + 5) 4), .int .u32 (g (17 + 13 * (q : Int) + 9) 4)] rfl (rd_new4 (wr.drewN nq) _ _ _ _) (by simp [Value.oneCell']) (by unfold maxLen; omega) (by omega) (by simp; omega) ?_; intro v3 w3 hown3 hg3 hat3; obtain ⟨A3, c3, rfl, hc3, _⟩ := Rd.of_own2 hown3; have r53 := (Fr.of_grown hg3).get hne (old_alloc (w := wr.drewN nq) (o := .cells #[.int .u64 sq, .int .u64 cp, .bool ((f : Int) == 1), .bool ((f : Int) == 2), .int .i64 nx, .slice A q c] 79 (0, 0)) HR.out _); have q53 := blk_cell r53 5; have z53 := blk_frozen r53 5; simp at q53)
      have hsz3 := hg3.size
      simp at hsz3
      have hlt3 := hown3.lt
      have f3 : Fr (fun k => some k = (Value.slice A q c).ownBlock) wr w3 := ((Fr.drewN (fun _ => False) wr nq).alloc _).trans' (Fr.of_grown hg3)
      have hfin : RDRel w s (.int .u64 sq) (.int .u64 cp) (.bool ((f : Int) == 1)) (.bool ((f : Int) == 2)) (.int .i64 nx) (16 - (q + 1)) (.int .i64 (q + 1)) (w3.setCell ⟨w.heap.size + 1, 5, none⟩ (.slice A3 (q + 1) c3)) := by
        have fs := Fr.set1 w3 (w.heap.size + 1) 5 (.slice A3 (q + 1) c3)
        refine ⟨q + 1, A3, c3, rfl, by simp, by omega, by rw [HN.out]; omega, ?_, ?_, ?_, ?_⟩
        · rw [blk_set r53 5 _]
          rfl
        · rw [HSN.out]
          exact Fr.own hown3 fs (fun k hk e => by have := (hlt3 k hk).1; omega)
        · exact fs.get (by omega) (f3.get (fun e => by have := (HO.out.lt _ e.symm).1; omega) HRES.out)
        · exact hbw.trans ((f3.below hwz (fun k hk => by have := (HO.out.lt _ hk.symm).1; omega)).trans (fs.below (by have := f3.size; omega) (fun k hk => by omega)))
      have HF := Lib.hid hfin
      clear hfin hown3 hg3 hat3 r53 hlt3 f3 hsz3
      go_wp2_with fail
      go_roundg (16 - (q + 1))
      case measure => omega
      case rel => exact HF.out
    · have eL : (entsL s).take q = (entsL s).take 16 := by
        have hl := HL.out
        by_cases h : N ≤ q
        · rw [List.take_of_length_le (by omega), List.take_of_length_le (by omega)]
        · rw [show q = 16 by omega]
      obtain ⟨L, hL⟩ : ∃ L, L = (entsL s).take 16 := ⟨_, rfl⟩
      have hlen : L.length = q := by rw [hL, ← eL, List.length_take, HL.out]; omega
      rw [eL, ← hL] at hown
      subst hlen
      obtain ⟨A', c', hv, hc, hrd⟩ := Rd.of_own2 hown
      simp only [Value.slice.injEq, true_and] at hv
      obtain ⟨rfl, rfl⟩ := hv
      have hdl : (decR s).l = L := hL.symm
      have hrecv := recV_dec s f sq cp nx A c HF.out HSQ.out HCP.out HNX.out
      rw [← hL] at hrecv
      have hri := rright_any (decR s) (decR_wf s) A c wr (by rw [hdl]; exact hrd.mono (fun k hk => hk.2))
      rw [hrecv] at hri
      have r0 := blk_cell hR 0
      have r1 := blk_cell hR 1
      have r2 := blk_cell hR 2
      have r3 := blk_cell hR 3
      have r4 := blk_cell hR 4
      simp at r0 r1 r2 r3 r4
      have h5 := H5.out
      have hss' : (256 : Int) ≤ (s.size : Int) := by omega
      have HRD := Lib.hid hrd
      have HRI := Lib.hid hri
      have HDL := Lib.hid hdl
      have HC := Lib.hid hc
      have HRW := Lib.hid hrecv
      have HRR := Lib.hid hR
      have HRES := Lib.hid hres
      clear hrd hri hdl hc hrecv hR hres hown hL eL T13 T1 T7 T14 T16 HG HL HR0 HN hi0 hz0 hz1 hz2 HF HSQ HCP HNX h5
      by_cases g1 : L.length < N
      case' pos =>
        have g1i : (L.length : Int) < (N : Int) := by omega
        have g2i : ¬ (L.length : Int) ≤ 15 := by omega
        clear g1
      case' neg =>
        have g1i : ¬ (L.length : Int) < (N : Int) := by omega
        clear g1
      all_goals
        clear hgo hqN hq
        go_wp2_with fail
        refine HRI.out.mono ?_
        rintro e W2 ⟨rfl, hb2⟩
        have hres2 := (hb2.block w.heap.size (by omega)).trans HRES.out
        have hrr2 := (hb2.block (w.heap.size + 1) hRlt).trans HRR.out
        have p0 := blk_cell hres2 0
        have p1 := blk_cell hres2 1
        have p2 := blk_cell hres2 2
        have p3 := blk_cell hres2 3
        have p4 := blk_cell hres2 4
        have p5 := blk_cell hres2 5
        have pz0 := blk_frozen hres2 0
        have pz1 := blk_frozen hres2 1
        have pz2 := blk_frozen hres2 2
        have pz3 := blk_frozen hres2 3
        have pz4 := blk_frozen hres2 4
        have pz5 := blk_frozen hres2 5
        have q0 := blk_cell hrr2 0
        have q1 := blk_cell hrr2 1
        have q2 := blk_cell hrr2 2
        have q3 := blk_cell hrr2 3
        have q4 := blk_cell hrr2 4
        have q5 := blk_cell hrr2 5
        simp at p0 p1 p2 p3 p4 p5 q0 q1 q2 q3 q4 q5
        have HRES2 := Lib.hid hres2
        have HRR2 := Lib.hid hrr2
        have hz2 := hb2.size
        have hfr2 : Fr (fun _ => False) wr W2 := Fr.new hb2 _
        have HFR2 := Lib.hid hfr2
        clear hres2 hrr2 r0 r1 r2 r3 r4 r5 hfr2
        have fin : ∀ (W3 : World) (v0 v1 v2 v3 v4 v5 : Value) (r : Rec) (A' : Option Addr) (c' : Nat) (en : Int), Below W2.heap.size W2 W3 → recV r A' c' = .agg #[v0, v1, v2, v3, v4, v5] → r = decO s → en = decE s → (A' = A ∧ c' = c ∧ r.l = L ∨ A' = none ∧ c' = 0 ∧ r.l = []) → ∀ tmps : Array Value, tmps.getD 2 undef = .pointer (some ⟨w.heap.size, 0, none⟩) → tmps.getD 3 undef = .int .i64 en →
            bodyPost Try.prog Try.f82 (DecPost w s) Exit.ret { tmps := tmps, defers := [] } ((((((W3.setCell ⟨w.heap.size, 0, none⟩ v0).setCell ⟨w.heap.size, 1, none⟩ v1).setCell ⟨w.heap.size, 2, none⟩ v2).setCell ⟨w.heap.size, 3, none⟩ v3).setCell ⟨w.heap.size, 4, none⟩ v4).setCell ⟨w.heap.size, 5, none⟩ v5) := by
          intro W3 v0 v1 v2 v3 v4 v5 r A' c' en hb3 e1 e2 e3 e4 tmps t2 t3
          have hres3 := (hb3.block w.heap.size (by omega)).trans HRES2.out
          obtain ⟨s1, s2⟩ := set_rec (W := W3) hres3 v0 v1 v2 v3 v4 v5
          have f3 : Fr (· = w.heap.size) wr ((((((W3.setCell ⟨w.heap.size, 0, none⟩ v0).setCell ⟨w.heap.size, 1, none⟩ v1).setCell ⟨w.heap.size, 2, none⟩ v2).setCell ⟨w.heap.size, 3, none⟩ v3).setCell ⟨w.heap.size, 4, none⟩ v4).setCell ⟨w.heap.size, 5, none⟩ v5) :=
            (HFR2.out.trans (Fr.new hb3 _)).trans' s2
          generalize ((((((W3.setCell ⟨w.heap.size, 0, none⟩ v0).setCell ⟨w.heap.size, 1, none⟩ v1).setCell ⟨w.heap.size, 2, none⟩ v2).setCell ⟨w.heap.size, 3, none⟩ v3).setCell ⟨w.heap.size, 4, none⟩ v4).setCell ⟨w.heap.size, 5, none⟩ v5) = W4 at s1 s2 f3 ⊢
          refine bodyPost_ret (res_rec2 rfl _ _ t2 (load_rec w.heap.size _ v0 v1 v2 v3 v4 v5 s1)) rfl ?_
          rw [t3]
          unfold DecPost
          rw [← e2, ← e3]
          refine ⟨A', c', by rw [e1], ?_, ?_, hbw.trans (f3.below hwz (fun k hk => by omega))⟩
          · rcases e4 with ⟨rfl, rfl, e4⟩ | ⟨rfl, rfl, e4⟩ <;> rw [e4]
            · exact HC.out
            · exact Nat.le_refl _
          · rcases e4 with ⟨rfl, rfl, e4⟩ | ⟨rfl, rfl, e4⟩ <;> rw [e4]
            · refine (Rd.kept HRD.out f3 (fun k hk e => by omega)).mono (fun k hk => ⟨by omega, ?_⟩)
              have := f3.size
              omega
            · exact Rd.nil _ _ _ _
        have FIN := Lib.hid fin
        clear fin
        by_cases hrt : rightB (decR s) = true
        · have hl15 : (decR s).l.length ≤ 15 := (right_facts hrt).2.2.2.2.2.2.2.1
          have hse := sec_of_enc (decR s) hl15
          have hsec : ∀ (d : Nat) (os : Array Obj), Calls Try.prog 102 #[.agg #[.int .u64 sq, .int .u64 cp, .bool ((f : Int) == 1), .bool ((f : Int) == 2), .int .i64 nx, .slice A L.length c]] (Go.Sort.grow (redrawn W2 d) os) fun e w'' => e = .returned (.string (sec256 (decR s))) ∧ ∃ p : Regrown, w'' = Go.Sort.grow (redrawn W2 p.d) p.os := fun d os => by
            refine Calls.regrown_of ?_
            have hbg := below_regrown W2 d os
            have := rsector_any (decR s) (decR_wf s) hrt A c (Go.Sort.grow (redrawn W2 d) os) (by
              rw [HDL.out]
              refine (Rd.kept (Rd.kept HRD.out HFR2.out (fun _ _ h => h)) (Fr.new hbg (fun _ => False)) (fun _ _ h => h)).mono (fun k hk => ?_)
              have := hbg.size
              omega)
            rw [HRW.out] at this
            exact this
          have HSEC := Lib.hid hsec
          have hcl : ∀ i u, W2.cell? ⟨w.heap.size + 1, i, none⟩ = some u → ∀ d os, (Go.Sort.grow (redrawn W2 d) os).cell? ⟨w.heap.size + 1, i, none⟩ = some u := fun i u hu d os => cell_regrown hu d os
          have q0' := hcl _ _ q0
          have q1' := hcl _ _ q1
          have q2' := hcl _ _ q2
          have q3' := hcl _ _ q3
          have q4' := hcl _ _ q4
          have q5' := hcl _ _ q5
          clear hcl hsec
          rw [hrt]
          by_cases heq : (encS (decR s)).extract 0 256 = s.extract 0 256
          · have hok : okDec s = true := by unfold okDec; simp [hrt, heq, H5.out]
            have ht : (!(sec256 (decR s)).toList == (s.extract 0 256).toList) = false := by rw [← hse, heq]; simp
            have HOK := Lib.hid hok
            clear hrt heq hok hse hl15
            go_wp2_with fail
            refine wp_region_quiet_below (by kernel_rfl) (by kernel_rfl) ?_
            repeat (go_big_quiet_step (exact HSEC.out _ _))
            refine wpQuiet_nil ?_
            intro _ hw'
            obtain ⟨⟨dq, osq⟩, hw''⟩ := hw'
            subst hw''
            generalize hW3 : Go.Sort.grow _ _ = W3
            have hb3 : Below W2.heap.size W2 W3 := by rw [← hW3]; exact below_regrown W2 dq osq
            have hres3 := (hb3.block w.heap.size (by omega)).trans HRES2.out
            have hrr3 := (hb3.block (w.heap.size + 1) (by omega)).trans HRR2.out
            have p0 := blk_cell hres3 0
            have p1 := blk_cell hres3 1
            have p2 := blk_cell hres3 2
            have p3 := blk_cell hres3 3
            have p4 := blk_cell hres3 4
            have p5 := blk_cell hres3 5
            have pz0 := blk_frozen hres3 0
            have pz1 := blk_frozen hres3 1
            have pz2 := blk_frozen hres3 2
            have pz3 := blk_frozen hres3 3
            have pz4 := blk_frozen hres3 4
            have pz5 := blk_frozen hres3 5
            have q0 := blk_cell hrr3 0
            have q1 := blk_cell hrr3 1
            have q2 := blk_cell hrr3 2
            have q3 := blk_cell hrr3 3
            have q4 := blk_cell hrr3 4
            have q5 := blk_cell hrr3 5
            simp at p0 p1 p2 p3 p4 p5 q0 q1 q2 q3 q4 q5
            clear hres3 hrr3 hW3
            go_wp2_with fail
            exact FIN.out W3 _ _ _ _ _ _ (decR s) A c 0 hb3 HRW.out (by unfold decO; rw [HOK.out]; rfl) (by unfold decE; rw [HOK.out]; rfl) (.inl ⟨rfl, rfl, HDL.out⟩) _ rfl rfl
          · have hok : okDec s = false := by unfold okDec; simp [heq]
            have ht : (!(sec256 (decR s)).toList == (s.extract 0 256).toList) = true := by
              rw [← hse, ByteArray.toList_eq, ByteArray.toList_eq]
              simp only [Bool.not_eq_true', beq_eq_false_iff_ne]
              exact fun e => heq (ByteArray.ext (Array.toList_inj.mp e))
            have HOK := Lib.hid hok
            clear hrt heq hok hse hl15
            go_wp2_with fail
            refine wp_region_quiet_below (by kernel_rfl) (by kernel_rfl) ?_
            repeat (go_big_quiet_step (exact HSEC.out _ _))
            refine wpQuiet_nil ?_
            intro _ hw'
            obtain ⟨⟨dq, osq⟩, hw''⟩ := hw'
            subst hw''
            generalize hW3 : Go.Sort.grow _ _ = W3
            have hb3 : Below W2.heap.size W2 W3 := by rw [← hW3]; exact below_regrown W2 dq osq
            have hres3 := (hb3.block w.heap.size (by omega)).trans HRES2.out
            have hrr3 := (hb3.block (w.heap.size + 1) (by omega)).trans HRR2.out
            have p0 := blk_cell hres3 0
            have p1 := blk_cell hres3 1
            have p2 := blk_cell hres3 2
            have p3 := blk_cell hres3 3
            have p4 := blk_cell hres3 4
            have p5 := blk_cell hres3 5
            have pz0 := blk_frozen hres3 0
            have pz1 := blk_frozen hres3 1
            have pz2 := blk_frozen hres3 2
            have pz3 := blk_frozen hres3 3
            have pz4 := blk_frozen hres3 4
            have pz5 := blk_frozen hres3 5
            have q0 := blk_cell hrr3 0
            have q1 := blk_cell hrr3 1
            have q2 := blk_cell hrr3 2
            have q3 := blk_cell hrr3 3
            have q4 := blk_cell hrr3 4
            have q5 := blk_cell hrr3 5
            simp at p0 p1 p2 p3 p4 p5 q0 q1 q2 q3 q4 q5
            clear hres3 hrr3 hW3
            go_wp2_with fail
            exact FIN.out W3 _ _ _ _ _ _ zeroR none 0 70 hb3 rfl (by unfold decO; rw [HOK.out]; rfl) (by unfold decE; rw [HOK.out]; rfl) (.inr ⟨rfl, rfl, rfl⟩) _ rfl rfl
        · have hok : okDec s = false := by unfold okDec; simp [hrt]
          have hrt' : rightB (decR s) = false := by simpa using hrt
          rw [hrt']
          have HOK := Lib.hid hok
          clear hrt hrt' hok
          go_wp2_with fail
          refine wp_region_quiet_below (by kernel_rfl) (by kernel_rfl) ?_
          repeat (go_big_quiet_step (fail))
          refine wpQuiet_nil ?_
          intro _ hw'
          obtain ⟨⟨dq, osq⟩, hw''⟩ := hw'
          subst hw''
          generalize hW3 : Go.Sort.grow _ _ = W3
          have hb3 : Below W2.heap.size W2 W3 := by rw [← hW3]; exact below_regrown W2 dq osq
          have hres3 := (hb3.block w.heap.size (by omega)).trans HRES2.out
          have hrr3 := (hb3.block (w.heap.size + 1) (by omega)).trans HRR2.out
          have p0 := blk_cell hres3 0
          have p1 := blk_cell hres3 1
          have p2 := blk_cell hres3 2
          have p3 := blk_cell hres3 3
          have p4 := blk_cell hres3 4
          have p5 := blk_cell hres3 5
          have pz0 := blk_frozen hres3 0
          have pz1 := blk_frozen hres3 1
          have pz2 := blk_frozen hres3 2
          have pz3 := blk_frozen hres3 3
          have pz4 := blk_frozen hres3 4
          have pz5 := blk_frozen hres3 5
          have q0 := blk_cell hrr3 0
          have q1 := blk_cell hrr3 1
          have q2 := blk_cell hrr3 2
          have q3 := blk_cell hrr3 3
          have q4 := blk_cell hrr3 4
          have q5 := blk_cell hrr3 5
          simp at p0 p1 p2 p3 p4 p5 q0 q1 q2 q3 q4 q5
          clear hres3 hrr3 hW3
          go_wp2_with fail
          exact FIN.out W3 _ _ _ _ _ _ zeroR none 0 70 hb3 rfl (by unfold decO; rw [HOK.out]; rfl) (by unfold decE; rw [HOK.out]; rfl) (.inr ⟨rfl, rfl, rfl⟩) _ rfl rfl
end Go.Proofs.Ytjmfeoenbncibaa

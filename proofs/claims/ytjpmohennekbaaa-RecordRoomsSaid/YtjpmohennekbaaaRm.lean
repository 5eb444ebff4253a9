/- The reference's Encode: contract over the given program. -/
import Derived.Test.YtjpmohennekbaaaRl
import Derived.Test.YtjpmohennekbaaaRs
namespace Go.Proofs.Ytjpmohennekbaaa
open Go.RowKit Go.Nau Go.Shelf
attribute [local go_sem] Oper.semAt_some

theorem zeroN_add (a b : Nat) : zeroN (a + b) = zeroN a ++ zeroN b := by
  apply ByteArray.ext
  simp only [zeroN, ByteArray.data_append]
  rw [← List.replicate_append_replicate]
  simp
theorem enc_sec (r : Rec) (h : r.l.length ≤ 15) : encS r = sec256 r ++ zeroN 256 := by
  have hl := secL_length r
  unfold encS sec256
  rw [show 512 - (secL r).length = (256 - (secL r).length) + 256 by omega, zeroN_add, ByteArray.append_assoc]
theorem made_heap {W W' : World} {n base : Nat} (h : W'.ownsRow base 5 1 (.slice (some ⟨W.heap.size, 0, none⟩) n n) n (madeCells (Value.int .u8 0).cells (n * 1)).toList) : W'.heap[W.heap.size]? = some (.cells (madeCells #[.int .u8 0] n) 5 (0, 0)) := by
  rcases h.2 with ⟨h0, _⟩ | ⟨g, cap, cur, hv, _, hh, _, _, hsz, ht⟩
  · cases h0
  · simp only [Value.slice.injEq, Option.some.injEq, Addr.mk.injEq, and_true, true_and] at hv
    obtain ⟨rfl, rfl⟩ := hv
    rw [hh]
    congr 2
    rw [List.take_of_length_le (by simp; omega)] at ht
    have : cur = cur.toList.toArray := by simp
    rw [this, ht, Nat.mul_one]
    rfl

set_option maxHeartbeats 4000000 in
set_option maxRecDepth 100000 in
theorem rencode_any (r : Rec) (hwf : r.wf) (A : Option Addr) (c : Nat) (w : World) (hr : Rd (· < w.heap.size) w 4 A r.l.length (entC r.l)) :
    Calls Try.prog 36 #[recV r A c] w fun e w' => e = .returned (if rightB r then .tuple #[.string (encS r), .int .i64 0] else .tuple #[.string ⟨#[]⟩, .int .i64 70]) ∧ Below w.heap.size w w' := by
  obtain ⟨i0, hi, hz0, hz1, hz2⟩ := info_parts infoB
  have hcz : ∀ {W W' : World} {n : Nat}, W'.ownsRow W.heap.size 5 1 (.slice (some ⟨W.heap.size, 0, none⟩) n n) n (madeCells (Value.int .u8 0).cells (n * 1)).toList → (convert 76 9 (.slice (some ⟨W.heap.size, 0, none⟩) n n)).run Try.prog W' = .ok (.string (zeroN n)) W' := fun h => conv_made h
  obtain ⟨W1, hW1⟩ : ∃ W1, W1 = w.alloc (.cells #[.int .u64 r.seq, .int .u64 r.cp, .bool r.ends, .bool r.sync, .int .i64 r.next, .slice A r.l.length c] 63) := ⟨_, rfl⟩
  have hx1 : W1.heap[w.heap.size]? = some (.cells #[.int .u64 r.seq, .int .u64 r.cp, .bool r.ends, .bool r.sync, .int .i64 r.next, .slice A r.l.length c] 63 (0, 0)) := by rw [hW1]; exact heap_alloc_new w _
  have hb1 : Below w.heap.size w W1 := by rw [hW1]; exact (Below.refl _ w).alloc (Nat.le_refl _) _
  have hs1 : W1.heap.size = w.heap.size + 1 := by rw [hW1]; simp
  have hr1 : Rd (· < W1.heap.size) W1 4 A r.l.length (entC r.l) := (hr.kept (Fr.of_below hb1) (fun k hk => by omega)).mono (fun k hk => by omega)
  have hri := rright_any r hwf A c W1 hr1
  have HRI := Lib.hid hri
  have HW1 := Lib.hid hW1
  by_cases hrt : rightB r = true
  case neg =>
    have hrt : rightB r = false := by simpa using hrt
    rw [hrt] at HRI ⊢
    clear hrt hx1 hr hr1 hW1 hri
    unfold recV at *
    go_enter Try.func36, Try.ntmps36
    go_wp2_with fail
    rw [← HW1.out]
    refine HRI.out.mono ?_
    rintro e w1 ⟨rfl, hb2⟩
    go_wp2_with fail
    go_ret2
    exact ⟨rfl, hb1.trans (hb2.mono (by omega))⟩
  have hsec := fun W h => rsector_any r hwf hrt A c W h
  have HRT := Lib.hid hrt
  rw [hrt] at HRI ⊢
  have HSEC := Lib.hid hsec
  have HR1 := Lib.hid hr1
  have HX1 := Lib.hid hx1
  clear hrt hx1 hr hr1 hW1 hri hsec
  unfold recV at *
  go_enter Try.func36, Try.ntmps36
  go_wp2_with fail
  rw [← HW1.out]
  refine HRI.out.mono ?_
  rintro e W2 ⟨rfl, hb2⟩
  have hx2 := (hb2.block w.heap.size (by omega)).trans HX1.out
  have hr2 := (HR1.out.kept (Fr.of_below hb2) (fun k hk => by omega)).mono (T' := (· < W2.heap.size)) (fun k hk => by have := hb2.size; omega)
  have q0 := blk_cell hx2 0
  have q1 := blk_cell hx2 1
  have q2 := blk_cell hx2 2
  have q3 := blk_cell hx2 3
  have q4 := blk_cell hx2 4
  have q5 := blk_cell hx2 5
  simp at q0 q1 q2 q3 q4 q5
  have HX2 := Lib.hid hx2
  have HR2 := Lib.hid hr2
  clear hx2 hr2
  have hsec2 : ∀ V : World, Below W2.heap.size W2 V → Calls Try.prog 70 #[.agg #[.int .u64 r.seq, .int .u64 r.cp, .bool r.ends, .bool r.sync, .int .i64 r.next, .slice A r.l.length c]] V fun e w' => e = .returned (.string (sec256 r)) ∧ (Below W2.heap.size W2 w' ∧ ∀ (b : Nat) (o : Obj), V.heap[b]? = some o → w'.heap[b]? = some o) := fun V hV =>
    (HSEC.out V ((HR2.out.kept (Fr.of_below hV) (fun k hk => by omega)).mono (fun k hk => by have := hV.size; omega))).mono fun e w' ⟨he, hb⟩ => ⟨he, hV.trans (hb.mono hV.size), fun b o h => (hb.block b (Array.getElem?_eq_some_iff.1 h).1).trans h⟩
  have HS2 := Lib.hid hsec2
  clear hsec2
  obtain ⟨mk, hmk⟩ := Classical.axiomOfChoice (fun V : World => run_make_full (P := Try.prog) V 0 76 5 i0 (.int .u8 0) 1 Try.underlying76 hi hz0 hz1 .i64 .i64 256 (by rw [hz2]; omega) (by unfold maxLen; omega) (Nat.zero_le _))
  have e1 : ∀ V : World, (Instr.makeSlice 76 (.int .i64 256) (.int .i64 256)).run Try.prog V = .ok (.slice (some ⟨V.heap.size, 0, none⟩) 256 256) (mk V) := fun V => (hmk V).1
  have bm : ∀ V : World, Below W2.heap.size W2 V → Below W2.heap.size W2 (mk V) := fun V hV => hV.trans (((Fr.of_grown (hmk V).2.2)).below (S := fun k => some k = none) hV.size (fun k hk => by cases hk))
  have hh : ∀ V : World, (mk V).heap[V.heap.size]? = some (.cells (madeCells #[.int .u8 0] 256) 5 (0, 0)) := fun V => made_heap (n := 256) (hmk V).2.1
  have hh1 : (mk W2.drew).heap[W2.heap.size]? = some (.cells (madeCells #[.int .u8 0] 256) 5 (0, 0)) := hh W2.drew
  have b0 : Below W2.heap.size W2 W2.drew := (Below.refl _ _).drew
  have sk : ∀ V : World, Below W2.heap.size W2 V → V.cell? ⟨w.heap.size, 0, none⟩ = some (.int .u64 r.seq) ∧ V.cell? ⟨w.heap.size, 1, none⟩ = some (.int .u64 r.cp) ∧ V.cell? ⟨w.heap.size, 2, none⟩ = some (.bool r.ends) ∧ V.cell? ⟨w.heap.size, 3, none⟩ = some (.bool r.sync) ∧ V.cell? ⟨w.heap.size, 4, none⟩ = some (.int .i64 r.next) ∧ V.cell? ⟨w.heap.size, 5, none⟩ = some (.slice A r.l.length c) := fun V hV => by
    have hx3 := (hV.block w.heap.size (Array.getElem?_eq_some_iff.1 HX2.out).1).trans HX2.out
    exact ⟨blk_cell hx3 0, blk_cell hx3 1, blk_cell hx3 2, blk_cell hx3 3, blk_cell hx3 4, blk_cell hx3 5⟩
  have cv : ∀ (b : Nat) (V : World), V.heap[b]? = some (.cells (madeCells #[.int .u8 0] 256) 5 (0, 0)) → (convert 76 9 (.slice (some ⟨b, 0, none⟩) 256 256)).run Try.prog V = .ok (.string (zeroN 256)) V := fun b V h => conv_zeroN V b 256 h 256
  have SK := Lib.hid sk
  have BM := Lib.hid bm
  have B0 := Lib.hid b0
  clear sk bm b0 hmk hcz
  have hes := enc_sec r ((right_facts HRT.out).2.2.2.2.2.2.2.1)
  have HES := Lib.hid hes
  clear hes
  have hss : (sec256 r).size = 256 := by
    unfold sec256
    rw [ByteArray.size_append, strL_size, zeroN_size, secL_length]
    have : r.l.length ≤ 15 := (right_facts HRT.out).2.2.2.2.2.2.2.1
    omega
  have hzs : (zeroN 256).size = 256 := zeroN_size 256
  go_wp2_with fail
  obtain ⟨u0, u1, u2, u3, u4, u5⟩ := SK.out _ (BM.out _ B0.out)
  go_region_law ((refine step_calls (f := 70) rfl (by go_simp) (HS2.out _ (by first | exact B0.out | exact BM.out _ B0.out)) ?_; intro w3 hb3'; have hb3 := hb3'.1; (try (have hc3 : w3.heap[W2.heap.size]? = some (.cells (madeCells #[.int .u8 0] 256) 5 (0, 0)) := hb3'.2 _ _ (hh _))); clear hb3'))
  all_goals
    have hbf := BM.out _ hb3
    clear u0 u1 u2 u3 u4 u5 q0 q1 q2 q3 q4 q5 SK HS2 HX2 HR2 HSEC HR1 HX1 HRI hss hzs e1 cv hh hh1
    go_wp2_with fail
    go_ret2
    have hbw2 : Below w.heap.size w W2 := hb1.trans (hb2.mono (by omega))
    refine ⟨by rw [HES.out]; rfl, hbw2.trans (Below.mono (by first | exact hb3 | exact hbf) hbw2.size)⟩
end Go.Proofs.Ytjpmohennekbaaa

/- shown: what the laws of records show first: contract over the given program. -/
import Derived.Test.YtjpmohennekbaaaRt
import Derived.Deep.RegionWith
namespace Go.Proofs.Ytjpmohennekbaaa
open Go.RowKit Go.Nau Go.Shelf
attribute [local go_sem] Oper.semAt_some

theorem firstR_right : rightB firstR = true := by decide
theorem firstR_wf : firstR.wf := ⟨by decide, by decide, by decide, by unfold maxLen; decide, by intro x hx; simp [firstR] at hx; subst hx; exact ⟨by decide, by decide, by decide, by decide⟩⟩
def ab : ByteArray := ⟨#[97, 98]⟩
theorem ab_size : ab.size = 2 := rfl
theorem decO_first : decO (encS firstR) = firstR ∧ decE (encS firstR) = 0 := by
  obtain ⟨h1, h2⟩ := back_enc firstR_right firstR_wf
  unfold decO decE
  rw [h2, if_pos rfl, if_pos rfl]
  exact ⟨h1, rfl⟩
theorem decO_ab : decO (wrapS ab) = zeroR ∧ decE (wrapS ab) = 70 := by
  have h1 := isWrap_wrap (c := ab) (by decide)
  have h2 : okDec (wrapS ab) = false := by
    cases h : okDec (wrapS ab) with
    | false => rfl
    | true => exact (apart _ h h1).elim
  unfold decO decE
  rw [h2]
  exact ⟨rfl, rfl⟩

set_option maxHeartbeats 4000000 in
set_option maxRecDepth 100000 in
theorem shown7_any (w : World) : Calls Try.prog 34 #[] w fun e w' => e = .returned (.bool true) ∧ Below w.heap.size w w' := by
  have hes : (encS firstR).size = 512 := encS_size firstR (by decide)
  have hen := fun A c W h => encode_any firstR firstR_wf A c W h
  simp only [firstR_right, if_true] at hen
  have hd1 := fun W => decode_any (encS firstR) (by omega) W
  have hws : (wrapS ab).size = 512 := wrapS_size (by decide)
  have hd2 := fun W => decode_any (wrapS ab) (by omega) W
  have hwr : ∀ W, Calls Try.prog 42 #[.string ⟨#[97, 98]⟩] W fun e w' => e = .returned (.tuple #[.string (wrapS ab), .int .i64 0]) ∧ Below W.heap.size W w' := fun W => wrap_any ab (by unfold maxLen; decide) W
  have hun : ∀ W, Calls Try.prog 44 #[.string (wrapS ab)] W fun e w' => e = .returned (.tuple #[.string (ab ++ zeroN 506), .int .i64 0]) ∧ W = w' := fun W => by
    have := unwrap_any (wrapS ab) W
    unfold unwE at this
    rw [unw_wrap (by decide), isWrap_wrap (by decide), if_pos rfl] at this
    exact this
  have hab : (ab ++ zeroN 506).size = 508 := by rw [ByteArray.size_append, zeroN_size, ab_size]
  have hab2 : (((ab ++ zeroN 506).extract 0 2).toList == [97, 98]) = true := by
    rw [extract_left _ _ _ ab_size, ByteArray.toList_eq]
    rfl
  have hab3 : (2 : Int) ≤ ((ab ++ zeroN 506).size : Int) := by omega
  have hab4 : (((ab ++ zeroN 506).size : Int) == 508) = true := by rw [hab]; rfl
  have hrm : ∀ W, Calls Try.prog 46 #[.int .i64 16] W fun e w' => e = .returned (.int .i64 15) ∧ W = w' := fun W => room_any 16 W
  have hsm := fun A B c d W h1 h2 => rsame_any firstR firstR firstR_wf firstR_wf A B c d W h1 h2
  rw [show sameB firstR firstR = true from (sameB_iff _ _).2 rfl] at hsm
  unfold DecPost at hd1 hd2
  rw [decO_first.1, decO_first.2] at hd1
  rw [decO_ab.1, decO_ab.2] at hd2
  have HEN := Lib.hid hen
  have HD1 := Lib.hid hd1
  have HD2 := Lib.hid hd2
  have HWR := Lib.hid hwr
  have HUN := Lib.hid hun
  have HRM := Lib.hid hrm
  have HSM := Lib.hid hsm
  clear hen hd1 hd2 hwr hun hrm hsm hes hws hab
  generalize ab ++ zeroN 506 = ab0 at *
  generalize wrapS ab = wab at *
  generalize encS firstR = e1 at *
  go_enter Try.func34, Try.ntmps34
  go_wp2_with fail
  refine (first_any _).mono ?_
  rintro e w1 ⟨g, rfl, hg, hrd1, hb1⟩
  go_wp2_with fail
  refine (HEN.out _ _ _ (hrd1.mono (fun k hk => hk.2))).mono ?_
  rintro e w2 ⟨rfl, hb2⟩
  go_wp2_with fail
  refine (HD1.out _).mono ?_
  rintro e w3 ⟨A, c, rfl, hAc, hrd3, hb3⟩
  unfold recV firstR
  go_wp2_with fail
  obtain ⟨W3, hW3⟩ : ∃ W3, W3 = w3.alloc (.cells #[.int .u64 1, .int .u64 1, .bool false, .bool false, .int .i64 2, .slice A 1 c] 63) := ⟨_, rfl⟩
  have hx3 := heap_alloc_new w3 (.cells #[.int .u64 1, .int .u64 1, .bool false, .bool false, .int .i64 2, .slice A 1 c] 63)
  rw [← hW3] at hx3 ⊢
  have hbw3 : Below w.heap.size w w3 := (hb1.trans (hb2.mono hb1.size)).trans (hb3.mono (Nat.le_trans hb1.size hb2.size))
  have hbW3 : Below w3.heap.size w3 W3 := by rw [hW3]; exact (Below.refl _ _).alloc (Nat.le_refl _) _
  have hrdW : Rd (fun k => k < W3.heap.size) W3 4 A 1 (entC firstR.l) := (Rd.kept hrd3 (Fr.new hbW3 (fun _ => False)) (fun _ _ h => h)).mono (fun k hk => by have := hbW3.size; omega)
  refine (HWR.out _).mono ?_
  rintro e w4 ⟨rfl, hb4⟩
  go_wp2_with fail
  refine (HUN.out _).mono ?_
  rintro e w5 ⟨rfl, rfl⟩
  go_wp2_with fail
  refine (HD2.out _).mono ?_
  rintro e w6 ⟨A2, c2, rfl, _, _, hb6⟩
  unfold recV zeroR
  have hb36 : Below W3.heap.size W3 w6 := hb4.trans (hb6.mono hb4.size)
  have hx6 := (hb36.block _ (Array.getElem?_eq_some_iff.1 hx3).1).trans hx3
  have hrd6 : Rd (fun k => k < w6.heap.size) w6 4 A 1 (entC firstR.l) := (Rd.kept hrdW (Fr.new hb36 (fun _ => False)) (fun _ _ h => h)).mono (fun k hk => by have := hb36.size; omega)
  have hbw6 : Below w.heap.size w w6 := (hbw3.trans (hbW3.mono hbw3.size)).trans (hb36.mono (Nat.le_trans hbw3.size hbW3.size))
  have HX6 := Lib.hid hx6
  have HRD6 := Lib.hid hrd6
  clear hx3 hrdW hrd3 hx6 hrd6 hb36 hb6 hb4 hbw3 hbW3 hb1 hb2 hb3 hrd1 HEN HD1 HD2 HWR HUN
  go_wp2_with fail
  obtain ⟨W6, hW6⟩ : ∃ W6, W6 = w6.alloc (.cells #[.int .u64 0, .int .u64 0, .bool false, .bool false, .int .i64 0, .slice A2 0 c2] 63) := ⟨_, rfl⟩
  have hbW6 : Below w6.heap.size w6 W6 := by rw [hW6]; exact (Below.refl _ _).alloc (Nat.le_refl _) _
  rw [← hW6]
  have hx := (hbW6.block _ (Array.getElem?_eq_some_iff.1 HX6.out).1).trans HX6.out
  have hrd := (Rd.kept HRD6.out (Fr.new hbW6 (fun _ => False)) (fun _ _ h => h)).mono (T' := (· < W6.heap.size)) (fun k hk => by have := hbW6.size; omega)
  have hbw : Below w.heap.size w W6 := hbw6.trans (hbW6.mono hbw6.size)
  have u0 := blk_cell hx 0
  have u1 := blk_cell hx 1
  have u2 := blk_cell hx 2
  have u3 := blk_cell hx 3
  have u4 := blk_cell hx 4
  have u5 := blk_cell hx 5
  simp at u0 u1 u2 u3 u4 u5
  have HX := Lib.hid hx
  have HRD := Lib.hid hrd
  have hlx := (Array.getElem?_eq_some_iff.1 hx).1
  clear hx hrd hW6 hbW6 hbw6 HX6 HRD6
  refine wp_rows_drew (fun V => V.cell? ⟨w3.heap.size, 0, none⟩ = some (.int .u64 1) ∧ V.cell? ⟨w3.heap.size, 1, none⟩ = some (.int .u64 1) ∧ V.cell? ⟨w3.heap.size, 2, none⟩ = some (.bool false) ∧ V.cell? ⟨w3.heap.size, 3, none⟩ = some (.bool false) ∧ V.cell? ⟨w3.heap.size, 4, none⟩ = some (.int .i64 2) ∧ V.cell? ⟨w3.heap.size, 5, none⟩ = some (.slice A 1 c))
    [0, 1, 2, 3, 4, 5, 6, 7, 8, 9, 10, 11, 12, 13, 14, 15] [] [16] [17, 18, 19, 20, 21, 22, 23, 24, 25, 26, 27, 28, 29, 30, 31, 32, 33, 34, 35, 36, 37] (by kernel_rfl) (by kernel_rfl) (fun _ _ _ _ e h => ⟨e ▸ h.1, h.2⟩) (fun k => ⟨u0, u1, u2, u3, u4, u5⟩) ?_
  iterate 16
    refine heldQ_step rfl (yieldsIf_want (by first | rfl | go_simp) (fun V hV => by obtain ⟨s0, s1, s2, s3, s4, s5⟩ := hV; go_simp; first | done | rfl)) (fun K' hK' => ?_)
    go_simp
    refine hK' _ ?_
    clear hK' K'
  simp only [heldQ, opsAt, List.filterMap_cons, List.filterMap_nil, List.getElem?_toArray, List.getElem?_cons_succ, List.getElem?_cons_zero]
  refine wpQuiet_nil ?_
  intro nq
  refine wpListS_want (by first | rfl | go_simp) (fun K' hK' => ?_)
  go_simp
  refine (first_any _).mono ?_
  rintro e w7 ⟨g7, rfl, hg7, hrd7, hb7⟩
  unfold recV firstR
  go_simp
  have hb7' : Below W6.heap.size W6 w7 := (below_drewN (Below.refl W6.heap.size W6) nq).trans (hb7.mono (Nat.le_refl _))
  have hrb7 := hrd7.mono (T' := (· < w7.heap.size)) (fun k hk => hk.2)
  have hra7 := (Rd.kept HRD.out (Fr.new (w' := w7) hb7' (fun _ => False)) (fun _ _ h => h)).mono (T' := (· < w7.heap.size)) (fun k hk => Nat.lt_of_lt_of_le hk hb7'.size)
  have hx7 := (hb7'.block w3.heap.size hlx).trans HX.out
  refine hK' _ _ ⟨blk_cell hx7 0, blk_cell hx7 1, blk_cell hx7 2, blk_cell hx7 3, blk_cell hx7 4, blk_cell hx7 5⟩ ?_
  clear hK' K'
  have hsm7 := HSM.out A (some ⟨g7, 0, none⟩) c 1 w7 hra7 hrb7
  have HS7 := Lib.hid hsm7
  clear hsm7 hra7 hrb7 hx7 hrd7 u0 u1 u2 u3 u4 u5 HX HRD HSM hb7
  simp only [wpListS]
  show wpList _ _ _ (_ :: _) _ _
  go_wp2_with fail
  refine HS7.out.mono ?_
  rintro e w8 ⟨rfl, hb8⟩
  go_wp2_with fail
  refine (HRM.out _).mono ?_
  rintro e w9 ⟨rfl, hw9⟩
  subst hw9
  go_wp2_with fail
  go_ret
  exact ⟨rfl, (hbw.trans (hb7'.mono hbw.size)).trans (hb8.mono (Nat.le_trans hbw.size hb7'.size))⟩
end Go.Proofs.Ytjpmohennekbaaa

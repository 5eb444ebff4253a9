/- The law DiskImage walked. -/
import Derived.Test.YtjpmohennekbaaaDv
namespace Go.Proofs.Ytjpmohennekbaaa
open Go.RowKit Go.Nau Go.Shelf
attribute [local go_sem] Oper.semAt_some

def LpRel2 (w0 : World) (l : List DOp) (d r nb most : Nat) (k : Nat) (iv : Value) (wr : World) : Prop :=
  ∃ (q : Nat) (s : DS) (F G : Nat → Prop), k = l.length - q ∧ iv = .int .i64 q ∧ q ≤ l.length ∧ q ≤ most ∧ Both w0.heap.size wr F G d r s ∧ Below w0.heap.size w0 wr ∧ DInv s ∧ s.now.length = nb ∧ s.ops ≤ q ∧ s.loose.length ≤ q

theorem blocksL_512 (l : List ByteArray) (h : ∀ x ∈ l, x.size = 512) : blocksL l = l := by
  unfold blocksL
  conv => rhs; rw [← List.map_id l]
  refine List.map_congr_left (fun x hx => ?_)
  show x ++ zeroN (512 - x.size) = x
  rw [h x hx]
  show x ++ zeroN 0 = x
  exact ByteArray.append_empty

set_option maxHeartbeats 4000000 in
set_option maxRecDepth 100000 in
theorem diskimage_any (A : Option Addr) (n c : Nat) (l : List DOp) (pa : Int) (hpa : -9223372036854775808 ≤ pa ∧ pa ≤ 9223372036854775807) (w : World) (hr : Rd (· < w.heap.size) w 6 A n (opsC l)) (hl : l.length = n) (hn : n ≤ maxLen) (hwf : ∀ x ∈ l, x.wf) :
    Calls Try.prog 8 #[.slice A n c, .int .i64 pa] w fun e w' => e = .returned (.bool true) ∧ Below w.heap.size w w' := by
  subst hl
  have hni : (l.length : Int) ≤ 9223372036854775807 := by unfold maxLen at hn; omega
  have hS := Lib.hid (shown_any w)
  have HR := Lib.hid hr
  have HWF := Lib.hid hwf
  have HPK := Lib.hid pick_any
  clear hr hwf
  go_enter Try.func8, Try.ntmps8
  go_wp2_with fail
  refine hS.out.mono ?_
  rintro e w1 ⟨rfl, hb1⟩
  have hs1 := hb1.size
  have hnew := new_ok 128 w1 (by decide)
  have HNW := Lib.hid hnew
  clear hnew
  go_wp2_with fail
  refine HNW.out.mono ?_
  rintro e w2 ⟨d, rfl, hD, hd, hb2⟩
  have hs2 := hb2.size
  have hrnew := rnew_ok 128 w2 (by decide)
  have HRN := Lib.hid hrnew
  clear hrnew
  go_wp2_with fail
  refine HRN.out.mono ?_
  rintro e w3 ⟨r, rfl, hRr, hb3⟩
  have hs3 := hb3.size
  obtain ⟨s0, hbo, hi0, hlen0, ho0, hl0⟩ := both_new (B := w.heap.size) (by omega) hb2 hb3 hD hRr (by omega) (by omega)
  have hb03 : Below w.heap.size w w3 := (hb1.trans (hb2.mono (by omega))).trans (hb3.mono (by omega))
  clear HNW HRN hD hRr
  go_wp2_with fail
  go_loopg [10] l.length (LpRel2 w l d r 128 60)
  case atStart => exact ⟨0, s0, _, _, rfl, rfl, Nat.zero_le _, Nat.zero_le _, hbo, hb03, hi0, hlen0, by omega, by omega⟩
  case round =>
    obtain ⟨q, s, F, G, rfl, rfl, hq, hq2, hbo', hbw, hi, hlen, ho, hlo⟩ := hrel
    clear hbo hb03 hi0 hlen0 ho0 hl0
    have hwz := hbw.size
    by_cases hgo : q < l.length ∧ q < 60
    · obtain ⟨hlt, hlt2⟩ := hgo
      have hqi : (q : Int) < (l.length : Int) := by omega
      have hq2i : (q : Int) < 60 := by omega
      obtain ⟨x, hx⟩ : ∃ x, l[q]? = some x := ⟨_, List.getElem?_eq_getElem hlt⟩
      obtain ⟨ad, rfl, e0, e1, e2, e3, e4, e5⟩ := ops_cells (HR.out.kept (Fr.of_below hbw) (fun k hk => by omega)) q x hx hlt
      have hxw := HWF.out x (List.mem_of_getElem? hx)
      have hdo := fun W (hB : Both w.heap.size W F G d r s) (hz : w.heap.size ≤ W.heap.size) => does_any hB hz hi x hxw (by omega) (by omega)
      have hpk := HPK.out x.kind 6 (by have := hxw.kind; omega) (by omega) (by omega)
      have HDO := Lib.hid hdo
      have HPX := Lib.hid hpk
      clear hx hdo hpk
      go_wp2_with fail
      refine (HPX.out _).mono ?_
      rintro e w4 ⟨rfl, hw4⟩
      rw [hw4]
      clear hw4 w4
      by_cases h5 : pk x.kind 6 = 5
      · have h5' : ((pk x.kind 6 : Int) != 5) = false := by rw [h5]; rfl
        clear h5
        go_wp2_with fail
        go_roundg (l.length - (q + 1))
        case measure => omega
        case rel =>
          exact ⟨q + 1, s, F, G, rfl, by simp, by omega, by omega, hbo', hbw, hi, hlen, by omega, by omega⟩
      · have h5' : ((pk x.kind 6 : Int) != 5) = true := by simp; omega
        have hdn := HDO.out _ hbo' (by omega)
        have HDN := Lib.hid hdn
        have H5 := Lib.hid h5
        clear hdn h5
        go_wp2_with fail
        refine HDN.out.mono ?_
        rintro e w5 ⟨d', r', s', F', G', rfl, hbo5, hbw5, hi5, hl5, ho5, hlo5, hdr⟩
        obtain ⟨rfl, rfl⟩ := hdr H5.out
        go_wp2_with fail
        go_roundg (l.length - (q + 1))
        case measure => omega
        case rel => exact ⟨q + 1, s', F', G', rfl, by simp, by omega, by omega, hbo5, hbw.trans (hbw5.mono (by omega)), hi5, by omega, by omega, by omega⟩
    · obtain ⟨F9, hF9⟩ : ∃ F9, F9 = fullS 9 512 := ⟨_, rfl⟩
      have hF9s : F9.size = 512 := by rw [hF9, fullS_size]
      have hFull := fun W => full_9 W
      rw [← hF9] at hFull
      clear hF9
      have ha := pk_lt pa 128 (by omega)
      have hpka := HPK.out pa 128 (by omega) (by omega) (by omega)
      generalize pk pa 128 = a at *
      have hbl := blocksL_512 s.now hi.ok.now
      have hofr := fun (A : Option Addr) (c : Nat) (W : World) (hr : Rd (· < W.heap.size) W 1 A s.now.length (strs s.now)) => dof_any A c s.now W hr (by rw [hlen]; decide)
      unfold DOfPost at hofr
      rw [hbl, hlen] at hofr
      have hno : ¬ ∃ x ∈ s.now, 512 < x.size := fun ⟨x, hx, hx2⟩ => by have := hi.ok.now x hx; omega
      have hgo2 : (q < l.length ∧ q = 60) ∨ q = l.length := by omega
      have hoff0 : offB (freshDS s.now) = false := by simp [offB, freshDS]
      have hwo : (wrote (freshDS s.now) a F9).ops = 1 := rfl
      have hwl : (wrote (freshDS s.now) a F9).loose.length = 1 := rfl
      rcases hgo2 with ⟨hlt, rfl⟩ | rfl
      case' inl => have hqi : ((60 : Nat) : Int) < (l.length : Int) := by omega
      all_goals
        go_wp2_with fail
        refine (image_dsk hbo'.1 (by omega)).mono ?_
        rintro e w4 ⟨v4, rfl, hown4, hb4⟩
        rw [hlen] at hown4
        obtain ⟨A4, c4, rfl, hrd4⟩ := Rd.lt_own (own_base hown4 (Nat.zero_le _))
        have hs4 := hb4.size
        have hD4 := hbo'.1.kept (Fr.new hb4 (fun _ => False)) (fun _ _ => id)
        go_wp2_with fail
        refine (hofr A4 c4 w4 hrd4).mono ?_
        rintro e w5 (⟨_, ⟨d5, rfl, hD5⟩, hb5⟩ | ⟨hno', _⟩)
        case' inr => exact absurd hno' hno
        have hs5 := hb5.size
        have hf5 : Fr (fun _ => False) w4 w5 := Fr.new hb5 _
        have hDd5 := hD4.kept hf5 (fun _ _ => id)
        have hrd5 := hrd4.kept hf5 (fun _ _ => id)
        go_wp2_with fail
        refine (image_dsk hD5 (by show s.now.length ≤ _; omega)).mono ?_
        rintro e w6 ⟨v6, rfl, hown6, hb6⟩
        change World.ownsRow w6 _ 9 1 v6 s.now.length (strs s.now) at hown6
        rw [hlen] at hown6
        obtain ⟨A6, c6, rfl, hrd6⟩ := Rd.lt_own (own_base hown6 (Nat.zero_le _))
        have hs6 := hb6.size
        have hf6 : Fr (fun _ => False) w5 w6 := Fr.new hb6 _
        go_wp2_with fail
        refine (same_any _ _ A6 A4 128 c6 c4 s.now w6 hrd6 (hrd5.kept hf6 (fun _ _ => id)) (by omega)).mono ?_
        rintro e w7 ⟨rfl, q7, rfl⟩
        have hf7 : Fr (fun _ => False) w5 (w6.drewN q7) := hf6.trans (Fr.drewN _ _ _)
        go_wp2_with fail
        refine (hpka _).mono ?_
        rintro e w8 ⟨rfl, hw8⟩
        rw [hw8]
        clear hw8 w8
        go_wp2_with fail
        refine (hFull _).mono ?_
        rintro e w8 ⟨rfl, hb8⟩
        have hs8 : w6.heap.size ≤ w8.heap.size := hb8.size
        have hf8 : Fr (fun _ => False) w5 w8 := hf7.trans (Fr.new hb8 _)
        have hD8 := hD5.kept hf8 (fun _ _ => id)
        have hDd8 := hDd5.kept hf8 (fun _ _ => id)
        have hrd8 := hrd5.kept hf8 (fun _ _ => id)
        have hbw8 : Below w.heap.size w w8 := (((hbw.trans (hb4.mono (by omega))).trans (hb5.mono (by omega))).trans (hb6.mono (by omega))).trans ((below_drewN (Below.refl w6.heap.size w6) q7).mono (by omega)) |>.trans (hb8.mono (by show w.heap.size ≤ w6.heap.size; omega))
        go_wp2_with fail
        refine (write_ok hD8 hoff0 a (by show a < s.now.length; omega) F9 hF9s (by simp [freshDS]) (by simp [freshDS])).mono ?_
        rintro e w9 ⟨rfl, F10, hD10, hF10, hf10⟩
        have hs10 := hf10.size
        have hDd9 := hDd8.kept hf10 (fun k hk hF => by have := (hbo'.2.2.2.1 k hk).2; omega)
        have hrd9 := (Rd.mono hrd8 (T' := fun k => k < w4.heap.size) (fun k hk => hk)).kept hf10 (fun k hk hF => by have h1 : k < w4.heap.size := hk; omega)
        go_wp2_with fail
        refine (image_dsk hDd9 (by omega)).mono ?_
        rintro e w11 ⟨v11, rfl, hown11, hb11⟩
        rw [hlen] at hown11
        obtain ⟨A11, c11, rfl, hrd11⟩ := Rd.lt_own (own_base hown11 (Nat.zero_le _))
        have hs11 := hb11.size
        have hf11 : Fr (fun _ => False) w9 w11 := Fr.new hb11 _
        go_wp2_with fail
        refine (same_any _ _ A11 A4 128 c11 c4 s.now w11 hrd11 (hrd9.kept hf11 (fun _ _ => id)) (by omega)).mono ?_
        rintro e w12 ⟨rfl, q12, rfl⟩
        have hf12 : Fr (fun _ => False) w9 (w11.drewN q12) := hf11.trans (Fr.drewN _ _ _)
        have hD12 := hD10.kept hf12 (fun _ _ => id)
        have hlo := loose_dsk hD12
        have hop := ops_dsk hD12
        rw [hwl] at hlo
        rw [hwo] at hop
        go_wp2_with fail
        refine hlo.mono ?_
        rintro e w13 ⟨rfl, rfl⟩
        go_wp2_with fail
        refine hop.mono ?_
        rintro e w13 ⟨rfl, rfl⟩
        go_wp2_with fail
        go_ret
        exact ⟨rfl, below_drewN ((hbw8.trans (hf10.below (by omega) (fun k hk => by omega))).trans (hb11.mono (by omega))) q12⟩
end Go.Proofs.Ytjpmohennekbaaa

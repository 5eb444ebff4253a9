/- RecordUnlike: contract over the given program. -/
import Derived.Test.YtjpmohennekbaaaRy
namespace Go.Proofs.Ytjpmohennekbaaa
open Go.RowKit Go.Nau Go.Shelf
attribute [local go_sem] Oper.semAt_some

theorem str_beq (a b : ByteArray) : (a.toList == b.toList) = decide (a = b) := by
  rw [Bool.eq_iff_iff, beq_iff_eq, decide_eq_true_eq, ByteArray.toList_eq, ByteArray.toList_eq]
  exact ⟨fun h => ByteArray.ext (Array.toList_inj.mp h), fun h => by rw [h]⟩
theorem wrap_inj {s t : ByteArray} (h : s.size = t.size) (hs : s.size ≤ 508) (e : wrapS s = wrapS t) : s = t := by
  have h1 := congrArg unwO e
  rw [unw_wrap hs, unw_wrap (by omega)] at h1
  have h2 := congrArg (fun x : ByteArray => x.extract 0 s.size) h1
  rwa [extract_left _ _ _ rfl, extract_left _ _ _ h.symm] at h2

set_option maxHeartbeats 4000000 in
set_option maxRecDepth 100000 in
theorem unlike_law (x y : Rec) (hwx : x.wf) (hwy : y.wf) (A B : Option Addr) (c d : Nat) (s t : ByteArray) (hs : s.size ≤ maxLen) (ht : t.size ≤ maxLen) (w : World) (hrx : Rd (· < w.heap.size) w 4 A x.l.length (entC x.l)) (hry : Rd (· < w.heap.size) w 4 B y.l.length (entC y.l)) :
    Calls Try.prog 13 #[recV x A c, recV y B d, .string s, .string t] w fun e w' => e = .returned (.bool true) ∧ Below w.heap.size w w' := by
  obtain ⟨W0, hW0⟩ : ∃ W0, W0 = w.alloc (.cells #[.int .u64 x.seq, .int .u64 x.cp, .bool x.ends, .bool x.sync, .int .i64 x.next, .slice A x.l.length c] 63) := ⟨_, rfl⟩
  have hb0 : Below w.heap.size w W0 := by rw [hW0]; exact (Below.refl _ _).alloc (Nat.le_refl _) _
  have hx0 : InBox W0 w.heap.size x A c := by rw [hW0]; exact InBox.new hrx
  have hz0 : W0.heap.size = w.heap.size + 1 := by rw [hW0]; simp
  obtain ⟨W1, hW1⟩ : ∃ W1, W1 = W0.alloc (.cells #[.int .u64 y.seq, .int .u64 y.cp, .bool y.ends, .bool y.sync, .int .i64 y.next, .slice B y.l.length d] 63) := ⟨_, rfl⟩
  have hb01 : Below W0.heap.size W0 W1 := by rw [hW1]; exact (Below.refl _ _).alloc (Nat.le_refl _) _
  have hy1 : InBox W1 (w.heap.size + 1) y B d := by
    have := InBox.new (W := W0) (c := d) ((Rd.kept hry (Fr.new hb0 (fun _ => False)) (fun _ _ h => h)).mono (fun k hk => by omega))
    rw [hz0] at this
    rw [hW1]
    exact this
  have hx1 := hx0.kept hb01
  have hb1 : Below w.heap.size w W1 := hb0.trans (hb01.mono hb0.size)
  rw [hW0] at hW1
  have HW1 := Lib.hid hW1
  have hex := fun W h => encode2_any x hwx A c W h
  have hey := fun W h => encode2_any y hwy B d W h
  have hws := fun W => wrap_any s hs W
  have hwt := fun W => wrap_any t ht W
  have hsm := fun W h1 h2 => rsame_any x y hwx hwy A B c d W h1 h2
  have f1 : encN x = 70 ∨ (encN x = 0 ∧ (encN y = 70 ∨ encN y = 0 ∧ ((encO x).toList == (encO y).toList) = sameB x y)) := by
    unfold encN encO
    by_cases h1 : rightB x = true
    · right
      rw [if_pos h1, if_pos h1]
      refine ⟨rfl, ?_⟩
      by_cases h2 : rightB y = true
      · right
        rw [if_pos h2, if_pos h2, str_beq]
        refine ⟨rfl, ?_⟩
        rw [Bool.eq_iff_iff, decide_eq_true_eq, sameB_iff]
        exact ⟨fun h => enc_inj h1 h2 hwx hwy h, fun h => by rw [h]⟩
      · left
        rw [if_neg h2]
    · left
      rw [if_neg h1]
  have f2 : wrapE s = 70 ∨ (wrapE s = 0 ∧ (wrapE t = 70 ∨ wrapE t = 0 ∧ (¬ (s.size : Int) = t.size ∨ (s.size : Int) = t.size ∧ ((wrapO s).toList == (wrapO t).toList) = (s.toList == t.toList)))) := by
    unfold wrapE wrapO
    by_cases h1 : s.size ≤ 508
    · right
      rw [if_pos h1, if_pos h1]
      refine ⟨rfl, ?_⟩
      by_cases h2 : t.size ≤ 508
      · right
        rw [if_pos h2, if_pos h2]
        refine ⟨rfl, ?_⟩
        by_cases h3 : s.size = t.size
        · right
          refine ⟨by omega, ?_⟩
          rw [str_beq, str_beq, decide_eq_decide]
          exact ⟨fun h => wrap_inj h3 h1 h, fun h => by rw [h]⟩
        · left
          omega
      · left
        rw [if_neg h2]
    · left
      rw [if_neg h1]
  generalize encO x = xo at *
  generalize encN x = xn at *
  generalize encO y = yo at *
  generalize encN y = yn at *
  generalize wrapO s = so at *
  generalize wrapE s = sn at *
  generalize wrapO t = t0 at *
  generalize wrapE t = tn at *
  generalize sameB x y = sm at *
  have HEX := Lib.hid hex
  have HEY := Lib.hid hey
  have HWS := Lib.hid hws
  have HWT := Lib.hid hwt
  have HSM := Lib.hid hsm
  have HX1 := Lib.hid hx1
  have HY1 := Lib.hid hy1
  have F1 := Lib.hid f1
  have F2 := Lib.hid f2
  clear f1 f2 hex hey hws hwt hsm hx0 hx1 hy1 hW1 hW0 hz0 hb0 hb01 hrx hry hwx hwy
  unfold recV at *
  go_enter Try.func13, Try.ntmps13
  go_wp2_with fail
  rw [← HW1.out]
  refine (shown7_any _).mono ?_
  rintro e w2 ⟨rfl, hb2⟩
  have hx2 := HX1.out.kept hb2
  have hy2 := HY1.out.kept hb2
  have k0 := blk_cell hx2.box 0
  have k1 := blk_cell hx2.box 1
  have k2 := blk_cell hx2.box 2
  have k3 := blk_cell hx2.box 3
  have k4 := blk_cell hx2.box 4
  have k5 := blk_cell hx2.box 5
  simp at k0 k1 k2 k3 k4 k5
  have HX2 := Lib.hid hx2
  have HY2 := Lib.hid hy2
  clear hx2 hy2
  go_wp2_with fail
  refine (HEX.out _ HX2.out.rd).mono ?_
  rintro e w3 ⟨rfl, hb3⟩
  have hx3 := HX2.out.kept hb3
  have hy3 := HY2.out.kept hb3
  clear k0 k1 k2 k3 k4 k5
  have k0 := blk_cell hy3.box 0
  have k1 := blk_cell hy3.box 1
  have k2 := blk_cell hy3.box 2
  have k3 := blk_cell hy3.box 3
  have k4 := blk_cell hy3.box 4
  have k5 := blk_cell hy3.box 5
  simp at k0 k1 k2 k3 k4 k5
  have HX3 := Lib.hid hx3
  have HY3 := Lib.hid hy3
  clear hx3 hy3
  go_wp2_with fail
  refine (HEY.out _ HY3.out.rd).mono ?_
  rintro e w4 ⟨rfl, hb4⟩
  clear k0 k1 k2 k3 k4 k5
  go_wp2_with fail
  refine (HWS.out _).mono ?_
  rintro e w5 ⟨rfl, hb5⟩
  go_wp2_with fail
  refine (HWT.out _).mono ?_
  rintro e w6 ⟨rfl, hb6⟩
  have hx6 := ((HX3.out.kept hb4).kept hb5).kept hb6
  have hy6 := ((HY3.out.kept hb4).kept hb5).kept hb6
  have k0 := blk_cell hx6.box 0
  have k1 := blk_cell hx6.box 1
  have k2 := blk_cell hx6.box 2
  have k3 := blk_cell hx6.box 3
  have k4 := blk_cell hx6.box 4
  have k5 := blk_cell hx6.box 5
  have q0 := blk_cell hy6.box 0
  have q1 := blk_cell hy6.box 1
  have q2 := blk_cell hy6.box 2
  have q3 := blk_cell hy6.box 3
  have q4 := blk_cell hy6.box 4
  have q5 := blk_cell hy6.box 5
  simp at k0 k1 k2 k3 k4 k5 q0 q1 q2 q3 q4 q5
  have HX6 := Lib.hid hx6
  have HY6 := Lib.hid hy6
  have hbw6 : Below w.heap.size w w6 := by
    have s1 := hb1.size
    have s2 := hb2.size
    have s3 := hb3.size
    have s4 := hb4.size
    have s5 := hb5.size
    exact ((((hb1.trans (hb2.mono (by omega))).trans (hb3.mono (by omega))).trans (hb4.mono (by omega))).trans (hb5.mono (by omega))).trans (hb6.mono (by omega))
  clear hx6 hy6 hb1 hb2 hb3 hb4 hb5 hb6
  go_wp2_with fail
  refine (HSM.out _ HX6.out.rd HY6.out.rd).mono ?_
  rintro e w7 ⟨rfl, hb7⟩
  have hbw := hbw6.trans (hb7.mono hbw6.size)
  clear k0 k1 k2 k3 k4 k5 q0 q1 q2 q3 q4 q5 hbw6 hb7 HX6 HY6 HX3 HY3 HX2 HY2 HX1 HY1 HEX HEY HWS HWT HSM HW1
  have HBW := Lib.hid hbw
  clear hbw hs ht
  rcases F1.out with rfl | ⟨rfl, rfl | ⟨rfl, hxy⟩⟩
  case' inr.inr => cases sm
  all_goals
    rcases F2.out with rfl | ⟨rfl, rfl | ⟨rfl, hz | ⟨hz, hst⟩⟩⟩
    all_goals try (cases hse : (s.toList == t.toList) <;> rw [hse] at hst)
    all_goals
      clear F1 F2
      go_wp2_with fail
      go_ret
      exact ⟨by simp, HBW.out⟩
end Go.Proofs.Ytjpmohennekbaaa

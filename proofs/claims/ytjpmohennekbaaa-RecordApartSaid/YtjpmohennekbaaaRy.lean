/- RecordApart, RecordUnlike: contracts over the given program. -/
import Derived.Test.YtjpmohennekbaaaRx
namespace Go.Proofs.Ytjpmohennekbaaa
open Go.RowKit Go.Nau Go.Shelf
attribute [local go_sem] Oper.semAt_some

theorem wrapO_size (c : ByteArray) (h : wrapE c = 0) : c.size ≤ 508 := by
  unfold wrapE at h
  split at h
  · assumption
  · cases h

set_option maxHeartbeats 4000000 in
set_option maxRecDepth 100000 in
theorem apart_law (t : ByteArray) (ht : t.size ≤ maxLen) (x : Rec) (hwf : x.wf) (A : Option Addr) (c : Nat) (b : ByteArray) (hb : b.size ≤ maxLen) (w : World) (hr : Rd (· < w.heap.size) w 4 A x.l.length (entC x.l)) :
    Calls Try.prog 12 #[.string t, recV x A c, .string b] w fun e w' => e = .returned (.bool true) ∧ Below w.heap.size w w' := by
  have hb9 : b.size ≤ 9223372036854775807 := by unfold maxLen at hb; omega
  obtain ⟨W1, hW1⟩ : ∃ W1, W1 = w.alloc (.cells #[.int .u64 x.seq, .int .u64 x.cp, .bool x.ends, .bool x.sync, .int .i64 x.next, .slice A x.l.length c] 63) := ⟨_, rfl⟩
  have hi1 : InBox W1 w.heap.size x A c := by rw [hW1]; exact InBox.new hr
  have hb1 : Below w.heap.size w W1 := by rw [hW1]; exact (Below.refl _ _).alloc (Nat.le_refl _) _
  have HW1 := Lib.hid hW1
  have HI1 := Lib.hid hi1
  have hen := fun W h => encode2_any x hwf A c W h
  have hwr := fun W => wrap_any t ht W
  have hux := fun W => unwrap_any (encO x) W
  have hub := fun W => unwrap_any b W
  have hdb := fun W => decode_any b hb9 W
  unfold DecPost at hdb
  -- what the last tests come to
  have f1 : encN x = 70 ∨ encN x = 0 ∧ unwE (encO x) = 70 := by
    by_cases h : rightB x = true
    · right
      refine ⟨by unfold encN; simp [h], ?_⟩
      have h1 := (back_enc h hwf).2
      unfold encO unwE
      rw [if_pos h]
      cases hw : isWrap (encS x) with
      | true => exact (apart _ h1 hw).elim
      | false => rfl
    · left
      unfold encN
      simp [h]
  have f2 : decE b = 70 ∨ decE b = 0 ∧ unwE b = 70 := by
    unfold decE unwE
    cases h1 : okDec b with
    | false => left; rfl
    | true =>
      right
      cases h2 : isWrap b with
      | true => exact (apart _ h1 h2).elim
      | false => exact ⟨rfl, rfl⟩
  generalize hxo : encO x = xo at *
  generalize encN x = xn at *
  generalize unwO b = ub at *
  generalize unwE b = ue at *
  generalize unwO xo = ux at *
  generalize unwE xo = xe at *
  generalize decO b = y at *
  generalize decE b = de at *
  have HEN := Lib.hid hen
  have HWR := Lib.hid hwr
  have HUX := Lib.hid hux
  have HUB := Lib.hid hub
  have HDB := Lib.hid hdb
  clear hW1 hi1 hen hux hub hdb hr hwf hxo
  -- what stands behind the test on the wrapped content
  have htail : ∀ (W : World) (K : Act → World → Prop), True → True := fun _ _ _ => trivial
  clear htail
  by_cases h5 : t.size ≤ 508
  case' neg =>
    have hwe : wrapE t = 70 := by unfold wrapE; rw [if_neg h5]
    simp only [hwe] at hwr
    have HWR := Lib.hid hwr
    clear hwe hwr h5
    unfold recV at *
    go_enter Try.func12, Try.ntmps12
    go_wp2_with fail
    rw [← HW1.out]
    refine (shown7_any _).mono ?_
    rintro e w2 ⟨rfl, hb2⟩
    go_wp2_with fail
    refine (HWR.out _).mono ?_
    rintro e w3 ⟨rfl, hb3⟩
    have hi3 := (HI1.out.kept hb2).kept hb3
    have k0 := blk_cell hi3.box 0
    have k1 := blk_cell hi3.box 1
    have k2 := blk_cell hi3.box 2
    have k3 := blk_cell hi3.box 3
    have k4 := blk_cell hi3.box 4
    have k5 := blk_cell hi3.box 5
    simp at k0 k1 k2 k3 k4 k5
    have hlt3 := hi3.lt
    have hrd3 := hi3.rd
    have hbw3 : Below w.heap.size w w3 := (hb1.trans (hb2.mono hb1.size)).trans (hb3.mono (Nat.le_trans hb1.size hb2.size))
    clear hb2 hb3
  case' pos =>
    have hwe : wrapE t = 0 := by unfold wrapE; rw [if_pos h5]
    have hwo : wrapO t = wrapS t := by unfold wrapO; rw [if_pos h5]
    simp only [hwe, hwo] at hwr
    have hws := wrapS_size h5
    have huw : ∀ W, Calls Try.prog 44 #[.string (wrapS t)] W fun e w' => e = .returned (.tuple #[.string (t ++ zeroN (508 - t.size)), .int .i64 0]) ∧ W = w' := fun W => by
      have := unwrap_any (wrapS t) W
      unfold unwE at this
      rw [unw_wrap h5, isWrap_wrap h5, if_pos rfl] at this
      exact this
    have hdw := fun W => decode_any (wrapS t) (by omega) W
    unfold DecPost at hdw
    have hdo : decE (wrapS t) = 70 := by
      unfold decE
      cases h : okDec (wrapS t) with
      | true => exact (apart _ h (isWrap_wrap h5)).elim
      | false => rfl
    rw [hdo] at hdw
    generalize decO (wrapS t) = yw at *
    have hts : ((t ++ zeroN (508 - t.size)).size : Int) = 508 := by
      rw [ByteArray.size_append, zeroN_size]
      omega
    have hts3 : (t.size : Int) ≤ 508 := by omega
    have hts2 : (t.size : Int) ≤ ((t ++ zeroN (508 - t.size)).size : Int) := by rw [ByteArray.size_append]; omega
    have hcut : (!((t ++ zeroN (508 - t.size)).extract 0 t.size).toList == t.toList) = false := by
      rw [extract_left _ _ _ rfl]
      simp
    have HWR := Lib.hid hwr
    have HUW := Lib.hid huw
    have HDW := Lib.hid hdw
    clear hwe hwo hwr hws huw hdw hdo h5
    generalize t ++ zeroN (508 - t.size) = tz at *
    generalize wrapS t = wt at *
    unfold recV at *
    go_enter Try.func12, Try.ntmps12
    go_wp2_with fail
    rw [← HW1.out]
    refine (shown7_any _).mono ?_
    rintro e w2 ⟨rfl, hb2⟩
    go_wp2_with fail
    refine (HWR.out _).mono ?_
    rintro e w2b ⟨rfl, hb2b⟩
    go_wp2_with fail
    refine (HUW.out _).mono ?_
    rintro e w2c ⟨rfl, rfl⟩
    go_wp2_with fail
    refine (HDW.out _).mono ?_
    rintro e w2d ⟨Ad, cd, rfl, hcd, hrdd, hb2d⟩
    have hi2 := ((HI1.out.kept hb2).kept hb2b).kept hb2d
    obtain ⟨w3, hw3⟩ : ∃ w3, w3 = w2d.alloc (.cells #[.int .u64 yw.seq, .int .u64 yw.cp, .bool yw.ends, .bool yw.sync, .int .i64 yw.next, .slice Ad yw.l.length cd] 63) := ⟨_, rfl⟩
    have hb3 : Below w2d.heap.size w2d w3 := by rw [hw3]; exact (Below.refl _ _).alloc (Nat.le_refl _) _
    have hi3 := hi2.kept hb3
    have hbw3 : Below w.heap.size w w3 := by
      have s1 := hb1.size
      have s2 := hb2.size
      have s3 := hb2b.size
      have s4 := hb2d.size
      exact (((hb1.trans (hb2.mono (by omega))).trans (hb2b.mono (by omega))).trans (hb2d.mono (by omega))).trans (hb3.mono (by omega))
    have HW3 := Lib.hid hw3
    have k0 := blk_cell hi2.box 0
    have k1 := blk_cell hi2.box 1
    have k2 := blk_cell hi2.box 2
    have k3 := blk_cell hi2.box 3
    have k4 := blk_cell hi2.box 4
    have k5 := blk_cell hi2.box 5
    simp at k0 k1 k2 k3 k4 k5
    have hlt3 := hi2.lt
    have hrd3 := hi3.rd
    clear hw3 hb2 hb2b hb2d hi2 hrdd hb3
  all_goals
    have HRD3 := Lib.hid hrd3
    clear hi3 hrd3
    go_wp2_with fail
    try rw [← HW3.out]
    refine (HEN.out _ HRD3.out).mono ?_
    rintro e w4 ⟨rfl, hb4⟩
    clear k0 k1 k2 k3 k4 k5
    go_wp2_with fail
    refine (HUX.out _).mono ?_
    rintro e w5 ⟨rfl, rfl⟩
    go_wp2_with fail
    refine (HDB.out _).mono ?_
    rintro e w6 ⟨A6, c6, rfl, hc6, hrd6, hb6⟩
    go_wp2_with fail
    refine (HUB.out _).mono ?_
    rintro e w7 ⟨rfl, hw7⟩
    rw [← hw7]
    clear hw7
    have hbw : Below w.heap.size w (w6.alloc (.cells #[.int .u64 y.seq, .int .u64 y.cp, .bool y.ends, .bool y.sync, .int .i64 y.next, .slice A6 y.l.length c6] 63)) := by
      have s1 := hbw3.size
      have s2 := hb4.size
      have s3 := hb6.size
      exact ((hbw3.trans (hb4.mono (by omega))).trans (hb6.mono (by omega))).alloc (by omega) _
    have HBW := Lib.hid hbw
    clear hbw
    rcases f1 with rfl | ⟨rfl, rfl⟩ <;> rcases f2 with rfl | ⟨rfl, rfl⟩
    all_goals
      go_wp2_with fail
      go_ret
      exact ⟨by simp, HBW.out⟩
end Go.Proofs.Ytjpmohennekbaaa

/- RecordBack: contract over the given program. -/
import Derived.Test.YtjpmohennekbaaaRw
namespace Go.Proofs.Ytjpmohennekbaaa
open Go.RowKit Go.Nau Go.Shelf
attribute [local go_sem] Oper.semAt_some

def mixS (e m : ByteArray) : ByteArray := (e.extract 0 256 ++ m) ++ e.extract (256 + m.size) e.size
theorem mix_size {e m : ByteArray} (he : e.size = 512) (hm : m.size ≤ 256) : (mixS e m).size = 512 := by
  unfold mixS
  simp only [ByteArray.size_append, ByteArray.size_extract]
  omega
theorem mix_sec {e m : ByteArray} (he : e.size = 512) : (mixS e m).extract 0 256 = e.extract 0 256 := by
  unfold mixS
  rw [ByteArray.append_assoc]
  exact extract_left _ _ _ (by simp only [ByteArray.size_extract]; omega)

set_option maxHeartbeats 4000000 in
set_option maxRecDepth 100000 in
theorem back_law (x : Rec) (hwf : x.wf) (A : Option Addr) (c : Nat) (b : ByteArray) (hb : b.size ≤ maxLen) (w : World) (hr : Rd (· < w.heap.size) w 4 A x.l.length (entC x.l)) :
    Calls Try.prog 11 #[recV x A c, .string b] w fun e w' => e = .returned (.bool true) ∧ Below w.heap.size w w' := by
  have hb9 : b.size ≤ 9223372036854775807 := by unfold maxLen at hb; omega
  obtain ⟨W1, hW1⟩ : ∃ W1, W1 = w.alloc (.cells #[.int .u64 x.seq, .int .u64 x.cp, .bool x.ends, .bool x.sync, .int .i64 x.next, .slice A x.l.length c] 63) := ⟨_, rfl⟩
  have hi1 : InBox W1 w.heap.size x A c := by rw [hW1]; exact InBox.new hr
  have hb1 : Below w.heap.size w W1 := by rw [hW1]; exact (Below.refl _ _).alloc (Nat.le_refl _) _
  have HW1 := Lib.hid hW1
  have hen := fun W h => encode2_any x hwf A c W h
  have hri := fun W h => right_any x hwf A c W h
  have hsm := fun A B c d W h1 h2 => rsame_any x x hwf hwf A B c d W h1 h2
  rw [show sameB x x = true from (sameB_iff _ _).2 rfl] at hsm
  have HI1 := Lib.hid hi1
  have HSM := Lib.hid hsm
  by_cases hrt : rightB x = true
  case neg =>
    have hrt : rightB x = false := by simpa using hrt
    rw [hrt] at hri
    have hn : encN x = 70 := by unfold encN; simp [hrt]
    rw [hn] at hen
    have HEN := Lib.hid hen
    have HRI := Lib.hid hri
    clear hW1 hen hri hsm hr hi1 hwf hrt hn
    unfold recV at *
    go_enter Try.func11, Try.ntmps11
    go_wp2_with fail
    rw [← HW1.out]
    refine (shown7_any _).mono ?_
    rintro e w2 ⟨rfl, hb2⟩
    have hi2 := HI1.out.kept hb2
    have k0 := blk_cell hi2.box 0
    have k1 := blk_cell hi2.box 1
    have k2 := blk_cell hi2.box 2
    have k3 := blk_cell hi2.box 3
    have k4 := blk_cell hi2.box 4
    have k5 := blk_cell hi2.box 5
    simp at k0 k1 k2 k3 k4 k5
    have HI2 := Lib.hid hi2
    clear hi2
    go_wp2_with fail
    refine (HEN.out _ HI2.out.rd).mono ?_
    rintro e w3 ⟨rfl, hb3⟩
    have hi3 := HI2.out.kept hb3
    clear k0 k1 k2 k3 k4 k5
    have k0 := blk_cell hi3.box 0
    have k1 := blk_cell hi3.box 1
    have k2 := blk_cell hi3.box 2
    have k3 := blk_cell hi3.box 3
    have k4 := blk_cell hi3.box 4
    have k5 := blk_cell hi3.box 5
    simp at k0 k1 k2 k3 k4 k5
    have HI3 := Lib.hid hi3
    clear hi3
    go_wp2_with fail
    refine (HRI.out _ HI3.out.rd).mono ?_
    rintro e w4 ⟨rfl, hb4⟩
    go_wp2_with fail
    go_ret
    exact ⟨by simp, ((hb1.trans (hb2.mono hb1.size)).trans (hb3.mono (Nat.le_trans hb1.size hb2.size))).trans (hb4.mono (Nat.le_trans (Nat.le_trans hb1.size hb2.size) hb3.size))⟩
  have hn : encN x = 0 := by unfold encN; simp [hrt]
  have ho : encO x = encS x := by unfold encO; simp [hrt]
  have hl15 := (right_facts hrt).2.2.2.2.2.2.2.1
  have hes := encS_size x (by omega)
  rw [hn, ho] at hen
  obtain ⟨m, hm⟩ : ∃ m, m = b.extract 0 (min (b.size : Int) 256).toNat := ⟨_, rfl⟩
  have hms : m.size ≤ 256 := by rw [hm, ByteArray.size_extract]; omega
  have hback := back hrt hwf (mix_size hes hms) ((mix_sec hes).trans (sec_of_enc x hl15))
  have hdec : decO (mixS (encS x) m) = x ∧ decE (mixS (encS x) m) = 0 := by
    unfold decO decE
    rw [hback.2]
    exact ⟨hback.1, rfl⟩
  have hmz := mix_size hes hms
  have hd := fun W => decode_any (mixS (encS x) m) (by rw [hmz]; omega) W
  unfold DecPost at hd
  rw [hdec.1, hdec.2] at hd
  have hmx : mixS (encS x) m = ((encS x).extract 0 256 ++ m) ++ (encS x).extract (256 + m.size) (encS x).size := rfl
  generalize mixS (encS x) m = mx at *
  generalize encS x = es at *
  have hei : (es.size : Int) = 512 := by omega
  have hes512 : 512 ≤ es.size ∧ es.size ≤ 512 := by omega
  have HD := Lib.hid hd
  have HEN := Lib.hid hen
  have HMX := Lib.hid hmx
  have HM := Lib.hid hm
  clear hW1 hen hri hsm hr hi1 hwf hn ho hl15 hback hdec hd hmx hmz hrt
  have hes5 : ((es.size : Int) == 512) = true := by simp; omega
  have hes6 : (256 : Int) ≤ (es.size : Int) := by omega
  clear hes hei hm
  unfold recV at *
  go_enter Try.func11, Try.ntmps11
  go_wp2_with fail
  rw [← HW1.out]
  refine (shown7_any _).mono ?_
  rintro e w2 ⟨rfl, hb2⟩
  have hi2 := HI1.out.kept hb2
  have k0 := blk_cell hi2.box 0
  have k1 := blk_cell hi2.box 1
  have k2 := blk_cell hi2.box 2
  have k3 := blk_cell hi2.box 3
  have k4 := blk_cell hi2.box 4
  have k5 := blk_cell hi2.box 5
  simp at k0 k1 k2 k3 k4 k5
  have HI2 := Lib.hid hi2
  clear hi2
  go_wp2_with fail
  refine (HEN.out _ HI2.out.rd).mono ?_
  rintro e w3 ⟨rfl, hb3⟩
  have hi3 := HI2.out.kept hb3
  have HI3 := Lib.hid hi3
  clear k0 k1 k2 k3 k4 k5 hi3
  go_wp2_with fail
  rw [← HM.out]
  have m1 : (m.size : Int) ≤ 256 := by omega
  have m2 : 256 + (m.size : Int) ≤ (es.size : Int) := by omega
  have m3 : IntKind.i64.wrap (256 + (m.size : Int)) = 256 + (m.size : Int) := by rw [IntKind.wrap_i64]; omega
  have m4 : (256 + (m.size : Int)).toNat = 256 + m.size := by omega
  have m5 : ¬ 9223372036854775807 < min 256 es.size + m.size := by omega
  have m6 : ¬ 9223372036854775807 < min 256 es.size + m.size + (es.size - (256 + m.size)) := by omega
  have m7 : 0 ≤ 256 + (m.size : Int) := by omega
  go_quiet (fail)
  rename_i nq
  rw [← HMX.out]
  clear m1 m2 m3 m4 m5 m6 m7 HMX HM hms hes6 hes512
  have hb3n : Below w3.heap.size w3 (w3.drewN nq) := below_drewN (Below.refl _ _) nq
  have hi3n := HI3.out.kept hb3n
  have hbw3 : Below w.heap.size w (w3.drewN nq) := ((hb1.trans (hb2.mono hb1.size)).trans (hb3.mono (Nat.le_trans hb1.size hb2.size))).trans (hb3n.mono (Nat.le_trans (Nat.le_trans hb1.size hb2.size) hb3.size))
  have HI3N := Lib.hid hi3n
  clear hi3n
  go_wp2_with fail
  refine (HD.out _).mono ?_
  rintro e w4 ⟨A4, c4, rfl, hc4, hrd4, hb4⟩
  have hi4 := HI3N.out.kept hb4
  obtain ⟨W4, hW4⟩ : ∃ W4, W4 = w4.alloc (.cells #[.int .u64 x.seq, .int .u64 x.cp, .bool x.ends, .bool x.sync, .int .i64 x.next, .slice A4 x.l.length c4] 63) := ⟨_, rfl⟩
  have hbW4 : Below w4.heap.size w4 W4 := by rw [hW4]; exact (Below.refl _ _).alloc (Nat.le_refl _) _
  have hiy : InBox W4 w4.heap.size x A4 c4 := by rw [hW4]; exact InBox.new (hrd4.mono (fun k hk => hk.2))
  have hix := hi4.kept hbW4
  have HIX := Lib.hid hix
  have HIY := Lib.hid hiy
  have HW4 := Lib.hid hW4
  have k0 := blk_cell hi4.box 0
  have k1 := blk_cell hi4.box 1
  have k2 := blk_cell hi4.box 2
  have k3 := blk_cell hi4.box 3
  have k4 := blk_cell hi4.box 4
  have k5 := blk_cell hi4.box 5
  simp at k0 k1 k2 k3 k4 k5
  have hlt4 := hi4.lt
  clear hi4 hix hiy hW4 hrd4
  go_wp2_with fail
  rw [← HW4.out]
  refine (HSM.out A4 A c4 c _ HIY.out.rd HIX.out.rd).mono ?_
  rintro e w5 ⟨rfl, hb5⟩
  go_wp2_with fail
  go_ret
  have s1 := hbw3.size
  have s2 := hb4.size
  have s3 := hbW4.size
  exact ⟨by simp, ((hbw3.trans (hb4.mono (by omega))).trans (hbW4.mono (by omega))).trans (hb5.mono (by omega))⟩
end Go.Proofs.Ytjpmohennekbaaa

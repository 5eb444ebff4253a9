/- The reference's Right: contract over the given program. -/
import Derived.Test.YtjpmohennekbaaaRe
namespace Go.Proofs.Ytjpmohennekbaaa
open Go.RowKit Go.Nau Go.Shelf
attribute [local go_sem] Oper.semAt_some

set_option maxHeartbeats 4000000 in
set_option maxRecDepth 100000 in
theorem rright_any (r : Rec) (hwf : r.wf) (A : Option Addr) (c : Nat) (w : World) (hr : Rd (· < w.heap.size) w 4 A r.l.length (entC r.l)) :
    Calls Try.prog 40 #[recV r A c] w fun e w' => e = .returned (.bool (rightB r)) ∧ Below w.heap.size w w' := by
  have hlen := hwf.len
  have hli : (r.l.length : Int) ≤ 9223372036854775807 := by unfold maxLen at hlen; omega
  obtain ⟨W0, hW0⟩ : ∃ W0, W0 = w.alloc (.cells #[.int .u64 r.seq, .int .u64 r.cp, .bool r.ends, .bool r.sync, .int .i64 r.next, .slice A r.l.length c] 63) := ⟨_, rfl⟩
  have hbox : W0.heap[w.heap.size]? = some (.cells #[.int .u64 r.seq, .int .u64 r.cp, .bool r.ends, .bool r.sync, .int .i64 r.next, .slice A r.l.length c] 63 (0, 0)) := by rw [hW0]; exact heap_alloc_new w _
  have hb0 : Below w.heap.size w W0 := by rw [hW0]; exact (Below.refl _ w).alloc (Nat.le_refl _) _
  have q0 := blk_cell hbox 0
  have q1 := blk_cell hbox 1
  have q2 := blk_cell hbox 2
  have q3 := blk_cell hbox 3
  have q4 := blk_cell hbox 4
  have q5 := blk_cell hbox 5
  simp at q0 q1 q2 q3 q4 q5
  have hn1 := rnumber_any r.seq W0
  have hn2 := rnumber_any r.cp W0
  have HR := Lib.hid hr
  have HW := Lib.hid hW0
  have hhd : headB r = (numB r.seq && (numB r.cp && (decide (0 ≤ r.next) && (decide (r.next ≤ 255) && (decide (r.l.length ≠ 0) && (decide (r.l.length ≤ 15) && !(r.ends && r.sync))))))) := rfl
  have hrf : headB r = false → rightB r = false := fun h => by unfold rightB; rw [h, Bool.false_and]
  have hel : ∀ j x, elemB r j x = (entB x && (decide (x.kind = 5) == (r.ends && decide (j + 1 = r.l.length)))) := fun _ _ => rfl
  have HT := Lib.hid (fun hh h => @rightB_true r hh h)
  have HF := Lib.hid (fun q x hx h => @rightB_false r q x hx h)
  have HB := Lib.hid hbox
  have HL := Lib.hid hel
  clear hr hW0 hbox hel
  unfold recV
  generalize rightB r = rb at *
  by_cases s1 : numB r.seq = true
  case neg =>
    have s1 : numB r.seq = false := by simpa using s1
    rw [s1] at hn1 hhd
    have hf := Lib.hid (hrf hhd)
    clear hrf hhd
    go_enter Try.func40, Try.ntmps40
    go_wp2_with fail
    try go_step3
    go_wp2_with fail
    rw [← HW.out]
    refine hn1.mono ?_
    rintro e w1 ⟨rfl, hw1⟩
    rw [← hw1]
    clear hw1 w1
    go_wp2_with fail
    refine hn2.mono ?_
    rintro e w1 ⟨rfl, hw1⟩
    rw [← hw1]
    clear hw1 w1
    go_wp2_with fail
    go_ret
    exact ⟨by rw [hf.out]; rfl, hb0⟩
  rw [s1] at hn1 hhd
  by_cases s2 : numB r.cp = true
  case neg =>
    have s2 : numB r.cp = false := by simpa using s2
    rw [s2] at hn2 hhd
    have hf := Lib.hid (hrf hhd)
    clear hrf hhd
    go_enter Try.func40, Try.ntmps40
    go_wp2_with fail
    try go_step3
    go_wp2_with fail
    rw [← HW.out]
    refine hn1.mono ?_
    rintro e w1 ⟨rfl, hw1⟩
    rw [← hw1]
    clear hw1 w1
    go_wp2_with fail
    refine hn2.mono ?_
    rintro e w1 ⟨rfl, hw1⟩
    rw [← hw1]
    clear hw1 w1
    go_wp2_with fail
    go_ret
    exact ⟨by rw [hf.out]; rfl, hb0⟩
  rw [s2] at hn2 hhd
  by_cases s3 : 0 ≤ r.next
  case neg =>
    have d1 : decide (r.next < 0) = true := by simp; omega
    have hf := Lib.hid (hrf (by rw [hhd]; simp [s3]))
    clear hrf hhd
    go_enter Try.func40, Try.ntmps40
    go_wp2_with fail
    try go_step3
    go_wp2_with fail
    rw [← HW.out]
    refine hn1.mono ?_
    rintro e w1 ⟨rfl, hw1⟩
    rw [← hw1]
    clear hw1 w1
    go_wp2_with fail
    refine hn2.mono ?_
    rintro e w1 ⟨rfl, hw1⟩
    rw [← hw1]
    clear hw1 w1
    go_wp2_with fail
    go_ret
    exact ⟨by rw [hf.out]; rfl, hb0⟩
  have d1 : decide (r.next < 0) = false := by simp; omega
  by_cases s4 : r.next ≤ 255
  case neg =>
    have d2 : decide (255 < r.next) = true := by simp; omega
    have hf := Lib.hid (hrf (by rw [hhd]; simp [s4]))
    clear hrf hhd
    go_enter Try.func40, Try.ntmps40
    go_wp2_with fail
    try go_step3
    go_wp2_with fail
    rw [← HW.out]
    refine hn1.mono ?_
    rintro e w1 ⟨rfl, hw1⟩
    rw [← hw1]
    clear hw1 w1
    go_wp2_with fail
    refine hn2.mono ?_
    rintro e w1 ⟨rfl, hw1⟩
    rw [← hw1]
    clear hw1 w1
    go_wp2_with fail
    go_ret
    exact ⟨by rw [hf.out]; rfl, hb0⟩
  have d2 : decide (255 < r.next) = false := by simp; omega
  by_cases s5 : r.l.length = 0
  case pos =>
    have d3 : decide ((r.l.length : Int) < 1) = true := by simp [s5]
    have hf := Lib.hid (hrf (by rw [hhd]; simp [s5]))
    clear hrf hhd s5
    go_enter Try.func40, Try.ntmps40
    go_wp2_with fail
    try go_step3
    go_wp2_with fail
    rw [← HW.out]
    refine hn1.mono ?_
    rintro e w1 ⟨rfl, hw1⟩
    rw [← hw1]
    clear hw1 w1
    go_wp2_with fail
    refine hn2.mono ?_
    rintro e w1 ⟨rfl, hw1⟩
    rw [← hw1]
    clear hw1 w1
    go_wp2_with fail
    go_ret
    exact ⟨by rw [hf.out]; rfl, hb0⟩
  have d3 : decide ((r.l.length : Int) < 1) = false := by simp; omega
  by_cases s6 : r.l.length ≤ 15
  case neg =>
    have d4 : decide ((15 : Int) < (r.l.length : Int)) = true := by simp; omega
    have hf := Lib.hid (hrf (by rw [hhd]; simp [s6]))
    clear hrf hhd
    go_enter Try.func40, Try.ntmps40
    go_wp2_with fail
    try go_step3
    go_wp2_with fail
    rw [← HW.out]
    refine hn1.mono ?_
    rintro e w1 ⟨rfl, hw1⟩
    rw [← hw1]
    clear hw1 w1
    go_wp2_with fail
    refine hn2.mono ?_
    rintro e w1 ⟨rfl, hw1⟩
    rw [← hw1]
    clear hw1 w1
    go_wp2_with fail
    go_ret
    exact ⟨by rw [hf.out]; rfl, hb0⟩
  have d4 : decide ((15 : Int) < (r.l.length : Int)) = false := by simp; omega
  have hl15 : (r.l.length : Int) ≤ 15 := by omega
  have hl1 : 1 ≤ (r.l.length : Int) := by omega
  rcases he : r.ends with _ | _ <;> rcases hy : r.sync with _ | _
  case true.true =>
    rw [he] at q2 hhd
    rw [hy] at q3 hhd
    have hf := Lib.hid (hrf (by rw [hhd]; simp))
    clear hrf hhd
    rw [he, hy] at HW
    go_enter Try.func40, Try.ntmps40
    go_wp2_with fail
    try go_step3
    go_wp2_with fail
    rw [← HW.out]
    refine hn1.mono ?_
    rintro e w1 ⟨rfl, hw1⟩
    rw [← hw1]
    clear hw1 w1
    go_wp2_with fail
    refine hn2.mono ?_
    rintro e w1 ⟨rfl, hw1⟩
    rw [← hw1]
    clear hw1 w1
    go_wp2_with fail
    go_ret
    exact ⟨by rw [hf.out]; rfl, hb0⟩
  all_goals
    rw [he] at q2 hhd HW HB HL
    rw [hy] at q3 hhd HW HB
    have hh : headB r = true := by rw [hhd, decide_eq_true s3, decide_eq_true s4, decide_eq_true s5, decide_eq_true s6]; rfl
    clear hrf hhd s3 s4 s5 s6
    go_enter Try.func40, Try.ntmps40
    go_wp2_with fail
    try go_step3
    go_wp2_with fail
    rw [← HW.out]
    refine hn1.mono ?_
    rintro e w1 ⟨rfl, hw1⟩
    rw [← hw1]
    clear hw1 w1
    go_wp2_with fail
    refine hn2.mono ?_
    rintro e w1 ⟨rfl, hw1⟩
    rw [← hw1]
    clear hw1 w1
    go_wp2_with fail
    go_loopg [5] r.l.length (RightRel w r A c)
    case atStart => exact ⟨0, rfl, rfl, Nat.zero_le _, fun j x hj => absurd hj (by omega), by rw [he, hy]; exact HB.out, hb0⟩
    case round =>
      obtain ⟨q, rfl, rfl, hq, hpre, hbx, hbw⟩ := hrel
      clear q0 q1 q2 q3 q4 q5 hn1 hn2 hb0 HB HW
      rw [he, hy] at hbx
      have z2 := blk_cell hbx 2
      have z5 := blk_cell hbx 5
      simp at z2 z5
      by_cases hlt : q < r.l.length
      · have hqi : (q : Int) < (r.l.length : Int) := by omega
        obtain ⟨x, hx⟩ : ∃ x, r.l[q]? = some x := ⟨_, List.getElem?_eq_getElem hlt⟩
        obtain ⟨ad, rfl, e0, e1, e2, e3⟩ := ent_cells (HR.out.kept (Fr.of_below hbw) (fun k hk => by omega)) q x hx hlt
        have hbx0 := (Array.getElem?_eq_some_iff.1 hbx).1
        have hlast : ((q : Int) == (r.l.length : Int) - 1) = decide (q + 1 = r.l.length) := by rw [Bool.eq_iff_iff]; simp; omega
        by_cases t4 : q + 1 = r.l.length
        case' pos => rw [decide_eq_true t4] at hlast
        case' neg => rw [decide_eq_false t4] at hlast
        all_goals
        have hce := rentry_any x wr
        have HE := Lib.hid hce
        have hel := HL.out q x
        clear hce
        go_wp2_with fail
        refine HE.out.mono ?_
        rintro e w3 ⟨rfl, hb3⟩
        have hs3 := hb3.size
        have hbr3 := (hb3.block w.heap.size hbx0).trans hbx
        have k5 := blk_cell hbr3 5
        simp at k5
        have hb30 := (hb3.cell (by have := cell_lt e0; exact this)).trans e0
        have hbw3 : Below w.heap.size w w3 := hbw.trans (hb3.mono hbw.size)
        have HB3 := Lib.hid hbr3
        clear hbr3 HE e0 e1 e2 e3 z2 z5 hbx hb3 hbw
        by_cases t1 : entB x = true
        case neg =>
          have t1 : entB x = false := by simpa using t1
          rw [t1] at hel ⊢
          have hf := Lib.hid (HF.out q x hx (by rw [hel]; rfl))
          clear hel hx HF HT HL hpre
          go_wp2_with fail
          go_ret
          exact ⟨by rw [hf.out]; rfl, hbw3⟩
        rw [t1] at hel ⊢
        by_cases t2 : x.kind = 5
        case' pos => have t3 : (x.kind == 5) = true := by simpa using t2
        case' neg => have t3 : (x.kind == 5) = false := by simpa using t2
        all_goals
          first
            | (have hf := Lib.hid (HF.out q x hx (by rw [hel]; simp only [t2, t4, decide_true, decide_false]; rfl))
               clear t2
               clear hel hx HF HT HL hpre t4
               go_wp2_with fail
               go_ret
               exact ⟨by rw [hf.out]; rfl, hbw3⟩)
            | (have hpre2 : ∀ j y, j < q + 1 → r.l[j]? = some y → elemB r j y = true := by
                 intro j y hj hy
                 rcases Nat.lt_or_ge j q with h | h
                 · exact hpre j y h hy
                 · obtain rfl : j = q := by omega
                   rw [hx] at hy
                   injection hy with hy
                   subst hy
                   rw [hel]; simp only [t2, t4, decide_true, decide_false]; rfl
               have HP := Lib.hid hpre2
               clear hel hx HF HL hpre hpre2 t4 t2
               go_wp2_with fail
               go_roundg (r.l.length - (q + 1))
               case measure => omega
               case rel => exact ⟨q + 1, rfl, by simp, by omega, HP.out, by rw [he, hy]; exact HB3.out, hbw3⟩)
      · obtain rfl : q = r.l.length := by omega
        have hf := Lib.hid (HT.out hh hpre)
        clear hpre HT HF HL hbx hlt
        go_wp2_with fail
        go_ret
        exact ⟨by rw [hf.out]; rfl, hbw⟩
end Go.Proofs.Ytjpmohennekbaaa

/- record.Right and the reference's Right: contracts over the given program. -/
import Derived.Test.YtjpmohennekbaaaRd
namespace Go.Proofs.Ytjpmohennekbaaa
open Go.RowKit Go.Nau Go.Shelf
attribute [local go_sem] Oper.semAt_some

def elemB (r : Rec) (i : Nat) (x : Ent) : Bool := entB x && (decide (x.kind = 5) == (r.ends && decide (i + 1 = r.l.length)))
def headB (r : Rec) : Bool := numB r.seq && (numB r.cp && (decide (0 ≤ r.next) && (decide (r.next ≤ 255) && (decide (r.l.length ≠ 0) && (decide (r.l.length ≤ 15) && !(r.ends && r.sync))))))
def rightB (r : Rec) : Bool := headB r && (r.l.zipIdx.all fun x => elemB r x.2 x.1)

theorem rightB_false {r : Rec} {q : Nat} {x : Ent} (hx : r.l[q]? = some x) (h : elemB r q x = false) : rightB r = false := by
  unfold rightB
  have : (r.l.zipIdx.all fun x => elemB r x.2 x.1) = false := by
    rw [List.all_eq_false]
    refine ⟨(x, q), ?_, by simpa using h⟩
    rw [List.mem_iff_getElem?]
    exact ⟨q, by simp [List.getElem?_zipIdx, hx]⟩
  rw [this, Bool.and_false]
theorem rightB_true {r : Rec} (hh : headB r = true) (h : ∀ j x, j < r.l.length → r.l[j]? = some x → elemB r j x = true) : rightB r = true := by
  unfold rightB
  rw [hh, Bool.true_and, List.all_eq_true]
  intro y hy
  obtain ⟨j, hj⟩ := List.mem_iff_getElem?.1 hy
  simp only [List.getElem?_zipIdx, Nat.zero_add, Option.map_eq_some_iff] at hj
  obtain ⟨x, hx, rfl⟩ := hj
  exact h j x (List.getElem?_eq_some_iff.1 hx).1 hx


def RightRel (w0 : World) (r : Rec) (A : Option Addr) (c : Nat) (k : Nat) (i : Value) (wr : World) : Prop :=
  ∃ q : Nat, k = r.l.length - q ∧ i = .int .i64 q ∧ q ≤ r.l.length ∧ (∀ j x, j < q → r.l[j]? = some x → elemB r j x = true) ∧
    wr.heap[w0.heap.size]? = some (.cells #[.int .u64 r.seq, .int .u64 r.cp, .bool r.ends, .bool r.sync, .int .i64 r.next, .slice A r.l.length c] 63 (0, 0)) ∧ Below w0.heap.size w0 wr


set_option maxHeartbeats 4000000 in
set_option maxRecDepth 100000 in
theorem right_any (r : Rec) (hwf : r.wf) (A : Option Addr) (c : Nat) (w : World) (hr : Rd (· < w.heap.size) w 4 A r.l.length (entC r.l)) :
    Calls Try.prog 39 #[recV r A c] w fun e w' => e = .returned (.bool (rightB r)) ∧ Below w.heap.size w w' := by
  have hlen := hwf.len
  have hli : (r.l.length : Int) ≤ 9223372036854775807 := by unfold maxLen at hlen; omega
  obtain ⟨W0, hW0⟩ : ∃ W0, W0 = w.alloc (.cells #[.int .u64 r.seq, .int .u64 r.cp, .bool r.ends, .bool r.sync, .int .i64 r.next, .slice A r.l.length c] 63) := ⟨_, rfl⟩
  have hbox : W0.heap[w.heap.size]? = some (.cells #[.int .u64 r.seq, .int .u64 r.cp, .bool r.ends, .bool r.sync, .int .i64 r.next, .slice A r.l.length c] 63 (0, 0)) := by rw [hW0]; exact heap_alloc_new w _
  have hb0 : Below w.heap.size w W0 := by rw [hW0]; exact (Below.refl _ w).alloc (Nat.le_refl _) _
  have q0 := blk_cell hbox 0
  have q1 := blk_cell hbox 1
  have q2 := blk_cell hbox 2
  have q3 := blk_cell hbox 3
  have q4 := blk_cell hbox 4
  have q5 := blk_cell hbox 5
  simp at q0 q1 q2 q3 q4 q5
  have hn1 := isNumber_any r.seq W0
  have hn2 := isNumber_any r.cp W0
  have HR := Lib.hid hr
  have HW := Lib.hid hW0
  have hhd : headB r = (numB r.seq && (numB r.cp && (decide (0 ≤ r.next) && (decide (r.next ≤ 255) && (decide (r.l.length ≠ 0) && (decide (r.l.length ≤ 15) && !(r.ends && r.sync))))))) := rfl
  have hrf : headB r = false → rightB r = false := fun h => by unfold rightB; rw [h, Bool.false_and]
  have hel : ∀ j x, elemB r j x = (entB x && (decide (x.kind = 5) == (r.ends && decide (j + 1 = r.l.length)))) := fun _ _ => rfl
  have HT := Lib.hid (fun hh h => @rightB_true r hh h)
  have HF := Lib.hid (fun q x hx h => @rightB_false r q x hx h)
  have HB := Lib.hid hbox
  have HL := Lib.hid hel
  clear hr hW0 hbox hel
  unfold recV
  generalize rightB r = rb at *
  by_cases s1 : numB r.seq = true
  case neg =>
    have s1 : numB r.seq = false := by simpa using s1
    rw [s1] at hn1 hhd
    have hf := Lib.hid (hrf hhd)
    clear hrf hhd
    go_enter Try.func39, Try.ntmps39
    go_wp2_with fail
    try go_step3
    go_wp2_with fail
    rw [← HW.out]
    refine hn1.mono ?_
    rintro e w1 ⟨rfl, hw1⟩
    rw [← hw1]
    clear hw1 w1
    go_wp2_with fail
    go_ret
    exact ⟨by rw [hf.out]; rfl, hb0⟩
  rw [s1] at hn1 hhd
  by_cases s2 : numB r.cp = true
  case neg =>
    have s2 : numB r.cp = false := by simpa using s2
    rw [s2] at hn2 hhd
    have hf := Lib.hid (hrf hhd)
    clear hrf hhd
    go_enter Try.func39, Try.ntmps39
    go_wp2_with fail
    try go_step3
    go_wp2_with fail
    rw [← HW.out]
    refine hn1.mono ?_
    rintro e w1 ⟨rfl, hw1⟩
    rw [← hw1]
    clear hw1 w1
    go_wp2_with fail
    refine hn2.mono ?_
    rintro e w1 ⟨rfl, hw1⟩
    rw [← hw1]
    clear hw1 w1
    go_wp2_with fail
    go_ret
    exact ⟨by rw [hf.out]; rfl, hb0⟩
  rw [s2] at hn2 hhd
  by_cases s3 : 0 ≤ r.next
  case neg =>
    have d1 : decide (r.next < 0) = true := by simp; omega
    have hf := Lib.hid (hrf (by rw [hhd]; simp [s3]))
    clear hrf hhd
    go_enter Try.func39, Try.ntmps39
    go_wp2_with fail
    try go_step3
    go_wp2_with fail
    rw [← HW.out]
    refine hn1.mono ?_
    rintro e w1 ⟨rfl, hw1⟩
    rw [← hw1]
    clear hw1 w1
    go_wp2_with fail
    refine hn2.mono ?_
    rintro e w1 ⟨rfl, hw1⟩
    rw [← hw1]
    clear hw1 w1
    go_wp2_with fail
    go_ret
    exact ⟨by rw [hf.out]; rfl, hb0⟩
  have d1 : decide (r.next < 0) = false := by simp; omega
  by_cases s4 : r.next ≤ 255
  case neg =>
    have d2 : decide (255 < r.next) = true := by simp; omega
    have hf := Lib.hid (hrf (by rw [hhd]; simp [s4]))
    clear hrf hhd
    go_enter Try.func39, Try.ntmps39
    go_wp2_with fail
    try go_step3
    go_wp2_with fail
    rw [← HW.out]
    refine hn1.mono ?_
    rintro e w1 ⟨rfl, hw1⟩
    rw [← hw1]
    clear hw1 w1
    go_wp2_with fail
    refine hn2.mono ?_
    rintro e w1 ⟨rfl, hw1⟩
    rw [← hw1]
    clear hw1 w1
    go_wp2_with fail
    go_ret
    exact ⟨by rw [hf.out]; rfl, hb0⟩
  have d2 : decide (255 < r.next) = false := by simp; omega
  by_cases s5 : r.l.length = 0
  case pos =>
    have d3 : ((r.l.length : Int) == 0) = true := by simp [s5]
    have hf := Lib.hid (hrf (by rw [hhd]; simp [s5]))
    clear hrf hhd s5
    go_enter Try.func39, Try.ntmps39
    go_wp2_with fail
    try go_step3
    go_wp2_with fail
    rw [← HW.out]
    refine hn1.mono ?_
    rintro e w1 ⟨rfl, hw1⟩
    rw [← hw1]
    clear hw1 w1
    go_wp2_with fail
    refine hn2.mono ?_
    rintro e w1 ⟨rfl, hw1⟩
    rw [← hw1]
    clear hw1 w1
    go_wp2_with fail
    go_ret
    exact ⟨by rw [hf.out]; rfl, hb0⟩
  have d3 : ((r.l.length : Int) == 0) = false := by simp; intro h; rw [h] at s5; exact s5 rfl
  by_cases s6 : r.l.length ≤ 15
  case neg =>
    have d4 : decide ((15 : Int) < (r.l.length : Int)) = true := by simp; omega
    have hf := Lib.hid (hrf (by rw [hhd]; simp [s6]))
    clear hrf hhd
    go_enter Try.func39, Try.ntmps39
    go_wp2_with fail
    try go_step3
    go_wp2_with fail
    rw [← HW.out]
    refine hn1.mono ?_
    rintro e w1 ⟨rfl, hw1⟩
    rw [← hw1]
    clear hw1 w1
    go_wp2_with fail
    refine hn2.mono ?_
    rintro e w1 ⟨rfl, hw1⟩
    rw [← hw1]
    clear hw1 w1
    go_wp2_with fail
    go_ret
    exact ⟨by rw [hf.out]; rfl, hb0⟩
  have d4 : decide ((15 : Int) < (r.l.length : Int)) = false := by simp; omega
  have hl15 : (r.l.length : Int) ≤ 15 := by omega
  have hl1 : 1 ≤ (r.l.length : Int) := by omega
  rcases he : r.ends with _ | _ <;> rcases hy : r.sync with _ | _
  case true.true =>
    rw [he] at q2 hhd
    rw [hy] at q3 hhd
    have hf := Lib.hid (hrf (by rw [hhd]; simp))
    clear hrf hhd
    rw [he, hy] at HW
    go_enter Try.func39, Try.ntmps39
    go_wp2_with fail
    try go_step3
    go_wp2_with fail
    rw [← HW.out]
    refine hn1.mono ?_
    rintro e w1 ⟨rfl, hw1⟩
    rw [← hw1]
    clear hw1 w1
    go_wp2_with fail
    refine hn2.mono ?_
    rintro e w1 ⟨rfl, hw1⟩
    rw [← hw1]
    clear hw1 w1
    go_wp2_with fail
    go_ret
    exact ⟨by rw [hf.out]; rfl, hb0⟩
  all_goals
    rw [he] at q2 hhd HW HB HL
    rw [hy] at q3 hhd HW HB
    have hh : headB r = true := by rw [hhd, decide_eq_true s3, decide_eq_true s4, decide_eq_true s5, decide_eq_true s6]; rfl
    clear hrf hhd s3 s4 s5 s6
    go_enter Try.func39, Try.ntmps39
    go_wp2_with fail
    try go_step3
    go_wp2_with fail
    rw [← HW.out]
    refine hn1.mono ?_
    rintro e w1 ⟨rfl, hw1⟩
    rw [← hw1]
    clear hw1 w1
    go_wp2_with fail
    refine hn2.mono ?_
    rintro e w1 ⟨rfl, hw1⟩
    rw [← hw1]
    clear hw1 w1
    go_wp2_with fail
    go_loopg [53] r.l.length (RightRel w r A c)
    case atStart => exact ⟨0, rfl, rfl, Nat.zero_le _, fun j x hj => absurd hj (by omega), by rw [he, hy]; exact HB.out, hb0⟩
    case round =>
      obtain ⟨q, rfl, rfl, hq, hpre, hbx, hbw⟩ := hrel
      clear q0 q1 q2 q3 q4 q5 hn1 hn2 hb0 HB HW
      rw [he, hy] at hbx
      have z2 := blk_cell hbx 2
      simp at z2
      by_cases hlt : q < r.l.length
      · have hqi : (q : Int) < (r.l.length : Int) := by omega
        obtain ⟨x, hx⟩ : ∃ x, r.l[q]? = some x := ⟨_, List.getElem?_eq_getElem hlt⟩
        obtain ⟨ad, rfl, e0, e1, e2, e3⟩ := ent_cells (HR.out.kept (Fr.of_below hbw) (fun k hk => by omega)) q x hx hlt
        obtain ⟨w1, hw1⟩ : ∃ w1, w1 = wr.alloc (.cells #[.int .i64 x.kind, .int .u32 x.file, .int .u32 x.idx, .int .u32 x.vbn] 105) := ⟨_, rfl⟩
        have hbx1 : w1.heap[wr.heap.size]? = some (.cells #[.int .i64 x.kind, .int .u32 x.file, .int .u32 x.idx, .int .u32 x.vbn] 105 (0, 0)) := by rw [hw1]; exact heap_alloc_new wr _
        have hbw1 : Below w.heap.size w w1 := by rw [hw1]; exact hbw.alloc hbw.size _
        have hbr1 := (Fr.alloc (Fr.refl (fun _ => False) wr) (.cells #[.int .i64 x.kind, .int .u32 x.file, .int .u32 x.idx, .int .u32 x.vbn] 105)).get id hbx
        rw [← hw1] at hbr1
        have hce := isEntry_any x w1
        have HE := Lib.hid hce
        have HW1 := Lib.hid hw1
        have hel := HL.out q x
        clear hce hw1
        go_wp2_with fail
        try go_step3
        go_wp2_with fail
        rw [← HW1.out]
        refine HE.out.mono ?_
        rintro e w3 ⟨rfl, hb3⟩
        have hs3 := hb3.size
        have hbx3 := (hb3.block wr.heap.size (Array.getElem?_eq_some_iff.1 hbx1).1).trans hbx1
        have hbr3 := (hb3.block w.heap.size (Array.getElem?_eq_some_iff.1 hbr1).1).trans hbr1
        have k0 := blk_cell hbx3 0
        have k2 := blk_cell hbr3 2
        simp at k0 k2
        have hbw3 : Below w.heap.size w w3 := hbw1.trans (hb3.mono hbw1.size)
        have HB3 := Lib.hid hbr3
        clear hbx1 hbr1 hbx3 hbr3 HW1 HE e0 e1 e2 e3 z2 hbx hb3 hbw1 hbw
        by_cases t1 : entB x = true
        case neg =>
          have t1 : entB x = false := by simpa using t1
          rw [t1] at hel ⊢
          have hf := Lib.hid (HF.out q x hx (by rw [hel]; rfl))
          clear hel hx HF HT HL hpre
          go_wp2_with fail
          go_ret
          exact ⟨by rw [hf.out]; rfl, hbw3⟩
        rw [t1] at hel ⊢
        by_cases t2 : x.kind = 5
        case' pos => have t3 : (x.kind == 5) = true := by simpa using t2
        case' neg => have t3 : (x.kind == 5) = false := by simpa using t2
        all_goals by_cases t4 : q + 1 = r.l.length
        all_goals first | (have t5 : ((q : Int) == (r.l.length : Int) - 1) = true := by simp; omega) | (have t5 : ((q : Int) == (r.l.length : Int) - 1) = false := by simp; omega)
        all_goals
          first
            | (have hf := Lib.hid (HF.out q x hx (by rw [hel]; simp only [t2, t4, decide_true, decide_false]; rfl))
               clear t2
               clear hel hx HF HT HL hpre t4
               go_wp2_with fail
               go_ret
               exact ⟨by rw [hf.out]; rfl, hbw3⟩)
            | (have hpre2 : ∀ j y, j < q + 1 → r.l[j]? = some y → elemB r j y = true := by
                 intro j y hj hy
                 rcases Nat.lt_or_ge j q with h | h
                 · exact hpre j y h hy
                 · obtain rfl : j = q := by omega
                   rw [hx] at hy
                   injection hy with hy
                   subst hy
                   rw [hel]; simp only [t2, t4, decide_true, decide_false]; rfl
               have HP := Lib.hid hpre2
               clear hel hx HF HL hpre hpre2 t4 t2
               go_wp2_with fail
               go_roundg (r.l.length - (q + 1))
               case measure => omega
               case rel => exact ⟨q + 1, rfl, by simp, by omega, HP.out, by rw [he, hy]; exact HB3.out, hbw3⟩)
      · obtain rfl : q = r.l.length := by omega
        have hf := Lib.hid (HT.out hh hpre)
        clear hpre HT HF HL hbx hlt
        go_wp2_with fail
        go_ret
        exact ⟨by rw [hf.out]; rfl, hbw⟩
end Go.Proofs.Ytjpmohennekbaaa

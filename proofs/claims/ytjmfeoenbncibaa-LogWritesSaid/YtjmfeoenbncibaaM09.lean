/- Texts of this proof, joined: Re Rf Rg. They hold under no condition beyond what each theorem states. -/
import Derived.Test.YtjmfeoenbncibaaM08
namespace Go.Proofs.Ytjmfeoenbncibaa
open Go.RowKit Go.Nau Go.Shelf
attribute [local go_sem] Oper.semAt_some

def elemB (r : Rec) (i : Nat) (x : Ent) : Bool := entB x && (decide (x.kind = 5) == (r.ends && decide (i + 1 = r.l.length)))
def headB (r : Rec) : Bool := numB r.seq && (numB r.cp && (decide (0 ≤ r.next) && (decide (r.next ≤ 255) && (decide (r.l.length ≠ 0) && (decide (r.l.length ≤ 15) && !(r.ends && r.sync))))))
def rightB (r : Rec) : Bool := headB r && (r.l.zipIdx.all fun x => elemB r x.2 x.1)

theorem rightB_false {r : Rec} {q : Nat} {x : Ent} (hx : r.l[q]? = some x) (h : elemB r q x = false) : rightB r = false := by
  unfold rightB
  have : (r.l.zipIdx.all fun x => elemB r x.2 x.1) = false := by
    rw [List.all_eq_false]
    refine ⟨(x, q), ?_, by simpa using h⟩
    rw [List.mem_iff_getElem?]
    exact ⟨q, by simp [List.getElem?_zipIdx, hx]⟩
  rw [this, Bool.and_false]
theorem rightB_true {r : Rec} (hh : headB r = true) (h : ∀ j x, j < r.l.length → r.l[j]? = some x → elemB r j x = true) : rightB r = true := by
  unfold rightB
  rw [hh, Bool.true_and, List.all_eq_true]
  intro y hy
  obtain ⟨j, hj⟩ := List.mem_iff_getElem?.1 hy
  simp only [List.getElem?_zipIdx, Nat.zero_add, Option.map_eq_some_iff] at hj
  obtain ⟨x, hx, rfl⟩ := hj
  exact h j x (List.getElem?_eq_some_iff.1 hx).1 hx


def RightRel (w0 : World) (r : Rec) (A : Option Addr) (c : Nat) (k : Nat) (i : Value) (wr : World) : Prop :=
  ∃ q : Nat, k = r.l.length - q ∧ i = .int .i64 q ∧ q ≤ r.l.length ∧ (∀ j x, j < q → r.l[j]? = some x → elemB r j x = true) ∧
    wr.heap[w0.heap.size]? = some (.cells #[.int .u64 r.seq, .int .u64 r.cp, .bool r.ends, .bool r.sync, .int .i64 r.next, .slice A r.l.length c] 79 (0, 0)) ∧ Below w0.heap.size w0 wr


set_option maxHeartbeats 4000000 in
set_option maxRecDepth 100000 in
theorem right_any (r : Rec) (hwf : r.wf) (A : Option Addr) (c : Nat) (w : World) (hr : Rd (· < w.heap.size) w 4 A r.l.length (entC r.l)) :
    Calls Try.prog 76 #[recV r A c] w fun e w' => e = .returned (.bool (rightB r)) ∧ Below w.heap.size w w' := by
  have hlen := hwf.len
  have hli : (r.l.length : Int) ≤ 9223372036854775807 := by unfold maxLen at hlen; omega
  obtain ⟨W0, hW0⟩ : ∃ W0, W0 = w.alloc (.cells #[.int .u64 r.seq, .int .u64 r.cp, .bool r.ends, .bool r.sync, .int .i64 r.next, .slice A r.l.length c] 79) := ⟨_, rfl⟩
  have hbox : W0.heap[w.heap.size]? = some (.cells #[.int .u64 r.seq, .int .u64 r.cp, .bool r.ends, .bool r.sync, .int .i64 r.next, .slice A r.l.length c] 79 (0, 0)) := by rw [hW0]; exact heap_alloc_new w _
  have hb0 : Below w.heap.size w W0 := by rw [hW0]; exact (Below.refl _ w).alloc (Nat.le_refl _) _
  have q0 := blk_cell hbox 0
  have q1 := blk_cell hbox 1
  have q2 := blk_cell hbox 2
  have q3 := blk_cell hbox 3
  have q4 := blk_cell hbox 4
  have q5 := blk_cell hbox 5
  simp at q0 q1 q2 q3 q4 q5
  have hn1 := isNumber_any r.seq W0
  have hn2 := isNumber_any r.cp W0
  have HR := Lib.hid hr
  have HW := Lib.hid hW0
  have hhd : headB r = (numB r.seq && (numB r.cp && (decide (0 ≤ r.next) && (decide (r.next ≤ 255) && (decide (r.l.length ≠ 0) && (decide (r.l.length ≤ 15) && !(r.ends && r.sync))))))) := rfl
  have hrf : headB r = false → rightB r = false := fun h => by unfold rightB; rw [h, Bool.false_and]
  have hel : ∀ j x, elemB r j x = (entB x && (decide (x.kind = 5) == (r.ends && decide (j + 1 = r.l.length)))) := fun _ _ => rfl
  have HT := Lib.hid (fun hh h => @rightB_true r hh h)
  have HF := Lib.hid (fun q x hx h => @rightB_false r q x hx h)
  have HB := Lib.hid hbox
  have HL := Lib.hid hel
  clear hr hW0 hbox hel
  unfold recV
  generalize rightB r = rb at *
  by_cases s1 : numB r.seq = true
  case neg =>
    have s1 : numB r.seq = false := by simpa using s1
    rw [s1] at hn1 hhd
    have hf := Lib.hid (hrf hhd)
    clear hrf hhd
    go_enter Try.func76, Try.ntmps76
    go_wp2_with fail
    try go_step3
    go_wp2_with fail
    rw [← HW.out]
    refine hn1.mono ?_
    rintro e w1 ⟨rfl, hw1⟩
    rw [← hw1]
    clear hw1 w1
    go_wp2_with fail
    go_ret
    exact ⟨by rw [hf.out]; rfl, hb0⟩
  rw [s1] at hn1 hhd
  by_cases s2 : numB r.cp = true
  case neg =>
    have s2 : numB r.cp = false := by simpa using s2
    rw [s2] at hn2 hhd
    have hf := Lib.hid (hrf hhd)
    clear hrf hhd
    go_enter Try.func76, Try.ntmps76
    go_wp2_with fail
    try go_step3
    go_wp2_with fail
    rw [← HW.out]
    refine hn1.mono ?_
    rintro e w1 ⟨rfl, hw1⟩
    rw [← hw1]
    clear hw1 w1
    go_wp2_with fail
    refine hn2.mono ?_
    rintro e w1 ⟨rfl, hw1⟩
    rw [← hw1]
    clear hw1 w1
    go_wp2_with fail
    go_ret
    exact ⟨by rw [hf.out]; rfl, hb0⟩
  rw [s2] at hn2 hhd
  by_cases s3 : 0 ≤ r.next
  case neg =>
    have d1 : decide (r.next < 0) = true := by simp; omega
    have hf := Lib.hid (hrf (by rw [hhd]; simp [s3]))
    clear hrf hhd
    go_enter Try.func76, Try.ntmps76
    go_wp2_with fail
    try go_step3
    go_wp2_with fail
    rw [← HW.out]
    refine hn1.mono ?_
    rintro e w1 ⟨rfl, hw1⟩
    rw [← hw1]
    clear hw1 w1
    go_wp2_with fail
    refine hn2.mono ?_
    rintro e w1 ⟨rfl, hw1⟩
    rw [← hw1]
    clear hw1 w1
    go_wp2_with fail
    go_ret
    exact ⟨by rw [hf.out]; rfl, hb0⟩
  have d1 : decide (r.next < 0) = false := by simp; omega
  by_cases s4 : r.next ≤ 255
  case neg =>
    have d2 : decide (255 < r.next) = true := by simp; omega
    have hf := Lib.hid (hrf (by rw [hhd]; simp [s4]))
    clear hrf hhd
    go_enter Try.func76, Try.ntmps76
    go_wp2_with fail
    try go_step3
    go_wp2_with fail
    rw [← HW.out]
    refine hn1.mono ?_
    rintro e w1 ⟨rfl, hw1⟩
    rw [← hw1]
    clear hw1 w1
    go_wp2_with fail
    refine hn2.mono ?_
    rintro e w1 ⟨rfl, hw1⟩
    rw [← hw1]
    clear hw1 w1
    go_wp2_with fail
    go_ret
    exact ⟨by rw [hf.out]; rfl, hb0⟩
  have d2 : decide (255 < r.next) = false := by simp; omega
  by_cases s5 : r.l.length = 0
  case pos =>
    have d3 : ((r.l.length : Int) == 0) = true := by simp [s5]
    have hf := Lib.hid (hrf (by rw [hhd]; simp [s5]))
    clear hrf hhd s5
    go_enter Try.func76, Try.ntmps76
    go_wp2_with fail
    try go_step3
    go_wp2_with fail
    rw [← HW.out]
    refine hn1.mono ?_
    rintro e w1 ⟨rfl, hw1⟩
    rw [← hw1]
    clear hw1 w1
    go_wp2_with fail
    refine hn2.mono ?_
    rintro e w1 ⟨rfl, hw1⟩
    rw [← hw1]
    clear hw1 w1
    go_wp2_with fail
    go_ret
    exact ⟨by rw [hf.out]; rfl, hb0⟩
  have d3 : ((r.l.length : Int) == 0) = false := by simp; intro h; rw [h] at s5; exact s5 rfl
  by_cases s6 : r.l.length ≤ 15
  case neg =>
    have d4 : decide ((15 : Int) < (r.l.length : Int)) = true := by simp; omega
    have hf := Lib.hid (hrf (by rw [hhd]; simp [s6]))
    clear hrf hhd
    go_enter Try.func76, Try.ntmps76
    go_wp2_with fail
    try go_step3
    go_wp2_with fail
    rw [← HW.out]
    refine hn1.mono ?_
    rintro e w1 ⟨rfl, hw1⟩
    rw [← hw1]
    clear hw1 w1
    go_wp2_with fail
    refine hn2.mono ?_
    rintro e w1 ⟨rfl, hw1⟩
    rw [← hw1]
    clear hw1 w1
    go_wp2_with fail
    go_ret
    exact ⟨by rw [hf.out]; rfl, hb0⟩
  have d4 : decide ((15 : Int) < (r.l.length : Int)) = false := by simp; omega
  have hl15 : (r.l.length : Int) ≤ 15 := by omega
  have hl1 : 1 ≤ (r.l.length : Int) := by omega
  rcases he : r.ends with _ | _ <;> rcases hy : r.sync with _ | _
  case true.true =>
    rw [he] at q2 hhd
    rw [hy] at q3 hhd
    have hf := Lib.hid (hrf (by rw [hhd]; simp))
    clear hrf hhd
    rw [he, hy] at HW
    go_enter Try.func76, Try.ntmps76
    go_wp2_with fail
    try go_step3
    go_wp2_with fail
    rw [← HW.out]
    refine hn1.mono ?_
    rintro e w1 ⟨rfl, hw1⟩
    rw [← hw1]
    clear hw1 w1
    go_wp2_with fail
    refine hn2.mono ?_
    rintro e w1 ⟨rfl, hw1⟩
    rw [← hw1]
    clear hw1 w1
    go_wp2_with fail
    go_ret
    exact ⟨by rw [hf.out]; rfl, hb0⟩
  all_goals
    rw [he] at q2 hhd HW HB HL
    rw [hy] at q3 hhd HW HB
    have hh : headB r = true := by rw [hhd, decide_eq_true s3, decide_eq_true s4, decide_eq_true s5, decide_eq_true s6]; rfl
    clear hrf hhd s3 s4 s5 s6
    go_enter Try.func76, Try.ntmps76
    go_wp2_with fail
    try go_step3
    go_wp2_with fail
    rw [← HW.out]
    refine hn1.mono ?_
    rintro e w1 ⟨rfl, hw1⟩
    rw [← hw1]
    clear hw1 w1
    go_wp2_with fail
    refine hn2.mono ?_
    rintro e w1 ⟨rfl, hw1⟩
    rw [← hw1]
    clear hw1 w1
    go_wp2_with fail
    go_loopg [53] r.l.length (RightRel w r A c)
    case atStart => exact ⟨0, rfl, rfl, Nat.zero_le _, fun j x hj => absurd hj (by omega), by rw [he, hy]; exact HB.out, hb0⟩
    case round =>
      obtain ⟨q, rfl, rfl, hq, hpre, hbx, hbw⟩ := hrel
      clear q0 q1 q2 q3 q4 q5 hn1 hn2 hb0 HB HW
      rw [he, hy] at hbx
      have z2 := blk_cell hbx 2
      simp at z2
      by_cases hlt : q < r.l.length
      · have hqi : (q : Int) < (r.l.length : Int) := by omega
        obtain ⟨x, hx⟩ : ∃ x, r.l[q]? = some x := ⟨_, List.getElem?_eq_getElem hlt⟩
        obtain ⟨ad, rfl, e0, e1, e2, e3⟩ := ent_cells (HR.out.kept (Fr.of_below hbw) (fun k hk => by omega)) q x hx hlt
        obtain ⟨w1, hw1⟩ : ∃ w1, w1 = wr.alloc (.cells #[.int .i64 x.kind, .int .u32 x.file, .int .u32 x.idx, .int .u32 x.vbn] 85) := ⟨_, rfl⟩
        have hbx1 : w1.heap[wr.heap.size]? = some (.cells #[.int .i64 x.kind, .int .u32 x.file, .int .u32 x.idx, .int .u32 x.vbn] 85 (0, 0)) := by rw [hw1]; exact heap_alloc_new wr _
        have hbw1 : Below w.heap.size w w1 := by rw [hw1]; exact hbw.alloc hbw.size _
        have hbr1 := (Fr.alloc (Fr.refl (fun _ => False) wr) (.cells #[.int .i64 x.kind, .int .u32 x.file, .int .u32 x.idx, .int .u32 x.vbn] 85)).get id hbx
        rw [← hw1] at hbr1
        have hce := isEntry_any x w1
        have HE := Lib.hid hce
        have HW1 := Lib.hid hw1
        have hel := HL.out q x
        clear hce hw1
        go_wp2_with fail
        try go_step3
        go_wp2_with fail
        rw [← HW1.out]
        refine HE.out.mono ?_
        rintro e w3 ⟨rfl, hb3⟩
        have hs3 := hb3.size
        have hbx3 := (hb3.block wr.heap.size (Array.getElem?_eq_some_iff.1 hbx1).1).trans hbx1
        have hbr3 := (hb3.block w.heap.size (Array.getElem?_eq_some_iff.1 hbr1).1).trans hbr1
        have k0 := blk_cell hbx3 0
        have k2 := blk_cell hbr3 2
        simp at k0 k2
        have hbw3 : Below w.heap.size w w3 := hbw1.trans (hb3.mono hbw1.size)
        have HB3 := Lib.hid hbr3
        clear hbx1 hbr1 hbx3 hbr3 HW1 HE e0 e1 e2 e3 z2 hbx hb3 hbw1 hbw
        by_cases t1 : entB x = true
        case neg =>
          have t1 : entB x = false := by simpa using t1
          rw [t1] at hel ⊢
          have hf := Lib.hid (HF.out q x hx (by rw [hel]; rfl))
          clear hel hx HF HT HL hpre
          go_wp2_with fail
          go_ret
          exact ⟨by rw [hf.out]; rfl, hbw3⟩
        rw [t1] at hel ⊢
        by_cases t2 : x.kind = 5
        case' pos => have t3 : (x.kind == 5) = true := by simpa using t2
        case' neg => have t3 : (x.kind == 5) = false := by simpa using t2
        all_goals by_cases t4 : q + 1 = r.l.length
        all_goals first | (have t5 : ((q : Int) == (r.l.length : Int) - 1) = true := by simp; omega) | (have t5 : ((q : Int) == (r.l.length : Int) - 1) = false := by simp; omega)
        all_goals
          first
            | (have hf := Lib.hid (HF.out q x hx (by rw [hel]; simp only [t2, t4, decide_true, decide_false]; rfl))
               clear t2
               clear hel hx HF HT HL hpre t4
               go_wp2_with fail
               go_ret
               exact ⟨by rw [hf.out]; rfl, hbw3⟩)
            | (have hpre2 : ∀ j y, j < q + 1 → r.l[j]? = some y → elemB r j y = true := by
                 intro j y hj hy
                 rcases Nat.lt_or_ge j q with h | h
                 · exact hpre j y h hy
                 · obtain rfl : j = q := by omega
                   rw [hx] at hy
                   injection hy with hy
                   subst hy
                   rw [hel]; simp only [t2, t4, decide_true, decide_false]; rfl
               have HP := Lib.hid hpre2
               clear hel hx HF HL hpre hpre2 t4 t2
               go_wp2_with fail
               go_roundg (r.l.length - (q + 1))
               case measure => omega
               case rel => exact ⟨q + 1, rfl, by simp, by omega, HP.out, by rw [he, hy]; exact HB3.out, hbw3⟩)
      · obtain rfl : q = r.l.length := by omega
        have hf := Lib.hid (HT.out hh hpre)
        clear hpre HT HF HL hbx hlt
        go_wp2_with fail
        go_ret
        exact ⟨by rw [hf.out]; rfl, hbw⟩
end Go.Proofs.Ytjmfeoenbncibaa
namespace Go.Proofs.Ytjmfeoenbncibaa
open Go.RowKit Go.Nau Go.Shelf
attribute [local go_sem] Oper.semAt_some

set_option maxHeartbeats 4000000 in
set_option maxRecDepth 100000 in
theorem rright_any (r : Rec) (hwf : r.wf) (A : Option Addr) (c : Nat) (w : World) (hr : Rd (· < w.heap.size) w 4 A r.l.length (entC r.l)) :
    Calls Try.prog 101 #[recV r A c] w fun e w' => e = .returned (.bool (rightB r)) ∧ Below w.heap.size w w' := by
  have hlen := hwf.len
  have hli : (r.l.length : Int) ≤ 9223372036854775807 := by unfold maxLen at hlen; omega
  obtain ⟨W0, hW0⟩ : ∃ W0, W0 = w.alloc (.cells #[.int .u64 r.seq, .int .u64 r.cp, .bool r.ends, .bool r.sync, .int .i64 r.next, .slice A r.l.length c] 79) := ⟨_, rfl⟩
  have hbox : W0.heap[w.heap.size]? = some (.cells #[.int .u64 r.seq, .int .u64 r.cp, .bool r.ends, .bool r.sync, .int .i64 r.next, .slice A r.l.length c] 79 (0, 0)) := by rw [hW0]; exact heap_alloc_new w _
  have hb0 : Below w.heap.size w W0 := by rw [hW0]; exact (Below.refl _ w).alloc (Nat.le_refl _) _
  have q0 := blk_cell hbox 0
  have q1 := blk_cell hbox 1
  have q2 := blk_cell hbox 2
  have q3 := blk_cell hbox 3
  have q4 := blk_cell hbox 4
  have q5 := blk_cell hbox 5
  simp at q0 q1 q2 q3 q4 q5
  have hn1 := rnumber_any r.seq W0
  have hn2 := rnumber_any r.cp W0
  have HR := Lib.hid hr
  have HW := Lib.hid hW0
  have hhd : headB r = (numB r.seq && (numB r.cp && (decide (0 ≤ r.next) && (decide (r.next ≤ 255) && (decide (r.l.length ≠ 0) && (decide (r.l.length ≤ 15) && !(r.ends && r.sync))))))) := rfl
  have hrf : headB r = false → rightB r = false := fun h => by unfold rightB; rw [h, Bool.false_and]
  have hel : ∀ j x, elemB r j x = (entB x && (decide (x.kind = 5) == (r.ends && decide (j + 1 = r.l.length)))) := fun _ _ => rfl
  have HT := Lib.hid (fun hh h => @rightB_true r hh h)
  have HF := Lib.hid (fun q x hx h => @rightB_false r q x hx h)
  have HB := Lib.hid hbox
  have HL := Lib.hid hel
  clear hr hW0 hbox hel
  unfold recV
  generalize rightB r = rb at *
  by_cases s1 : numB r.seq = true
  case neg =>
    have s1 : numB r.seq = false := by simpa using s1
    rw [s1] at hn1 hhd
    have hf := Lib.hid (hrf hhd)
    clear hrf hhd
    go_enter Try.func101, Try.ntmps101
    go_wp2_with fail
    try go_step3
    go_wp2_with fail
    rw [← HW.out]
    refine hn1.mono ?_
    rintro e w1 ⟨rfl, hw1⟩
    rw [← hw1]
    clear hw1 w1
    go_wp2_with fail
    refine hn2.mono ?_
    rintro e w1 ⟨rfl, hw1⟩
    rw [← hw1]
    clear hw1 w1
    go_wp2_with fail
    go_ret
    exact ⟨by rw [hf.out]; rfl, hb0⟩
  rw [s1] at hn1 hhd
  by_cases s2 : numB r.cp = true
  case neg =>
    have s2 : numB r.cp = false := by simpa using s2
    rw [s2] at hn2 hhd
    have hf := Lib.hid (hrf hhd)
    clear hrf hhd
    go_enter Try.func101, Try.ntmps101
    go_wp2_with fail
    try go_step3
    go_wp2_with fail
    rw [← HW.out]
    refine hn1.mono ?_
    rintro e w1 ⟨rfl, hw1⟩
    rw [← hw1]
    clear hw1 w1
    go_wp2_with fail
    refine hn2.mono ?_
    rintro e w1 ⟨rfl, hw1⟩
    rw [← hw1]
    clear hw1 w1
    go_wp2_with fail
    go_ret
    exact ⟨by rw [hf.out]; rfl, hb0⟩
  rw [s2] at hn2 hhd
  by_cases s3 : 0 ≤ r.next
  case neg =>
    have d1 : decide (r.next < 0) = true := by simp; omega
    have hf := Lib.hid (hrf (by rw [hhd]; simp [s3]))
    clear hrf hhd
    go_enter Try.func101, Try.ntmps101
    go_wp2_with fail
    try go_step3
    go_wp2_with fail
    rw [← HW.out]
    refine hn1.mono ?_
    rintro e w1 ⟨rfl, hw1⟩
    rw [← hw1]
    clear hw1 w1
    go_wp2_with fail
    refine hn2.mono ?_
    rintro e w1 ⟨rfl, hw1⟩
    rw [← hw1]
    clear hw1 w1
    go_wp2_with fail
    go_ret
    exact ⟨by rw [hf.out]; rfl, hb0⟩
  have d1 : decide (r.next < 0) = false := by simp; omega
  by_cases s4 : r.next ≤ 255
  case neg =>
    have d2 : decide (255 < r.next) = true := by simp; omega
    have hf := Lib.hid (hrf (by rw [hhd]; simp [s4]))
    clear hrf hhd
    go_enter Try.func101, Try.ntmps101
    go_wp2_with fail
    try go_step3
    go_wp2_with fail
    rw [← HW.out]
    refine hn1.mono ?_
    rintro e w1 ⟨rfl, hw1⟩
    rw [← hw1]
    clear hw1 w1
    go_wp2_with fail
    refine hn2.mono ?_
    rintro e w1 ⟨rfl, hw1⟩
    rw [← hw1]
    clear hw1 w1
    go_wp2_with fail
    go_ret
    exact ⟨by rw [hf.out]; rfl, hb0⟩
  have d2 : decide (255 < r.next) = false := by simp; omega
  by_cases s5 : r.l.length = 0
  case pos =>
    have d3 : decide ((r.l.length : Int) < 1) = true := by simp [s5]
    have hf := Lib.hid (hrf (by rw [hhd]; simp [s5]))
    clear hrf hhd s5
    go_enter Try.func101, Try.ntmps101
    go_wp2_with fail
    try go_step3
    go_wp2_with fail
    rw [← HW.out]
    refine hn1.mono ?_
    rintro e w1 ⟨rfl, hw1⟩
    rw [← hw1]
    clear hw1 w1
    go_wp2_with fail
    refine hn2.mono ?_
    rintro e w1 ⟨rfl, hw1⟩
    rw [← hw1]
    clear hw1 w1
    go_wp2_with fail
    go_ret
    exact ⟨by rw [hf.out]; rfl, hb0⟩
  have d3 : decide ((r.l.length : Int) < 1) = false := by simp; omega
  by_cases s6 : r.l.length ≤ 15
  case neg =>
    have d4 : decide ((15 : Int) < (r.l.length : Int)) = true := by simp; omega
    have hf := Lib.hid (hrf (by rw [hhd]; simp [s6]))
    clear hrf hhd
    go_enter Try.func101, Try.ntmps101
    go_wp2_with fail
    try go_step3
    go_wp2_with fail
    rw [← HW.out]
    refine hn1.mono ?_
    rintro e w1 ⟨rfl, hw1⟩
    rw [← hw1]
    clear hw1 w1
    go_wp2_with fail
    refine hn2.mono ?_
    rintro e w1 ⟨rfl, hw1⟩
    rw [← hw1]
    clear hw1 w1
    go_wp2_with fail
    go_ret
    exact ⟨by rw [hf.out]; rfl, hb0⟩
  have d4 : decide ((15 : Int) < (r.l.length : Int)) = false := by simp; omega
  have hl15 : (r.l.length : Int) ≤ 15 := by omega
  have hl1 : 1 ≤ (r.l.length : Int) := by omega
  rcases he : r.ends with _ | _ <;> rcases hy : r.sync with _ | _
  case true.true =>
    rw [he] at q2 hhd
    rw [hy] at q3 hhd
    have hf := Lib.hid (hrf (by rw [hhd]; simp))
    clear hrf hhd
    rw [he, hy] at HW
    go_enter Try.func101, Try.ntmps101
    go_wp2_with fail
    try go_step3
    go_wp2_with fail
    rw [← HW.out]
    refine hn1.mono ?_
    rintro e w1 ⟨rfl, hw1⟩
    rw [← hw1]
    clear hw1 w1
    go_wp2_with fail
    refine hn2.mono ?_
    rintro e w1 ⟨rfl, hw1⟩
    rw [← hw1]
    clear hw1 w1
    go_wp2_with fail
    go_ret
    exact ⟨by rw [hf.out]; rfl, hb0⟩
  all_goals
    rw [he] at q2 hhd HW HB HL
    rw [hy] at q3 hhd HW HB
    have hh : headB r = true := by rw [hhd, decide_eq_true s3, decide_eq_true s4, decide_eq_true s5, decide_eq_true s6]; rfl
    clear hrf hhd s3 s4 s5 s6
    go_enter Try.func101, Try.ntmps101
    go_wp2_with fail
    try go_step3
    go_wp2_with fail
    rw [← HW.out]
    refine hn1.mono ?_
    rintro e w1 ⟨rfl, hw1⟩
    rw [← hw1]
    clear hw1 w1
    go_wp2_with fail
    refine hn2.mono ?_
    rintro e w1 ⟨rfl, hw1⟩
    rw [← hw1]
    clear hw1 w1
    go_wp2_with fail
    go_loopg [5] r.l.length (RightRel w r A c)
    case atStart => exact ⟨0, rfl, rfl, Nat.zero_le _, fun j x hj => absurd hj (by omega), by rw [he, hy]; exact HB.out, hb0⟩
    case round =>
      obtain ⟨q, rfl, rfl, hq, hpre, hbx, hbw⟩ := hrel
      clear q0 q1 q2 q3 q4 q5 hn1 hn2 hb0 HB HW
      rw [he, hy] at hbx
      have z2 := blk_cell hbx 2
      have z5 := blk_cell hbx 5
      simp at z2 z5
      by_cases hlt : q < r.l.length
      · have hqi : (q : Int) < (r.l.length : Int) := by omega
        obtain ⟨x, hx⟩ : ∃ x, r.l[q]? = some x := ⟨_, List.getElem?_eq_getElem hlt⟩
        obtain ⟨ad, rfl, e0, e1, e2, e3⟩ := ent_cells (HR.out.kept (Fr.of_below hbw) (fun k hk => by omega)) q x hx hlt
        have hbx0 := (Array.getElem?_eq_some_iff.1 hbx).1
        have hlast : ((q : Int) == (r.l.length : Int) - 1) = decide (q + 1 = r.l.length) := by rw [Bool.eq_iff_iff]; simp; omega
        by_cases t4 : q + 1 = r.l.length
        case' pos => rw [decide_eq_true t4] at hlast
        case' neg => rw [decide_eq_false t4] at hlast
        all_goals
        have hce := rentry_any x wr
        have HE := Lib.hid hce
        have hel := HL.out q x
        clear hce
        go_wp2_with fail
        refine HE.out.mono ?_
        rintro e w3 ⟨rfl, hb3⟩
        have hs3 := hb3.size
        have hbr3 := (hb3.block w.heap.size hbx0).trans hbx
        have k5 := blk_cell hbr3 5
        simp at k5
        have hb30 := (hb3.cell (by have := cell_lt e0; exact this)).trans e0
        have hbw3 : Below w.heap.size w w3 := hbw.trans (hb3.mono hbw.size)
        have HB3 := Lib.hid hbr3
        clear hbr3 HE e0 e1 e2 e3 z2 z5 hbx hb3 hbw
        by_cases t1 : entB x = true
        case neg =>
          have t1 : entB x = false := by simpa using t1
          rw [t1] at hel ⊢
          have hf := Lib.hid (HF.out q x hx (by rw [hel]; rfl))
          clear hel hx HF HT HL hpre
          go_wp2_with fail
          go_ret
          exact ⟨by rw [hf.out]; rfl, hbw3⟩
        rw [t1] at hel ⊢
        by_cases t2 : x.kind = 5
        case' pos => have t3 : (x.kind == 5) = true := by simpa using t2
        case' neg => have t3 : (x.kind == 5) = false := by simpa using t2
        all_goals
          first
            | (have hf := Lib.hid (HF.out q x hx (by rw [hel]; simp only [t2, t4, decide_true, decide_false]; rfl))
               clear t2
               clear hel hx HF HT HL hpre t4
               go_wp2_with fail
               go_ret
               exact ⟨by rw [hf.out]; rfl, hbw3⟩)
            | (have hpre2 : ∀ j y, j < q + 1 → r.l[j]? = some y → elemB r j y = true := by
                 intro j y hj hy
                 rcases Nat.lt_or_ge j q with h | h
                 · exact hpre j y h hy
                 · obtain rfl : j = q := by omega
                   rw [hx] at hy
                   injection hy with hy
                   subst hy
                   rw [hel]; simp only [t2, t4, decide_true, decide_false]; rfl
               have HP := Lib.hid hpre2
               clear hel hx HF HL hpre hpre2 t4 t2
               go_wp2_with fail
               go_roundg (r.l.length - (q + 1))
               case measure => omega
               case rel => exact ⟨q + 1, rfl, by simp, by omega, HP.out, by rw [he, hy]; exact HB3.out, hbw3⟩)
      · obtain rfl : q = r.l.length := by omega
        have hf := Lib.hid (HT.out hh hpre)
        clear hpre HT HF HL hbx hlt
        go_wp2_with fail
        go_ret
        exact ⟨by rw [hf.out]; rfl, hbw⟩
end Go.Proofs.Ytjmfeoenbncibaa
namespace Go.Proofs.Ytjmfeoenbncibaa
open Go.RowKit Go.Nau Go.Shelf
attribute [local go_sem] Oper.semAt_some

def flagN (r : Rec) : Nat := if r.ends then 1 else if r.sync then 2 else 0
def entBy (x : Ent) : List UInt8 := bytesL x.kind.toNat 1 ++ (bytesL x.file 4 ++ (bytesL x.idx 4 ++ bytesL x.vbn 4))
def headBy (r : Rec) : List UInt8 := [82] ++ bytesL r.seq 6 ++ bytesL r.cp 6 ++ bytesL (flagN r) 1 ++ bytesL r.next.toNat 2 ++ bytesL r.l.length 1
def secL (r : Rec) : List UInt8 := headBy r ++ r.l.flatMap entBy
def strL (l : List UInt8) : ByteArray := ⟨l.toArray⟩
def encS (r : Rec) : ByteArray := strL (secL r) ++ zeroN (512 - (secL r).length)

theorem strL_size (l : List UInt8) : (strL l).size = l.length := by simp [strL, ByteArray.size]
theorem entBy_length (x : Ent) : (entBy x).length = 13 := by simp [entBy, bytesL_length]
theorem headBy_length (r : Rec) : (headBy r).length = 17 := by simp [headBy, bytesL_length]
theorem ents_length (l : List Ent) : (l.flatMap entBy).length = l.length * 13 := by
  induction l with
  | nil => rfl
  | cons x l ih => rw [List.flatMap_cons, List.length_append, ih, entBy_length, List.length_cons]; omega
theorem secL_length (r : Rec) : (secL r).length = 17 + r.l.length * 13 := by rw [secL, List.length_append, headBy_length, ents_length]

/-- What is known of a right record. -/
theorem right_facts {r : Rec} (h : rightB r = true) : 0 < r.seq ∧ r.seq < 281474976710656 ∧ 0 < r.cp ∧ r.cp < 281474976710656 ∧ 0 ≤ r.next ∧ r.next ≤ 255 ∧ r.l.length ≠ 0 ∧ r.l.length ≤ 15 ∧ ¬ (r.ends = true ∧ r.sync = true) ∧
    (∀ q x, r.l[q]? = some x → elemB r q x = true) := by
  unfold rightB at h
  rw [Bool.and_eq_true] at h
  obtain ⟨h1, h2⟩ := h
  unfold headB numB at h1
  simp only [Bool.and_eq_true, decide_eq_true_eq, Bool.not_eq_true', Bool.and_eq_false_iff] at h1
  obtain ⟨⟨a1, a2⟩, ⟨a3, a4⟩, a5, a6, a7, a8, a9⟩ := h1
  refine ⟨a1, a2, a3, a4, a5, a6, a7, a8, fun ⟨e1, e2⟩ => ?_, fun q x hx => ?_⟩
  · rcases a9 with a9 | a9
    · rw [e1] at a9; cases a9
    · rw [e2] at a9; cases a9
  · rw [List.all_eq_true] at h2
    exact h2 (x, q) (by rw [List.mem_iff_getElem?]; exact ⟨q, by simp [List.getElem?_zipIdx, hx]⟩)
theorem elem_kind {r : Rec} {q : Nat} {x : Ent} (h : elemB r q x = true) : 1 ≤ x.kind ∧ x.kind ≤ 5 := by
  unfold elemB entB at h
  rw [Bool.and_eq_true] at h
  obtain ⟨h, _⟩ := h
  split at h
  · omega
  · split at h
    · omega
    · cases h

theorem others_trans {e : TypeId} {b : Option Nat} {A B C : World} (h : Lib.OthersKept e b A B) (k : Lib.OthersKept e b B C) : Lib.OthersKept e b A C :=
  fun i o hi hb ho => k i o (h i o hi hb ho) hb ho
theorem others_new {e : TypeId} {b : Option Nat} {A B : World} (h : Below A.heap.size A B) : Lib.OthersKept e b A B :=
  fun i _ hi _ _ => (h.block i (Array.getElem?_eq_some_iff.1 hi).1).trans hi

theorem flag_any (r : Rec) (A : Option Addr) (c : Nat) (w : World) : Calls Try.prog 79 #[recV r A c] w fun e w' => e = .returned (.int .u64 (flagN r)) ∧ Below w.heap.size w w' := by
  unfold recV flagN
  have hb : ∀ o, Below w.heap.size w (w.alloc o) := fun o => (Below.refl _ w).alloc (Nat.le_refl _) o
  rcases r.ends with _ | _ <;> rcases r.sync with _ | _
  all_goals
    go_enter Try.func79, Try.ntmps79
    go_wp2
    try go_step3
    go_wp2
    go_ret
    exact ⟨rfl, hb _⟩

theorem put1_any (b : Nat) (l : List UInt8) (n width : Nat) (W : World) (hn : n < 18446744073709551616) (h1 : 1 ≤ width) (h8 : width ≤ 8) (hfit : n < 256 ^ width) (hB : Bld b l W) (hl : l.length ≤ 1000000) :
    Calls Try.prog 77 #[.int .u64 n, .int .i64 width, .pointer (some ⟨b, 0, none⟩)] W fun e W' => (∃ v, e = .returned v) ∧ Bld b (l ++ bytesL n width) W' ∧ Below b W W' ∧ Lib.OthersKept 5 (some b) W W' := by
  have hp := put_any n width hn h1 h8 hfit W
  have hws := fun W hB => writeString_any b l (bytesS n width) W hB hl (by rw [bytesS_size]; omega)
  have HP := Lib.hid hp
  have HS := Lib.hid hws
  clear hp hws
  go_enter Try.func77, Try.ntmps77
  go_wp2_with fail
  refine HP.out.mono ?_
  rintro e w1 ⟨rfl, hb1⟩
  go_wp2_with fail
  refine (HS.out w1 (hB.kept (Fr.new hb1 (fun _ => False)) (fun _ _ _ _ _ _ => id))).mono ?_
  rintro e w2 ⟨rfl, hB2, hb2, ho2⟩
  go_wp2_with fail
  go_end0
  exact ⟨⟨_, rfl⟩, hB2, (hb1.mono (Nat.le_of_lt hB.lt)).trans hb2, others_trans (others_new hb1) ho2⟩
end Go.Proofs.Ytjmfeoenbncibaa

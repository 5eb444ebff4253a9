/- Texts of this proof, joined: Ml Mm. They hold under no condition beyond what each theorem states. -/
import Derived.Test.YtjmfeoenbncibaaM34
import Derived.Test.YtjmfeoenbncibaaM30
namespace Go.Proofs.Ytjmfeoenbncibaa
open Go.RowKit Go.Nau Go.Shelf
attribute [local go_sem] Oper.semAt_some

theorem RPost.join {w w1 w2 : World} {G G1 : Nat → Prop} {d : Nat} {s2 : DS} (hs : ∀ k, G1 k → G k ∨ (w.heap.size ≤ k ∧ k < w1.heap.size)) (hf : Fr G w w1) (h : RPost w1 G1 d s2 w2) : RPost w G d s2 w2 := by
  obtain ⟨G2, h1, h2, h3⟩ := h
  have s1 := hf.size
  have s3 := h3.size
  refine ⟨G2, h1, fun k hk => ?_, ⟨h3.os.trans hf.os, h3.tape.trans hf.tape, h3.output.trans hf.output, by omega, fun k hk hG => ?_⟩⟩
  · rcases h2 k hk with h | h
    · rcases hs k h with h | h
      · exact .inl h
      · exact .inr (by omega)
    · exact .inr (by omega)
  · refine (h3.block k (by omega) (fun h => ?_)).trans (hf.block k hk hG)
    rcases hs k h with h | h
    · exact hG h
    · omega
theorem RPost.start {w : World} {G : Nat → Prop} {d : Nat} {s : DS} (h : RDsk w G d s) : RPost w G d s w := ⟨G, h, fun _ h => .inl h, Fr.refl _ _⟩
theorem RPost.new {w w1 w2 : World} {G : Nat → Prop} {d : Nat} {s : DS} (h : RPost w G d s w1) (hb : Below w1.heap.size w1 w2) : RPost w G d s w2 := by
  obtain ⟨G1, h1, h2, h3⟩ := h
  have := hb.size
  exact ⟨G1, h1.kept (Fr.new hb (fun _ => False)) (fun _ _ => id), fun k hk => (h2 k hk).imp id (fun h => ⟨h.1, by omega⟩), h3.trans (Fr.new hb _)⟩
theorem RPost.frame {w w1 : World} {G : Nat → Prop} {d : Nat} {s : DS} (h : RPost w G d s w1) : Fr G w w1 := by
  obtain ⟨_, _, _, h⟩ := h
  exact h
theorem RPost.write {w w1 : World} {G : Nat → Prop} {d : Nat} {s : DS} (h : RPost w G d s w1) (hi : DInv s) (p : Int) (x : ByteArray) (hx : x.size ≤ maxLen) (hops : s.ops ≤ 1000000) (hll : s.loose.length ≤ 1000000) :
    Calls Try.prog 104 #[.pointer (some ⟨d, 0, none⟩), .int .i64 p, .string x] w1 fun e w' => e = .returned (.int .i64 (wres s p x).1) ∧ RPost w G d (wres s p x).2 w' := by
  obtain ⟨G1, h1, h2, h3⟩ := h
  refine (rwrite_any h1 hi.ok.len p x hx (by omega) (by omega)).mono ?_
  rintro e w' ⟨rfl, h⟩
  exact ⟨rfl, h.join h2 h3⟩
theorem RPost.flush {w w1 : World} {G : Nat → Prop} {d : Nat} {s : DS} (h : RPost w G d s w1) (hi : DInv s) (hops : s.ops ≤ 1000000) (hll : s.loose.length ≤ 1000000) :
    Calls Try.prog 105 #[.pointer (some ⟨d, 0, none⟩)] w1 fun e w' => e = .returned (.int .i64 (fres s).1) ∧ RPost w G d (fres s).2 w' := by
  obtain ⟨G1, h1, h2, h3⟩ := h
  refine (rflush_any h1 hi (by omega) (by omega)).mono ?_
  rintro e w' ⟨rfl, h⟩
  exact ⟨rfl, h.join h2 h3⟩

def RPRel (w : World) (G : Nat → Prop) (d n : Nat) (wb : Nat → Int × DS) (k : Nat) (i : Value) (_ _ _ : Value) (wr : World) : Prop :=
  ∃ q : Nat, k = n - q ∧ i = .int .i64 q ∧ q ≤ n ∧ (wb q).1 = 0 ∧ RPost w G d (wb q).2 wr

set_option maxHeartbeats 8000000 in
set_option maxRecDepth 100000 in
theorem rput_core (w : World) (G : Nat → Prop) (g d n c B : Nat) (p sq nx : Int) (A : Option Addr) (its : List (Ent × ByteArray)) (bs : Nat → ByteArray) (wb : Nat → Int × DS) (head : ByteArray) (out : Int × DS) (fl wf f2 : Int × DS)
    (hgG : ¬ G g) (hB : ∀ k, G k → B ≤ k) (hg : w.heap[g]? = some (.cells #[.pointer (some ⟨d, 0, none⟩), .int .i64 p, .int .u64 sq, .int .i64 nx] 53 (0, 0))) (hp : 0 ≤ p ∧ p ≤ 4096) (hl : its.length = n) (hn : n ≤ 1000) (hr : Rd (· < B) w 5 A n (itC its))
    (h0 : (wb 0).1 = 0 ∧ RPost w G d (wb 0).2 w)
    (hW : ∀ q x W, its[q]? = some x → Calls Try.prog 103 #[.string x.2] W fun e w' => e = .returned (.tuple #[.string (bs q), .int .i64 0]) ∧ Below W.heap.size W w')
    (hD : ∀ q W, q < n → (wb q).1 = 0 → RPost w G d (wb q).2 W → Calls Try.prog 104 #[.pointer (some ⟨d, 0, none⟩), .int .i64 (p + 1 + (q : Int)), .string (bs q)] W fun e w' => e = .returned (.int .i64 (wb (q + 1)).1) ∧ RPost w G d (wb (q + 1)).2 w')
    (hbad : ∀ q, q < n → (wb (q + 1)).1 ≠ 0 → out = wb (q + 1))
    (hF : ∀ W, (wb n).1 = 0 → RPost w G d (wb n).2 W → Calls Try.prog 105 #[.pointer (some ⟨d, 0, none⟩)] W fun e w' => e = .returned (.int .i64 fl.1) ∧ RPost w G d fl.2 w')
    (hfl : (wb n).1 = 0 → fl.1 ≠ 0 → out = fl)
    (hH : ∀ W, RPost w G d fl.2 W → Calls Try.prog 104 #[.pointer (some ⟨d, 0, none⟩), .int .i64 p, .string head] W fun e w' => e = .returned (.int .i64 wf.1) ∧ RPost w G d wf.2 w')
    (hwf : (wb n).1 = 0 → fl.1 = 0 → wf.1 ≠ 0 → out = wf)
    (hF2 : ∀ W, RPost w G d wf.2 W → Calls Try.prog 105 #[.pointer (some ⟨d, 0, none⟩)] W fun e w' => e = .returned (.int .i64 f2.1) ∧ RPost w G d f2.2 w')
    (hf2 : (wb n).1 = 0 → fl.1 = 0 → wf.1 = 0 → out = f2) :
    Calls Try.prog 85 #[.pointer (some ⟨g, 0, none⟩), .slice A n c, .string head] w fun e w' => e = .returned (.int .i64 out.1) ∧ RPost w G d out.2 w' := by
  have hni : (n : Int) ≤ 1000 := by omega
  obtain ⟨hp1, hp2⟩ := hp
  have HB := Lib.hid hB
  have HG := Lib.hid hg
  have HL := Lib.hid hl
  have HR := Lib.hid hr
  have H0 := Lib.hid h0
  have HW := Lib.hid hW
  have HD := Lib.hid hD
  have HBAD := Lib.hid hbad
  have HF := Lib.hid hF
  have HFL := Lib.hid hfl
  have HH := Lib.hid hH
  have HWF := Lib.hid hwf
  have HF2 := Lib.hid hF2
  have HO := Lib.hid hf2
  clear hB hg hl hr h0 hW hD hbad hF hfl hH hwf hF2 hf2
  go_enter Try.func85, Try.ntmps85
  go_wp2_with fail
  go_loopg [7, 8, 9, 10] n (RPRel w G d n wb)
  case atStart => exact ⟨0, rfl, rfl, Nat.zero_le _, H0.out.1, H0.out.2⟩
  case round =>
    obtain ⟨q, rfl, rfl, hq, hq0, hP⟩ := hrel
    have hfr := hP.frame
    have gl := hfr.get hgG HG.out
    have GL := Lib.hid gl
    have HP := Lib.hid hP
    have HQ0 := Lib.hid hq0
    by_cases hlt : q < n
    · have hlti : (q : Int) < (n : Int) := by omega
      obtain ⟨x, hx⟩ : ∃ x, its[q]? = some x := ⟨_, List.getElem?_eq_getElem (by rw [HL.out]; exact hlt)⟩
      obtain ⟨ad, rfl, _, _, _, _, e4⟩ := it_cells (HR.out.kept hfr (fun k hk h => by have := HB.out k h; omega)) q x hx hlt
      have hwr := fun W => HW.out q x W hx
      have HWR := Lib.hid hwr
      clear hx hwr hfr gl hP hq0
      go_wp2_with fail
      refine (HWR.out _).mono ?_
      rintro e w2 ⟨rfl, hb2⟩
      have hP2 := HP.out.new hb2
      have hg2 := hP2.frame.get hgG HG.out
      have c0 := blk_cell hg2 0
      have c1 := blk_cell hg2 1
      simp at c0 c1
      have HP2 := Lib.hid hP2
      clear hP2 hg2 e4
      go_wp2_with fail
      refine wp_row_drew 12 [] [12, 13] (by kernel_rfl) (by kernel_rfl) (fun _ _ _ _ e h => ⟨e ▸ h.1, h.2⟩) ?_
      simp only [floatQ, opsAt, List.filterMap_cons, List.filterMap_nil, List.getElem?_toArray, List.getElem?_cons_succ, List.getElem?_cons_zero, List.take_succ_cons, List.take_zero]
      repeat (show wpQuiet _ _ _ _ (_ :: _) _; go_big_quiet_step (fail))
      refine wpQuiet_nil ?_
      intro nq2
      have hd := HD.out q (w2.drewN nq2) hlt HQ0.out (HP2.out.new (below_drewN (Below.refl _ _) nq2))
      have HDW := Lib.hid hd
      clear hd
      show wpList _ _ _ (_ :: _ :: []) _ _
      go_wp2_with fail
      refine HDW.out.mono ?_
      rintro e w5 ⟨rfl, hD5⟩
      have HD5 := Lib.hid hD5
      clear hD5 c0 c1
      by_cases hec : (wb (q + 1)).1 = 0
      · have HEC := Lib.hid hec
        have hec' : ((wb (q + 1)).1 != 0) = false := by simpa using hec
        clear hec
        go_wp2_with fail
        go_roundg (n - (q + 1))
        case measure => omega
        case rel => exact ⟨q + 1, rfl, by simp, by omega, HEC.out, HD5.out⟩
      · have hec' : ((wb (q + 1)).1 != 0) = true := by simpa using hec
        have hout := HBAD.out q hlt hec
        have HOUT := Lib.hid hout
        clear hec hout
        go_wp2_with fail
        go_ret
        rw [HOUT.out]
        exact ⟨rfl, HD5.out⟩
    · obtain rfl : n = q := by omega
      have c0 := blk_cell gl 0
      have c1 := blk_cell gl 1
      simp at c0 c1
      have hff := HF.out wr HQ0.out HP.out
      have HFF := Lib.hid hff
      clear hff hfr gl hP hq0
      have hni2 : ¬ (n : Int) < (n : Int) := by omega
      go_wp2_with fail
      refine HFF.out.mono ?_
      rintro e w5 ⟨rfl, hP5⟩
      have hg5 := hP5.frame.get hgG HG.out
      have HP5 := Lib.hid hP5
      clear hP5 c0 c1
      have c0 := blk_cell hg5 0
      have c1 := blk_cell hg5 1
      simp at c0 c1
      clear hg5
      by_cases hec : fl.1 = 0
      case neg =>
        have hec' : (fl.1 != 0) = true := by simpa using hec
        have HOUT := Lib.hid (HFL.out HQ0.out hec)
        clear hec
        go_wp2_with fail
        go_ret
        rw [HOUT.out]
        exact ⟨rfl, HP5.out⟩
      have hec' : (fl.1 != 0) = false := by simpa using hec
      have HEC := Lib.hid hec
      clear hec
      go_wp2_with fail
      refine wp_row_drew 9 [] [9, 10] (by kernel_rfl) (by kernel_rfl) (fun _ _ _ _ e h => ⟨e ▸ h.1, h.2⟩) ?_
      simp only [floatQ, opsAt, List.filterMap_cons, List.filterMap_nil, List.getElem?_toArray, List.getElem?_cons_succ, List.getElem?_cons_zero, List.take_succ_cons, List.take_zero]
      repeat (show wpQuiet _ _ _ _ (_ :: _) _; go_big_quiet_step (fail))
      refine wpQuiet_nil ?_
      intro nq2
      have hd := HH.out (w5.drewN nq2) (HP5.out.new (below_drewN (Below.refl _ _) nq2))
      have HDW := Lib.hid hd
      clear hd
      show wpList _ _ _ (_ :: _ :: []) _ _
      go_wp2_with fail
      refine HDW.out.mono ?_
      rintro e w6 ⟨rfl, hP6⟩
      have hg6 := hP6.frame.get hgG HG.out
      have HP6 := Lib.hid hP6
      clear hP6 c0 c1
      have c0 := blk_cell hg6 0
      simp at c0
      clear hg6
      by_cases hwc : wf.1 = 0
      case neg =>
        have hwc' : (wf.1 != 0) = true := by simpa using hwc
        have HOUT := Lib.hid (HWF.out HQ0.out HEC.out hwc)
        clear hwc
        go_wp2_with fail
        go_ret
        rw [HOUT.out]
        exact ⟨rfl, HP6.out⟩
      have hwc' : (wf.1 != 0) = false := by simpa using hwc
      have HOUT := Lib.hid (HO.out HQ0.out HEC.out hwc)
      clear hwc
      go_wp2_with fail
      refine (HF2.out _ HP6.out).mono ?_
      rintro e w7 ⟨rfl, hP7⟩
      have HP7 := Lib.hid hP7
      clear hP7
      go_wp2_with fail
      go_ret
      rw [HOUT.out]
      exact ⟨rfl, HP7.out⟩
end Go.Proofs.Ytjmfeoenbncibaa
namespace Go.Proofs.Ytjmfeoenbncibaa
open Go.RowKit Go.Nau Go.Shelf
attribute [local go_sem] Oper.semAt_some

theorem w_arm2 {wr w2 w3 : World} {q k1 k3 m3 rb base : Nat} {A1 A3 B3 : Option Addr} {xs1 xs3 ys : List Value} {r0 r1 r2 r3 r4 : Value} {o : Obj} (hf : Fr (fun _ => False) wr w2) (h1 : wr.ownsRow base 3 1 (.slice A1 q k1) q xs1)
    (h3 : wr.ownsRow base 85 4 (.slice A3 q k3) q xs3) (hr : wr.heap[rb]? = some (.cells #[r0, r1, r2, r3, r4, .slice A3 q k3] 79 (0, 0))) (hgr : (w2.alloc o).grownBy w3 (Value.slice A3 q k3).ownBlock) (hrb : rb + 1 = base)
    (hown : w3.ownsRow base 85 4 (.slice B3 (q + 1) m3) (q + 1) ys) :
    w3.heap[rb]? = some (.cells #[r0, r1, r2, r3, r4, .slice A3 q k3] 79 (0, 0)) ∧ (w3.setCell ⟨rb, 5, none⟩ (.slice B3 (q + 1) m3)).ownsRow base 3 1 (.slice A1 q k1) q xs1 ∧ (w3.setCell ⟨rb, 5, none⟩ (.slice B3 (q + 1) m3)).ownsRow base 85 4 (.slice B3 (q + 1) m3) (q + 1) ys ∧
      Fr (fun k => rb ≤ k) wr (w3.setCell ⟨rb, 5, none⟩ (.slice B3 (q + 1) m3)) ∧ (w3.setCell ⟨rb, 5, none⟩ (.slice B3 (q + 1) m3)).heap[rb]? = some (.cells #[r0, r1, r2, r3, r4, .slice B3 (q + 1) m3] 79 (0, 0)) ∧
      (∀ k o', k < rb → wr.heap[k]? = some o' → (w3.setCell ⟨rb, 5, none⟩ (.slice B3 (q + 1) m3)).heap[k]? = some o' ∧ w3.heap[k]? = some o') := by
  have h3' := Fr.own h3 hf (fun _ _ => id)
  obtain ⟨g1, g2, g3⟩ := w_grow h3' hgr
  have f0 : Fr (fun k => base ≤ k) wr w3 := (hf.mono (fun _ h => h.elim)).trans g2
  have hr3 := g3 rb _ (by omega) (hf.get id hr)
  have fs : Fr (· = rb) w3 (w3.setCell ⟨rb, 5, none⟩ (.slice B3 (q + 1) m3)) := Fr.set1 _ _ _ _
  have own : ∀ (ty : TypeId) (sy ny : Nat) (vy : Value) (zs : List Value), w3.ownsRow base ty sy vy ny zs → (w3.setCell ⟨rb, 5, none⟩ (.slice B3 (q + 1) m3)).ownsRow base ty sy vy ny zs := fun ty sy ny vy zs h => Fr.own h fs (fun k hk e => by have := (h.lt k hk).1; omega)
  refine ⟨hr3, own _ _ _ _ _ (g1 _ _ _ _ _ (by decide) (Fr.own h1 hf (fun _ _ => id))), own _ _ _ _ _ hown, (f0.mono (fun k h => by omega)).trans (fs.mono (fun k h => by omega)), blk_set hr3 5 _, fun k o' hk h => ?_⟩
  have := g3 k o' (by omega) (hf.get id h)
  exact ⟨fs.get (by omega) this, this⟩

def RW1 (w : World) (n : Nat) (p sq cp nx rm : Int) (en sy : Bool) (its : List (Ent × ByteArray)) (k : Nat) (v13 v14 : Value) (wr : World) : Prop :=
  ∃ (q : Nat) (A1 A3 : Option Addr) (c1 c3 : Nat), k = n - q ∧ v14 = .int .i64 q ∧ q ≤ n ∧ (q : Int) ≤ rm ∧ v13 = .slice A1 q c1 ∧ (∀ x ∈ its.take q, x.2.size ≤ 508) ∧
    wr.heap[w.heap.size]? = some (.cells #[.int .u64 sq, .int .u64 cp, .bool en, .bool sy, .int .i64 nx, .slice A3 q c3] 79 (0, 0)) ∧
    wr.ownsRow (w.heap.size + 1) 3 1 (.slice A1 q c1) q (atC p q) ∧ wr.ownsRow (w.heap.size + 1) 85 4 (.slice A3 q c3) q (entC ((its.take q).map (·.1))) ∧ Below w.heap.size w wr ∧ w.heap.size + 1 ≤ wr.heap.size

set_option maxHeartbeats 8000000 in
set_option maxRecDepth 100000 in
theorem rwrite15_core (g d n c : Nat) (A : Option Addr) (p sq cp nx rm ee : Int) (en sy : Bool) (its : List (Ent × ByteArray)) (head : ByteArray) (w : World) (Q : Ending → World → Prop)
    (hg : w.heap[g]? = some (.cells #[.pointer (some ⟨d, 0, none⟩), .int .i64 p, .int .u64 sq, .int .i64 nx] 53 (0, 0)))
    (hr : Rd (· < w.heap.size) w 5 A n (itC its)) (hl : its.length = n) (hn : (n : Int) ≤ 1000000) (hrm : 0 ≤ rm ∧ rm ≤ 15) (hp : 0 ≤ p ∧ p ≤ 4096)
    (hM : ∀ W, Below w.heap.size w W → Calls Try.prog 31 #[.pointer (some ⟨g, 0, none⟩)] W fun e W' => e = .returned (.int .i64 rm) ∧ W = W')
    (hE : ∀ A' c' W, Below w.heap.size w W → Rd (· < W.heap.size) W 4 A' n (entC (its.map (·.1))) → Calls Try.prog 84 #[.agg #[.int .u64 sq, .int .u64 cp, .bool en, .bool sy, .int .i64 nx, .slice A' n c']] W fun e w' => e = .returned (.tuple #[.string head, .int .i64 ee]) ∧ Below W.heap.size W w')
    (hPut : ∀ W, Below w.heap.size w W → nx ≠ 0 → (n : Int) ≤ rm → (∀ x ∈ its, x.2.size ≤ 508) → ee = 0 → Calls Try.prog 85 #[.pointer (some ⟨g, 0, none⟩), .slice A n c, .string head] W fun e w' => ∃ pe : Int, e = .returned (.int .i64 pe) ∧
      ((pe ≠ 0 ∧ Q (.returned (.tuple #[.slice none 0 0, .int .i64 pe])) w') ∨ (pe = 0 ∧ w'.heap[g]? = some (.cells #[.pointer (some ⟨d, 0, none⟩), .int .i64 p, .int .u64 sq, .int .i64 nx] 53 (0, 0)) ∧
        Calls Try.prog 57 #[.pointer (some ⟨g, 0, none⟩), .int .i64 n, .int .i64 nx] w' fun e w2 => e = .returned (.tuple #[]) ∧ Fr (fun k => k < w.heap.size) W w2 ∧
          ∀ A1 c1, n ≤ c1 → Rd (fun k => w.heap.size ≤ k ∧ k < w2.heap.size) w2 1 A1 n (atC p n) → Q (.returned (.tuple #[.slice A1 n c1, .int .i64 0])) w2)))
    (hQ152 : nx = 0 → Q (.returned (.tuple #[.slice none 0 0, .int .i64 152])) w) (hQ2 : ∀ W, Below w.heap.size w W → nx ≠ 0 → ¬ ((n : Int) ≤ rm ∧ (∀ x ∈ its, x.2.size ≤ 508) ∧ ee = 0) → Q (.returned (.tuple #[.slice none 0 0, .int .i64 2])) W) :
    Calls Try.prog 63 #[.pointer (some ⟨g, 0, none⟩), .int .u64 cp, .slice A n c, .bool en, .bool sy] w Q := by
  obtain ⟨hp0, hp1⟩ := hp
  obtain ⟨hrm0, hrm1⟩ := hrm
  have hgl := (Array.getElem?_eq_some_iff.1 hg).1
  have d2 := blk_cell hg 2
  have d3 := blk_cell hg 3
  simp at d2 d3
  have HG := Lib.hid hg
  have HR := Lib.hid hr
  have HL := Lib.hid hl
  have HM := Lib.hid hM
  have HE := Lib.hid hE
  have HPUT := Lib.hid hPut
  have Q152 := Lib.hid hQ152
  have Q2 := Lib.hid hQ2
  clear hg hr hl hM hE hPut hQ152 hQ2
  by_cases hnx : nx = 0
  · have hP := Lib.hid (Q152.out hnx)
    subst hnx
    go_enter Try.func63, Try.ntmps63
    go_wp2_with fail
    first | exact hP.out | (go_ret2; exact hP.out)
  have hnx' : (nx == 0) = false := by simpa using hnx
  have HNX := Lib.hid hnx
  clear hnx
  obtain ⟨b, hzb⟩ : ∃ b, w.heap.size = b := ⟨_, rfl⟩
  go_enter Try.func63, Try.ntmps63
  go_wp2_with fail
  refine wp_rows_drew (fun V => V.cell? ⟨g, 2, none⟩ = some (.int .u64 sq) ∧ V.cell? ⟨g, 3, none⟩ = some (.int .i64 nx)) [0, 1, 2, 3, 4, 5, 6, 7, 8, 9, 10, 11] [] [12] [13] (by kernel_rfl) (by kernel_rfl) (fun _ _ _ _ e h => ⟨e ▸ h.1, h.2⟩) (fun k => ⟨d2, d3⟩) ?_
  iterate 12
    refine heldQ_step rfl (yieldsIf_of rfl (fun V hV => by obtain ⟨s0, s1⟩ := hV; go_simp; first | done | rfl)) (fun K' hK' => ?_)
    go_simp
    refine hK' _ ?_
    clear hK' K'
  simp only [heldQ, opsAt, List.filterMap_cons, List.filterMap_nil, List.getElem?_toArray, List.getElem?_cons_succ, List.getElem?_cons_zero]
  refine wpQuiet_nil ?_
  intro nq
  refine wpListS_step rfl (fun K' hK' => ?_)
  go_simp
  refine hK' _ _ ⟨old_cell d2 _, old_cell d3 _⟩ ?_
  clear hK' K'
  simp only [wpListS]
  show wpList _ _ _ (_ :: []) _ _
  go_wp2_with fail
  subst hzb
  have hrel0 : RW1 w n p sq cp nx rm en sy its n (.slice none 0 0) (.int .i64 0) ((w.drewN nq).alloc (.cells #[.int .u64 sq, .int .u64 cp, .bool en, .bool sy, .int .i64 nx, .slice none 0 0] 79)) := by
    refine ⟨0, none, none, 0, 0, rfl, rfl, Nat.zero_le _, hrm0, rfl, by simp, ?_, ⟨rfl, .inl ⟨rfl, rfl⟩⟩, ⟨rfl, .inl ⟨rfl, rfl⟩⟩, ?_, ?_⟩
    · exact heap_alloc_new (w.drewN nq) (.cells #[.int .u64 sq, .int .u64 cp, .bool en, .bool sy, .int .i64 nx, .slice none 0 0] 79)
    · exact (below_drewN (Below.refl _ _) nq).alloc (Nat.le_refl _) _
    · rw [World.size_alloc]; exact Nat.le_refl _
  have HREL0 := Lib.hid hrel0
  clear hrel0 d2 d3
  obtain ⟨iE, hiE, hiE0, hiE1, hiE2⟩ := info_parts infoEnt
  obtain ⟨iI, hiI, hiI0, hiI1, hiI2⟩ := info_parts infoI
  go_loopg [13, 14] n (RW1 w n p sq cp nx rm en sy its)
  case atStart => exact HREL0.out
  case round =>
    obtain ⟨q, A1, A3, k1, k3, rfl, rfl, hq, hqr, rfl, hsz5, hR, ho1, ho3, hbw, hsz⟩ := hrel
    have HRR := Lib.hid hR
    have HO1 := Lib.hid ho1
    have HO3 := Lib.hid ho3
    have HBW := Lib.hid hbw
    have HS5 := Lib.hid hsz5
    have hgw : wr.heap[g]? = some (.cells #[.pointer (some ⟨d, 0, none⟩), .int .i64 p, .int .u64 sq, .int .i64 nx] 53 (0, 0)) := (hbw.block g hgl).trans HG.out
    have HGW := Lib.hid hgw
    clear ho1 ho3 hsz5
    by_cases hlt : q < n
    · have hlti : (q : Int) < (n : Int) := by omega
      obtain ⟨x, hx⟩ : ∃ x, its[q]? = some x := ⟨_, List.getElem?_eq_getElem (by rw [HL.out]; exact hlt)⟩
      obtain ⟨ad, rfl, e0, e1, e2, e3, e4⟩ := it_cells (HR.out.kept (Fr.of_below hbw) (fun k hk => by omega)) q x hx hlt
      have htk : entC ((its.take (q + 1)).map (·.1)) = entC ((its.take q).map (·.1)) ++ entL x.1 := by rw [List.take_add_one, hx, List.map_append]; exact entC_snoc _ _
      have htk2 : its.take (q + 1) = its.take q ++ [x] := by rw [List.take_add_one, hx]; rfl
      have hmem := List.mem_of_getElem? hx
      have HTK := Lib.hid htk
      have HTK2 := Lib.hid htk2
      clear hx htk htk2 hR
      by_cases hs : x.2.size ≤ 508
      case neg =>
        have hs1 : (508 : Int) < (x.2.size : Int) := by omega
        have hs2 : 508 < x.2.size := by omega
        have hP := Lib.hid (Q2.out wr hbw HNX.out (fun h => hs (h.2.1 x hmem)))
        clear hbw hgw hs
        go_wp2_with fail
        first | exact hP.out | (go_ret2; exact hP.out)
      have hs1 : ¬ (508 : Int) < (x.2.size : Int) := by omega
      have hs2 : ¬ 508 < x.2.size := by omega
      have HM1 := Lib.hid (HM.out wr hbw)
      by_cases hqm : (q : Int) < rm
      case neg =>
        have hs3 : rm ≤ (q : Int) := by omega
        have hP := Lib.hid (Q2.out wr hbw HNX.out (fun h => by have := h.1; omega))
        clear hbw hgw hs hqm
        go_wp2_with fail
        refine HM1.out.mono ?_
        rintro e w1 ⟨rfl, rfl⟩
        go_wp2_with fail
        first | exact hP.out | (go_ret2; exact hP.out)
      have hs3 : ¬ rm ≤ (q : Int) := by omega
      have q5 := blk_cell HRR.out 5
      simp at q5
      have HS8 := Lib.hid hs
      clear hs
      go_wp2_with fail
      refine HM1.out.mono ?_
      rintro e w1 ⟨rfl, rfl⟩
      go_wp2_with fail
      refine wp_rows_drew (fun V => V.cell? ⟨w.heap.size, 5, none⟩ = some (.slice A3 q k3) ∧ V.cell? (ad.add (q * 5)) = some (.int .i64 x.1.kind) ∧ V.cell? ⟨(ad.add (q * 5)).block, (ad.add (q * 5)).off + 1, none⟩ = some (.int .u32 x.1.file) ∧ V.cell? ⟨(ad.add (q * 5)).block, (ad.add (q * 5)).off + 2, none⟩ = some (.int .u32 x.1.idx) ∧
        V.cell? ⟨(ad.add (q * 5)).block, (ad.add (q * 5)).off + 3, none⟩ = some (.int .u32 x.1.vbn)) [0, 1, 2, 3, 4, 5, 6] [] [7] [8, 9, 10] (by kernel_rfl) (by kernel_rfl) (fun _ _ _ _ e h => ⟨e ▸ h.1, h.2⟩) (fun k => ⟨q5, e0, e1, e2, e3⟩) ?_
      iterate 7
        refine heldQ_step rfl (yieldsIf_of rfl (fun V hV => by obtain ⟨s0, s1, s2, s3, s4⟩ := hV; go_simp; first | done | rfl)) (fun K' hK' => ?_)
        go_simp
        refine hK' _ ?_
        clear hK' K'
      simp only [heldQ, opsAt, List.filterMap_cons, List.filterMap_nil, List.getElem?_toArray, List.getElem?_cons_succ, List.getElem?_cons_zero]
      refine wpQuiet_nil ?_
      intro nq2
      refine wpListS_step rfl (fun K' hK' => ?_)
      go_simp
      refine hK' _ _ ⟨old_cell q5 _, old_cell e0 _, old_cell e1 _, old_cell e2 _, old_cell e3 _⟩ ?_
      clear hK' K'
      have hf2 : Fr (fun _ => False) wr (wr.drewN nq2) := Fr.drewN _ _ _
      have HF2 := Lib.hid hf2
      simp only [wpListS]
      clear hf2 hbw hgw e0 e1 e2 e3 e4
      show wpList _ _ _ (_ :: _ :: _ :: []) _ _
      go_wp2_with (first | (at_builtin; refine wpList_append_rd _ rfl (.tmp 55) (.tmp 61) 77 rfl (w.heap.size + 1) 85 iE _ 4 24 Try.underlying77 hiE hiE0 hiE1 hiE2 rfl (by decide) _ q (entC ((its.take q).map (·.1))) rfl (Fr.own HO3.out (HF2.out.alloc _) (fun _ _ => id)) _ (some ⟨wr.heap.size, 0, none⟩) 1 1 (entL x.1) rfl (rd_newE (wr.drewN nq2) x.1) (entL_one x.1) (by unfold maxLen; omega) (by omega) (by simp; omega) ?_; intro v3 w3 hown3 hg3 hat3; obtain ⟨B3, m3, rfl, hm3, _⟩ := Rd.of_own2 hown3; obtain ⟨S0, S1, S3, S4, S5, S6⟩ := w_arm2 HF2.out HO1.out HO3.out HRR.out hg3 (by omega) hown3; have r5 := blk_cell S0 5; have rz5 := blk_frozen S0 5; have g1 := blk_cell (S6 _ _ (by omega) HGW.out).2 1; simp at r5 g1; have hri : Rd (fun _ => True) ((w3.setCell ⟨w.heap.size, 5, none⟩ (.slice B3 (q + 1) m3)).alloc (.cells #[.int .i64 (p + 1 + (q : Int))] 3)) 1 (some ⟨w3.heap.size, 0, none⟩) 1 [.int .i64 (p + 1 + (q : Int))] := rd_newI2 _ _ _ _ _; have hsz3 := S4.size; simp only [World.size_setCell] at hsz3; have HRI := Lib.hid hri; have HS1 := Lib.hid S1; have HS3 := Lib.hid S3; have HS4 := Lib.hid S4; have HS5' := Lib.hid S5; have HS6 := Lib.hid S6; clear S0 S1 S3 S4 S5 S6 hown3 hg3 hat3 hri) | (at_builtin; refine wpList_append_rd _ rfl (.tmp 64) (.tmp 72) 38 rfl (w.heap.size + 1) 3 iI _ 1 8 Try.underlying38 hiI hiI0 hiI1 hiI2 rfl (by decide) _ q (atC p q) rfl (HS1.out.alloc _) _ (some ⟨w3.heap.size, 0, none⟩) 1 1 [.int .i64 (p + 1 + (q : Int))] rfl HRI.out (by simp [Value.oneCell']) (by unfold maxLen; omega) (by omega) (by simp; omega) ?_; intro v4 w4 hown4 hg4 hat4; obtain ⟨B4, m4, rfl, hm4, _⟩ := Rd.of_own2 hown4; obtain ⟨T1, T2, T3⟩ := w_grow HS1.out hg4; have T2s := T2.size; simp only [World.size_setCell] at T2s; have HT2 := Lib.hid (T1 _ _ _ _ _ (by decide) HS3.out); have HT3 := Lib.hid T2; have HT4 := Lib.hid T3; have HT5 := Lib.hid hown4; clear T1 T2 T3 hown4 hg4 hat4))
      go_roundg (n - (q + 1))
      case measure => omega
      case rel =>
        have hU5 := HT5.out
        have hU2 := HT2.out
        rw [← atC_succ] at hU5
        rw [← HTK.out] at hU2
        have hfr : Fr (fun k => w.heap.size ≤ k) wr w4 := HS4.out.trans (HT3.out.mono (fun k h => by omega))
        have hsz4 := hfr.size
        refine ⟨q + 1, B4, B3, m4, m3, rfl, by simp, by omega, by omega, rfl, fun y hy => ?_, HT4.out _ _ (by omega) HS5'.out, hU5, hU2, HBW.out.trans (hfr.below HBW.out.size (fun k h => h)), by omega⟩
        rw [HTK2.out] at hy
        rcases List.mem_append.1 hy with hy | hy
        · exact HS5.out y hy
        · rw [List.mem_singleton.1 hy]
          exact HS8.out
    · obtain rfl : n = q := by omega
      have hni : ¬ (n : Int) < (n : Int) := by omega
      have u0 := blk_cell hR 0
      have u1 := blk_cell hR 1
      have u2 := blk_cell hR 2
      have u3 := blk_cell hR 3
      have u4 := blk_cell hR 4
      have u5 := blk_cell hR 5
      simp at u0 u1 u2 u3 u4 u5
      have htake : ∀ {α : Type} (l : List α), l.length = n → l.take n = l := fun l h => List.take_of_length_le (by omega)
      have hall : ∀ x ∈ its, x.2.size ≤ 508 := by
        have := HS5.out
        rwa [htake its HL.out] at this
      have hrE : Rd (· < wr.heap.size) wr 4 A3 n (entC (its.map (·.1))) := by
        obtain ⟨A', c', e', _, hr'⟩ := Rd.of_own2 HO3.out
        injection e' with e1 e2 e3
        subst e1
        rw [htake its HL.out] at hr'
        exact hr'.mono (fun k hk => hk.2)
      have hnk : n ≤ k1 ∧ Rd (fun k => w.heap.size + 1 ≤ k ∧ k < wr.heap.size) wr 1 A1 n (atC p n) := by
        obtain ⟨A', c', e', hc', hr'⟩ := Rd.of_own2 HO1.out
        injection e' with e1 e2 e3
        subst e1
        exact ⟨by omega, hr'⟩
      have hen := HE.out A3 k3 wr hbw hrE
      have HEN := Lib.hid hen
      have HALL := Lib.hid hall
      have HNK := Lib.hid hnk
      clear hen hrE hR hbw hgw htake hall hnk
      go_wp2_with fail
      refine HEN.out.mono ?_
      rintro e w1 ⟨rfl, hb1⟩
      have hbw1 : Below w.heap.size w w1 := HBW.out.trans (hb1.mono HBW.out.size)
      have hs1 := hb1.size
      have HB1 := Lib.hid hb1
      have HBW1 := Lib.hid hbw1
      clear u0 u1 u2 u3 u4 u5 hb1 hbw1
      by_cases hee : ee = 0
      case neg =>
        have hee' : (ee != 0) = true := by simpa using hee
        have hP := Lib.hid (Q2.out w1 HBW1.out HNX.out (fun h => hee h.2.2))
        clear hee
        go_wp2_with fail
        first | exact hP.out | (go_ret2; exact hP.out)
      have hee' : (ee != 0) = false := by simpa using hee
      have HPU := Lib.hid (HPUT.out w1 HBW1.out HNX.out hqr HALL.out hee)
      clear hee
      go_wp2_with fail
      refine HPU.out.mono ?_
      rintro e w2 ⟨pe, rfl, ⟨hpe, hq2⟩ | ⟨rfl, hg2, hgo⟩⟩
      · have hpe' : (pe != 0) = true := by simpa using hpe
        have hP := Lib.hid hq2
        clear hpe hq2
        go_wp2_with fail
        first | exact hP.out | (go_ret2; exact hP.out)
      · have c3 := blk_cell hg2 3
        simp at c3
        have HGO := Lib.hid hgo
        clear hgo hg2
        go_wp2_with fail
        refine HGO.out.mono ?_
        rintro e w3 ⟨rfl, hf3, hfin⟩
        have hs3 := hf3.size
        have hP := Lib.hid (hfin A1 k1 HNK.out.1 (((HNK.out.2.kept (Fr.new HB1.out (fun _ => False)) (fun _ _ => id)).kept hf3 (fun k hk h => by omega)).mono (fun k hk => by omega)))
        clear hf3 hfin c3
        go_wp2_with fail
        first | exact hP.out | (go_ret2; exact hP.out)
end Go.Proofs.Ytjmfeoenbncibaa

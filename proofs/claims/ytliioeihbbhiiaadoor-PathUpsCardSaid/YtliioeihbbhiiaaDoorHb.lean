/- Paths: path.pieces, what its iterator tells: over the given program. -/
import Derived.Test.YtliioeihbbhiiaaDoorHa
namespace Go.Proofs.YtliioeihbbhiiaaDoor
open Go.RowKit Go.Nau Go.Shelf
attribute [local go_sem] Oper.semAt_some

theorem roundIn_any {m : Nat} (m' : Nat) {P : Program} {l l' : Nat} {f : FuncId} {tmps : Array Value} {assign body : Code} {w : World} {R : Ending → World → Prop}
    (h : RoundIn Fence.wide m P l f tmps assign body w R) : RoundIn (Fence.wide.inRound l') m' P l f tmps assign body w R := ⟨h.1, fun c cs _ => h.2 c cs (fun d hd => by cases hd)⟩

/-- Does a piece say something? -/
def keepB (p : ByteArray) : Bool := !(p.toList == []) && !(p.toList == [46])
def piecesL (s : ByteArray) : List ByteArray := (splB s).filter keepB

theorem splitseq_any (s : ByteArray) (w : World) : Calls Tryd.prog 26 #[.string s, .string ⟨#[47]⟩] w fun e w' =>
    e = .returned (.func (.func 35) #[] #[.pointer (some ⟨w.heap.size + 1, 0, none⟩), .pointer (some ⟨w.heap.size, 0, none⟩), .pointer (some ⟨w.heap.size + 1 + 1, 0, none⟩)]) ∧
    w' = ((w.alloc (.cells #[.string s] 9)).alloc (.cells #[.string ⟨#[47]⟩] 9)).alloc (.cells #[.int .i64 0] 3) := by
  have h : ∀ W : World, Calls Tryd.prog 31 #[.string s, .string ⟨#[47]⟩, .int .i64 0] W fun e w' =>
      e = .returned (.func (.func 35) #[] #[.pointer (some ⟨W.heap.size + 1, 0, none⟩), .pointer (some ⟨W.heap.size, 0, none⟩), .pointer (some ⟨W.heap.size + 1 + 1, 0, none⟩)]) ∧
      w' = ((W.alloc (.cells #[.string s] 9)).alloc (.cells #[.string ⟨#[47]⟩] 9)).alloc (.cells #[.int .i64 0] 3) := by
    intro W
    go_enter Tryd.func31, Tryd.ntmps31
    go_wp2_with fail
    go_ret
    exact ⟨rfl, rfl⟩
  have H := Lib.hid h
  clear h
  go_enter Tryd.func26, Tryd.ntmps26
  go_wp2_with fail
  refine (H.out _).mono ?_
  rintro e w1 ⟨rfl, rfl⟩
  go_wp2_with fail
  go_ret
  exact ⟨rfl, rfl⟩
theorem pieces_any (s : ByteArray) (w : World) : Calls Tryd.prog 19 #[.string s] w fun e w' => e = .returned (.func (.func 25) #[] #[.pointer (some ⟨w.heap.size, 0, none⟩)]) ∧ w' = w.alloc (.cells #[.string s] 9) := by
  go_enter Tryd.func19, Tryd.ntmps19
  go_wp2
  go_ret
  exact ⟨rfl, rfl⟩

/-- The blocks that the iterator lays for itself. -/
def PT (z : Nat) (k : Nat) : Prop := z ≤ k ∧ k < z + 6
def PI (J : List ByteArray → World → Prop) (z l : Nat) (pre : List ByteArray) (W : World) : Prop :=
  J (pre.filter keepB) W ∧ W.heap[z]? = some (.cells #[.func (.yield l) #[] #[]] 40 (0, 0)) ∧ z + 6 ≤ W.heap.size
def PX (Jx : List ByteArray → World → Prop) (c : Code) (pre : List ByteArray) (W : World) : Prop := c = .ret ∧ Jx (pre.filter keepB) W

set_option maxHeartbeats 4000000 in
set_option maxRecDepth 100000 in
theorem pieces_in (l B0 : Nat) (s : ByteArray) (hs : s.size ≤ 900000) (W : World) (hB : W.heap[B0]? = some (.cells #[.string s] 9 (0, 0))) (J Jx : List ByteArray → World → Prop)
    (hJ : ∀ pre A A', J pre A → Fr (PT W.heap.size) A A' → J pre A') (hJx : ∀ pre A A', Jx pre A → Fr (PT W.heap.size) A A' → Jx pre A')
    (hY : ∀ pre x W1, J pre W1 → W.heap.size + 6 ≤ W1.heap.size → pre ++ [x] <+: piecesL s → YieldAt Fence.wide 3 Tryd.prog l #[.string x] W1 fun e W' => (e = .returned (.bool true) ∧ J (pre ++ [x]) W' ∧ Fr (fun k => ¬ PT W.heap.size k) W1 W') ∨ (e = .returned (.bool false) ∧ Jx (pre ++ [x]) W' ∧ Fr (fun k => ¬ PT W.heap.size k) W1 W'))
    (h0 : J [] W) :
    Calls Tryd.prog 25 #[.func (.yield l) #[] #[], .pointer (some ⟨B0, 0, none⟩)] W fun e W' =>
      (∃ v, e = .returned v) ∧ ((∃ ys, ys = piecesL s ∧ J ys W') ∨ (∃ pre, pre <+: piecesL s ∧ Jx pre W')) := by
  refine (callsIn_wide (n := 7)).1 (callsIn_of_wp_marks Tryd.func25 rfl trivial ?_ rfl)
  simp only [Tryd.ntmps25, List.size_toArray, List.length_nil, List.length_cons, Nat.reduceSub, Nat.reduceAdd, Array.replicate_succ, Array.replicate_zero, List.push_toArray, List.append_toArray, List.nil_append, List.cons_append]
  refine wpIn_wide.2 ?_
  have hz := (Array.getElem?_eq_some_iff.1 hB).1
  have hB1 : (W.alloc (.cells #[.func (.yield l) #[] #[]] 40)).heap[B0]? = some (.cells #[.string s] 9 (0, 0)) := ((Fr.refl (fun _ => False) W).alloc _).get id hB
  have b0 := blk_cell hB1 0
  simp at b0
  have hbx := heap_alloc_new W (.cells #[.func (.yield l) #[] #[]] 40)
  generalize hW1 : W.alloc (.cells #[.func (.yield l) #[] #[]] 40) = W1 at *
  have hz1 : W1.heap.size = W.heap.size + 1 := by rw [← hW1]; simp
  have hf1 : Fr (PT W.heap.size) W W1 := by rw [← hW1]; exact (Fr.refl _ W).alloc _
  go_wp2_with fail
  refine (splitseq_any s _).mono ?_
  rintro e w2 ⟨rfl, hw2⟩
  have f1 : ∀ (A : World) o, Fr (fun _ => False) A (A.alloc o) := fun A o => (Fr.refl _ A).alloc o
  have hz2 : w2.heap.size = W.heap.size + 4 := by rw [hw2]; simp; omega
  have hS0 : SBox W1.heap.size (W1.heap.size + 1) (W1.heap.size + 1 + 1) s w2 := by
    rw [hw2]
    have e1 := heap_alloc_new W1 (.cells #[.string s] 9)
    have e2 := heap_alloc_new (W1.alloc (.cells #[.string s] 9)) (.cells #[.string ⟨#[47]⟩] 9)
    have e3 := heap_alloc_new ((W1.alloc (.cells #[.string s] 9)).alloc (.cells #[.string ⟨#[47]⟩] 9)) (.cells #[.int .i64 0] 3)
    simp only [World.size_alloc] at e2 e3
    exact ⟨(f1 _ _).get id ((f1 _ _).get id e1), (f1 _ _).get id e2, e3⟩
  have hbx2 : w2.heap[W.heap.size]? = some (.cells #[.func (.yield l) #[] #[]] 40 (0, 0)) := by
    rw [hw2]
    exact (f1 _ _).get id ((f1 _ _).get id ((f1 _ _).get id hbx))
  have hf2 : Fr (PT W.heap.size) W w2 := by
    rw [hw2]
    exact ((hf1.alloc _).alloc _).alloc _
  rw [hz1] at hS0
  clear hw2 b0 hB1 hbx hW1 hf1
  go_wp2_with fail
  refine wpIn_wide.1 (rangeFunc_exit (n := 6) rfl (by omega) (gf := 35) (lb := #[.pointer (some ⟨W.heap.size + 1 + 1, 0, none⟩), .pointer (some ⟨W.heap.size + 1, 0, none⟩), .pointer (some ⟨W.heap.size + 1 + 1 + 1, 0, none⟩)]) rfl trivial (enters_of Tryd.func35 (by kernel_rfl) rfl)
    (fun x => #[.string x]) (fun _ => rfl) (fun A B => Fr (fun k => k ≠ (W.heap.size + 1) ∧ k ≠ W.heap.size + 1 + 1 ∧ k ≠ W.heap.size + 1 + 1 + 1) A B) (fun ys => ys = splB s) (fun pre => pre <+: splB s) (fun pre x _ => pre ++ [x] <+: splB s)
    (fun h k => Fr.trans h k) (fun A o h => (Fr.of_grown (grownBy_putObj' A _ o)).mono (fun k e => by injection e with e; omega))
    (PI J W.heap.size l) (PX Jx) ?ip ?ixp (fun _ _ _ _ h => h) ?h0 (fun x => { tmps := #[.func (.yield l) #[] #[], .pointer (some ⟨B0, 0, none⟩), .pointer (some ⟨W.heap.size, 0, none⟩), .string x, .string s, .func (.func 35) #[] #[.pointer (some ⟨W.heap.size + 1 + 1, 0, none⟩), .pointer (some ⟨W.heap.size + 1, 0, none⟩), .pointer (some ⟨W.heap.size + 1 + 1 + 1, 0, none⟩)], .string x, undef, undef, undef, undef, undef, undef, undef, undef, undef, undef, undef, undef], defers := [] }) ?seq ?assign ?body ?done ?stop)
  case ip =>
    rintro pre A o hlt ⟨i1, i2, i3⟩
    have f : Fr (fun k => k = w2.heap.size + 1) A (A.putObj (w2.heap.size + 1) o) := (Fr.of_grown (grownBy_putObj' A _ o)).mono (fun k e => by injection e)
    exact ⟨hJ _ _ _ i1 (f.mono (fun k e => by unfold PT; omega)), f.get (by omega) i2, by have := f.size; omega⟩
  case ixp =>
    rintro c pre A o hlt ⟨rfl, i1⟩
    have f : Fr (fun k => k = w2.heap.size + 1) A (A.putObj (w2.heap.size + 1) o) := (Fr.of_grown (grownBy_putObj' A _ o)).mono (fun k e => by injection e)
    exact ⟨rfl, hJx _ _ _ i1 (f.mono (fun k e => by unfold PT; omega))⟩
  case h0 =>
    intro r
    refine ⟨hJ _ _ _ h0 ((hf2.alloc _).alloc _), (f1 _ _).get id ((f1 _ _).get id hbx2), by simp; omega⟩
  case seq =>
    intro r J' Jx' hJ' hJx' hy' h0'
    subst hJ' hJx'
    refine splitseq_in 5 (by omega) (w2.heap.size + 1) (W.heap.size + 1) (W.heap.size + 1 + 1) (W.heap.size + 1 + 1 + 1) s hs _ (hS0.fr (((Fr.refl _ w2).alloc _).alloc _)) ⟨by omega, by omega⟩ _ _ ?_ ?_ h0'
    · rintro pre A u ⟨⟨i1, i2, i3⟩, hb1, hb2⟩
      have f := Fr.set1 A (W.heap.size + 1) 0 u
      exact ⟨⟨hJ _ _ _ i1 (f.mono (fun k e => by unfold PT; omega)), f.get (by omega) i2, by have := f.size; omega⟩, f.get (by omega) hb1, f.get (by omega) hb2⟩
    · intro pre x A hA _ hpre
      obtain ⟨fn, tmps, assign, body, hy, hR⟩ := hy' pre x A hA hpre
      exact ⟨fn, tmps, assign, body, hy, hR.mono (fun e W' h => by
        rcases h with h | ⟨h1, h2, _⟩
        · exact .inl h
        · exact .inr ⟨h1, h2⟩)⟩
  case assign =>
    rintro l' x A K hK
    gi_wp2
    exact hK
  case body =>
    rintro pre x A ⟨r, hrr⟩ ⟨i1, i2, i3⟩ hadm
    have y0 := blk_cell i2 0
    simp at y0
    have HI2 := Lib.hid i2
    have HI3 := Lib.hid i3
    cases hk : keepB x
    · have hfl : (pre ++ [x]).filter keepB = pre.filter keepB := by rw [List.filter_append]; simp [hk]
      have hfin : PI J W.heap.size l (pre ++ [x]) A := ⟨by rw [hfl]; exact i1, i2, i3⟩
      have HF := Lib.hid hfin
      unfold keepB at hk
      cases h1 : (x.toList == [])
      · have h2 : (x.toList == [46]) = true := by rw [h1] at hk; simpa using hk
        have h1' : x.toList.isEmpty = false := by simpa using h1
        clear hfin hfl i1 i2 i3 hk hY hJ hJx h0 hB
        gi_wp2
        refine ⟨(fun f h => by cases h), ?_⟩
        gi_wp2
        exact ⟨Kept2.refl _ _, Fr.refl _ _, HF.out⟩
      · have h1' : x.toList.isEmpty = true := by simpa using h1
        clear hfin hfl i1 i2 i3 hk hY hJ hJx h0 hB
        gi_wp2
        refine ⟨(fun f h => by cases h), ?_⟩
        gi_wp2
        exact ⟨Kept2.refl _ _, Fr.refl _ _, HF.out⟩
    · have hfl : (pre ++ [x]).filter keepB = pre.filter keepB ++ [x] := by rw [List.filter_append]; simp [hk]
      have hpr : pre.filter keepB ++ [x] <+: piecesL s := by
        rw [← hfl]
        exact hadm.filter _
      obtain ⟨fn, tmps, assign, body, hy, hRR⟩ := hY _ x A i1 i3 hpr
      have HFL := Lib.hid hfl
      have HRR := Lib.hid hRR
      have hrl := (Array.getElem?_eq_some_iff.1 hrr).1
      unfold keepB at hk
      simp only [Bool.and_eq_true, Bool.not_eq_true'] at hk
      obtain ⟨h1, h2⟩ := hk
      have h1' : x.toList.isEmpty = false := by simpa using h1
      clear hfl hpr i1 i2 i3 hY hJ hJx h0 hB hadm hRR
      gi_wp2
      refine (roundIn_any _ HRR.out).mono ?_
      rintro e W3 (⟨rfl, hJ3, hk3⟩ | ⟨rfl, hJx3, hk3⟩)
      · have hfin : Kept2 w2.heap.size A W3 ∧ Fr (fun k => k ≠ W.heap.size + 1 ∧ k ≠ W.heap.size + 1 + 1 ∧ k ≠ W.heap.size + 1 + 1 + 1) A W3 ∧ PI J W.heap.size l (pre ++ [x]) W3 := by
          refine ⟨Kept2.of_fr hk3 hrl (by unfold PT; omega) (by unfold PT; omega), hk3.mono (fun k h => by unfold PT at h; omega), by rw [HFL.out]; exact hJ3, hk3.get (by unfold PT; omega) HI2.out, ?_⟩
          have := hk3.size
          have := HI3.out
          omega
        have HF := Lib.hid hfin
        clear hfin hJ3 hk3
        gi_wp2
        exact HF.out
      · have hfin : Kept2 w2.heap.size A W3 ∧ Fr (fun k => k ≠ W.heap.size + 1 ∧ k ≠ W.heap.size + 1 + 1 ∧ k ≠ W.heap.size + 1 + 1 + 1) A W3 ∧ PX Jx .ret (pre ++ [x]) W3 := by
          refine ⟨Kept2.of_fr hk3 hrl (by unfold PT; omega) (by unfold PT; omega), hk3.mono (fun k h => by unfold PT at h; omega), rfl, by rw [HFL.out]; exact hJx3⟩
        have HF := Lib.hid hfin
        clear hfin hJx3 hk3
        gi_wp2
        exact HF.out
  case done =>
    rintro xs A rfl ⟨i1, _, _⟩ hlt hK
    simp only [Exit.inBlock, Exit.then]
    have f : Fr (fun k => k = w2.heap.size) A (A.putObj w2.heap.size (.deferred none)) := (Fr.of_grown (grownBy_putObj' A _ _)).mono (fun k e => by injection e)
    exact ⟨by simp, .inl ⟨_, _, rfl, run_takeDeferred hK, _, results_none rfl _ _ _, ⟨_, rfl⟩, .inl ⟨_, rfl, hJ _ _ _ i1 (f.mono (fun k e => by unfold PT; omega))⟩⟩⟩
  case stop =>
    rintro c pre A hpre ⟨rfl, i1⟩ hlt hK
    have f : Fr (fun k => k = w2.heap.size) A (A.putObj w2.heap.size (.deferred none)) := (Fr.of_grown (grownBy_putObj' A _ _)).mono (fun k e => by injection e)
    refine wpIn_ret ?_
    exact ⟨by simp, .inl ⟨_, _, rfl, run_takeDeferred hK, _, results_none rfl _ _ _, ⟨_, rfl⟩, .inr ⟨_, hpre.filter _, hJx _ _ _ i1 (f.mono (fun k e => by unfold PT; omega))⟩⟩⟩
end Go.Proofs.YtliioeihbbhiiaaDoor

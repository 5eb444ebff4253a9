/- A range over a function whose iterator turns blocks of its own; a round may leave early. Of no program. -/
import Derived.ProofKit
import Derived.RangeFuncNested
import Derived.Test.YtliioeihbbhiiaaDoorT
namespace Go.Nau
open Go.RowKit

/-- The statement's two blocks when a round has left by the jump c. -/
def BookX (B : Nat) (r : Loop) (c : Code) (W : World) : Prop := W.heap[B + 1]? = some (.loop { r with state := .done, pending := some c }) ∧ W.heap[B]? = some (.deferred (some []))

/-- The statement's two blocks lie as they lay. -/
def Kept2 (B : Nat) (W W' : World) : Prop := W'.heap[B]? = W.heap[B]? ∧ W'.heap[B + 1]? = W.heap[B + 1]?
theorem Kept2.refl (B : Nat) (W : World) : Kept2 B W W := ⟨rfl, rfl⟩
theorem Kept2.of_fr {B : Nat} {S : Nat → Prop} {W W' : World} (h : Fr S W W') (h1 : B + 1 < W.heap.size) (h2 : ¬ S B) (h3 : ¬ S (B + 1)) : Kept2 B W W' := ⟨h.block _ (by omega) h2, h.block _ h1 h3⟩

/-- How the body of a round may be left. -/
def exitPost {α : Type} (B : Nat) (Kp : World → World → Prop) (I : List α → World → Prop) (Ix : Code → List α → World → Prop) (xs : List α) (W : World) : Exit → Act → World → Prop
  | .normal, _, W' => Kept2 B W W' ∧ Kp W W' ∧ I xs W'
  | .ret, _, W' => Kept2 B W W' ∧ Kp W W' ∧ Ix .ret xs W'
  | .exit id, _, W' => Kept2 B W W' ∧ Kp W W' ∧ Ix (.exit id) xs W'
  | _, _, _ => False

section
variable {F : Fence} {n : Nat} {P : Program}

theorem rangeFunc_exit {α : Type} {g : Operand} {ps : Array Tmp} {assign body : Code} {Q : Exit → Act → World → Prop} {a : Act} {w : World}
    (hro : F.round = none) (h1 : 1 ≤ n) {gf : Nat} {lb : Array Value} (hg : a.eval g = .func (.func gf) #[] lb) (hFg : F.fn gf) (eg : ∀ args w, (callFunc gf args).run P w = .ok (.enter gf args) w)
    (vals : α → Array Value) (hps : ∀ x, (vals x).size = ps.size) (Kp : World → World → Prop) (S Sp : List α → Prop) (Adm : List α → α → World → Prop)
    (hKt : ∀ {A B C : World}, Kp A B → Kp B C → Kp A C) (hKb : ∀ (W : World) (o : Obj), w.heap.size + 1 < W.heap.size → Kp W (W.putObj (w.heap.size + 1) o))
    (I : List α → World → Prop) (Ix : Code → List α → World → Prop)
    (hIp : ∀ pre W o, w.heap.size + 1 < W.heap.size → I pre W → I pre (W.putObj (w.heap.size + 1) o))
    (hIxp : ∀ c pre W o, w.heap.size + 1 < W.heap.size → Ix c pre W → Ix c pre (W.putObj (w.heap.size + 1) o))
    (hAp : ∀ pre x W o, Adm pre x W → Adm pre x (W.putObj (w.heap.size + 1) o))
    (h0 : ∀ r, I [] ((w.alloc (.deferred (some []))).alloc (.loop r))) (a₁ : α → Act)
    (hseq : ∀ (r : Loop) (J Jx : List α → World → Prop), J = (fun pre W => I pre W ∧ Book w.heap.size r W) → Jx = (fun pre W => ∃ c, Ix c pre W ∧ BookX w.heap.size r c W) →
      (∀ pre x W1, J pre W1 → Adm pre x W1 → YieldAt F (n - 1 - 1) P (w.heap.size + 1) (vals x) W1 fun e W' => (e = .returned (.bool true) ∧ J (pre ++ [x]) W' ∧ Kp W1 W') ∨ (e = .returned (.bool false) ∧ Jx (pre ++ [x]) W' ∧ Kp W1 W')) →
      J [] ((w.alloc (.deferred (some []))).alloc (.loop r)) →
      CallsIn F (n - 1) P gf (#[.func (.yield (w.heap.size + 1)) #[] #[]] ++ lb) ((w.alloc (.deferred (some []))).alloc (.loop r)) fun e W' => (∃ v, e = .returned v) ∧ ((∃ ys, S ys ∧ J ys W') ∨ (∃ pre, Sp pre ∧ Jx pre W')))
    (hassign : ∀ (l : Nat) (x : α) (W : World) (K : Act → World → Prop), K (a₁ x) W →
      assign.wpIn (F.inRound l) (n - 1 - 1) P (Exit.then K (fun _ _ _ => False)) { tmps := (ps.zip (vals x)).foldl (fun t (p, v) => t.setIfInBounds p v) a.tmps, defers := [] } W)
    (hbody : ∀ (pre : List α) (x : α) (W : World), (∃ r, W.heap[w.heap.size + 1]? = some (.loop r)) → I pre W → Adm pre x W → body.wpIn (F.inRound (w.heap.size + 1)) (n - 1 - 1) P (exitPost w.heap.size Kp I Ix (pre ++ [x]) W) (a₁ x) W)
    (hdone : ∀ (xs : List α) (W : World), S xs → I xs W → w.heap.size < W.heap.size → W.heap[w.heap.size]? = some (.deferred (some [])) → Q .normal { a with defers := { target := .collected w.heap.size, args := #[] } :: a.defers } W)
    (hstop : ∀ (c : Code) (pre : List α) (W : World), Sp pre → Ix c pre W → w.heap.size < W.heap.size → W.heap[w.heap.size]? = some (.deferred (some [])) → c.wpIn F n P Q { a with defers := { target := .collected w.heap.size, args := #[] } :: a.defers } W) :
    (Code.rangeFunc g ps assign body).wpIn F n P Q a w := by
  refine wpIn_rangeFunc fun fn hfn => ?_
  rw [hro]
  obtain ⟨rc, hrc⟩ : ∃ rc : LoopState → Option Code → Loop, rc = fun st pe => { state := st, pending := pe, fn, tmps := a.tmps, params := ps, assign, body, defers := w.heap.size } := ⟨_, rfl⟩
  have hA : ((w.alloc (.deferred (some []))).alloc (.loop (rc .ready none))).heap[w.heap.size + 1]? = some (.loop (rc .ready none)) := by
    have := World.alloc_heap_new (w.alloc (.deferred (some []))) (.loop (rc .ready none))
    rwa [World.size_alloc] at this
  have hB : ((w.alloc (.deferred (some []))).alloc (.loop (rc .ready none))).heap[w.heap.size]? = some (.deferred (some [])) :=
    (Below.heap_alloc _ _ _ (by simp)).trans (World.alloc_heap_new w _)
  refine ⟨w.heap.size + 1, [{ target := .collected w.heap.size, args := #[] }], (w.alloc (.deferred (some []))).alloc (.loop (rc .ready none)), { target := .fn (.func gf) lb, args := #[.func (.yield (w.heap.size + 1)) #[] #[]] }, (w.alloc (.deferred (some []))).alloc (.loop (rc .ready none)), gf,
    #[.func (.yield (w.heap.size + 1)) #[] #[]] ++ lb, (w.alloc (.deferred (some []))).alloc (.loop (rc .ready none)), ?_, ?_, ?_, ?_, fun _ => h1, ?_⟩
  · rw [hrc]
    exact run_enterLoop_outer _ _ _ _ _
  · simp only [resolve, hg]
    simp [go_sem]
  · intro f' hf'
    simp [Target.leads] at hf'
    subst hf'
    exact hFg
  · simp [invoke, go_sem, eg]
  · refine (hseq (rc .ready none) _ _ rfl rfl ?_ ⟨h0 _, hA, hB⟩).mono ?_
    · rintro pre x W ⟨hi, hl, hd⟩ hadm
      have hlt := (Array.getElem?_eq_some_iff.1 hl).1
      have hy := run_yield (P := P) (args := vals x) hl (by rw [hrc]; exact hps x)
      rw [hrc] at hy
      refine ⟨fn, _, assign, body, hy, roundIn_of_wpIn hfn (hassign _ x W _ ?_)⟩
      refine ⟨_, run_beginRound hl (by rw [hrc]), ?_⟩
      have hl2 : (W.putObj (w.heap.size + 1) (.loop { rc .ready none with state := .busy })).heap[w.heap.size + 1]? = some (.loop { rc .ready none with state := .busy }) := World.putObj_heap_same hlt
      have hd2 : (W.putObj (w.heap.size + 1) (.loop { rc .ready none with state := .busy })).heap[w.heap.size]? = some (.deferred (some [])) := (World.putObj_heap_other (by omega)).trans hd
      have hk2 : Kp W (W.putObj (w.heap.size + 1) (.loop { rc .ready none with state := .busy })) := hKb _ _ hlt
      refine wpIn_mono (hbody pre x _ ⟨_, hl2⟩ (hIp _ _ _ hlt hi) (hAp _ _ _ _ hadm)) ?_
      have fin : ∀ (jump : Option Code) (W3 : World), Kept2 w.heap.size (W.putObj (w.heap.size + 1) (.loop { rc .ready none with state := .busy })) W3 →
          (Instr.endRound (w.heap.size + 1) jump).run P W3 = .ok (.bool jump.isNone) (W3.putObj (w.heap.size + 1) (.loop (rc (if jump.isNone then .ready else .done) jump))) ∧
          w.heap.size + 1 < W3.heap.size ∧
          (W3.putObj (w.heap.size + 1) (.loop (rc (if jump.isNone then .ready else .done) jump))).heap[w.heap.size + 1]? = some (.loop (rc (if jump.isNone then .ready else .done) jump)) ∧
          (W3.putObj (w.heap.size + 1) (.loop (rc (if jump.isNone then .ready else .done) jump))).heap[w.heap.size]? = some (.deferred (some [])) := fun jump W3 hk3 => by
        have hl3 := hk3.2.trans hl2
        have := run_endRound (P := P) jump hl3
        rw [hrc] at this ⊢
        exact ⟨this, (Array.getElem?_eq_some_iff.1 hl3).1, World.putObj_heap_same (Array.getElem?_eq_some_iff.1 hl3).1, (World.putObj_heap_other (by omega)).trans (hk3.1.trans hd2)⟩
      rintro e a3 W3 hp
      cases e with
      | normal =>
        obtain ⟨hk3, hkp3, hi3⟩ := hp
        obtain ⟨hr, hl3, hl4, hd4⟩ := fin none W3 hk3
        exact ⟨_, _, hr, .inl ⟨rfl, ⟨hIp _ _ _ hl3 hi3, hl4, hd4⟩, hKt (hKt hk2 hkp3) (hKb _ _ hl3)⟩⟩
      | ret =>
        obtain ⟨hk3, hkp3, hi3⟩ := hp
        obtain ⟨hr, hl3, hl4, hd4⟩ := fin (some .ret) W3 hk3
        refine ⟨_, _, hr, .inr ⟨rfl, ⟨.ret, hIxp _ _ _ _ hl3 hi3, ?_, hd4⟩, hKt (hKt hk2 hkp3) (hKb _ _ hl3)⟩⟩
        rw [hl4, hrc]
        rfl
      | exit id =>
        obtain ⟨hk3, hkp3, hi3⟩ := hp
        obtain ⟨hr, hl3, hl4, hd4⟩ := fin (some (.exit id)) W3 hk3
        refine ⟨_, _, hr, .inr ⟨rfl, ⟨.exit id, hIxp _ _ _ _ hl3 hi3, ?_, hd4⟩, hKt (hKt hk2 hkp3) (hKb _ _ hl3)⟩⟩
        rw [hl4, hrc]
        rfl
      | goto t => exact hp.elim
      | panic ch => exact hp.elim
      | outgrown => exact hp.elim
    · rintro e W2 ⟨⟨v, rfl⟩, (⟨xs, hS, hi, hl, hd⟩ | ⟨pre, hSp, c, hi, hl, hd⟩)⟩
      · have hlt := (Array.getElem?_eq_some_iff.1 hl).1
        have hend := run_endLoop (P := P) hl (by rw [hrc]; simp)
        rw [hrc] at hend
        exact ⟨none, _, hend, hdone xs _ hS (hIp _ _ _ hlt hi) (by simp [World.putObj]; omega) ((World.putObj_heap_other (by omega)).trans hd)⟩
      · have hlt := (Array.getElem?_eq_some_iff.1 hl).1
        have hend := run_endLoop (P := P) hl (by simp)
        exact ⟨some c, _, hend, hstop c pre _ hSp (hIxp _ _ _ _ hlt hi) (by simp [World.putObj]; omega) ((World.putObj_heap_other (by omega)).trans hd)⟩
end
end Go.Nau

/- A range over a function whose iterator keeps a state in a block of its own: no round leaves early. Of no program. -/
import Derived.ProofKit
import Derived.RangeFuncNested
import Derived.Test.YtliioeihbbhiiaaDoorF
namespace Go.Nau
open Go.RowKit

/-- The two blocks that the statement itself has laid: the loop's record, the rounds' deferred calls. -/
def Book (B : Nat) (r : Loop) (W : World) : Prop := W.heap[B + 1]? = some (.loop r) ∧ W.heap[B]? = some (.deferred (some []))

/-- How the body of a round may be left: off its end alone. -/
def onlyEnd (B : Nat) (I : World → Prop) (W : World) : Exit → Act → World → Prop
  | .normal, _, W' => KeepsFrom B W W' ∧ I W'
  | _, _, _ => False

section
variable {F : Fence} {n : Nat} {P : Program}

theorem rangeFunc_all {g : Operand} {ps : Array Tmp} {assign body : Code} {Q : Exit → Act → World → Prop} {a : Act} {w : World}
    (hro : F.round = none) (h1 : 1 ≤ n) {gf : Nat} {lb : Array Value} (hg : a.eval g = .func (.func gf) #[] lb) (hFg : F.fn gf) (eg : ∀ args w, (callFunc gf args).run P w = .ok (.enter gf args) w)
    (N : Nat) (vals : Nat → Array Value) (hps : ∀ k, (vals k).size = ps.size) (I Mid : Nat → World → Prop) (a₁ : Nat → Act)
    (hIa : ∀ W o, I 0 W → I 0 (W.alloc o)) (h0 : I 0 w)
    (hIp : ∀ k W l o o', I k W → w.heap.size ≤ l → W.heap[l]? = some o → o.isCells = false → I k (W.putObj l o'))
    (hMp : ∀ k W l o o', Mid k W → w.heap.size ≤ l → W.heap[l]? = some o → o.isCells = false → Mid k (W.putObj l o'))
    (hseq : ∀ (l : Nat) (r : Loop) (W : World), (∀ k W1, k < N → Mid k W1 → Book w.heap.size r W1 → YieldAt F (n - 1 - 1) P l (vals k) W1 fun e W' => e = .returned (.bool true) ∧ I (k + 1) W' ∧ Book w.heap.size r W') → I 0 W → Book w.heap.size r W →
      CallsIn F (n - 1) P gf (#[.func (.yield l) #[] #[]] ++ lb) W fun e W' => (∃ v, e = .returned v) ∧ I N W' ∧ Book w.heap.size r W')
    (hassign : ∀ (l k : Nat) (W : World) (K : Act → World → Prop), K (a₁ k) W →
      assign.wpIn (F.inRound l) (n - 1 - 1) P (Exit.then K (fun _ _ _ => False)) { tmps := (ps.zip (vals k)).foldl (fun t (p, v) => t.setIfInBounds p v) a.tmps, defers := [] } W)
    (hbody : ∀ (l k : Nat) (W : World), k < N → Mid k W → w.heap.size ≤ l → body.wpIn (F.inRound l) (n - 1 - 1) P (onlyEnd w.heap.size (I (k + 1)) W) (a₁ k) W)
    (hdone : ∀ (D : Nat) (W : World), w.heap.size ≤ D → I N W → W.heap[D]? = some (.deferred (some [])) → Q .normal { a with defers := { target := .collected D, args := #[] } :: a.defers } W) :
    (Code.rangeFunc g ps assign body).wpIn F n P Q a w := by
  refine wpIn_rangeFunc fun fn hfn => ?_
  rw [hro]
  obtain ⟨rc, hrc⟩ : ∃ rc : LoopState → Loop, rc = fun st => { state := st, pending := none, fn, tmps := a.tmps, params := ps, assign, body, defers := w.heap.size } := ⟨_, rfl⟩
  have hA : ((w.alloc (.deferred (some []))).alloc (.loop (rc .ready))).heap[w.heap.size + 1]? = some (.loop (rc .ready)) := by
    have := World.alloc_heap_new (w.alloc (.deferred (some []))) (.loop (rc .ready))
    rwa [World.size_alloc] at this
  have hB : ((w.alloc (.deferred (some []))).alloc (.loop (rc .ready))).heap[w.heap.size]? = some (.deferred (some [])) :=
    (Below.heap_alloc _ _ _ (by simp)).trans (World.alloc_heap_new w _)
  have hI0 := hIa _ (.loop (rc .ready)) (hIa _ (.deferred (some [])) h0)
  refine ⟨w.heap.size + 1, [{ target := .collected w.heap.size, args := #[] }], (w.alloc (.deferred (some []))).alloc (.loop (rc .ready)), { target := .fn (.func gf) lb, args := #[.func (.yield (w.heap.size + 1)) #[] #[]] }, (w.alloc (.deferred (some []))).alloc (.loop (rc .ready)), gf,
    #[.func (.yield (w.heap.size + 1)) #[] #[]] ++ lb, (w.alloc (.deferred (some []))).alloc (.loop (rc .ready)), ?_, ?_, ?_, ?_, fun _ => h1, ?_⟩
  · rw [hrc]
    exact run_enterLoop_outer _ _ _ _ _
  · simp only [resolve, hg]
    simp [go_sem]
  · intro f' hf'
    simp [Target.leads] at hf'
    subst hf'
    exact hFg
  · simp [invoke, go_sem, eg]
  · refine (hseq (w.heap.size + 1) (rc .ready) _ ?_ hI0 ⟨hA, hB⟩).mono ?_
    · rintro k W hk hM ⟨hl, hd⟩
      have hlt := (Array.getElem?_eq_some_iff.1 hl).1
      have hy := run_yield (P := P) (args := vals k) hl (by rw [hrc]; exact hps k)
      rw [hrc] at hy
      refine ⟨fn, _, assign, body, hy, roundIn_of_wpIn hfn (hassign _ k W _ ?_)⟩
      refine ⟨_, run_beginRound hl (by rw [hrc]), ?_⟩
      have hl2 : (W.putObj (w.heap.size + 1) (.loop { rc .ready with state := .busy })).heap[w.heap.size + 1]? = some (.loop { rc .ready with state := .busy }) := World.putObj_heap_same hlt
      have hd2 : (W.putObj (w.heap.size + 1) (.loop { rc .ready with state := .busy })).heap[w.heap.size]? = some (.deferred (some [])) := (World.putObj_heap_other (by omega)).trans hd
      refine wpIn_mono (hbody _ k _ hk (hMp k W _ _ _ hM (by omega) hl rfl) (by omega)) ?_
      rintro e a3 W3 hp
      cases e with
      | normal =>
        obtain ⟨hk3, hi3⟩ := hp
        have hl3 := hk3.same _ _ (by omega) hl2 rfl
        have hd3 := hk3.same _ _ (Nat.le_refl _) hd2 rfl
        have hend := run_endRound (P := P) none hl3
        refine ⟨_, _, hend, rfl, hIp _ _ _ _ _ hi3 (by omega) hl3 rfl, ?_, (World.putObj_heap_other (by omega)).trans hd3⟩
        rw [World.putObj_heap_same (Array.getElem?_eq_some_iff.1 hl3).1, hrc]
        rfl
      | _ => exact hp.elim
    · rintro e W2 ⟨⟨v, rfl⟩, hi, hl, hd⟩
      have hend := run_endLoop (P := P) hl (by rw [hrc]; simp)
      rw [hrc] at hend
      exact ⟨none, _, hend, hdone _ _ (Nat.le_refl _) (hIp _ _ _ _ _ hi (by omega) hl rfl) ((World.putObj_heap_other (by omega)).trans hd)⟩
end
end Go.Nau

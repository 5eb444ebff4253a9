/- Rows of the call's own: copied over, indexed, stored into. Of no program. -/
import Derived.Test.YtliioeihbbhiiaaDoorF
import Derived.Laws.CopyOwn
import Derived.Lib.Hide
namespace Go.Nau
open Go.RowKit

/-- A row of the call's own, taken apart. -/
theorem own_form {w : World} {base : Nat} {e : TypeId} {size n : Nat} {v : Value} {xs : List Value} (h : w.ownsRow base e size v n xs) (hn : 0 < n) :
    ∃ g cap cur, v = .slice (some ⟨g, 0, none⟩) n cap ∧ base ≤ g ∧ w.heap[g]? = some (.cells cur e (0, 0)) ∧ n ≤ cap ∧ cap ≤ maxLen ∧ cur.size = cap * size ∧ cur.toList.take (n * size) = xs := by
  obtain ⟨h1, h2⟩ := h
  rcases h2 with ⟨_, rfl⟩ | h2
  · omega
  · exact h2

section
variable {P : Program}
/-- 'copy(d, s)': d a row of the call's own, s whatever reads as so many cells. -/
theorem wpList_copy_full {w : World} {ops : Array Oper} {rest : List Oper} {o : Oper} {a : Act} {Q : Exit → Act → World → Prop} (hgd : o.guard = none) (d s : Operand) (dT sT : TypeId)
    (ho : o.op = .call { callee := .builtin .copy, args := #[d, s], argTypes := #[dT, sT] }) (elem : TypeId) (hu : P.underlying dT = some (.slice elem)) (hsz : (P.info? elem).map (·.size) = some 1)
    (g n cap : Nat) (base : Nat) (xs : List Value) (hn : 0 < n) (hd : a.eval d = .slice (some ⟨g, 0, none⟩) n cap) (hown : w.ownsRow base elem 1 (.slice (some ⟨g, 0, none⟩) n cap) n xs)
    (T : Nat → Prop) (A : Option Addr) (c : Nat) (ys : List Value) (hs : a.eval s = .slice A n c) (hr : Rd T w 1 A n ys) (h1 : ∀ v ∈ ys, v.oneCell' = true)
    (h : ∀ w', w'.ownsRow base elem 1 (.slice (some ⟨g, 0, none⟩) n cap) n ys → Fr (· = g) w w' → wpList P ops Q rest (a.put o.dst (goInt n)) w') : wpList P ops Q (o :: rest) a w := by
  obtain ⟨g', cap', cur, hv, hb, hg, hnc, hcm, hsz', htk⟩ := own_form hown hn
  simp only [Value.slice.injEq, Option.some.injEq, Addr.mk.injEq, and_true, true_and] at hv
  obtain ⟨rfl, rfl⟩ := hv
  obtain ⟨ad, rfl, _, hcell⟩ := hr.2 hn
  have hyl : ys.length = n := by have := hr.1; omega
  have e : goInt (ys.length) = goInt n := by rw [hyl]
  have hmin : ys.length = Nat.min n n := by rw [hyl]; exact (Nat.min_self n).symm
  refine wpList_copy_own hgd d s dT sT ho elem hu hsz g 0 n cap ad n c hd hs cur elem hg ys hmin hcell (by omega) h1 ?_
  rw [e]
  refine h _ ⟨by omega, .inr ⟨g, cap, _, rfl, hb, setRow_heap w g _ _ elem _ hg, hnc, hcm, ?_, ?_⟩⟩ ⟨rfl, rfl, rfl, ?_, fun k _ hk => setRow_other w g k _ hk⟩
  · simp; omega
  · simp [hyl]
  · have := setRow_heap w g cur (cur.toList.take 0 ++ (ys ++ cur.toList.drop (0 + ys.length))).toArray elem (0, 0) hg
    simp [World.setRow]
end

section
variable {P : Program}
/-- The same as one step of a region that draws its order. -/
theorem step_copy_full {ops : Array Oper} {o : Oper} {a : Act} {w : World} {K : Act → World → Prop} {Q : Exit → Act → World → Prop} {E : Prop} (hgd : o.guard = none) (d s : Operand) (dT sT : TypeId)
    (ho : o.op = .call { callee := .builtin .copy, args := #[d, s], argTypes := #[dT, sT] }) (elem : TypeId) (hu : P.underlying dT = some (.slice elem)) (hsz : (P.info? elem).map (·.size) = some 1)
    (g n cap : Nat) (base : Nat) (xs : List Value) (hn : 0 < n) (hd : a.eval d = .slice (some ⟨g, 0, none⟩) n cap) (hown : w.ownsRow base elem 1 (.slice (some ⟨g, 0, none⟩) n cap) n xs)
    (T : Nat → Prop) (A : Option Addr) (c : Nat) (ys : List Value) (hs : a.eval s = .slice A n c) (hr : Rd T w 1 A n ys) (h1 : ∀ v ∈ ys, v.oneCell' = true)
    (h : ∀ w', w'.ownsRow base elem 1 (.slice (some ⟨g, 0, none⟩) n cap) n ys → Fr (· = g) w w' → K (a.put o.dst (goInt n)) w') :
    if Region.wanted o (yielded ops a.tmps) = true then Oper.wp P o a w K Q else E := by
  have hw : Region.wanted o (yielded ops a.tmps) = true := by simp [Region.wanted, hgd]
  rw [if_pos hw]
  obtain ⟨g', cap', cur, hv, hb, hg, hnc, hcm, hsz', htk⟩ := own_form hown hn
  simp only [Value.slice.injEq, Option.some.injEq, Addr.mk.injEq, and_true, true_and] at hv
  obtain ⟨rfl, rfl⟩ := hv
  obtain ⟨ad, rfl, _, hcell⟩ := hr.2 hn
  have hyl : ys.length = n := by have := hr.1; omega
  have hmin : ys.length = Nat.min n n := by rw [hyl]; exact (Nat.min_self n).symm
  have hrun := run_copy_row (P := P) w dT sT o.type elem g 0 n cap ad n c cur elem ys hu hsz hg hmin hcell (by omega) h1
  unfold Oper.wp
  simp only [execOp, ho, resolve, invoke, builtin]
  simp [hd, hs, hrun, Result.andThen]
  have key := h (w.setRow g (cur.toList.take 0 ++ (ys ++ cur.toList.drop (0 + ys.length))).toArray) ⟨by omega, .inr ⟨g, cap, _, rfl, hb, setRow_heap w g _ _ elem _ hg, hnc, hcm, by simp; omega, by simp [hyl]⟩⟩ ⟨rfl, rfl, rfl, by simp [World.setRow], fun k _ hk => setRow_other w g k _ hk⟩
  simpa [hyl, Oper.upon] using key
end

/-- A cell of a row of the call's own. -/
theorem own_at {w : World} {base : Nat} {e : TypeId} {g n cap : Nat} {xs : List Value} (h : w.ownsRow base e 1 (.slice (some ⟨g, 0, none⟩) n cap) n xs) {j : Nat} {u : Value} (hu : xs[j]? = some u) :
    w.cell? ⟨g, j, none⟩ = some u ∧ w.frozen? ⟨g, j, none⟩ = false := by
  have hl := h.1
  have hj : j < xs.length := (List.getElem?_eq_some_iff.1 hu).1
  refine ⟨?_, h.frozenAt j⟩
  rw [h.cellAt j (by omega)]
  exact hu
/-- Rows of one element type never lie in a block of another one. -/
theorem own_ne {w : World} {base : Nat} {e : TypeId} {size n : Nat} {v : Value} {xs : List Value} {g : Nat} {t : TypeId} {cs : Array Value} {fr : Nat × Nat} (h : w.ownsRow base e size v n xs) (hg : w.heap[g]? = some (.cells cs t fr)) (hne : e ≠ t) :
    ∀ k, v.ownBlock = some k → k ≠ g := by
  intro k hk e1
  subst e1
  rcases h.2 with ⟨rfl, _⟩ | ⟨g', cap, cur, rfl, _, hh, _⟩
  · simp [Value.ownBlock] at hk
  · have : g' = k := by simpa [Value.ownBlock] using hk
    subst this
    rw [hg] at hh
    injection hh with hh
    injection hh with _ h2
    exact hne h2.symm
theorem own_own_ne {w : World} {base base' : Nat} {e e' : TypeId} {size size' n n' : Nat} {v v' : Value} {xs xs' : List Value} (h : w.ownsRow base e size v n xs) (h' : w.ownsRow base' e' size' v' n' xs') (hne : e ≠ e') :
    ∀ k, v.ownBlock = some k → v'.ownBlock ≠ some k := by
  intro k hk hk'
  rcases h'.2 with ⟨rfl, _⟩ | ⟨g', cap, cur, rfl, _, hh, _⟩
  · simp [Value.ownBlock] at hk'
  · have : g' = k := by simpa [Value.ownBlock] using hk'
    subst this
    exact own_ne h hh hne g' hk rfl
/-- A store into a row of the call's own. -/
theorem own_set {w : World} {base : Nat} {e : TypeId} {g n cap : Nat} {xs : List Value} (h : w.ownsRow base e 1 (.slice (some ⟨g, 0, none⟩) n cap) n xs) (j : Nat) (u : Value) :
    (w.setCell ⟨g, j, none⟩ u).ownsRow base e 1 (.slice (some ⟨g, 0, none⟩) n cap) n (xs.set j u) := by
  obtain ⟨h1, h2⟩ := h
  refine ⟨by rw [List.length_set]; exact h1, ?_⟩
  rcases h2 with ⟨h2, _⟩ | ⟨g', cap', cur, hv, hg, hh, hn, hc, hs, ht⟩
  · cases h2
  · simp only [Value.slice.injEq, Option.some.injEq, Addr.mk.injEq, and_true, true_and] at hv
    obtain ⟨rfl, rfl⟩ := hv
    refine .inr ⟨g, cap, cur.setIfInBounds j u, rfl, hg, ?_, hn, hc, by simpa using hs, ?_⟩
    · simp [World.setCell, Array.getElem?_modify, hh]
    · rw [Array.toList_setIfInBounds, List.take_set, ht]
end Go.Nau

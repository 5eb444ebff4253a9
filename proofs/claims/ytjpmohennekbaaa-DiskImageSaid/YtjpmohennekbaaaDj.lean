/- The reference disk: off, CutAt, Read, and Same: contracts over the given program. -/
import Derived.Test.YtjpmohennekbaaaDi
import Derived.StillTailTactics
namespace Go.Proofs.Ytjpmohennekbaaa
open Go.RowKit Go.Nau Go.Shelf
attribute [local go_sem] Oper.semAt_some

def rcells (n bb bc : Nat) (L : Value) (ops : Nat) (cut : Int) (gone : Bool) : Array Value :=
  #[.slice (some ⟨bb, 0, none⟩) n bc, L, .int .i64 ops, .int .i64 cut, .bool gone]

/-- A reference disk lies at block r; G: its own blocks. -/
def RDsk (w : World) (G : Nat → Prop) (r : Nat) (s : DS) : Prop :=
  ∃ (bb bc : Nat) (L : Value), w.heap[r]? = some (.cells (rcells s.safe.length bb bc L s.ops s.cut s.gone) 57 (0, 0)) ∧
    w.ownsRow 0 9 1 (.slice (some ⟨bb, 0, none⟩) s.safe.length bc) s.safe.length (strs s.safe) ∧ w.ownsRow 0 122 2 L s.loose.length (wcells s.loose) ∧
    G r ∧ G bb ∧ (∀ k, L.ownBlock = some k → G k) ∧ 0 < s.safe.length

def RPost (w : World) (G : Nat → Prop) (r : Nat) (s : DS) (w' : World) : Prop :=
  ∃ G', RDsk w' G' r s ∧ (∀ k, G' k → G k ∨ (w.heap.size ≤ k ∧ k < w'.heap.size)) ∧ Fr G w w'

section
variable {w : World} {G : Nat → Prop} {r : Nat} {s : DS}
theorem RPost.trans {w1 w2 : World} {G1 : Nat → Prop} {s2 : DS} (hF : ∀ k, G1 k → G k ∨ (w.heap.size ≤ k ∧ k < w1.heap.size)) (hf : Fr G w w1) (h : RPost w1 G1 r s2 w2) : RPost w G r s2 w2 := by
  obtain ⟨F', h1, h2, h3⟩ := h
  refine ⟨F', h1, fun k hk => ?_, hf.after h3 (fun k hk hs => ?_)⟩
  · rcases h2 k hk with h | h
    · rcases hF k h with h | h
      · exact .inl h
      · exact .inr ⟨h.1, Nat.lt_of_lt_of_le h.2 h3.size⟩
    · exact .inr ⟨Nat.le_trans hf.size h.1, h.2⟩
  · rcases hF k hs with h | h
    · exact h
    · omega
theorem RDsk.kept {w' : World} {S : Nat → Prop} (h : RDsk w G r s) (hf : Fr S w w') (hs : ∀ k, G k → ¬ S k) : RDsk w' G r s := by
  obtain ⟨bb, bc, L, h1, h2, h3, g1, g2, g3, h4⟩ := h
  exact ⟨bb, bc, L, hf.get (hs _ g1) h1, Fr.own h2 hf (fun k hk => by have e : bb = k := (by simpa [Value.ownBlock] using hk); subst e; exact hs _ g2), Fr.own h3 hf (fun k hk => hs _ (g3 k hk)), g1, g2, g3, h4⟩
theorem RDsk.monoF {G' : Nat → Prop} (h : RDsk w G r s) (hF : ∀ k, k < w.heap.size → G k → G' k) : RDsk w G' r s := by
  obtain ⟨bb, bc, L, h1, h2, h3, f1, f2, f3, h4⟩ := h
  exact ⟨bb, bc, L, h1, h2, h3, hF _ (Array.getElem?_eq_some_iff.1 h1).1 f1, hF _ (h2.lt bb rfl).2 f2, fun k hk => hF _ (h3.lt k hk).2 (f3 k hk), h4⟩
theorem RDsk.turned {w' : World} {s' : DS} (h : RDsk w G r s) (hf : Fr (· = r) w w') (h1 : s'.safe = s.safe) (h3 : s'.loose = s.loose)
    (hc : ∀ bb bc L, w.heap[r]? = some (.cells (rcells s.safe.length bb bc L s.ops s.cut s.gone) 57 (0, 0)) → w'.heap[r]? = some (.cells (rcells s.safe.length bb bc L s'.ops s'.cut s'.gone) 57 (0, 0))) : RPost w G r s' w' := by
  obtain ⟨bb, bc, L, hd, o1, o2, f0, f1, f2, h4⟩ := h
  have hx := hc bb bc L hd
  refine ⟨G, ⟨bb, bc, L, ?_, ?_, ?_, f0, f1, f2, ?_⟩, fun k hk => .inl hk, hf.mono (fun k hk => by subst hk; exact f0)⟩
  · rw [h1]; exact hx
  · rw [h1]; exact Fr.own o1 hf (fun k hk => own_ne o1 hd (by decide) k hk)
  · rw [h3]; exact Fr.own o2 hf (fun k hk => own_ne o2 hd (by decide) k hk)
  · rw [h1]; exact h4

set_option maxHeartbeats 400000 in
theorem rcutat_dsk (h : RDsk w G r s) (c : Int) : Calls Try.prog 58 #[.pointer (some ⟨r, 0, none⟩), .int .i64 c] w fun e w' => e = .returned (.tuple #[]) ∧ RPost w G r { s with cut := c, gone := false } w' := by
  have h0 := h
  obtain ⟨bb, bc, L, hd, _⟩ := h
  have c3 := blk_cell hd 3
  have c4 := blk_cell hd 4
  have z3 := blk_frozen hd 3
  have z4 := blk_frozen hd 4
  simp [rcells] at c3 c4
  go_enter Try.func58, Try.ntmps58
  go_wp2
  go_end0
  refine ⟨rfl, h0.turned ((Fr.set1 _ _ _ _).trans (Fr.set1 _ _ _ _)) rfl rfl (fun bb bc L hd => ?_)⟩
  rw [blk_set (blk_set hd 3 _) 4 _]
  rfl

set_option maxHeartbeats 1000000 in
set_option maxRecDepth 100000 in
theorem roff_dsk (h : RDsk w G r s) : Calls Try.prog 83 #[.pointer (some ⟨r, 0, none⟩)] w fun e w' => e = .returned (.bool (offB s)) ∧ RPost w G r { s with gone := offB s } w' := by
  have h0 := h
  obtain ⟨bb, bc, L, hd, _⟩ := h
  have c2 := blk_cell hd 2
  have c3 := blk_cell hd 3
  have c4 := blk_cell hd 4
  have z4 := blk_frozen hd 4
  simp [rcells] at c2 c3 c4
  have fin : ∀ q, RPost w G r { s with gone := offB s } ((w.drewN q).setCell ⟨r, 4, none⟩ (.bool (offB s))) := fun q =>
    h0.turned ((Fr.drewN _ _ q).trans (Fr.set1 _ _ _ _)) rfl rfl (fun bb bc L hd => by
      rw [blk_set (w := w.drewN q) hd 4 _]
      rfl)
  have FI := Lib.hid fin
  have ho : offB s = (s.gone || (decide (0 ≤ s.cut) && decide (s.cut ≤ s.ops))) := rfl
  clear fin h0
  generalize offB s = o at *
  by_cases g0 : s.gone = true
  · rw [g0] at c4 ho
    obtain rfl : o = true := by simpa using ho
    clear ho
    go_enter Try.func83, Try.ntmps83
    go_wp2_with fail
    refine wpIn_wide.1 (wpIn_region_last_lit (F := Fence.wide) (n := 1) (by simp) (by kernel_rfl) rfl (by kernel_rfl) (by kernel_rfl) ?_)
    dsimp only [List.dropLast, List.getLast]
    repeat (gi_big_quiet_step (fail))
    refine wpQuietIn_nil ?_
    rintro w' ⟨nq, rfl⟩
    go_simp
    go_wp2_with fail
    go_ret
    exact ⟨rfl, FI.out nq⟩
  · have g0' : s.gone = false := by simpa using g0
    rw [g0'] at c4 ho
    by_cases g1 : 0 ≤ s.cut
    · by_cases g2 : s.cut ≤ s.ops
      · obtain rfl : o = true := by simpa [g1, g2] using ho
        clear ho
        go_enter Try.func83, Try.ntmps83
        go_wp2_with fail
        refine wpIn_wide.1 (wpIn_region_last_lit (F := Fence.wide) (n := 1) (by simp) (by kernel_rfl) rfl (by kernel_rfl) (by kernel_rfl) ?_)
        dsimp only [List.dropLast, List.getLast]
        repeat (gi_big_quiet_step (fail))
        refine wpQuietIn_nil ?_
        rintro w' ⟨nq, rfl⟩
        go_simp
        go_wp2_with fail
        go_ret
        exact ⟨rfl, FI.out nq⟩
      · obtain rfl : o = false := by simpa [g1, g2] using ho
        have g2' : decide (s.cut ≤ (s.ops : Int)) = false := by simpa using g2
        clear ho
        go_enter Try.func83, Try.ntmps83
        go_wp2_with fail
        refine wpIn_wide.1 (wpIn_region_last_lit (F := Fence.wide) (n := 1) (by simp) (by kernel_rfl) rfl (by kernel_rfl) (by kernel_rfl) ?_)
        dsimp only [List.dropLast, List.getLast]
        repeat (gi_big_quiet_step (fail))
        refine wpQuietIn_nil ?_
        rintro w' ⟨nq, rfl⟩
        go_simp
        go_wp2_with fail
        go_ret
        exact ⟨rfl, FI.out nq⟩
    · obtain rfl : o = false := by simpa [g1] using ho
      have g1' : decide (0 ≤ s.cut) = false := by simpa using g1
      clear ho
      go_enter Try.func83, Try.ntmps83
      go_wp2_with fail
      refine wpIn_wide.1 (wpIn_region_last_lit (F := Fence.wide) (n := 1) (by simp) (by kernel_rfl) rfl (by kernel_rfl) (by kernel_rfl) ?_)
      dsimp only [List.dropLast, List.getLast]
      repeat (gi_big_quiet_step (fail))
      refine wpQuietIn_nil ?_
      rintro w' ⟨nq, rfl⟩
      go_simp
      go_wp2_with fail
      go_ret
      exact ⟨rfl, FI.out nq⟩
end
end Go.Proofs.Ytjpmohennekbaaa

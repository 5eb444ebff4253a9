/- The laws' first record; record.Decode: contracts over the given program. -/
import Derived.Test.YtjpmohennekbaaaRi
namespace Go.Proofs.Ytjpmohennekbaaa
open Go.RowKit Go.Nau Go.Shelf
attribute [local go_sem] Oper.semAt_some

def firstR : Rec := ⟨1, 1, false, false, 2, [⟨1, 3, 0, 5⟩]⟩

/-- A record's box, read whole. -/
theorem load_rec (a : Nat) (w : World) (v0 v1 v2 v3 v4 v5 : Value) (h : w.heap[a]? = some (.cells #[v0, v1, v2, v3, v4, v5] 63 (0, 0))) :
    (loadVar 63 ⟨a, 0, none⟩).run Try.prog w = .ok (.agg #[v0, v1, v2, v3, v4, v5]) w := by
  have q0 := blk_cell h 0
  have q1 := blk_cell h 1
  have q2 := blk_cell h 2
  have q3 := blk_cell h 3
  have q4 := blk_cell h 4
  have q5 := blk_cell h 5
  simp at q0 q1 q2 q3 q4 q5
  simp [loadVar, Try.isAgg63, Try.sizeOf63, go_sem, loadCells, q0, q1, q2, q3, q4, q5]
theorem res_rec {fn : Func} {c : Tmp} (h : fn.results = #[.cell c 63]) (tmps : Array Value) (w : World) {a : Nat} {v : Value} (ha : tmps.getD c undef = .pointer (some ⟨a, 0, none⟩))
    (hl : (loadVar 63 ⟨a, 0, none⟩).run Try.prog w = .ok v w) : (results fn tmps).run Try.prog w = .ok v w := by
  rw [Array.getD_eq_getD_getElem?] at ha
  simp [results, h, ha, asAddr, hl]
theorem res_rec2 {fn : Func} {c u : Tmp} (h : fn.results = #[.cell c 63, .tmp u]) (tmps : Array Value) (w : World) {a : Nat} {v : Value} (ha : tmps.getD c undef = .pointer (some ⟨a, 0, none⟩))
    (hl : (loadVar 63 ⟨a, 0, none⟩).run Try.prog w = .ok v w) : (results fn tmps).run Try.prog w = .ok (.tuple #[v, tmps.getD u undef]) w := by
  rw [Array.getD_eq_getD_getElem?] at ha
  simp [results, h, ha, asAddr, hl]

theorem first_any (w : World) : Calls Try.prog 63 #[] w fun e w' => ∃ g, e = .returned (recV firstR (some ⟨g, 0, none⟩) 1) ∧ w.heap.size ≤ g ∧ Rd (fun k => w.heap.size ≤ k ∧ k < w'.heap.size) w' 4 (some ⟨g, 0, none⟩) 1 (entC firstR.l) ∧ Below w.heap.size w w' := by
  go_enter Try.func63, Try.ntmps63
  go_wp2
  try go_step3
  go_wp2
  refine bodyPost_ret (res_rec rfl _ _ rfl (load_rec w.heap.size _ (.int .u64 1) (.int .u64 1) (.bool false) (.bool false) (.int .i64 2) (.slice (some ⟨w.heap.size + 1, 0, none⟩) 1 1) ((Fr.alloc (Fr.refl (fun _ => False) _) _).get id (heap_alloc_new w _)))) rfl ?_
  refine ⟨w.heap.size + 1, rfl, by omega, ⟨rfl, fun _ => ⟨_, rfl, ⟨by simp, by simp⟩, fun j u hu => ?_⟩⟩, ((Below.refl _ w).alloc (Nat.le_refl _) _).alloc (by simp) _⟩
  have hn := heap_alloc_new (w.alloc (.cells #[.int .u64 1, .int .u64 1, .bool false, .bool false, .int .i64 2, .slice (some ⟨w.heap.size + 1, 0, none⟩) 1 1] 63)) (.cells #[.int .i64 1, .int .u32 3, .int .u32 0, .int .u32 5] 105)
  simp only [World.size_alloc] at hn
  have ha : (⟨w.heap.size + 1, 0, none⟩ : Addr).add j = ⟨w.heap.size + 1, j, none⟩ := by unfold Addr.add; split <;> simp_all
  rw [ha, cell_of_row _ (w.heap.size + 1) j _ _ _ hn]
  simpa [entC, entL, firstR] using hu
end Go.Proofs.Ytjpmohennekbaaa

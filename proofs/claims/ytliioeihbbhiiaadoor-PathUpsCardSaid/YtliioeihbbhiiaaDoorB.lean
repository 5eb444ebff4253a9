/- Blocks as they read; zero bytes; of whatever seat. -/
import Derived.Test.YtliioeihbbhiiaaDoorRows
import Derived.Test.YtliioeihbbhiiaaDoorG
import Derived.Test.YtliioeihbbhiiaaDoorQ
import Derived.Test.YtliioeihbbhiiaaDoorT
import Derived.Test.YtliioeihbbhiiaaDoorU
import Derived.Test.YtliioeihbbhiiaaDoorV
import Derived.Test.YtliioeihbbhiiaaDoorShelf
import Derived.WalkKit
import Derived.WalkSpells
import Derived.WalkLawsBesides
import Derived.Deep.LoopGhost
import Derived.Deep.RegionLaw
import Derived.Deep.QuietTactic
import Derived.BigQuiet
import Derived.IntWalk
import Derived.StillTailTactics
import Derived.RangeFuncNested
import Derived.RangeFuncBound
import Derived.RangeFuncCalls
import Derived.RangeFuncLeaves
import Derived.Shelf.Abstract
import Derived.Shelf.RegionOpen
import Derived.OwnWalkIn
import Derived.TacticsInMore
import Derived.LoopNIn
import Derived.LoopIn
import Derived.Lib.SlBytesRow
import Derived.Lib.BufferRead
import Derived.Lib.QuietBelow
namespace Go.Proofs.YtliioeihbbhiiaaDoor
open Go.RowKit Go.Nau Go.Shelf

theorem blk_cell {w : World} {d : Nat} {cs : Array Value} {t : TypeId} (h : w.heap[d]? = some (.cells cs t (0, 0))) (i : Nat) : w.cell? ⟨d, i, none⟩ = cs[i]? := cell_of_row w d i cs t (0, 0) h
theorem blk_frozen {w : World} {d : Nat} {cs : Array Value} {t : TypeId} (h : w.heap[d]? = some (.cells cs t (0, 0))) (i : Nat) : w.frozen? ⟨d, i, none⟩ = false := by simp [World.frozen?, h]
theorem blk_set {w : World} {d : Nat} {cs : Array Value} {t : TypeId} (h : w.heap[d]? = some (.cells cs t (0, 0))) (i : Nat) (u : Value) : (w.setCell ⟨d, i, none⟩ u).heap[d]? = some (.cells (cs.setIfInBounds i u) t (0, 0)) := by
  simp [World.setCell, Array.getElem?_modify, h]

theorem Fr.set1 (w : World) (d i : Nat) (u : Value) : Fr (· = d) w (w.setCell ⟨d, i, none⟩ u) := Fr.setCell (S := (· = d)) (p := ⟨d, i, none⟩) (Fr.refl _ _) (fun _ => rfl) _
theorem Fr.drewN (S : Nat → Prop) (w : World) (n : Nat) : Fr S w (w.drewN n) := Fr.new (below_drewN (Below.refl _ _) n) S

theorem infoB : (Tryd.prog.info? 5).map (fun i => (i.zero, i.size, i.bytes)) = some (some (.int .u8 0), 1, 1) := by kernel_rfl
def zeroN (n : Nat) : ByteArray := ⟨(List.replicate n 0).toArray⟩
theorem zeroN_size (n : Nat) : (zeroN n).size = n := by simp [zeroN, ByteArray.size]
theorem conv_zeroN (W : World) (b n : Nat) (h : W.heap[b]? = some (.cells (madeCells #[.int .u8 0] n) 5 (0, 0))) (c : Nat) : (convert 46 9 (.slice (some ⟨b, 0, none⟩) n c)).run Tryd.prog W = .ok (.string (zeroN n)) W := by
  have hB : Lib.Bytes W b 0 (zeroN n) := by
    intro i hi
    rw [zeroN_size] at hi
    rw [Nat.zero_add, cell_of_row W b i _ _ _ h]
    have e : ((zeroN n)[i]'(by rw [zeroN_size]; exact hi)) = 0 := by
      show (List.replicate n (0 : UInt8)).toArray[i]'_ = _
      simp
    rw [e]
    have : (madeCells #[Value.int .u8 0] n) = (List.replicate n (Value.int .u8 0)).toArray := by
      rw [← toList_madeCells_one]
    rw [this]
    simp [hi]
  have := Lib.run_convert_whole (P := Tryd.prog) W 46 5 9 Tryd.underlying46 Tryd.underlying5 Tryd.underlying9 b 0 (zeroN n) hB c
  rw [zeroN_size] at this
  exact this
theorem conv_made {W W' : World} {n : Nat} (h : W'.ownsRow W.heap.size 5 1 (.slice (some ⟨W.heap.size, 0, none⟩) n n) n (madeCells (Value.int .u8 0).cells (n * 1)).toList) :
    (convert 46 9 (.slice (some ⟨W.heap.size, 0, none⟩) n n)).run Tryd.prog W' = .ok (.string (zeroN n)) W' := by
  rcases h.2 with ⟨h0, _⟩ | ⟨g, cap, cur, hv, _, hh, _, _, hsz, ht⟩
  · cases h0
  · simp only [Value.slice.injEq, Option.some.injEq, Addr.mk.injEq, and_true, true_and] at hv
    obtain ⟨rfl, rfl⟩ := hv
    refine conv_zeroN W' _ n ?_ _
    rw [hh]
    congr 2
    rw [List.take_of_length_le (by simp; omega)] at ht
    have : cur = cur.toList.toArray := by simp
    rw [this, ht, Nat.mul_one]
    rfl
end Go.Proofs.YtliioeihbbhiiaaDoor

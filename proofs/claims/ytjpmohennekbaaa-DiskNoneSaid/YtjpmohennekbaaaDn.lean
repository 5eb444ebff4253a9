/- Of a nil disk there is nothing: the law DiskNone walked. -/
import Derived.Test.YtjpmohennekbaaaDh
namespace Go.Proofs.Ytjpmohennekbaaa
open Go.RowKit Go.Nau Go.Shelf
attribute [local go_sem] Oper.semAt_some

set_option maxHeartbeats 2000000 in
set_option maxRecDepth 100000 in
theorem disknone_any (a : Int) (s : ByteArray) (keep torn : Int) (w : World) :
    Calls Try.prog 7 #[.int .i64 a, .string s, .agg #[.int .u64 keep, .int .i64 torn]] w fun e w' => e = .returned (.bool true) ∧ Below w.heap.size w w' := by
  have hs := shown_any (w.alloc (.cells #[.int .u64 keep, .int .i64 torn] 37))
  have hbox := heap_alloc_new w (.cells #[.int .u64 keep, .int .i64 torn] 37)
  have HS := Lib.hid hs
  clear hs
  go_enter Try.func7, Try.ntmps7
  go_wp2_with fail
  try go_step3
  go_wp2_with fail
  refine HS.out.mono ?_
  rintro e w1 ⟨rfl, hb1⟩
  have hbx := (hb1.block w.heap.size (by simp)).trans hbox
  have k0 := blk_cell hbx 0
  have k1 := blk_cell hbx 1
  simp at k0 k1
  clear hbx hbox
  go_wp2_with fail
  refine (read_nil a w1).mono ?_
  rintro e w2 ⟨rfl, rfl⟩
  go_wp2_with fail
  refine (cutat_nil a _).mono ?_
  rintro e w2 ⟨rfl, rfl⟩
  go_wp2_with fail
  refine (write_nil a s _).mono ?_
  rintro e w2 ⟨rfl, rfl⟩
  go_wp2_with fail
  refine (flush_nil _).mono ?_
  rintro e w2 ⟨rfl, rfl⟩
  go_wp2_with fail
  refine (blocks_nil _).mono ?_
  rintro e w2 ⟨rfl, rfl⟩
  go_wp2_with fail
  refine (ops_nil _).mono ?_
  rintro e w2 ⟨rfl, rfl⟩
  go_wp2_with fail
  refine (loose_nil _).mono ?_
  rintro e w2 ⟨rfl, rfl⟩
  go_wp2_with fail
  refine (crash_nil keep torn _).mono ?_
  rintro e w2 ⟨rfl, hb2⟩
  go_wp2_with fail
  refine (image_nil _).mono ?_
  rintro e w3 ⟨rfl, rfl⟩
  go_wp2_with fail
  go_ret
  exact ⟨rfl, (((Below.refl _ w).alloc (Nat.le_refl _) _).trans (hb1.mono (by simp))).trans (hb2.mono (by have := hb1.size; simp at this; omega))⟩
end Go.Proofs.Ytjpmohennekbaaa

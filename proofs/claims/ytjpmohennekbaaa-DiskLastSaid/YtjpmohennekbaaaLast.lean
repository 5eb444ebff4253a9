/- The law DiskLast answers true for every script, two places and fate: what was written last is read, other blocks stay, and a crash leaves the disk itself as it is. Conditions: none beyond those of the given statement. -/
import Derived.Test.YtjpmohennekbaaaRows
import Derived.Test.YtjpmohennekbaaaDv
import Derived.Test.YtjpmohennekbaaaP
import Derived.Test.YtjpmohennekbaaaR
import Derived.Test.YtjpmohennekbaaaO
import Derived.ProofKit
namespace Go.Proofs.Ytjpmohennekbaaa
open Go.ChangeShapes Go.WideShapes Go.ChangeAt Go.RowKit Go.Nau

namespace OfDiskLast
theorem own : ownKnob Try.prog.godebug = none := by kernel_rfl
theorem laidOut : laidOutB Try.prog = true := by kernel_rfl

set_option maxRecDepth 100000 in
theorem lifted (os : Os) (started : os.Started) (H : Type) (enc : TypeId × Value → H) :
    ReturnsInHanded {} Try.checked os 4 .any (Rows.diskLastSpec.pre6 enc Try.prog Try.f4 Rows.diskLastRow.domain false) (Rows.diskLastSpec.post enc Try.prog Try.f4 false true false false) := by
  refine returnsInHanded_of_change (C := Try.checked) own started (by kernel_rfl) Try.func4
    (ChangeSpec.witness6 (enc := enc) (C := Try.checked) false ⟨#[], #[.slice none 0 0, .int .i64 0, .int .i64 0, .agg #[.int .u64 0, .int .i64 0]], []⟩ 8 (by kernel_rfl) (by kernel_rfl) (by kernel_rfl) (by kernel_rfl)) ?_
  intro W base args ds gs before hval0 hW hcnd _
  have hval : ∀ (j : Nat) t v, Try.f4.params[j]? = some t → args[j]? = some v → Value.okWide Try.prog W .any base t v := hval0
  have hW' := hW
  obtain ⟨p, q, hA0, hV, rfl, hfz, hnd⟩ := hW
  have hA : DataW.TrodAll enc Try.prog W 0 (fun _ => true) true Try.f4.params.toList args.toList ds p := hA0
  rw [Try.params4] at hA hval
  obtain ⟨v0, v1, v2, v3, d0, d1, d2, d3, p0, p1, p2, p3, rfl, rfl, rfl, h0, h1, h2, h3⟩ := trodAll_four hA
  obtain ⟨rfl, rfl⟩ := trodVars_none hV
  obtain ⟨A0, n0, c0, x0, rfl, hn0, hc0, hl0, hr0, hz0, wf0⟩ := opn_ops Try.underlying34 Try.underlying42 rfl Try.underlying37 (by kernel_rfl) rfl (by kernel_rfl) Try.underlying3 Try.underlying3 Try.underlying3 Try.underlying5 Try.underlying35 Try.underlying3 (hval 0 34 v0 rfl rfl) h0
  obtain ⟨x1, rfl, _, _, wf1⟩ := open_int Try.underlying3 (hval 1 3 v1 rfl rfl) h1
  obtain ⟨x2, rfl, _, _, wf2⟩ := open_int Try.underlying3 (hval 2 3 v2 rfl rfl) h2
  obtain ⟨x3, y3, rfl, wf3, wg3⟩ := open_fate Try.underlying37 (by kernel_rfl) (by kernel_rfl) Try.underlying35 Try.underlying3 (hval 3 37 v3 rfl rfl) h3
  clear hA0 hval0
  refine Calls.mono (R := fun e W' => e = .returned (.bool true) ∧ Below W.heap.size W W') (disklast_any A0 n0 c0 x0 x1 x2 x3 y3 (wf_i64 wf1) (wf_i64 wf2) W hr0 hl0 (Nat.le_trans hn0 hc0) wf0) fun e W' ⟨he, hw⟩ => ?_
  subst he
  exact ⟨_, rfl, law_post (P := Try.prog) laidOut (by kernel_rfl) rfl Try.underlying4 rfl hW' rfl hw⟩
end OfDiskLast

theorem DiskLast_holds : Rows.DiskLastSaid :=
  OpenClaim.holds_of_wide 4 Try.f4 rfl rfl rfl rfl rfl rfl rfl ⟨rfl, rfl, rfl, rfl, rfl⟩ rfl rfl rfl rfl rfl (by kernel_rfl) Try.func4 (by kernel_rfl)
    (of_decide_eq_true (by kernel_rfl)) (by unfold Func.isWrapper; first | (rw [if_pos (by decide +kernel)]; kernel_rfl) | (rw [if_neg (by decide +kernel)]; exact ⟨rfl, rfl⟩))
    (fun os started H enc _ => OfDiskLast.lifted os started H enc)
end Go.Proofs.Ytjpmohennekbaaa

/- The law DiskStays answers true for every script and every fate: what was flushed stays whatever crashes, and with all that is loose kept nothing is lost. Conditions: none beyond those of the given statement. -/
import Derived.Test.YtjpmohennekbaaaRows
import Derived.Test.YtjpmohennekbaaaDu
import Derived.Test.YtjpmohennekbaaaP
import Derived.Test.YtjpmohennekbaaaR
import Derived.Test.YtjpmohennekbaaaO
import Derived.ProofKit
namespace Go.Proofs.Ytjpmohennekbaaa
open Go.ChangeShapes Go.WideShapes Go.ChangeAt Go.RowKit Go.Nau

namespace OfDiskStays
theorem own : ownKnob Try.prog.godebug = none := by kernel_rfl
theorem laidOut : laidOutB Try.prog = true := by kernel_rfl

set_option maxRecDepth 100000 in
theorem lifted (os : Os) (started : os.Started) (H : Type) (enc : TypeId × Value → H) :
    ReturnsInHanded {} Try.checked os 5 .any (Rows.diskStaysSpec.pre6 enc Try.prog Try.f5 Rows.diskStaysRow.domain false) (Rows.diskStaysSpec.post enc Try.prog Try.f5 false true false false) := by
  refine returnsInHanded_of_change (C := Try.checked) own started (by kernel_rfl) Try.func5
    (ChangeSpec.witness6 (enc := enc) (C := Try.checked) false ⟨#[], #[.slice none 0 0, .agg #[.int .u64 0, .int .i64 0]], []⟩ 8 (by kernel_rfl) (by kernel_rfl) (by kernel_rfl) (by kernel_rfl)) ?_
  intro W base args ds gs before hval0 hW hcnd _
  have hval : ∀ (j : Nat) t v, Try.f5.params[j]? = some t → args[j]? = some v → Value.okWide Try.prog W .any base t v := hval0
  have hW' := hW
  obtain ⟨p, q, hA0, hV, rfl, hfz, hnd⟩ := hW
  have hA : DataW.TrodAll enc Try.prog W 0 (fun _ => true) true Try.f5.params.toList args.toList ds p := hA0
  rw [Try.params5] at hA hval
  obtain ⟨v0, v1, d0, d1, p0, p1, rfl, rfl, rfl, h0, h1⟩ := trodAll_two hA
  obtain ⟨rfl, rfl⟩ := trodVars_none hV
  obtain ⟨A0, n0, c0, x0, rfl, hn0, hc0, hl0, hr0, hz0, wf0⟩ := opn_ops Try.underlying34 Try.underlying42 rfl Try.underlying37 (by kernel_rfl) rfl (by kernel_rfl) Try.underlying3 Try.underlying3 Try.underlying3 Try.underlying5 Try.underlying35 Try.underlying3 (hval 0 34 v0 rfl rfl) h0
  obtain ⟨x1, y1, rfl, wf1, wg1⟩ := open_fate Try.underlying37 (by kernel_rfl) (by kernel_rfl) Try.underlying35 Try.underlying3 (hval 1 37 v1 rfl rfl) h1
  clear hA0 hval0
  refine Calls.mono (R := fun e W' => e = .returned (.bool true) ∧ Below W.heap.size W W') (diskstays_any A0 n0 c0 x0 x1 y1 W hr0 hl0 (Nat.le_trans hn0 hc0) wf0) fun e W' ⟨he, hw⟩ => ?_
  subst he
  exact ⟨_, rfl, law_post (P := Try.prog) laidOut (by kernel_rfl) rfl Try.underlying4 rfl hW' rfl hw⟩
end OfDiskStays

theorem DiskStays_holds : Rows.DiskStaysSaid :=
  OpenClaim.holds_of_wide 5 Try.f5 rfl rfl rfl rfl rfl rfl rfl ⟨rfl, rfl, rfl, rfl, rfl⟩ rfl rfl rfl rfl rfl (by kernel_rfl) Try.func5 (by kernel_rfl)
    (of_decide_eq_true (by kernel_rfl)) (by unfold Func.isWrapper; first | (rw [if_pos (by decide +kernel)]; kernel_rfl) | (rw [if_neg (by decide +kernel)]; exact ⟨rfl, rfl⟩))
    (fun os started H enc _ => OfDiskStays.lifted os started H enc)
end Go.Proofs.Ytjpmohennekbaaa

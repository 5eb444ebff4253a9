/- The law LogLasts of the given program holds: for every list of lists of items, place of the power cut and fate the call returns true. No condition beyond the row's own. -/
import Derived.Test.YtjmfeoenbncibaaRows
import Derived.Test.YtjmfeoenbncibaaM38
import Derived.Test.YtjmfeoenbncibaaM20
import Derived.Test.YtjmfeoenbncibaaM33
import Derived.ProofKit
namespace Go.Proofs.Ytjmfeoenbncibaa
open Go.ChangeShapes Go.WideShapes Go.ChangeAt Go.RowKit Go.Nau

namespace OfLogLasts
theorem own : ownKnob Try.prog.godebug = none := by kernel_rfl
theorem laidOut : laidOutB Try.prog = true := by kernel_rfl

set_option maxRecDepth 100000 in
theorem lifted (os : Os) (started : os.Started) (H : Type) (enc : TypeId × Value → H) :
    ReturnsInHanded {} Try.checked os 8 .any (Rows.logLastsSpec.pre6 enc Try.prog Try.f8 Rows.logLastsRow.domain false) (Rows.logLastsSpec.post enc Try.prog Try.f8 false true false false) := by
  refine returnsInHanded_of_change (C := Try.checked) own started (by kernel_rfl) Try.func8
    (ChangeSpec.witness6 (enc := enc) (C := Try.checked) false ⟨#[], #[.slice none 0 0, .int .i64 0, .agg #[.int .u64 0, .int .i64 0]], []⟩ 8 (by kernel_rfl) (by kernel_rfl) (by kernel_rfl) (by kernel_rfl)) ?_
  intro W base args ds gs before hval0 hW hcnd _
  have hval : ∀ (j : Nat) t v, Try.f8.params[j]? = some t → args[j]? = some v → Value.okWide Try.prog W .any base t v := hval0
  have hW' := hW
  obtain ⟨p, q, hA0, hV, rfl, hfz, hnd⟩ := hW
  have hA : DataW.TrodAll enc Try.prog W 0 (fun _ => true) true Try.f8.params.toList args.toList ds p := hA0
  rw [Try.params8] at hA hval
  obtain ⟨v0, v1, v2, d0, d1, d2, p0, p1, p2, rfl, rfl, rfl, h0, h1, h2⟩ := trodAll_three hA
  obtain ⟨rfl, rfl⟩ := trodVars_none hV
  obtain ⟨A0, n0, c0, rfl, hn0, hI0⟩ := opn_itemss (hval 0 55 v0 rfl rfl) h0
  obtain ⟨x1, rfl, _, _, wf1⟩ := open_int Try.underlying3 (hval 1 3 v1 rfl rfl) h1
  obtain ⟨x2, y2, rfl, wf2, wg2⟩ := open_fate Try.underlying73 (by kernel_rfl) (by kernel_rfl) Try.underlying22 Try.underlying3 (hval 2 73 v2 rfl rfl) h2
  clear hA0 hval0
  refine Calls.mono (R := fun e W' => e = .returned (.bool true) ∧ Below W.heap.size W W') (lasts_law A0 n0 c0 x1 x2 y2 (wf_i64 wf1) W hn0 hI0) fun e W' ⟨he, hw⟩ => ?_
  subst he
  exact ⟨_, rfl, law_post (P := Try.prog) laidOut (by kernel_rfl) rfl Try.underlying4 rfl hW' rfl hw⟩
end OfLogLasts

theorem LogLasts_holds : Rows.LogLastsSaid :=
  OpenClaim.holds_of_wide 8 Try.f8 rfl rfl rfl rfl rfl rfl rfl ⟨rfl, rfl, rfl, rfl, rfl⟩ rfl rfl rfl rfl rfl (by kernel_rfl) Try.func8 (by kernel_rfl)
    (of_decide_eq_true (by kernel_rfl)) (by unfold Func.isWrapper; first | (rw [if_pos (by decide +kernel)]; kernel_rfl) | (rw [if_neg (by decide +kernel)]; exact ⟨rfl, rfl⟩))
    (fun os started H enc _ => OfLogLasts.lifted os started H enc)
end Go.Proofs.Ytjmfeoenbncibaa

/- RingTwo returns true for every size and every two scripts, and leaves what there was as it was. -/
import Derived.Test.YtcgphkghamcgcaaRows
import Derived.Test.YtcgphkghamcgcaaH
import Derived.Test.YtcgphkghamcgcaaR
import Derived.Test.YtcgphkghamcgcaaO
import Derived.ProofKit
namespace Go.Proofs.Ytcgphkghamcgcaa
open Go.ChangeShapes Go.WideShapes Go.ChangeAt Go.RowKit Go.Nau

namespace OfRingTwo
theorem own : ownKnob Try.prog.godebug = none := by kernel_rfl
theorem laidOut : laidOutB Try.prog = true := by kernel_rfl

set_option maxRecDepth 100000 in
theorem lifted (os : Os) (started : os.Started) (H : Type) (enc : TypeId × Value → H) :
    ReturnsInHanded {} Try.checked os 5 .any (Rows.ringTwoSpec.pre6 enc Try.prog Try.f5 Rows.ringTwoRow.domain false) (Rows.ringTwoSpec.post enc Try.prog Try.f5 false true false false) := by
  refine returnsInHanded_of_change (C := Try.checked) own started (by kernel_rfl) Try.func5
    (ChangeSpec.witness6 (enc := enc) (C := Try.checked) false ⟨#[], #[.int .i64 0, .slice none 0 0, .slice none 0 0], []⟩ 8 (by kernel_rfl) (by kernel_rfl) (by kernel_rfl) (by kernel_rfl)) ?_
  intro W base args ds gs before hval0 hW hcnd _
  have hval : ∀ (j : Nat) t v, Try.f5.params[j]? = some t → args[j]? = some v → Value.okWide Try.prog W .any base t v := hval0
  have hW' := hW
  obtain ⟨p, q, hA0, hV, rfl, hfz, hnd⟩ := hW
  have hA : DataW.TrodAll enc Try.prog W 0 (fun _ => true) true Try.f5.params.toList args.toList ds p := hA0
  rw [Try.params5] at hA hval
  obtain ⟨v0, v1, v2, d0, d1, d2, p0, p1, p2, rfl, rfl, rfl, h0, h1, h2⟩ := trodAll_three hA
  obtain ⟨rfl, rfl⟩ := trodVars_none hV
  obtain ⟨x0, rfl, _, _, wf0⟩ := open_int Try.underlying3 (hval 0 3 v0 rfl rfl) h0
  obtain ⟨A1, n1, c1, x1, rfl, hn1, hc1, hl1, hr1, hz1, wf1⟩ := opn_pairs Try.underlying39 Try.underlying43 (by kernel_rfl) rfl rfl (by kernel_rfl) (by kernel_rfl) Try.underlying3 Try.underlying2 (hval 1 39 v1 rfl rfl) h1
  obtain ⟨A2, n2, c2, x2, rfl, hn2, hc2, hl2, hr2, hz2, wf2⟩ := opn_pairs Try.underlying39 Try.underlying43 (by kernel_rfl) rfl rfl (by kernel_rfl) (by kernel_rfl) Try.underlying3 Try.underlying2 (hval 2 39 v2 rfl rfl) h2
  clear hA0 hval0
  refine Calls.mono (R := fun e W' => e = .returned (.bool true) ∧ Below W.heap.size W W') (ringtwo_any x0 A1 A2 n1 n2 c1 c2 x1 x2 W hr1 hl1 (by omega) hr2 hl2 (by omega) (fun x hx => wf_i64 (wf1 x hx).1) (fun x hx => wf_i64 (wf2 x hx).1)) fun e W' ⟨he, hw⟩ => ?_
  subst he
  exact ⟨_, rfl, law_post (P := Try.prog) laidOut (by kernel_rfl) rfl Try.underlying4 rfl hW' rfl hw⟩
end OfRingTwo

theorem RingTwo_holds : Rows.RingTwoSaid :=
  OpenClaim.holds_of_wide 5 Try.f5 rfl rfl rfl rfl rfl rfl rfl ⟨rfl, rfl, rfl, rfl, rfl⟩ rfl rfl rfl rfl rfl (by kernel_rfl) Try.func5 (by kernel_rfl)
    (of_decide_eq_true (by kernel_rfl)) (by unfold Func.isWrapper; first | (rw [if_pos (by decide +kernel)]; kernel_rfl) | (rw [if_neg (by decide +kernel)]; exact ⟨rfl, rfl⟩))
    (fun os started H enc _ => OfRingTwo.lifted os started H enc)
end Go.Proofs.Ytcgphkghamcgcaa

/- Which names and which bytes may be, and what is listed, is what the document says, for any text and bytes. Conditions: none beyond the form of the statement. -/
import Derived.Test.YtliioeihbbhiiaaRows
import Derived.Test.YtliioeihbbhiiaaEt
import Derived.Test.YtliioeihbbhiiaaP
import Derived.Test.YtliioeihbbhiiaaR
import Derived.Test.YtliioeihbbhiiaaO
import Derived.ProofKit
namespace Go.Proofs.Ytliioeihbbhiiaa
open Go.ChangeShapes Go.WideShapes Go.ChangeAt Go.RowKit Go.Nau

namespace OfDirsNames
theorem own : ownKnob Try.prog.godebug = none := by kernel_rfl
theorem laidOut : laidOutB Try.prog = true := by kernel_rfl

set_option maxRecDepth 100000 in
theorem lifted (os : Os) (started : os.Started) (H : Type) (enc : TypeId × Value → H) :
    ReturnsInHanded {} Try.checked os 5 .any (Rows.dirsNamesSpec.pre6 enc Try.prog Try.f5 Rows.dirsNamesRow.domain false) (Rows.dirsNamesSpec.post enc Try.prog Try.f5 false true false false) := by
  refine returnsInHanded_of_change (C := Try.checked) own started (by kernel_rfl) Try.func5
    (ChangeSpec.witness6 (enc := enc) (C := Try.checked) false ⟨#[], #[.string ⟨#[]⟩, .string ⟨#[]⟩], []⟩ 8 (by kernel_rfl) (by kernel_rfl) (by kernel_rfl) (by kernel_rfl)) ?_
  intro W base args ds gs before hval0 hW hcnd _
  have hval : ∀ (j : Nat) t v, Try.f5.params[j]? = some t → args[j]? = some v → Value.okWide Try.prog W .any base t v := hval0
  have hW' := hW
  obtain ⟨p, q, hA0, hV, rfl, hfz, hnd⟩ := hW
  have hA : DataW.TrodAll enc Try.prog W 0 (fun _ => true) true Try.f5.params.toList args.toList ds p := hA0
  rw [Try.params5] at hA hval
  obtain ⟨v0, v1, d0, d1, p0, p1, rfl, rfl, rfl, h0, h1⟩ := trodAll_two hA
  obtain ⟨rfl, rfl⟩ := trodVars_none hV
  obtain ⟨x0, rfl, wf0⟩ := opn_str Try.underlying9 (hval 0 9 v0 rfl rfl) h0
  obtain ⟨x1, rfl, wf1⟩ := opn_str Try.underlying9 (hval 1 9 v1 rfl rfl) h1
  clear hA0 hval0
  refine Calls.mono (R := fun e W' => e = .returned (.bool true) ∧ Below W.heap.size W W') (names_law x0 x1 wf1 wf0 W) fun e W' ⟨he, hw⟩ => ?_
  subst he
  exact ⟨_, rfl, law_post (P := Try.prog) laidOut (by kernel_rfl) rfl Try.underlying4 rfl hW' rfl hw⟩
end OfDirsNames

theorem DirsNames_holds : Rows.DirsNamesSaid :=
  OpenClaim.holds_of_wide 5 Try.f5 rfl rfl rfl rfl rfl rfl rfl ⟨rfl, rfl, rfl, rfl, rfl⟩ rfl rfl rfl rfl rfl (by kernel_rfl) Try.func5 (by kernel_rfl)
    (of_decide_eq_true (by kernel_rfl)) (by unfold Func.isWrapper; first | (rw [if_pos (by decide +kernel)]; kernel_rfl) | (rw [if_neg (by decide +kernel)]; exact ⟨rfl, rfl⟩))
    (fun os started H enc _ => OfDirsNames.lifted os started H enc)
end Go.Proofs.Ytliioeihbbhiiaa

/- Two names added in either order are both there and listed alike; a name that is set is that one of the number, others stay; for any bytes, texts and numbers. Conditions: none beyond the form of the statement. -/
import Derived.Test.YtliioeihbbhiiaaRows
import Derived.Test.YtliioeihbbhiiaaEu
import Derived.Test.YtliioeihbbhiiaaP
import Derived.Test.YtliioeihbbhiiaaR
import Derived.Test.YtliioeihbbhiiaaO
import Derived.ProofKit
namespace Go.Proofs.Ytliioeihbbhiiaa
open Go.ChangeShapes Go.WideShapes Go.ChangeAt Go.RowKit Go.Nau

namespace OfDirsMoves
theorem own : ownKnob Try.prog.godebug = none := by kernel_rfl
theorem laidOut : laidOutB Try.prog = true := by kernel_rfl

set_option maxRecDepth 100000 in
theorem lifted (os : Os) (started : os.Started) (H : Type) (enc : TypeId × Value → H) :
    ReturnsInHanded {} Try.checked os 8 .any (Rows.dirsMovesSpec.pre6 enc Try.prog Try.f8 Rows.dirsMovesRow.domain false) (Rows.dirsMovesSpec.post enc Try.prog Try.f8 false true false false) := by
  refine returnsInHanded_of_change (C := Try.checked) own started (by kernel_rfl) Try.func8
    (ChangeSpec.witness6 (enc := enc) (C := Try.checked) false ⟨#[], #[.string ⟨#[]⟩, .string ⟨#[]⟩, .string ⟨#[]⟩, .int .u32 0, .int .u32 0], []⟩ 8 (by kernel_rfl) (by kernel_rfl) (by kernel_rfl) (by kernel_rfl)) ?_
  intro W base args ds gs before hval0 hW hcnd _
  have hval : ∀ (j : Nat) t v, Try.f8.params[j]? = some t → args[j]? = some v → Value.okWide Try.prog W .any base t v := hval0
  have hW' := hW
  obtain ⟨p, q, hA0, hV, rfl, hfz, hnd⟩ := hW
  have hA : DataW.TrodAll enc Try.prog W 0 (fun _ => true) true Try.f8.params.toList args.toList ds p := hA0
  rw [Try.params8] at hA hval
  obtain ⟨v0, v1, v2, v3, v4, d0, d1, d2, d3, d4, p0, p1, p2, p3, p4, rfl, rfl, rfl, h0, h1, h2, h3, h4⟩ := trodAll_five hA
  obtain ⟨rfl, rfl⟩ := trodVars_none hV
  obtain ⟨x0, rfl, wf0⟩ := opn_str Try.underlying9 (hval 0 9 v0 rfl rfl) h0
  obtain ⟨x1, rfl, wf1⟩ := opn_str Try.underlying9 (hval 1 9 v1 rfl rfl) h1
  obtain ⟨x2, rfl, wf2⟩ := opn_str Try.underlying9 (hval 2 9 v2 rfl rfl) h2
  obtain ⟨x3, rfl, _, _, wf3⟩ := open_int Try.underlying22 (hval 3 22 v3 rfl rfl) h3
  obtain ⟨x4, rfl, _, _, wf4⟩ := open_int Try.underlying22 (hval 4 22 v4 rfl rfl) h4
  clear hA0 hval0
  refine Calls.mono (R := fun e W' => e = .returned (.bool true) ∧ Below W.heap.size W W') (moves_law x0 x1 x2 x3 x4 wf0 (wf_u32 wf3).1 (wf_u32 wf3).2 (wf_u32 wf4).1 (wf_u32 wf4).2 W) fun e W' ⟨he, hw⟩ => ?_
  subst he
  exact ⟨_, rfl, law_post (P := Try.prog) laidOut (by kernel_rfl) rfl Try.underlying4 rfl hW' rfl hw⟩
end OfDirsMoves

theorem DirsMoves_holds : Rows.DirsMovesSaid :=
  OpenClaim.holds_of_wide 8 Try.f8 rfl rfl rfl rfl rfl rfl rfl ⟨rfl, rfl, rfl, rfl, rfl⟩ rfl rfl rfl rfl rfl (by kernel_rfl) Try.func8 (by kernel_rfl)
    (of_decide_eq_true (by kernel_rfl)) (by unfold Func.isWrapper; first | (rw [if_pos (by decide +kernel)]; kernel_rfl) | (rw [if_neg (by decide +kernel)]; exact ⟨rfl, rfl⟩))
    (fun os started H enc _ => OfDirsMoves.lifted os started H enc)
end Go.Proofs.Ytliioeihbbhiiaa

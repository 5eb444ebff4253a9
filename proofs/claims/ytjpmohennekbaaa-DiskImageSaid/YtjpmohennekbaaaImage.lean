/- The law DiskImage answers true for every script and place: a disk of another one's blocks has these, and what is written to one is not on the other one. Conditions: none beyond those of the given statement. -/
import Derived.Test.YtjpmohennekbaaaRows
import Derived.Test.YtjpmohennekbaaaDw
import Derived.Test.YtjpmohennekbaaaP
import Derived.Test.YtjpmohennekbaaaR
import Derived.Test.YtjpmohennekbaaaO
import Derived.ProofKit
namespace Go.Proofs.Ytjpmohennekbaaa
open Go.ChangeShapes Go.WideShapes Go.ChangeAt Go.RowKit Go.Nau

namespace OfDiskImage
theorem own : ownKnob Try.prog.godebug = none := by kernel_rfl
theorem laidOut : laidOutB Try.prog = true := by kernel_rfl

set_option maxRecDepth 100000 in
theorem lifted (os : Os) (started : os.Started) (H : Type) (enc : TypeId × Value → H) :
    ReturnsInHanded {} Try.checked os 8 .any (Rows.diskImageSpec.pre6 enc Try.prog Try.f8 Rows.diskImageRow.domain false) (Rows.diskImageSpec.post enc Try.prog Try.f8 false true false false) := by
  refine returnsInHanded_of_change (C := Try.checked) own started (by kernel_rfl) Try.func8
    (ChangeSpec.witness6 (enc := enc) (C := Try.checked) false ⟨#[], #[.slice none 0 0, .int .i64 0], []⟩ 8 (by kernel_rfl) (by kernel_rfl) (by kernel_rfl) (by kernel_rfl)) ?_
  intro W base args ds gs before hval0 hW hcnd _
  have hval : ∀ (j : Nat) t v, Try.f8.params[j]? = some t → args[j]? = some v → Value.okWide Try.prog W .any base t v := hval0
  have hW' := hW
  obtain ⟨p, q, hA0, hV, rfl, hfz, hnd⟩ := hW
  have hA : DataW.TrodAll enc Try.prog W 0 (fun _ => true) true Try.f8.params.toList args.toList ds p := hA0
  rw [Try.params8] at hA hval
  obtain ⟨v0, v1, d0, d1, p0, p1, rfl, rfl, rfl, h0, h1⟩ := trodAll_two hA
  obtain ⟨rfl, rfl⟩ := trodVars_none hV
  obtain ⟨A0, n0, c0, x0, rfl, hn0, hc0, hl0, hr0, hz0, wf0⟩ := opn_ops Try.underlying34 Try.underlying42 rfl Try.underlying37 (by kernel_rfl) rfl (by kernel_rfl) Try.underlying3 Try.underlying3 Try.underlying3 Try.underlying5 Try.underlying35 Try.underlying3 (hval 0 34 v0 rfl rfl) h0
  obtain ⟨x1, rfl, _, _, wf1⟩ := open_int Try.underlying3 (hval 1 3 v1 rfl rfl) h1
  clear hA0 hval0
  refine Calls.mono (R := fun e W' => e = .returned (.bool true) ∧ Below W.heap.size W W') (diskimage_any A0 n0 c0 x0 x1 (wf_i64 wf1) W hr0 hl0 (Nat.le_trans hn0 hc0) wf0) fun e W' ⟨he, hw⟩ => ?_
  subst he
  exact ⟨_, rfl, law_post (P := Try.prog) laidOut (by kernel_rfl) rfl Try.underlying4 rfl hW' rfl hw⟩
end OfDiskImage

theorem DiskImage_holds : Rows.DiskImageSaid :=
  OpenClaim.holds_of_wide 8 Try.f8 rfl rfl rfl rfl rfl rfl rfl ⟨rfl, rfl, rfl, rfl, rfl⟩ rfl rfl rfl rfl rfl (by kernel_rfl) Try.func8 (by kernel_rfl)
    (of_decide_eq_true (by kernel_rfl)) (by unfold Func.isWrapper; first | (rw [if_pos (by decide +kernel)]; kernel_rfl) | (rw [if_neg (by decide +kernel)]; exact ⟨rfl, rfl⟩))
    (fun os started H enc _ => OfDiskImage.lifted os started H enc)
end Go.Proofs.Ytjpmohennekbaaa

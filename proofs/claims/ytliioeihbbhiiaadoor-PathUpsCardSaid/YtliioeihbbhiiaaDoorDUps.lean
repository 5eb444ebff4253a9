/- A part and the one up take each other back; parts joined behind each other. -/
import Derived.Test.YtliioeihbbhiiaaDoorCards
import Derived.Test.YtliioeihbbhiiaaDoorTie
import Derived.Lay
import Derived.LaidOnce
import Derived.SevenTiedAt
import Derived.Test.YtliioeihbbhiiaaDoorHt
import Derived.Test.YtliioeihbbhiiaaDoorP
import Derived.Test.YtliioeihbbhiiaaDoorR
import Derived.Test.YtliioeihbbhiiaaDoorO
import Derived.ProofKit
namespace Go.Proofs.YtliioeihbbhiiaaDoor
open Go.ChangeShapes Go.WideShapes Go.ChangeAt Go.RowKit Go.Nau

namespace OfPathUps
def laid : List (String × DataW Unit) := Rows.pathUpsRow.laid
theorem own : ownKnob Tryd.prog.godebug = none := by kernel_rfl
theorem laidOut : laidOutB Tryd.prog = true := by kernel_rfl

set_option maxRecDepth 100000 in
theorem lifted (os : Os) (started : os.Started) (H : Type) (enc : TypeId × Value → H) :
    ReturnsInHanded {} Tryd.checked os 6 .any (fun w args => (Rows.pathUpsSpec.pre enc Tryd.prog Tryd.f6 [] false w args ∧ laidMetH Tryd.prog laid w) ∧ sizedMet enc Tryd.prog Tryd.f6 (OpenSpec.ofChange Rows.pathUpsSpec) false w args)
      (Rows.pathUpsSpec.post enc Tryd.prog Tryd.f6 false true false false) := by
  refine returnsInHanded_of_change_and (C := Tryd.checked) (X := fun w _ => laidMetH Tryd.prog laid w) (fun _ _ _ hh h => h.of_heap hh) own started (by kernel_rfl) Tryd.func6
    (ChangeSpec.witness_shaped (enc := enc) (C := Tryd.checked) (os := os) (X := fun w _ => laidMetH Tryd.prog laid w) false (World.laidAll Tryd.prog os laid) #[.string ⟨#[]⟩, .string ⟨#[]⟩, .slice none 0 0, .slice none 0 0] 8 (World.laidAll_os _ _ _)
      (World.shaped_of_ZipB (by kernel_rfl) (by kernel_rfl)) (by kernel_rfl) (by kernel_rfl) (by kernel_rfl)
      (by rw [MakeChecks.laidMetH_plain _ _ _ (by kernel_rfl)]; exact laidMet_laidAll _ (by kernel_rfl) (by kernel_rfl))) ?_
  intro W base args ds gs before hval0 hW _ hsz0 hL _
  have hsz : (DataW.weightsEach Tryd.prog (Tryd.f6.params.toList ++ Rows.pathUpsSpec.plain.varTypes Tryd.prog) (ds ++ gs)).all (· ≤ reachBytes) = true := hsz0
  clear hsz0
  have hval : ∀ (j : Nat) t v, Tryd.f6.params[j]? = some t → args[j]? = some v → Value.okWide Tryd.prog W .any base t v := hval0
  have hW' := hW
  obtain ⟨p, q, hA0, hV, rfl, hfz, hnd⟩ := hW
  have hA : DataW.TrodAll enc Tryd.prog W 0 (fun _ => true) true Tryd.f6.params.toList args.toList ds p := hA0
  rw [Tryd.params6] at hA hval hsz
  obtain ⟨v0, v1, v2, v3, d0, d1, d2, d3, p0, p1, p2, p3, rfl, rfl, rfl, h0, h1, h2, h3⟩ := trodAll_four hA
  obtain ⟨rfl, rfl⟩ := trodVars_none hV
  obtain ⟨x0, rfl, rfl, _, wf0⟩ := Go.ChangeMaps.open_string Tryd.underlying9 (hval 0 9 v0 rfl rfl) h0
  have hx0 : x0.size ≤ 9000000000000000000 := by
    have hm : x0.data.toList.length ∈ DataW.weightsEach Tryd.prog ((#[9, 9, 22, 22] : Array TypeId).toList ++ Rows.pathUpsSpec.plain.varTypes Tryd.prog) ([DataW.lit (.string x0.data.toList), d1, d2, d3] ++ []) := by
      simp [DataW.weightsEach, DataW.weights]
    have h9 := List.all_eq_true.1 hsz _ hm
    rw [decide_eq_true_eq, Array.length_toList] at h9
    have h8 : x0.size ≤ reachBytes := h9
    unfold reachBytes at h8
    omega
  obtain ⟨x1, rfl, wf1⟩ := opn_str Tryd.underlying9 (hval 1 9 v1 rfl rfl) h1
  obtain ⟨A2, n2, c2, x2, rfl, hn2, hc2, hl2, hr2, hz2, wf2⟩ := opn_strs Tryd.underlying22 Tryd.underlying9 (by kernel_rfl) (hval 2 22 v2 rfl rfl) h2
  obtain ⟨A3, n3, c3, x3, rfl, hn3, hc3, hl3, hr3, hz3, wf3⟩ := opn_strs Tryd.underlying22 Tryd.underlying9 (by kernel_rfl) (hval 3 22 v3 rfl rfl) h3
  clear hA0 hval0
  refine Calls.mono (R := fun e W' => e = .returned (.bool true) ∧ Below W.heap.size W W') (ups_law x0 x1 A2 A3 n2 c2 n3 c3 x2 x3 W wf0 wf1 hr2 hr3 hl2 hl3 hn2 hn3 hc2 hc3 hx0) fun e W' ⟨he, hw⟩ => ?_
  subst he
  exact ⟨_, rfl, law_post (P := Tryd.prog) laidOut (by kernel_rfl) rfl Tryd.underlying4 rfl hW' rfl hw⟩
theorem holds : Rows.PathUpsSaid :=
  OpenClaim.holds_of_wide 6 Tryd.f6 rfl rfl rfl rfl rfl rfl rfl ⟨rfl, rfl, rfl, rfl, rfl⟩ rfl rfl rfl rfl rfl (by kernel_rfl) Tryd.func6 (by kernel_rfl)
    (of_decide_eq_true (by kernel_rfl)) (by unfold Func.isWrapper; first | (rw [if_pos (by decide +kernel)]; kernel_rfl) | (rw [if_neg (by decide +kernel)]; exact ⟨rfl, rfl⟩))
    (fun os started H enc _ => lifted os started H enc)
end OfPathUps

theorem PathUps_holds : Rows.PathUpsCardSaid :=
  Claim7.holds_tied_plain_at .later [] [.data, .pinned] true (true, "9e7e5c25126e1aea9741ce4773c52f92a96737e20056d6d263dfbc9944ab64bc") false OfPathUps.holds (fun _ h => by cases h) (by kernel_rfl) (fun _ h => by cases h) pathUps_row_tie rfl ⟨rfl, rfl⟩ (by kernel_rfl) rfl
    (fun f fn hf hfn => by
      obtain rfl : f = 6 := Option.some.inj ((show Tryd.prog.funcNamed Rows.pathUpsRow.func = some 6 by kernel_rfl).symm.trans hf) |>.symm
      obtain rfl : fn = Tryd.f6 := (Option.some.inj (Tryd.func6.symm.trans hfn)).symm
      exact ⟨by kernel_rfl, fun j t ht => by
        rw [Tryd.params6] at ht
        have hm : t ∈ [9, 9, 22, 22] := by simpa using Array.mem_of_getElem? ht
        have hall : ([9, 9, 22, 22].all fun u => !Tryd.prog.wantsStandIn u) = true := by kernel_rfl
        exact (show Tryd.prog.wantsStandIn t = false by simpa using List.all_eq_true.1 hall t hm)⟩)
    (by kernel_rfl)
end Go.Proofs.YtliioeihbbhiiaaDoor


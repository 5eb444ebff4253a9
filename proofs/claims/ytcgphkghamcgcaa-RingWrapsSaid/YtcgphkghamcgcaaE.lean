/- The law's own example; the laws RingNone and RingDoes: contracts over the given program. -/
import Derived.Test.YtcgphkghamcgcaaD
namespace Go.Proofs.Ytcgphkghamcgcaa
open Go.RowKit Go.Conc Go.Nau

set_option maxHeartbeats 1000000 in
theorem shown_any (w : World) : Calls Try.prog 8 #[] w fun e w' => e = .returned (.bool true) ∧ Below w.heap.size w w' := by
  go_enter Try.func8, Try.ntmps8
  go_wp2_with fail
  refine (new_okI 1 _ (by omega) (by omega)).mono ?_
  rintro e w1 ⟨b, c, rfl, hb, hc, _, _, _, hq1, hb1⟩
  go_wp2_with fail
  refine (put_consI _ _ _ _ (.int .i64 7) [] hq1 (by simp)).mono ?_
  rintro e w2 ⟨rfl, hq2, hf2⟩
  go_wp2_with fail
  refine (put_nilI' _ _ _ _ (.int .i64 8) _ hq2 (by simp)).mono ?_
  rintro e w3 ⟨rfl, rfl⟩
  go_wp2_with fail
  refine (take_consI _ _ _ _ _ _ hq2).mono ?_
  rintro e w4 ⟨rfl, hq4, hf4⟩
  go_wp2_with fail
  refine (take_nilI' _ _ _ _ hq4).mono ?_
  rintro e w5 ⟨rfl, rfl⟩
  go_wp2_with fail
  refine (new_badI 0 _ (by omega)).mono ?_
  rintro e w6 ⟨rfl, rfl⟩
  go_wp2_with fail
  go_ret
  exact ⟨rfl, hb1.trans ((hf2.trans hf4).below hb1.size (fun k hk => by omega))⟩

theorem drain_nil (w : World) : Calls Try.prog 18 #[.pointer none] w fun e w' => e = .returned (.slice none 0 0) ∧ w = w' := by
  go_enter Try.func18, Try.ntmps18
  go_wp2
  go_loop [3] (fun o => o = .slice none 0 0) (fun _ => 0)
  case atStart => rfl
  case round =>
    subst hrel
    go_wp2_with (go_at_call 15; refine (take_nilI _).mono ?_; rintro e w' ⟨rfl, rfl⟩)
    go_ret
    exact ⟨rfl, rfl⟩

set_option maxHeartbeats 1000000 in
theorem none_any (v : Int) (w : World) : Calls Try.prog 7 #[.int .i64 v] w fun e w' => e = .returned (.bool true) ∧ Below w.heap.size w w' := by
  go_enter Try.func7, Try.ntmps7
  go_wp2_with fail
  refine (shown_any _).mono ?_
  rintro e w1 ⟨rfl, hb1⟩
  go_wp2_with (first
    | (go_at_call 15; refine (take_nilI _).mono ?_; rintro e w' ⟨rfl, rfl⟩)
    | (go_at_call 16; refine (put_nilI _ _).mono ?_; rintro e w' ⟨rfl, rfl⟩)
    | (go_at_call 14; refine (len_nilI _).mono ?_; rintro e w' ⟨rfl, rfl⟩)
    | (go_at_call 20; refine (size_nilI _).mono ?_; rintro e w' ⟨rfl, rfl⟩)
    | (go_at_call 18; refine (drain_nil _).mono ?_; rintro e w' ⟨rfl, rfl⟩))
  go_ret
  exact ⟨rfl, hb1⟩
end Go.Proofs.Ytcgphkghamcgcaa

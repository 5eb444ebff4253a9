/- Paths: the laws' example; the law PathChain walked: over the given program. -/
import Derived.Test.YtliioeihbbhiiaaDoorHe
namespace Go.Proofs.YtliioeihbbhiiaaDoor
open Go.RowKit Go.Nau Go.Shelf
attribute [local go_sem] Oper.semAt_some

theorem rd_on {w w' : World} {size n : Nat} {A : Option Addr} {xs : List Value} (h : Rd (· < w.heap.size) w size A n xs) (b : Below w.heap.size w w') : Rd (· < w'.heap.size) w' size A n xs :=
  (h.kept (Fr.of_below b) (fun k hk => by omega)).mono (fun k hk => by have := b.size; omega)
theorem below_drew (w : World) (n : Nat) : Below w.heap.size w (w.drewN n) := below_drewN (Below.refl _ _) n

theorem rd_abd (W : World) : Rd (· < (W.alloc (.cells #[.string ⟨#[97]⟩, .string ⟨#[98]⟩, .string ⟨#[100]⟩] 9)).heap.size) (W.alloc (.cells #[.string ⟨#[97]⟩, .string ⟨#[98]⟩, .string ⟨#[100]⟩] 9)) 1 (some ⟨W.heap.size, 0, none⟩) 3 (strs [⟨#[97]⟩, ⟨#[98]⟩, ⟨#[100]⟩]) := by
  refine ⟨rfl, fun _ => ⟨_, rfl, by simp, fun j u hu => ?_⟩⟩
  have hn := heap_alloc_new W (.cells #[.string ⟨#[97]⟩, .string ⟨#[98]⟩, .string ⟨#[100]⟩] 9)
  have ha : (⟨W.heap.size, 0, none⟩ : Addr).add j = ⟨W.heap.size, j, none⟩ := by unfold Addr.add; split <;> simp_all
  rw [ha, blk_cell hn j]
  simpa [strs] using hu

theorem spl1 : splitL ⟨#[47, 97, 47, 47, 98, 47, 46, 47, 99, 47, 46, 46, 47, 100]⟩ = [⟨#[97]⟩, ⟨#[98]⟩, ⟨#[100]⟩] ∧ splitE ⟨#[47, 97, 47, 47, 98, 47, 46, 47, 99, 47, 46, 46, 47, 100]⟩ = 0 := by
  constructor <;> kernel_rfl
theorem spl2 : splitL ⟨#[47, 46, 46]⟩ = [] ∧ splitE ⟨#[47, 46, 46]⟩ = 0 := by constructor <;> kernel_rfl
theorem spl3 : splitL ⟨#[97]⟩ = [] ∧ splitE ⟨#[97]⟩ = 120 := by constructor <;> kernel_rfl
theorem same1 : sameB [⟨#[97]⟩, ⟨#[98]⟩, ⟨#[100]⟩] [⟨#[97]⟩, ⟨#[98]⟩, ⟨#[100]⟩] = true := sameB_iff.2 rfl

set_option maxHeartbeats 1000000 in
set_option maxRecDepth 100000 in
theorem shown_any (w : World) : Calls Tryd.prog 8 #[] w fun e w' => e = .returned (.bool true) ∧ Below w.heap.size w w' := by
  have h1 := fun W => split_any ⟨#[47, 97, 47, 47, 98, 47, 46, 47, 99, 47, 46, 46, 47, 100]⟩ (by decide) W
  have h2 := fun W => split_any ⟨#[47, 46, 46]⟩ (by decide) W
  have h3 := fun W => split_any ⟨#[97]⟩ (by decide) W
  unfold SplPost at h1 h2 h3
  rw [spl1.1, spl1.2] at h1
  rw [spl2.1, spl2.2] at h2
  rw [spl3.1, spl3.2] at h3
  have h4 := fun A c d W r => rsame_any [⟨#[97]⟩, ⟨#[98]⟩, ⟨#[100]⟩] [⟨#[97]⟩, ⟨#[98]⟩, ⟨#[100]⟩] A (some ⟨W.heap.size, 0, none⟩) c d _ r (rd_abd W) (by decide) (by decide)
  rw [same1] at h4
  have H1 := Lib.hid h1
  have H2 := Lib.hid h2
  have H3 := Lib.hid h3
  have H4 := Lib.hid h4
  clear h1 h2 h3 h4
  go_enter Tryd.func8, Tryd.ntmps8
  go_wp2_with fail
  refine (H1.out _).mono ?_
  rintro e w1 ⟨A1, c1, rfl, -, -, r1, b1⟩
  have hr1 := r1.mono (T' := (· < w1.heap.size)) (fun k hk => hk.2)
  have R1 := Lib.hid hr1
  clear r1 hr1
  go_wp2_with fail
  refine (H2.out _).mono ?_
  rintro e w2 ⟨A2, c2, rfl, -, -, -, b2⟩
  have hr1 := rd_on R1.out b2
  have R2 := Lib.hid hr1
  clear R1 hr1
  replace b1 := b1.trans (b2.mono b1.size)
  clear b2
  go_wp2_with fail
  refine (H3.out _).mono ?_
  rintro e w3 ⟨A3, c3, rfl, -, -, -, b3⟩
  have hr1 := rd_on R2.out b3
  have R3 := Lib.hid hr1
  clear R2 hr1
  replace b1 := b1.trans (b3.mono b1.size)
  clear b3
  have HS := Lib.hid (H4.out A1 c1 3 w3 (rd_on R3.out ((Below.refl _ _).alloc (Nat.le_refl _) _)))
  clear R3 H4
  go_wp2_with fail
  refine HS.out.mono ?_
  rintro e w4 ⟨rfl, n, rfl⟩
  go_wp2_with fail
  go_ret
  exact ⟨by simp, below_drewN (b1.alloc b1.size _) n⟩
end Go.Proofs.YtliioeihbbhiiaaDoor

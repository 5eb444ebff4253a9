/- The law DiskOf walked. -/
import Derived.Test.YtjpmohennekbaaaDw
namespace Go.Proofs.Ytjpmohennekbaaa
open Go.RowKit Go.Nau Go.Shelf
attribute [local go_sem] Oper.semAt_some

def ImRel (w0 : World) (L : List ByteArray) (M : Nat) (k : Nat) (v i : Value) (wr : World) : Prop :=
  ∃ q : Nat, k = M - q ∧ i = .int .i64 q ∧ q ≤ M ∧ wr.ownsRow w0.heap.size 9 1 v (L.length + q) (strs (L ++ List.replicate q ⟨#[]⟩)) ∧ Below w0.heap.size w0 wr

set_option maxHeartbeats 4000000 in
set_option maxRecDepth 100000 in
theorem diskof_any (A : Option Addr) (n c : Nat) (l : List ByteArray) (many : Int) (hmany : -9223372036854775808 ≤ many ∧ many ≤ 9223372036854775807) (w : World) (hr : Rd (· < w.heap.size) w 1 A n (strs l)) (hl : l.length = n) (hnc : n ≤ c) (hc : c ≤ maxLen) :
    Calls Try.prog 3 #[.slice A n c, .int .i64 many] w fun e w' => e = .returned (.bool true) ∧ Below w.heap.size w w' := by
  subst hl
  obtain ⟨i0, hi, hz0, hz1, hz2⟩ := info_parts infoS
  have hni : (l.length : Int) ≤ 9223372036854775807 := by unfold maxLen at hc; omega
  have hnci : (l.length : Int) ≤ c := by omega
  obtain ⟨m, hm⟩ : ∃ m, m = min l.length 300 := ⟨_, rfl⟩
  have hmi : min (l.length : Int) 300 = (m : Int) := by omega
  have hml : m ≤ l.length := by omega
  have hm3 : m ≤ 300 := by omega
  have hLl : (l.take m).length = m := by rw [List.length_take]; omega
  have hrL : Rd (· < w.heap.size) w 1 A m (strs (l.take m)) := by
    have := hr.take hml
    rwa [Nat.mul_one, show (strs l).take m = strs (l.take m) by simp [strs, List.map_take]] at this
  generalize l.take m = L at *
  have HRL := Lib.hid hrL
  clear hm hrL
  have hS := Lib.hid (shown_any w)
  have HR := Lib.hid hr
  clear hr
  go_enter Try.func3, Try.ntmps3
  go_wp2_with fail
  refine hS.out.mono ?_
  rintro e w1 ⟨rfl, hb1⟩
  have hs1 := hb1.size
  have hrL1 := HRL.out.kept (Fr.of_below hb1) (fun k hk => by omega)
  have HRL1 := Lib.hid hrL1
  clear hrL1
  go_wp2_with (first
    | (at_make; refine wpList_make_own _ rfl _ _ 22 rfl w.heap.size 9 i0 (.string ⟨#[]⟩) 1 Try.underlying22 hi hz0 hz1 _ _ _ 600 rfl rfl rfl (by rw [hz2]; omega) (by unfold maxLen; omega) hs1 ?_; intro w2 hown2 hg2; have hb2 : Below w.heap.size w1 w2 := (Below.refl _ _).grown hg2 hs1 (by simp); have hrd2 := HRL1.out.kept (Fr.of_grown hg2) (by simp))
    | (at_builtin; refine wpList_append_rd _ rfl (.tmp 18) (.tmp 19) 22 rfl w.heap.size 9 i0 _ 1 16 Try.underlying22 hi hz0 hz1 hz2 rfl (by decide) _ 0 [] rfl hown2 _ A m c (strs L) rfl hrd2 (strs_one L) (by unfold maxLen; omega) (by omega) (Nat.le_trans hs1 hb2.size) ?_; intro v3 w3 hown3 hg3 hat3))
  have hg3' : w2.grownBy w3 (some w1.heap.size) := hg3
  have hb13 : Below w.heap.size w1 w3 := hb2.trans ((Fr.of_grown hg3').below (Nat.le_trans hs1 hb2.size) (fun k e => by injection e with e; omega))
  have hb3 : Below w.heap.size w w3 := hb1.trans hb13
  rw [Nat.zero_add, List.nil_append] at hown3
  have HO3 := Lib.hid hown3
  clear hg3 hg3' hat3 hown2 hg2 hrd2 hb2 hown3 HRL1
  obtain ⟨M, hM1, hM2, hM3⟩ : ∃ M : Nat, M ≤ 300 ∧ (∀ q : Nat, q < M → (q : Int) < many ∧ (q : Int) < 300) ∧ (M = 300 ∨ ¬ (M : Int) < many) := ⟨(min many 300).toNat, by omega, fun q hq => by omega, by omega⟩
  go_loopg [6, 7] M (ImRel w L M)
  case atStart => exact ⟨0, rfl, rfl, Nat.zero_le _, by simp only [Nat.add_zero, List.replicate_zero, List.append_nil]; rw [hLl]; exact HO3.out, hb3⟩
  case round =>
    obtain ⟨q, rfl, rfl, hq, hown, hbw⟩ := hrel
    clear HO3 hb3 hb13
    have hwz := hbw.size
    by_cases hlt : q < M
    · obtain ⟨g1, g2⟩ := hM2 q hlt
      have HO := Lib.hid hown
      clear hown hM2 hM3
      go_wp2_with (at_builtin; refine wpList_append_rd _ rfl (.tmp 30) (.tmp 31) 22 rfl w.heap.size 9 i0 _ 1 16 Try.underlying22 hi hz0 hz1 hz2 rfl (by decide) _ (L.length + q) (strs (L ++ List.replicate q ⟨#[]⟩)) rfl (HO.out.alloc _) _ (some ⟨wr.heap.size, 0, none⟩) 1 1 [.string ⟨#[]⟩] rfl (rd_new1 wr ⟨#[]⟩) (by simp [Value.oneCell']) (by unfold maxLen; omega) (by omega) (by simp; omega) ?_; intro v4 w4 hown4 hg4 hat4)
      have hb4 : Below w.heap.size w w4 := (hbw.alloc hwz _).trans ((Fr.of_grown hg4).below (by simp; omega) (fun k hk => (HO.out.lt k hk.symm).1))
      have hsn : strs (L ++ List.replicate q ⟨#[]⟩) ++ [.string ⟨#[]⟩] = strs (L ++ List.replicate (q + 1) ⟨#[]⟩) := by simp [strs, List.replicate_succ']
      rw [hsn] at hown4
      have HO4 := Lib.hid hown4
      clear hown4 hg4 hat4 hsn
      go_wp2_with fail
      go_roundg (M - (q + 1))
      case measure => omega
      case rel => exact ⟨q + 1, rfl, by simp, by omega, HO4.out, hb4⟩
    · obtain rfl : q = M := by omega
      obtain ⟨im, him⟩ : ∃ im, im = L ++ List.replicate q (⟨#[]⟩ : ByteArray) := ⟨_, rfl⟩
      have himl : im.length = L.length + q := by rw [him]; simp
      rw [← him, ← himl] at hown
      have hi6 : im.length ≤ 600 := by omega
      obtain ⟨A5, c5, rfl, hrd5⟩ := Rd.lt_own (own_base hown (Nat.zero_le _))
      have hrf : ∀ W G r, RDsk W G r (freshDS (blocksL im)) → sizeB im.length = true → Calls Try.prog 20 #[.pointer (some ⟨r, 0, none⟩)] W (SetPost W (blocksL im).length (blocksL im)) := fun W G r hR hsz => by
        have h0 : 0 < im.length := by unfold sizeB at hsz; simp at hsz; omega
        have := rimage_dsk hR (by intro x hx; simp [freshDS] at hx) (by show (blocksL im).length ≤ _; simp [blocksL]; omega) (by simp [freshDS])
        exact this
      have hbl : (blocksL im).length = im.length := by simp [blocksL]
      have HRF := Lib.hid hrf
      have HBL : (blocksL im).length ≤ 600 := by omega
      clear hrf hown him himl hbl
      have hd1 := fun (hsz : sizeB im.length = true) => dof_any A5 c5 im wr hrd5 hsz
      have hd2 := fun (hsz : sizeB im.length = false) => dof_size A5 im.length c5 wr hsz (by omega)
      have hr2 := fun W (hsz : sizeB im.length = false) => rof_size A5 im.length c5 W hsz (by omega)
      have hr1 := fun W (hr : Rd (· < W.heap.size) W 1 A5 im.length (strs im)) (hsz : sizeB im.length = true) => rof_any A5 c5 im W hr hsz
      have HD1 := Lib.hid hd1
      have HD2 := Lib.hid hd2
      have HR1 := Lib.hid hr1
      have HR2 := Lib.hid hr2
      clear hd1 hd2 hr1 hr2
      have hgo : (q = 300 ∧ (q : Int) < many) ∨ ¬ ((q : Int) < many) := by omega
      rcases hgo with ⟨hq3, g1⟩ | g1
      case' inl => have g2 : ¬ ((q : Int) < 300) := by omega
      all_goals
        by_cases hsz : sizeB im.length = true
        · go_wp2_with fail
          refine (HD1.out hsz).mono ?_
          rintro e w5 (⟨hal, ⟨d5, rfl, hD5⟩, hb5⟩ | ⟨hex, rfl, hb5⟩)
          · have hs5 := hb5.size
            go_wp2_with fail
            refine (HR1.out w5 ((hrd5.kept (Fr.new hb5 (fun _ => False)) (fun _ _ => id)).mono (fun k hk => by omega)) hsz).mono ?_
            rintro e w6 (⟨_, ⟨r6, rfl, hR6⟩, hb6⟩ | ⟨⟨x, hx, hxs⟩, _⟩)
            case' inr => exact absurd (hal x hx) (by omega)
            have hs6 := hb6.size
            have hD6 := hD5.kept (Fr.new hb6 (fun _ => False)) (fun _ _ => id)
            go_wp2_with fail
            refine (image_dsk hD6 (by show (blocksL im).length ≤ _; omega)).mono ?_
            rintro e w7 ⟨v7, rfl, hown7, hb7⟩
            change World.ownsRow w7 _ 9 1 v7 (blocksL im).length (strs (blocksL im)) at hown7
            obtain ⟨A7, c7, rfl, hrd7⟩ := Rd.lt_own (own_base hown7 (Nat.zero_le _))
            have hs7 := hb7.size
            have hR7 := hR6.kept (Fr.new hb7 (fun _ => False)) (fun _ _ => id)
            go_wp2_with fail
            refine (HRF.out _ _ _ hR7 hsz).mono ?_
            rintro e w8 ⟨g8, c8, rfl, hg8, hown8, hb8⟩
            obtain ⟨A8, c8', ev, hrd8⟩ := Rd.lt_own (own_base hown8 (Nat.zero_le _))
            simp only [Value.slice.injEq, true_and] at ev
            obtain ⟨rfl, rfl⟩ := ev
            have hs8 := hb8.size
            go_wp2_with fail
            refine (same_any _ _ A7 (some ⟨g8, 0, none⟩) (blocksL im).length c7 c8 (blocksL im) w8 (hrd7.kept (Fr.new hb8 (fun _ => False)) (fun _ _ => id)) hrd8 (by omega)).mono ?_
            rintro e w9 ⟨rfl, q9, rfl⟩
            go_wp2_with fail
            go_ret
            exact ⟨rfl, below_drewN ((((hbw.trans (hb5.mono hwz)).trans (hb6.mono (by omega))).trans (hb7.mono (by omega))).trans (hb8.mono (by omega))) q9⟩
          · have hs5 := hb5.size
            go_wp2_with fail
            refine (HR1.out w5 ((hrd5.kept (Fr.new hb5 (fun _ => False)) (fun _ _ => id)).mono (fun k hk => by omega)) hsz).mono ?_
            rintro e w6 (⟨hal, _⟩ | ⟨_, rfl, hb6⟩)
            case' inl => obtain ⟨x, hx, hxs⟩ := hex
            case' inl => exact absurd (hal x hx) (by omega)
            go_wp2_with fail
            go_ret
            exact ⟨rfl, (hbw.trans (hb5.mono hwz)).trans (hb6.mono (by omega))⟩
        · have hsz' : sizeB im.length = false := by simpa using hsz
          go_wp2_with fail
          refine (HD2.out hsz').mono ?_
          rintro e w5 ⟨rfl, rfl⟩
          go_wp2_with fail
          refine (HR2.out _ hsz').mono ?_
          rintro e w5 ⟨rfl, rfl⟩
          go_wp2_with fail
          go_ret
          exact ⟨rfl, hbw⟩
end Go.Proofs.Ytjpmohennekbaaa

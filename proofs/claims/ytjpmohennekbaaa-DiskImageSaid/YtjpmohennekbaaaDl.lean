/- The reference disk: Image, Flush: contracts over the given program. -/
import Derived.Test.YtjpmohennekbaaaDk
import Derived.Deep.RegionHeld3
import Derived.Deep.RegionWith
namespace Go.Proofs.Ytjpmohennekbaaa
open Go.RowKit Go.Nau Go.Shelf
attribute [local go_sem] Oper.semAt_some

section
variable {w : World} {G : Nat → Prop} {r : Nat} {s : DS}

theorem Rd.lt_own {w : World} {e : TypeId} {size n : Nat} {v : Value} {xs : List Value} (h : w.ownsRow 0 e size v n xs) : ∃ A c, v = .slice A n c ∧ Rd (· < w.heap.size) w size A n xs := by
  obtain ⟨A, c, rfl, _, _, hrd⟩ := Rd.of_own h
  refine ⟨A, c, rfl, hrd.1, fun hn => ?_⟩
  obtain ⟨ad, rfl, _, hc⟩ := hrd.2 hn
  rcases h.2 with ⟨h0, _⟩ | ⟨g, cap, cur, hv, _, hh, _⟩
  · cases h0
  · simp only [Value.slice.injEq, Option.some.injEq, true_and] at hv
    obtain ⟨rfl, _⟩ := hv
    exact ⟨_, rfl, (Array.getElem?_eq_some_iff.1 hh).1, hc⟩

set_option maxHeartbeats 1000000 in
set_option maxRecDepth 100000 in
theorem rimage_dsk (h : RDsk w G r s) (hl : ∀ x ∈ s.loose, x.1 < s.safe.length) (hn : s.safe.length ≤ 8192) (hm : s.loose.length ≤ 1073741824) :
    Calls Try.prog 20 #[.pointer (some ⟨r, 0, none⟩)] w (SetPost w s.safe.length (settledL s.safe s.loose)) := by
  obtain ⟨bb, bc, L, hd, o1, o2, g0, g1, g2, h0⟩ := h
  have c0 := blk_cell hd 0
  have c1 := blk_cell hd 1
  have hlt := (Array.getElem?_eq_some_iff.1 hd).1
  simp [rcells] at c0 c1
  obtain ⟨A, ca, ev, hrd⟩ := Rd.lt_own o1
  obtain ⟨A2, c2, rfl, hrd2⟩ := Rd.lt_own o2
  simp only [Value.slice.injEq, true_and] at ev
  obtain ⟨rfl, rfl⟩ := ev
  have hs := fun q => settled_any (some ⟨bb, 0, none⟩) A2 s.safe.length bc c2 s.safe s.loose (w.drewN q) (hrd.kept (Fr.drewN (fun _ => False) w q) (fun _ _ => id)) (hrd2.kept (Fr.drewN (fun _ => False) w q) (fun _ _ => id)) hl h0 hn hm
  have HS := Lib.hid hs
  clear hs hrd hrd2 o1 o2 hd
  go_enter Try.func20, Try.ntmps20
  go_wp2_with fail
  go_region_held3 (fun w' => w'.cell? ⟨r, 0, none⟩ = some (.slice (some ⟨bb, 0, none⟩) s.safe.length bc) ∧ w'.cell? ⟨r, 1, none⟩ = some (.slice A2 s.loose.length c2)) (first | (exact ⟨by assumption, by assumption⟩) | (simp [c0, c1]; done)) ((go_at_call 54; refine (HS.out _).mono ?_; rintro e w2 ⟨g, gc, rfl, hg, hown, hb⟩; have K0 := (hb.cell (p := ⟨r, 0, none⟩) (by simpa using hlt)).trans c0; have K1 := (hb.cell (p := ⟨r, 1, none⟩) (by simpa using hlt)).trans c1))
  go_wp2_with fail
  go_ret
  exact ⟨g, gc, rfl, hg, hown, (below_drewN (Below.refl w.heap.size w) 1).trans hb⟩

set_option maxHeartbeats 400000 in
theorem rflush_off (h : RDsk w G r s) (ho : offB s = true) : Calls Try.prog 57 #[.pointer (some ⟨r, 0, none⟩)] w fun e w' => e = .returned (.int .i64 43) ∧ RPost w G r { s with gone := true } w' := by
  have hoff := roff_dsk h
  rw [ho] at hoff
  have HO := Lib.hid hoff
  clear hoff
  go_enter Try.func57, Try.ntmps57
  go_wp2_with fail
  refine HO.out.mono ?_
  rintro e w1 ⟨rfl, hD⟩
  go_wp2_with fail
  go_ret
  exact ⟨rfl, hD⟩

def rflushed (s : DS) : DS := { s with safe := settledL s.safe s.loose, now := settledL s.safe s.loose, loose := [], ops := s.ops + 1, gone := false }

set_option maxHeartbeats 1000000 in
set_option maxRecDepth 100000 in
theorem rflush_ok (h : RDsk w G r s) (ho : offB s = false) (hl : ∀ x ∈ s.loose, x.1 < s.safe.length) (hn : s.safe.length ≤ 8192) (hm : s.loose.length ≤ 1073741824) (hops : s.ops ≤ 4611686018427387904) :
    Calls Try.prog 57 #[.pointer (some ⟨r, 0, none⟩)] w fun e w' => e = .returned (.int .i64 0) ∧ RPost w G r (rflushed s) w' := by
  have hoff := roff_dsk h
  rw [ho] at hoff
  have HO := Lib.hid hoff
  clear hoff
  have hopi : (s.ops : Int) ≤ 4611686018427387904 := by omega
  have hop0 : (0 : Int) ≤ (s.ops : Int) := by omega
  go_enter Try.func57, Try.ntmps57
  go_wp2_with fail
  refine HO.out.mono ?_
  rintro e w1 ⟨rfl, G1, hD, hG1, hf1⟩
  obtain ⟨bb, bc, L, hd, o1, o2, g0, g1, g2, h0⟩ := hD
  have c0 := blk_cell hd 0
  have c1 := blk_cell hd 1
  have z0 := blk_frozen hd 0
  have hlt := (Array.getElem?_eq_some_iff.1 hd).1
  simp [rcells] at c0 c1
  obtain ⟨A, ca, ev, hrd⟩ := Rd.lt_own o1
  obtain ⟨A2, c2, rfl, hrd2⟩ := Rd.lt_own o2
  simp only [Value.slice.injEq, true_and] at ev
  obtain ⟨rfl, rfl⟩ := ev
  dsimp only at hrd hrd2 c0 c1 h0 hd
  have hs := fun q => settled_any (some ⟨bb, 0, none⟩) A2 s.safe.length bc c2 s.safe s.loose (w1.drewN q) (hrd.kept (Fr.drewN (fun _ => False) w1 q) (fun _ _ => id)) (hrd2.kept (Fr.drewN (fun _ => False) w1 q) (fun _ _ => id)) hl h0 hn hm
  have HS := Lib.hid hs
  clear hs hrd hrd2 o1 o2
  go_wp2_with fail
  go_region_with ((go_at_call 54; refine (HS.out 1).mono ?_; rintro e w2 ⟨g, gc, rfl, hg, hown, hb⟩; have K0 := (hb.cell (p := ⟨r, 0, none⟩) (by simpa using hlt)).trans c0; have K1 := (hb.cell (p := ⟨r, 1, none⟩) (by simpa using hlt)).trans c1; have Z0 := (hb.frozen (p := ⟨r, 0, none⟩) (by simpa using hlt)).trans z0))
  all_goals
    have hd2 := (hb.block r (by simpa using hlt)).trans hd
    have hown' := own_base hown (Nat.zero_le _)
    have hne := own_ne hown' hd2 (by decide) g rfl
    have hs2 := hb.size
    have hg' : w1.heap.size ≤ g := hg
    have hs2' : w1.heap.size ≤ w2.heap.size := hs2
    have hgl := (hown.lt g rfl).2
    have K2 := blk_cell hd2 2
    have Z1 := blk_frozen hd2 1
    have Z2 := blk_frozen hd2 2
    simp [rcells] at K2
    have hd3 := blk_set hd2 0 (.slice (some ⟨g, 0, none⟩) s.safe.length gc)
    have hd4 := blk_set hd3 1 (.slice none 0 0)
    have hd5 := blk_set hd4 2 (.int .i64 ((s.ops : Int) + 1))
    have hf5 : Fr (· = r) w2 (((w2.setCell ⟨r, 0, none⟩ (.slice (some ⟨g, 0, none⟩) s.safe.length gc)).setCell ⟨r, 1, none⟩ (.slice none 0 0)).setCell ⟨r, 2, none⟩ (.int .i64 ((s.ops : Int) + 1))) := ((Fr.set1 _ _ _ _).trans (Fr.set1 _ _ _ _)).trans (Fr.set1 _ _ _ _)
    have hfin : RPost w G r (rflushed s) (((w2.setCell ⟨r, 0, none⟩ (.slice (some ⟨g, 0, none⟩) s.safe.length gc)).setCell ⟨r, 1, none⟩ (.slice none 0 0)).setCell ⟨r, 2, none⟩ (.int .i64 ((s.ops : Int) + 1))) := by
      have hlen : (rflushed s).safe.length = s.safe.length := settledL_length _ _
      refine RPost.trans hG1 hf1 (s2 := rflushed s) ⟨fun k => G1 k ∨ (w1.heap.size ≤ k ∧ k < w2.heap.size), ⟨g, gc, .slice none 0 0, ?_, ?_, World.ownsRow_nil _ _ _ _, .inl g0, .inr ⟨hg', hgl⟩, by simp [Value.ownBlock], ?_⟩, fun k hk => ?_, ?_⟩
      · rw [hlen, hd5]
        rfl
      · rw [hlen]
        exact Fr.own hown' hf5 (fun k hk e => own_ne hown' hd2 (by decide) k hk e)
      · rw [hlen]
        exact h0
      · rcases hk with h | h
        · exact .inl h
        · refine .inr ⟨h.1, ?_⟩
          simp [World.setCell]
          exact h.2
      · have hbb : Below w1.heap.size w1 w2 := (below_drewN (Below.refl w1.heap.size w1) 1).trans hb
        exact (Fr.new hbb G1).trans (hf5.mono (fun k hk => by subst hk; exact g0))
    have HF := Lib.hid hfin
    clear hfin hd3 hd4 hd5 hf5 hown hown' hd2 hb
    go_wp2_with fail
    go_ret
    exact ⟨rfl, HF.out⟩
end
end Go.Proofs.Ytjpmohennekbaaa

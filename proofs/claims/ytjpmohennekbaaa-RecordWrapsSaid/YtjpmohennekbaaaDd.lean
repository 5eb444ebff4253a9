/- A disk's Flush: contracts over the given program. -/
import Derived.Test.YtjpmohennekbaaaDc
namespace Go.Proofs.Ytjpmohennekbaaa
open Go.RowKit Go.Nau

section
variable {w : World} {F : Nat → Prop} {d : Nat} {s : DS}
set_option maxHeartbeats 400000 in
theorem flush_off (h : Dsk w F d s) (ho : offB s = true) : Calls Try.prog 31 #[.pointer (some ⟨d, 0, none⟩)] w fun e w' => e = .returned (.int .i64 43) ∧ DPost w F d { s with gone := true } w' := by
  have hoff := off_dsk h
  rw [ho] at hoff
  have HO := Lib.hid hoff
  clear hoff
  go_enter Try.func31, Try.ntmps31
  go_wp2_with fail
  refine HO.out.mono ?_
  rintro e w1 ⟨rfl, hD⟩
  go_wp2_with fail
  go_ret
  exact ⟨rfl, hD⟩

def flushed (s : DS) : DS := { s with safe := s.now, loose := [], ops := s.ops + 1, gone := false }

set_option maxHeartbeats 1000000 in
set_option maxRecDepth 100000 in
theorem flush_ok (h : Dsk w F d s) (ho : offB s = false) (hops : s.ops ≤ 4611686018427387904) :
    Calls Try.prog 31 #[.pointer (some ⟨d, 0, none⟩)] w fun e w' => e = .returned (.int .i64 0) ∧ DPost w F d (flushed s) w' := by
  have hoff := off_dsk h
  rw [ho] at hoff
  have HO := Lib.hid hoff
  clear hoff
  have hopi : (s.ops : Int) ≤ 4611686018427387904 := by omega
  have hop0 : (0 : Int) ≤ (s.ops : Int) := by omega
  go_enter Try.func31, Try.ntmps31
  go_wp2_with fail
  refine HO.out.mono ?_
  rintro e w1 ⟨rfl, F1, hD, hF1, hf1⟩
  obtain ⟨sb, sc, mb, mc, L, hd, o1, o2, o3, f0, f1, f2, f3, h4⟩ := hD
  have hn1 := own_ne o1 hd (by decide) sb rfl
  have hn2 := own_ne o2 hd (by decide) mb rfl
  have c0 := blk_cell hd 0
  have c1 := blk_cell hd 1
  simp at c0 c1
  have hrd : Rd (fun k => k = mb) w1.drew 1 (some ⟨mb, 0, none⟩) s.now.length (strs s.now) := by
    refine ⟨by simp, fun _ => ⟨_, rfl, rfl, fun j u hu => ?_⟩⟩
    have : (⟨mb, 0, none⟩ : Addr).add j = ⟨mb, j, none⟩ := by unfold Addr.add; split <;> simp_all
    rw [this]
    exact (own_at o2 hu).1
  go_wp2_with fail
  go_region_law (refine step_copy_full rfl (.tmp 12) (.tmp 16) 22 22 rfl 9 Try.underlying22 sizeS sb s.now.length sc 0 (strs s.safe) h4.2 (by go_simp) (by exact o1.drew) (fun k => k = mb) (some ⟨mb, 0, none⟩) mc (strs s.now) (by go_simp) (by exact hrd) (strs_one _) ?_; intro w2 p1 hf2)
  all_goals
    have hd2 := hf2.get (fun e => hn1 e.symm) hd
    have p2 := Fr.own o2.drew hf2 (fun k hk e => h4.1 (by have e1 : mb = k := (by simpa [Value.ownBlock] using hk); exact (e1.trans e).symm))
    have hd3 := blk_set hd2 2 (.slice none 0 0)
    have hd4 := blk_set hd3 3 (.int .i64 ((s.ops : Int) + 1))
    have hf3 : Fr (· = d) w2 (w2.setCell ⟨d, 2, none⟩ (.slice none 0 0)) := Fr.set1 _ _ _ _
    have hf4 : Fr (· = d) (w2.setCell ⟨d, 2, none⟩ (.slice none 0 0)) ((w2.setCell ⟨d, 2, none⟩ (.slice none 0 0)).setCell ⟨d, 3, none⟩ (.int .i64 ((s.ops : Int) + 1))) := Fr.set1 _ _ _ _
    have r1 := Fr.own p1 (hf3.trans hf4) (fun k hk e => own_ne p1 hd2 (by decide) k hk e)
    have r2 := Fr.own p2 (hf3.trans hf4) (fun k hk e => own_ne p2 hd2 (by decide) k hk e)
    have d2 := blk_cell hd2 2
    have y2 := blk_frozen hd2 2
    have d3 := blk_cell hd3 3
    have y3 := blk_frozen hd3 3
    have d3' := blk_cell hd2 3
    have y3' := blk_frozen hd2 3
    simp at d2 d3 d3'
    have hfin : DPost w F d (flushed s) ((w2.setCell ⟨d, 2, none⟩ (.slice none 0 0)).setCell ⟨d, 3, none⟩ (.int .i64 ((s.ops : Int) + 1))) := by
      refine DPost.trans hF1 hf1 (s2 := flushed s) ⟨F1, ⟨sb, sc, mb, mc, .slice none 0 0, ?_, r1, r2, World.ownsRow_nil _ _ _ _, f0, f1, f2, by simp [Value.ownBlock], h4⟩, fun j hj => .inl hj, ?_⟩
      · rw [hd4]
        rfl
      · refine ((Fr.drewN F1 w1 1).trans (hf2.mono (fun j hj => ?_))).trans ((hf3.trans hf4).mono (fun j hj => ?_))
        · subst hj; exact f1
        · subst hj; exact f0
    have HF := Lib.hid hfin
    clear hfin r1 r2 hd3 hd4 p1 p2 o1 o2 o3 hd2
    go_wp2
    go_ret
    exact ⟨rfl, HF.out⟩
end
end Go.Proofs.Ytjpmohennekbaaa

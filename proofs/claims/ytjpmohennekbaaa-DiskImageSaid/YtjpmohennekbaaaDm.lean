/- The reference disk: Write: contracts over the given program. -/
import Derived.Test.YtjpmohennekbaaaDl
namespace Go.Proofs.Ytjpmohennekbaaa
open Go.RowKit Go.Nau Go.Shelf
attribute [local go_sem] Oper.semAt_some

theorem infoRW : (Try.prog.info? 122).map (fun i => (i.zero, i.size, i.bytes)) = some (some (.agg #[.int .i64 0, .string ⟨#[]⟩]), 2, 24) := by kernel_rfl

section
variable {w : World} {G : Nat → Prop} {r : Nat} {s : DS}

set_option maxHeartbeats 400000 in
theorem rwrite_off (h : RDsk w G r s) (ho : offB s = true) (n : Int) (x : ByteArray) : Calls Try.prog 60 #[.pointer (some ⟨r, 0, none⟩), .int .i64 n, .string x] w fun e w' => e = .returned (.int .i64 43) ∧ RPost w G r { s with gone := true } w' := by
  have hoff := roff_dsk h
  rw [ho] at hoff
  have HO := Lib.hid hoff
  clear hoff
  go_enter Try.func60, Try.ntmps60
  go_wp2_with fail
  refine HO.out.mono ?_
  rintro e w1 ⟨rfl, hD⟩
  go_wp2_with fail
  go_ret
  exact ⟨rfl, hD⟩

set_option maxHeartbeats 400000 in
theorem rwrite_bad (h : RDsk w G r s) (ho : offB s = false) (n : Int) (hn : n < 0 ∨ (s.safe.length : Int) ≤ n) (x : ByteArray) : Calls Try.prog 60 #[.pointer (some ⟨r, 0, none⟩), .int .i64 n, .string x] w fun e w' => e = .returned (.int .i64 41) ∧ RPost w G r { s with gone := false } w' := by
  have hoff := roff_dsk h
  rw [ho] at hoff
  have HO := Lib.hid hoff
  clear hoff
  rcases hn with hn | hn
  case' inr => have hn0 : ¬ n < 0 := by omega
  all_goals
    go_enter Try.func60, Try.ntmps60
    go_wp2_with fail
    refine HO.out.mono ?_
    rintro e w1 ⟨rfl, F1, hD, hF1, hf1⟩
    have hD0 := hD
    obtain ⟨bb, bc, L, hd, _⟩ := hD
    have c1 := blk_cell hd 0
    simp [rcells] at c1
    go_wp2_with fail
    go_ret
    exact ⟨rfl, F1, hD0, hF1, hf1⟩

set_option maxHeartbeats 400000 in
theorem rwrite_len (h : RDsk w G r s) (ho : offB s = false) (k : Nat) (hk : k < s.safe.length) (x : ByteArray) (hx : x.size ≠ 512) (_hxm : x.size ≤ maxLen) : Calls Try.prog 60 #[.pointer (some ⟨r, 0, none⟩), .int .i64 k, .string x] w fun e w' => e = .returned (.int .i64 42) ∧ RPost w G r { s with gone := false } w' := by
  have hoff := roff_dsk h
  rw [ho] at hoff
  have HO := Lib.hid hoff
  clear hoff
  have hki : (k : Int) < (s.safe.length : Int) := by omega
  have hk0 : ¬ (k : Int) < 0 := by omega
  have hx1 : ((x.size : Int) != 512) = true := by simp; omega
  go_enter Try.func60, Try.ntmps60
  go_wp2_with fail
  refine HO.out.mono ?_
  rintro e w1 ⟨rfl, F1, hD, hF1, hf1⟩
  have hD0 := hD
  obtain ⟨bb, bc, L, hd, _⟩ := hD
  have c1 := blk_cell hd 0
  simp [rcells] at c1
  go_wp2_with fail
  go_ret
  exact ⟨rfl, F1, hD0, hF1, hf1⟩

set_option maxHeartbeats 1000000 in
set_option maxRecDepth 100000 in
theorem rwrite_ok (h : RDsk w G r s) (ho : offB s = false) (k : Nat) (hk : k < s.safe.length) (x : ByteArray) (hx : x.size = 512) (hops : s.ops ≤ 4611686018427387904) (hll : s.loose.length ≤ 1073741824) :
    Calls Try.prog 60 #[.pointer (some ⟨r, 0, none⟩), .int .i64 k, .string x] w fun e w' => e = .returned (.int .i64 0) ∧ RPost w G r (wrote s k x) w' := by
  obtain ⟨i0, hi, hz0, hz1, hz2⟩ := info_parts infoRW
  have hoff := roff_dsk h
  rw [ho] at hoff
  have HO := Lib.hid hoff
  clear hoff
  have hki : (k : Int) < (s.safe.length : Int) := by omega
  have hk0 : ¬ (k : Int) < 0 := by omega
  have hx1 : ((x.size : Int) != 512) = false := by simp; omega
  have Hx := Lib.hid hx
  clear hx
  have hopi : (s.ops : Int) ≤ 4611686018427387904 := by omega
  have hop0 : (0 : Int) ≤ (s.ops : Int) := by omega
  go_enter Try.func60, Try.ntmps60
  go_wp2_with fail
  refine HO.out.mono ?_
  rintro e w1 ⟨rfl, F1, hD, hF1, hf1⟩
  obtain ⟨bb, bc, L, hd, o1, o3, f0, f1, f3, h4⟩ := hD
  dsimp only at hd o1 o3 h4
  have hn2 := own_ne o3 hd (by decide)
  have hlt := (Array.getElem?_eq_some_iff.1 hd).1
  have c0 := blk_cell hd 0
  have c1 := blk_cell hd 1
  simp [rcells] at c0 c1
  have hrd : Rd (fun _ => True) (w1.alloc (.cells #[.int .i64 k, .string x] 122)) 2 (some ⟨w1.heap.size, 0, none⟩) 1 [.int .i64 k, .string x] := by
    refine ⟨rfl, fun _ => ⟨_, rfl, trivial, fun j u hu => ?_⟩⟩
    have hj : j < 2 := by have := (List.getElem?_eq_some_iff.1 hu).1; simpa using this
    have hnew := heap_alloc_new w1 (.cells #[.int .i64 k, .string x] 122)
    have : (⟨w1.heap.size, 0, none⟩ : Addr).add j = ⟨w1.heap.size, j, none⟩ := by unfold Addr.add; split <;> simp_all
    rw [this, cell_of_row _ w1.heap.size j _ _ _ hnew]
    simpa using hu
  go_wp2_with (at_builtin; refine wpList_append_rd _ rfl (.tmp 27) (.tmp 31) 55 rfl 0 122 i0 _ 2 24 Try.underlying55 hi hz0 hz1 hz2 rfl (by decide) L s.loose.length (wcells s.loose) rfl (o3.alloc _) _ (some ⟨w1.heap.size, 0, none⟩) 1 1 [.int .i64 k, .string x] rfl hrd ?c2 ?c3 ?c4 (Nat.zero_le _) ?_)
  case c2 => simp [Value.oneCell']
  case c3 => unfold maxLen; omega
  case c4 => omega
  intro v0 w2 hown2 hg2 hat
  obtain ⟨vg, vc, cur, hv0, _⟩ := own_form hown2 (by omega)
  obtain ⟨v', hv'⟩ : ∃ v', v' = Value.slice (some ⟨vg, 0, none⟩) (s.loose.length + 1) vc := ⟨_, rfl⟩
  rw [hv0, ← hv'] at hown2 hat
  have hfr : Fr (fun j => L.ownBlock = some j) w1 w2 := ((Fr.refl _ w1).alloc _).grown hg2 (fun k hk _ => hk)
  have hnL : ¬ L.ownBlock = some r := fun e => hn2 r e rfl
  have hd2 := hfr.get hnL hd
  have p1 := Fr.own o1 hfr (fun k hk e => own_own_ne o1 o3 (by decide) k hk e)
  have hvd := own_ne hown2 hd2 (by decide)
  have hd3 := blk_set hd2 1 v'
  have hd5 := blk_set hd3 2 (.int .i64 ((s.ops : Int) + 1))
  have y1 := blk_frozen hd2 1
  have d2 := blk_cell hd2 2
  have y2 := blk_frozen hd2 2
  have d1 := blk_cell hd2 1
  simp [rcells] at d1 d2
  have hf5 : Fr (· = r) w2 ((w2.setCell ⟨r, 1, none⟩ v').setCell ⟨r, 2, none⟩ (.int .i64 ((s.ops : Int) + 1))) := (Fr.set1 _ _ _ _).trans (Fr.set1 _ _ _ _)
  have r1 := Fr.own p1 hf5 (fun k hk e => own_ne p1 hd2 (by decide) k hk e)
  have r3 := Fr.own hown2 hf5 (fun k hk e => hvd k hk e)
  have hz1 : w1.heap.size ≤ w2.heap.size := hfr.size
  have hatF : ∀ j, v'.ownBlock = some j → F1 j ∨ (w1.heap.size ≤ j ∧ j < w2.heap.size) := by
    intro j hj
    have hl2 := (hown2.lt j hj).2
    rcases hat with e | e
    · rw [e] at hj
      exact .inl (f3 j hj)
    · rw [e] at hj
      have h9 := Option.some.inj hj
      try simp at h9
      exact .inr ⟨by omega, hl2⟩
  have hfin : RPost w G r (wrote s k x) ((w2.setCell ⟨r, 1, none⟩ v').setCell ⟨r, 2, none⟩ (.int .i64 ((s.ops : Int) + 1))) := by
    refine RPost.trans hF1 hf1 (s2 := wrote s k x) ⟨fun j => F1 j ∨ (w1.heap.size ≤ j ∧ j < w2.heap.size), ⟨bb, bc, v', ?_, ?_, ?_, .inl f0, .inl f1, hatF, h4⟩, fun j hj => ?_, ?_⟩
    · show _ = some (Obj.cells (rcells s.safe.length bb bc v' ((s.ops + 1 : Nat)) s.cut false) 57 (0, 0))
      rw [hd5]
      rfl
    · exact r1
    · show World.ownsRow _ 0 122 2 v' (s.loose ++ [(k, x)]).length (wcells (s.loose ++ [(k, x)]))
      rw [List.length_append, wcells_snoc]
      exact r3
    · rcases hj with h | h
      · exact .inl h
      · refine .inr ⟨h.1, ?_⟩
        simp [World.setCell]
        exact h.2
    · refine (hfr.mono (fun j hj => f3 j hj)).trans (hf5.mono (fun j hj => ?_))
      subst hj; exact f0
  have HF := Lib.hid hfin
  subst hv0
  subst hv'
  clear hfin r1 r3 hatF hat hd3 hd5 p1 hown2 hg2 o1 o3 hd2 hvd hf5
  go_wp2_with fail
  go_ret
  exact ⟨rfl, HF.out⟩
end
end Go.Proofs.Ytjpmohennekbaaa

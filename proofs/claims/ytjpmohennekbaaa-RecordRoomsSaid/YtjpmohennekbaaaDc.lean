/- A disk's Write and Flush: contracts over the given program. -/
import Derived.Test.YtjpmohennekbaaaDb
import Derived.StillTailTactics
namespace Go.Proofs.Ytjpmohennekbaaa
open Go.RowKit Go.Nau

theorem infoW : (Try.prog.info? 88).map (fun i => (i.zero, i.size, i.bytes)) = some (some (.agg #[.int .i64 0, .string ⟨#[]⟩]), 2, 24) := by kernel_rfl

theorem wcells_length (l : List (Nat × ByteArray)) : (wcells l).length = l.length * 2 := by
  unfold wcells
  induction l with
  | nil => rfl
  | cons x l ih => simp only [List.flatMap_cons, List.length_append, ih, List.length_cons, List.length_nil]; omega
theorem wcells_snoc (l : List (Nat × ByteArray)) (x : Nat × ByteArray) : wcells (l ++ [x]) = wcells l ++ [.int .i64 x.1, .string x.2] := by simp [wcells]

section
variable {w : World} {F : Nat → Prop} {d : Nat} {s : DS}

theorem DPost.trans {w1 w2 : World} {F1 : Nat → Prop} {s2 : DS} (hF : ∀ k, F1 k → F k ∨ (w.heap.size ≤ k ∧ k < w1.heap.size)) (hf : Fr F w w1) (h : DPost w1 F1 d s2 w2) : DPost w F d s2 w2 := by
  obtain ⟨F', h1, h2, h3⟩ := h
  refine ⟨F', h1, fun k hk => ?_, hf.after h3 (fun k hk hs => ?_)⟩
  · rcases h2 k hk with h | h
    · rcases hF k h with h | h
      · exact .inl h
      · exact .inr ⟨h.1, Nat.lt_of_lt_of_le h.2 h3.size⟩
    · exact .inr ⟨Nat.le_trans hf.size h.1, h.2⟩
  · rcases hF k hs with h | h
    · exact h
    · omega

set_option maxHeartbeats 400000 in
theorem write_off (h : Dsk w F d s) (ho : offB s = true) (n : Int) (x : ByteArray) : Calls Try.prog 27 #[.pointer (some ⟨d, 0, none⟩), .int .i64 n, .string x] w fun e w' => e = .returned (.int .i64 43) ∧ DPost w F d { s with gone := true } w' := by
  have hoff := off_dsk h
  rw [ho] at hoff
  have HO := Lib.hid hoff
  clear hoff
  go_enter Try.func27, Try.ntmps27
  go_wp2_with fail
  refine HO.out.mono ?_
  rintro e w1 ⟨rfl, hD⟩
  go_wp2_with fail
  go_ret
  exact ⟨rfl, hD⟩

set_option maxHeartbeats 400000 in
theorem write_bad (h : Dsk w F d s) (ho : offB s = false) (n : Int) (hn : n < 0 ∨ (s.now.length : Int) ≤ n) (x : ByteArray) : Calls Try.prog 27 #[.pointer (some ⟨d, 0, none⟩), .int .i64 n, .string x] w fun e w' => e = .returned (.int .i64 41) ∧ DPost w F d { s with gone := false } w' := by
  have hoff := off_dsk h
  rw [ho] at hoff
  have HO := Lib.hid hoff
  clear hoff
  rcases hn with hn | hn
  case' inr => have hn0 : ¬ n < 0 := by omega
  all_goals
    go_enter Try.func27, Try.ntmps27
    go_wp2_with fail
    refine HO.out.mono ?_
    rintro e w1 ⟨rfl, F1, hD, hF1, hf1⟩
    have hD0 := hD
    obtain ⟨sb, sc, mb, mc, L, hd, _⟩ := hD
    have c1 := blk_cell hd 1
    simp at c1
    go_wp2_with fail
    go_ret
    exact ⟨rfl, F1, hD0, hF1, hf1⟩

set_option maxHeartbeats 400000 in
theorem write_len (h : Dsk w F d s) (ho : offB s = false) (k : Nat) (hk : k < s.now.length) (x : ByteArray) (hx : x.size ≠ 512) (_hxm : x.size ≤ maxLen) : Calls Try.prog 27 #[.pointer (some ⟨d, 0, none⟩), .int .i64 k, .string x] w fun e w' => e = .returned (.int .i64 42) ∧ DPost w F d { s with gone := false } w' := by
  have hoff := off_dsk h
  rw [ho] at hoff
  have HO := Lib.hid hoff
  clear hoff
  have hki : (k : Int) < (s.now.length : Int) := by omega
  have hx1 : ((x.size : Int) != 512) = true := by simp; omega
  go_enter Try.func27, Try.ntmps27
  go_wp2_with fail
  refine HO.out.mono ?_
  rintro e w1 ⟨rfl, F1, hD, hF1, hf1⟩
  have hD0 := hD
  obtain ⟨sb, sc, mb, mc, L, hd, _⟩ := hD
  have c1 := blk_cell hd 1
  simp at c1
  go_wp2_with fail
  go_ret
  exact ⟨rfl, F1, hD0, hF1, hf1⟩

def wrote (s : DS) (k : Nat) (x : ByteArray) : DS := { s with now := s.now.set k x, loose := s.loose ++ [(k, x)], ops := s.ops + 1, gone := false }

set_option maxHeartbeats 1000000 in
set_option maxRecDepth 100000 in
theorem write_ok (h : Dsk w F d s) (ho : offB s = false) (k : Nat) (hk : k < s.now.length) (x : ByteArray) (hx : x.size = 512) (hops : s.ops ≤ 4611686018427387904) (hll : s.loose.length ≤ 1073741824) :
    Calls Try.prog 27 #[.pointer (some ⟨d, 0, none⟩), .int .i64 k, .string x] w fun e w' => e = .returned (.int .i64 0) ∧ DPost w F d (wrote s k x) w' := by
  obtain ⟨i0, hi, hz0, hz1, hz2⟩ := info_parts infoW
  have hoff := off_dsk h
  rw [ho] at hoff
  have HO := Lib.hid hoff
  clear hoff
  have hki : (k : Int) < (s.now.length : Int) := by omega
  have hx1 : ((x.size : Int) != 512) = false := by simp; omega
  have Hx := Lib.hid hx
  clear hx
  have hopi : (s.ops : Int) ≤ 4611686018427387904 := by omega
  have hop0 : (0 : Int) ≤ (s.ops : Int) := by omega
  go_enter Try.func27, Try.ntmps27
  go_wp2_with fail
  refine HO.out.mono ?_
  rintro e w1 ⟨rfl, F1, hD, hF1, hf1⟩
  obtain ⟨sb, sc, mb, mc, L, hd, o1, o2, o3, f0, f1, f2, f3, h4⟩ := hD
  have hn1 := own_ne o2 hd (by decide) mb rfl
  have hn2 := own_ne o3 hd (by decide)
  have hlt := (Array.getElem?_eq_some_iff.1 hd).1
  have c1 := blk_cell hd 1
  have c2 := blk_cell hd 2
  simp at c1 c2
  have hrd : Rd (fun _ => True) (w1.alloc (.cells #[.int .i64 k, .string x] 88)) 2 (some ⟨w1.heap.size, 0, none⟩) 1 [.int .i64 k, .string x] := by
    refine ⟨rfl, fun _ => ⟨_, rfl, trivial, fun j u hu => ?_⟩⟩
    have hj : j < 2 := by have := (List.getElem?_eq_some_iff.1 hu).1; simpa using this
    have hnew := heap_alloc_new w1 (.cells #[.int .i64 k, .string x] 88)
    have : (⟨w1.heap.size, 0, none⟩ : Addr).add j = ⟨w1.heap.size, j, none⟩ := by unfold Addr.add; split <;> simp_all
    rw [this, cell_of_row _ w1.heap.size j _ _ _ hnew]
    simpa using hu
  go_wp2_with (at_builtin; refine wpList_append_rd _ rfl (.tmp 33) (.tmp 37) 81 rfl 0 88 i0 _ 2 24 Try.underlying81 hi hz0 hz1 hz2 rfl (by decide) L s.loose.length (wcells s.loose) rfl (o3.alloc _) _ (some ⟨w1.heap.size, 0, none⟩) 1 1 [.int .i64 k, .string x] rfl hrd ?c2 ?c3 ?c4 (Nat.zero_le _) ?_)
  case c2 => simp [Value.oneCell']
  case c3 => unfold maxLen; omega
  case c4 => omega
  intro v0 w2 hown2 hg2 hat
  obtain ⟨vg, vc, cur, hv0, _⟩ := own_form hown2 (by omega)
  obtain ⟨v', hv'⟩ : ∃ v', v' = Value.slice (some ⟨vg, 0, none⟩) (s.loose.length + 1) vc := ⟨_, rfl⟩
  rw [hv0, ← hv'] at hown2 hat
  have hfr : Fr (fun j => L.ownBlock = some j) w1 w2 := ((Fr.refl _ w1).alloc _).grown hg2 (fun k hk _ => hk)
  have hnL : ¬ L.ownBlock = some d := fun e => hn2 d e rfl
  have hd2 := hfr.get hnL hd
  have p1 := Fr.own o1 hfr (fun k hk e => own_own_ne o1 o3 (by decide) k hk e)
  have p2 := Fr.own o2 hfr (fun k hk e => own_own_ne o2 o3 (by decide) k hk e)
  have hvd := own_ne hown2 hd2 (by decide)
  have hd3 := blk_set hd2 2 v'
  obtain ⟨y, hy⟩ : ∃ y, s.now[k]? = some y := ⟨_, List.getElem?_eq_getElem hk⟩
  have hf3 : Fr (· = d) w2 (w2.setCell ⟨d, 2, none⟩ v') := Fr.set1 _ _ _ _
  have q2 := Fr.own p2 hf3 (fun k hk e => own_ne p2 hd2 (by decide) k hk e)
  obtain ⟨m1, m2⟩ := own_at q2 (strs_at hy)
  have hf4 : Fr (· = mb) (w2.setCell ⟨d, 2, none⟩ v') ((w2.setCell ⟨d, 2, none⟩ v').setCell ⟨mb, k, none⟩ (.string x)) := Fr.set1 _ _ _ _
  have hd4 := hf4.get (fun e => hn1 e.symm) hd3
  have hd5 := blk_set hd4 3 (.int .i64 ((s.ops : Int) + 1))
  have d2 := blk_cell hd2 2
  have y2 := blk_frozen hd2 2
  have d3 := blk_cell hd3 1
  have d4 := blk_cell hd4 3
  have y4 := blk_frozen hd4 3
  simp at d2 d3 d4
  have hf5 : Fr (· = d) ((w2.setCell ⟨d, 2, none⟩ v').setCell ⟨mb, k, none⟩ (.string x)) (((w2.setCell ⟨d, 2, none⟩ v').setCell ⟨mb, k, none⟩ (.string x)).setCell ⟨d, 3, none⟩ (.int .i64 ((s.ops : Int) + 1))) := Fr.set1 _ _ _ _
  have r1 := Fr.own (Fr.own (Fr.own p1 hf3 (fun k hk e => own_ne p1 hd2 (by decide) k hk e)) hf4 (fun k hk e => by
    have e1 : sb = k := by simpa [Value.ownBlock] using hk
    exact h4.1 (e1.trans e))) hf5 (fun k hk e => own_ne p1 hd2 (by decide) k hk e)
  have r2 := Fr.own (own_set q2 k (.string x)) hf5 (fun k hk e => own_ne p2 hd2 (by decide) k hk e)
  have r3 := Fr.own (Fr.own (Fr.own hown2 hf3 (fun k hk e => hvd k hk e)) hf4 (fun k hk e => by
    have e1 : mb = k := e.symm
    exact own_own_ne p2 hown2 (by decide) mb rfl (by rw [e1]; exact hk))) hf5 (fun k hk e => hvd k hk e)
  have hz1 : w1.heap.size ≤ w2.heap.size := hfr.size
  have hatF : ∀ j, v'.ownBlock = some j → F1 j ∨ (w1.heap.size ≤ j ∧ j < w2.heap.size) := by
    intro j hj
    have hl2 := (hown2.lt j hj).2
    rcases hat with e | e
    · rw [e] at hj
      exact .inl (f3 j hj)
    · rw [e] at hj
      have h9 := Option.some.inj hj
      try simp at h9
      exact .inr ⟨by omega, hl2⟩
  have hfin : DPost w F d (wrote s k x) (((w2.setCell ⟨d, 2, none⟩ v').setCell ⟨mb, k, none⟩ (.string x)).setCell ⟨d, 3, none⟩ (.int .i64 ((s.ops : Int) + 1))) := by
    refine DPost.trans hF1 hf1 (s2 := wrote s k x) ⟨fun j => F1 j ∨ (w1.heap.size ≤ j ∧ j < w2.heap.size), ⟨sb, sc, mb, mc, v', ?_, ?_, ?_, ?_, .inl f0, .inl f1, .inl f2, hatF, h4.1, ?_⟩, fun j hj => ?_, ?_⟩
    · show _ = some (Obj.cells #[.slice (some ⟨sb, 0, none⟩) (s.now.set k x).length sc, .slice (some ⟨mb, 0, none⟩) (s.now.set k x).length mc, v', .int .i64 ((s.ops + 1 : Nat) : Int), .int .i64 s.cut, .bool false] 83 (0, 0))
      rw [List.length_set, hd5]
      rfl
    · show World.ownsRow _ 0 9 1 (.slice (some ⟨sb, 0, none⟩) (s.now.set k x).length sc) (s.now.set k x).length (strs s.safe)
      rw [List.length_set]
      exact r1
    · show World.ownsRow _ 0 9 1 (.slice (some ⟨mb, 0, none⟩) (s.now.set k x).length mc) (s.now.set k x).length (strs (s.now.set k x))
      rw [List.length_set, strs, List.map_set]
      exact r2
    · show World.ownsRow _ 0 88 2 v' (s.loose ++ [(k, x)]).length (wcells (s.loose ++ [(k, x)]))
      rw [List.length_append, wcells_snoc]
      exact r3
    · show 0 < (s.now.set k x).length
      rw [List.length_set]
      exact h4.2
    · rcases hj with h | h
      · exact .inl h
      · refine .inr ⟨h.1, ?_⟩
        simp [World.setCell]
        exact h.2
    · refine (((hfr.mono (fun j hj => f3 j hj)).trans (hf3.mono (fun j hj => ?_))).trans (hf4.mono (fun j hj => ?_))).trans (hf5.mono (fun j hj => ?_))
      · subst hj; exact f0
      · subst hj; exact f2
      · subst hj; exact f0
  have HF := Lib.hid hfin
  subst hv0
  subst hv'
  clear hfin r1 r2 r3 hatF hat hd3 hd4 hd5 p1 p2 q2 hown2 hg2 o1 o2 o3 hd2 hvd
  go_wp2
  go_ret
  exact ⟨rfl, HF.out⟩
end
end Go.Proofs.Ytjpmohennekbaaa

/- Texts of this proof, joined: Dc Dd De. They hold under no condition beyond what each theorem states. -/
import Derived.Test.YtjmfeoenbncibaaM04
import Derived.StillTailTactics
import Derived.RangeFuncNested
import Derived.RangeFuncBound
import Derived.RangeFuncCalls
import Derived.RangeFuncLeaves
import Derived.Shelf.Abstract
import Derived.Shelf.RegionOpen
import Derived.OwnWalkIn
import Derived.TacticsInMore
import Derived.LoopNIn
import Derived.LoopIn
namespace Go.Proofs.Ytjmfeoenbncibaa
open Go.RowKit Go.Nau

theorem infoW : (Try.prog.info? 122).map (fun i => (i.zero, i.size, i.bytes)) = some (some (.agg #[.int .i64 0, .string ⟨#[]⟩]), 2, 24) := by kernel_rfl

theorem wcells_length (l : List (Nat × ByteArray)) : (wcells l).length = l.length * 2 := by
  unfold wcells
  induction l with
  | nil => rfl
  | cons x l ih => simp only [List.flatMap_cons, List.length_append, ih, List.length_cons, List.length_nil]; omega
theorem wcells_snoc (l : List (Nat × ByteArray)) (x : Nat × ByteArray) : wcells (l ++ [x]) = wcells l ++ [.int .i64 x.1, .string x.2] := by simp [wcells]

section
variable {w : World} {F : Nat → Prop} {d : Nat} {s : DS}

theorem DPost.trans {w1 w2 : World} {F1 : Nat → Prop} {s2 : DS} (hF : ∀ k, F1 k → F k ∨ (w.heap.size ≤ k ∧ k < w1.heap.size)) (hf : Fr F w w1) (h : DPost w1 F1 d s2 w2) : DPost w F d s2 w2 := by
  obtain ⟨F', h1, h2, h3⟩ := h
  refine ⟨F', h1, fun k hk => ?_, hf.after h3 (fun k hk hs => ?_)⟩
  · rcases h2 k hk with h | h
    · rcases hF k h with h | h
      · exact .inl h
      · exact .inr ⟨h.1, Nat.lt_of_lt_of_le h.2 h3.size⟩
    · exact .inr ⟨Nat.le_trans hf.size h.1, h.2⟩
  · rcases hF k hs with h | h
    · exact h
    · omega

set_option maxHeartbeats 400000 in
theorem write_off (h : Dsk w F d s) (ho : offB s = true) (n : Int) (x : ByteArray) : Calls Try.prog 48 #[.pointer (some ⟨d, 0, none⟩), .int .i64 n, .string x] w fun e w' => e = .returned (.int .i64 43) ∧ DPost w F d { s with gone := true } w' := by
  have hoff := off_dsk h
  rw [ho] at hoff
  have HO := Lib.hid hoff
  clear hoff
  go_enter Try.func48, Try.ntmps48
  go_wp2_with fail
  refine HO.out.mono ?_
  rintro e w1 ⟨rfl, hD⟩
  go_wp2_with fail
  go_ret
  exact ⟨rfl, hD⟩

set_option maxHeartbeats 400000 in
theorem write_bad (h : Dsk w F d s) (ho : offB s = false) (n : Int) (hn : n < 0 ∨ (s.now.length : Int) ≤ n) (x : ByteArray) : Calls Try.prog 48 #[.pointer (some ⟨d, 0, none⟩), .int .i64 n, .string x] w fun e w' => e = .returned (.int .i64 41) ∧ DPost w F d { s with gone := false } w' := by
  have hoff := off_dsk h
  rw [ho] at hoff
  have HO := Lib.hid hoff
  clear hoff
  rcases hn with hn | hn
  case' inr => have hn0 : ¬ n < 0 := by omega
  all_goals
    go_enter Try.func48, Try.ntmps48
    go_wp2_with fail
    refine HO.out.mono ?_
    rintro e w1 ⟨rfl, F1, hD, hF1, hf1⟩
    have hD0 := hD
    obtain ⟨sb, sc, mb, mc, L, hd, _⟩ := hD
    have c1 := blk_cell hd 1
    simp at c1
    go_wp2_with fail
    go_ret
    exact ⟨rfl, F1, hD0, hF1, hf1⟩

set_option maxHeartbeats 400000 in
theorem write_len (h : Dsk w F d s) (ho : offB s = false) (k : Nat) (hk : k < s.now.length) (x : ByteArray) (hx : x.size ≠ 512) (_hxm : x.size ≤ maxLen) : Calls Try.prog 48 #[.pointer (some ⟨d, 0, none⟩), .int .i64 k, .string x] w fun e w' => e = .returned (.int .i64 42) ∧ DPost w F d { s with gone := false } w' := by
  have hoff := off_dsk h
  rw [ho] at hoff
  have HO := Lib.hid hoff
  clear hoff
  have hki : (k : Int) < (s.now.length : Int) := by omega
  have hx1 : ((x.size : Int) != 512) = true := by simp; omega
  go_enter Try.func48, Try.ntmps48
  go_wp2_with fail
  refine HO.out.mono ?_
  rintro e w1 ⟨rfl, F1, hD, hF1, hf1⟩
  have hD0 := hD
  obtain ⟨sb, sc, mb, mc, L, hd, _⟩ := hD
  have c1 := blk_cell hd 1
  simp at c1
  go_wp2_with fail
  go_ret
  exact ⟨rfl, F1, hD0, hF1, hf1⟩

def wrote (s : DS) (k : Nat) (x : ByteArray) : DS := { s with now := s.now.set k x, loose := s.loose ++ [(k, x)], ops := s.ops + 1, gone := false }

set_option maxHeartbeats 1000000 in
set_option maxRecDepth 100000 in
theorem write_ok (h : Dsk w F d s) (ho : offB s = false) (k : Nat) (hk : k < s.now.length) (x : ByteArray) (hx : x.size = 512) (hops : s.ops ≤ 4611686018427387904) (hll : s.loose.length ≤ 1073741824) :
    Calls Try.prog 48 #[.pointer (some ⟨d, 0, none⟩), .int .i64 k, .string x] w fun e w' => e = .returned (.int .i64 0) ∧ DPost w F d (wrote s k x) w' := by
  obtain ⟨i0, hi, hz0, hz1, hz2⟩ := info_parts infoW
  have hoff := off_dsk h
  rw [ho] at hoff
  have HO := Lib.hid hoff
  clear hoff
  have hki : (k : Int) < (s.now.length : Int) := by omega
  have hx1 : ((x.size : Int) != 512) = false := by simp; omega
  have Hx := Lib.hid hx
  clear hx
  have hopi : (s.ops : Int) ≤ 4611686018427387904 := by omega
  have hop0 : (0 : Int) ≤ (s.ops : Int) := by omega
  go_enter Try.func48, Try.ntmps48
  go_wp2_with fail
  refine HO.out.mono ?_
  rintro e w1 ⟨rfl, F1, hD, hF1, hf1⟩
  obtain ⟨sb, sc, mb, mc, L, hd, o1, o2, o3, f0, f1, f2, f3, h4⟩ := hD
  have hn1 := own_ne o2 hd (by decide) mb rfl
  have hn2 := own_ne o3 hd (by decide)
  have hlt := (Array.getElem?_eq_some_iff.1 hd).1
  have c1 := blk_cell hd 1
  have c2 := blk_cell hd 2
  simp at c1 c2
  have hrd : Rd (fun _ => True) (w1.alloc (.cells #[.int .i64 k, .string x] 122)) 2 (some ⟨w1.heap.size, 0, none⟩) 1 [.int .i64 k, .string x] := by
    refine ⟨rfl, fun _ => ⟨_, rfl, trivial, fun j u hu => ?_⟩⟩
    have hj : j < 2 := by have := (List.getElem?_eq_some_iff.1 hu).1; simpa using this
    have hnew := heap_alloc_new w1 (.cells #[.int .i64 k, .string x] 122)
    have : (⟨w1.heap.size, 0, none⟩ : Addr).add j = ⟨w1.heap.size, j, none⟩ := by unfold Addr.add; split <;> simp_all
    rw [this, cell_of_row _ w1.heap.size j _ _ _ hnew]
    simpa using hu
  go_wp2_with (at_builtin; refine wpList_append_rd _ rfl (.tmp 33) (.tmp 37) 99 rfl 0 122 i0 _ 2 24 Try.underlying99 hi hz0 hz1 hz2 rfl (by decide) L s.loose.length (wcells s.loose) rfl (o3.alloc _) _ (some ⟨w1.heap.size, 0, none⟩) 1 1 [.int .i64 k, .string x] rfl hrd ?c2 ?c3 ?c4 (Nat.zero_le _) ?_)
  case c2 => simp [Value.oneCell']
  case c3 => unfold maxLen; omega
  case c4 => omega
  intro v0 w2 hown2 hg2 hat
  obtain ⟨vg, vc, cur, hv0, _⟩ := own_form hown2 (by omega)
  obtain ⟨v', hv'⟩ : ∃ v', v' = Value.slice (some ⟨vg, 0, none⟩) (s.loose.length + 1) vc := ⟨_, rfl⟩
  rw [hv0, ← hv'] at hown2 hat
  have hfr : Fr (fun j => L.ownBlock = some j) w1 w2 := ((Fr.refl _ w1).alloc _).grown hg2 (fun k hk _ => hk)
  have hnL : ¬ L.ownBlock = some d := fun e => hn2 d e rfl
  have hd2 := hfr.get hnL hd
  have p1 := Fr.own o1 hfr (fun k hk e => own_own_ne o1 o3 (by decide) k hk e)
  have p2 := Fr.own o2 hfr (fun k hk e => own_own_ne o2 o3 (by decide) k hk e)
  have hvd := own_ne hown2 hd2 (by decide)
  have hd3 := blk_set hd2 2 v'
  obtain ⟨y, hy⟩ : ∃ y, s.now[k]? = some y := ⟨_, List.getElem?_eq_getElem hk⟩
  have hf3 : Fr (· = d) w2 (w2.setCell ⟨d, 2, none⟩ v') := Fr.set1 _ _ _ _
  have q2 := Fr.own p2 hf3 (fun k hk e => own_ne p2 hd2 (by decide) k hk e)
  obtain ⟨m1, m2⟩ := own_at q2 (strs_at hy)
  have hf4 : Fr (· = mb) (w2.setCell ⟨d, 2, none⟩ v') ((w2.setCell ⟨d, 2, none⟩ v').setCell ⟨mb, k, none⟩ (.string x)) := Fr.set1 _ _ _ _
  have hd4 := hf4.get (fun e => hn1 e.symm) hd3
  have hd5 := blk_set hd4 3 (.int .i64 ((s.ops : Int) + 1))
  have d2 := blk_cell hd2 2
  have y2 := blk_frozen hd2 2
  have d3 := blk_cell hd3 1
  have d4 := blk_cell hd4 3
  have y4 := blk_frozen hd4 3
  simp at d2 d3 d4
  have hf5 : Fr (· = d) ((w2.setCell ⟨d, 2, none⟩ v').setCell ⟨mb, k, none⟩ (.string x)) (((w2.setCell ⟨d, 2, none⟩ v').setCell ⟨mb, k, none⟩ (.string x)).setCell ⟨d, 3, none⟩ (.int .i64 ((s.ops : Int) + 1))) := Fr.set1 _ _ _ _
  have r1 := Fr.own (Fr.own (Fr.own p1 hf3 (fun k hk e => own_ne p1 hd2 (by decide) k hk e)) hf4 (fun k hk e => by
    have e1 : sb = k := by simpa [Value.ownBlock] using hk
    exact h4.1 (e1.trans e))) hf5 (fun k hk e => own_ne p1 hd2 (by decide) k hk e)
  have r2 := Fr.own (own_set q2 k (.string x)) hf5 (fun k hk e => own_ne p2 hd2 (by decide) k hk e)
  have r3 := Fr.own (Fr.own (Fr.own hown2 hf3 (fun k hk e => hvd k hk e)) hf4 (fun k hk e => by
    have e1 : mb = k := e.symm
    exact own_own_ne p2 hown2 (by decide) mb rfl (by rw [e1]; exact hk))) hf5 (fun k hk e => hvd k hk e)
  have hz1 : w1.heap.size ≤ w2.heap.size := hfr.size
  have hatF : ∀ j, v'.ownBlock = some j → F1 j ∨ (w1.heap.size ≤ j ∧ j < w2.heap.size) := by
    intro j hj
    have hl2 := (hown2.lt j hj).2
    rcases hat with e | e
    · rw [e] at hj
      exact .inl (f3 j hj)
    · rw [e] at hj
      have h9 := Option.some.inj hj
      try simp at h9
      exact .inr ⟨by omega, hl2⟩
  have hfin : DPost w F d (wrote s k x) (((w2.setCell ⟨d, 2, none⟩ v').setCell ⟨mb, k, none⟩ (.string x)).setCell ⟨d, 3, none⟩ (.int .i64 ((s.ops : Int) + 1))) := by
    refine DPost.trans hF1 hf1 (s2 := wrote s k x) ⟨fun j => F1 j ∨ (w1.heap.size ≤ j ∧ j < w2.heap.size), ⟨sb, sc, mb, mc, v', ?_, ?_, ?_, ?_, .inl f0, .inl f1, .inl f2, hatF, h4.1, ?_⟩, fun j hj => ?_, ?_⟩
    · show _ = some (Obj.cells #[.slice (some ⟨sb, 0, none⟩) (s.now.set k x).length sc, .slice (some ⟨mb, 0, none⟩) (s.now.set k x).length mc, v', .int .i64 ((s.ops + 1 : Nat) : Int), .int .i64 s.cut, .bool false] 101 (0, 0))
      rw [List.length_set, hd5]
      rfl
    · show World.ownsRow _ 0 9 1 (.slice (some ⟨sb, 0, none⟩) (s.now.set k x).length sc) (s.now.set k x).length (strs s.safe)
      rw [List.length_set]
      exact r1
    · show World.ownsRow _ 0 9 1 (.slice (some ⟨mb, 0, none⟩) (s.now.set k x).length mc) (s.now.set k x).length (strs (s.now.set k x))
      rw [List.length_set, strs, List.map_set]
      exact r2
    · show World.ownsRow _ 0 122 2 v' (s.loose ++ [(k, x)]).length (wcells (s.loose ++ [(k, x)]))
      rw [List.length_append, wcells_snoc]
      exact r3
    · show 0 < (s.now.set k x).length
      rw [List.length_set]
      exact h4.2
    · rcases hj with h | h
      · exact .inl h
      · refine .inr ⟨h.1, ?_⟩
        simp [World.setCell]
        exact h.2
    · refine (((hfr.mono (fun j hj => f3 j hj)).trans (hf3.mono (fun j hj => ?_))).trans (hf4.mono (fun j hj => ?_))).trans (hf5.mono (fun j hj => ?_))
      · subst hj; exact f0
      · subst hj; exact f2
      · subst hj; exact f0
  have HF := Lib.hid hfin
  subst hv0
  subst hv'
  clear hfin r1 r2 r3 hatF hat hd3 hd4 hd5 p1 p2 q2 hown2 hg2 o1 o2 o3 hd2 hvd
  go_wp2
  go_ret
  exact ⟨rfl, HF.out⟩
end
end Go.Proofs.Ytjmfeoenbncibaa
namespace Go.Proofs.Ytjmfeoenbncibaa
open Go.RowKit Go.Nau

section
variable {w : World} {F : Nat → Prop} {d : Nat} {s : DS}
set_option maxHeartbeats 400000 in
theorem flush_off (h : Dsk w F d s) (ho : offB s = true) : Calls Try.prog 50 #[.pointer (some ⟨d, 0, none⟩)] w fun e w' => e = .returned (.int .i64 43) ∧ DPost w F d { s with gone := true } w' := by
  have hoff := off_dsk h
  rw [ho] at hoff
  have HO := Lib.hid hoff
  clear hoff
  go_enter Try.func50, Try.ntmps50
  go_wp2_with fail
  refine HO.out.mono ?_
  rintro e w1 ⟨rfl, hD⟩
  go_wp2_with fail
  go_ret
  exact ⟨rfl, hD⟩

def flushed (s : DS) : DS := { s with safe := s.now, loose := [], ops := s.ops + 1, gone := false }

set_option maxHeartbeats 1000000 in
set_option maxRecDepth 100000 in
theorem flush_ok (h : Dsk w F d s) (ho : offB s = false) (hops : s.ops ≤ 4611686018427387904) :
    Calls Try.prog 50 #[.pointer (some ⟨d, 0, none⟩)] w fun e w' => e = .returned (.int .i64 0) ∧ DPost w F d (flushed s) w' := by
  have hoff := off_dsk h
  rw [ho] at hoff
  have HO := Lib.hid hoff
  clear hoff
  have hopi : (s.ops : Int) ≤ 4611686018427387904 := by omega
  have hop0 : (0 : Int) ≤ (s.ops : Int) := by omega
  go_enter Try.func50, Try.ntmps50
  go_wp2_with fail
  refine HO.out.mono ?_
  rintro e w1 ⟨rfl, F1, hD, hF1, hf1⟩
  obtain ⟨sb, sc, mb, mc, L, hd, o1, o2, o3, f0, f1, f2, f3, h4⟩ := hD
  have hn1 := own_ne o1 hd (by decide) sb rfl
  have hn2 := own_ne o2 hd (by decide) mb rfl
  have c0 := blk_cell hd 0
  have c1 := blk_cell hd 1
  simp at c0 c1
  have hrd : Rd (fun k => k = mb) w1.drew 1 (some ⟨mb, 0, none⟩) s.now.length (strs s.now) := by
    refine ⟨by simp, fun _ => ⟨_, rfl, rfl, fun j u hu => ?_⟩⟩
    have : (⟨mb, 0, none⟩ : Addr).add j = ⟨mb, j, none⟩ := by unfold Addr.add; split <;> simp_all
    rw [this]
    exact (own_at o2 hu).1
  go_wp2_with fail
  go_region_law (refine step_copy_full rfl (.tmp 12) (.tmp 16) 43 43 rfl 9 Try.underlying43 sizeS sb s.now.length sc 0 (strs s.safe) h4.2 (by go_simp) (by exact o1.drew) (fun k => k = mb) (some ⟨mb, 0, none⟩) mc (strs s.now) (by go_simp) (by exact hrd) (strs_one _) ?_; intro w2 p1 hf2)
  all_goals
    have hd2 := hf2.get (fun e => hn1 e.symm) hd
    have p2 := Fr.own o2.drew hf2 (fun k hk e => h4.1 (by have e1 : mb = k := (by simpa [Value.ownBlock] using hk); exact (e1.trans e).symm))
    have hd3 := blk_set hd2 2 (.slice none 0 0)
    have hd4 := blk_set hd3 3 (.int .i64 ((s.ops : Int) + 1))
    have hf3 : Fr (· = d) w2 (w2.setCell ⟨d, 2, none⟩ (.slice none 0 0)) := Fr.set1 _ _ _ _
    have hf4 : Fr (· = d) (w2.setCell ⟨d, 2, none⟩ (.slice none 0 0)) ((w2.setCell ⟨d, 2, none⟩ (.slice none 0 0)).setCell ⟨d, 3, none⟩ (.int .i64 ((s.ops : Int) + 1))) := Fr.set1 _ _ _ _
    have r1 := Fr.own p1 (hf3.trans hf4) (fun k hk e => own_ne p1 hd2 (by decide) k hk e)
    have r2 := Fr.own p2 (hf3.trans hf4) (fun k hk e => own_ne p2 hd2 (by decide) k hk e)
    have d2 := blk_cell hd2 2
    have y2 := blk_frozen hd2 2
    have d3 := blk_cell hd3 3
    have y3 := blk_frozen hd3 3
    have d3' := blk_cell hd2 3
    have y3' := blk_frozen hd2 3
    simp at d2 d3 d3'
    have hfin : DPost w F d (flushed s) ((w2.setCell ⟨d, 2, none⟩ (.slice none 0 0)).setCell ⟨d, 3, none⟩ (.int .i64 ((s.ops : Int) + 1))) := by
      refine DPost.trans hF1 hf1 (s2 := flushed s) ⟨F1, ⟨sb, sc, mb, mc, .slice none 0 0, ?_, r1, r2, World.ownsRow_nil _ _ _ _, f0, f1, f2, by simp [Value.ownBlock], h4⟩, fun j hj => .inl hj, ?_⟩
      · rw [hd4]
        rfl
      · refine ((Fr.drewN F1 w1 1).trans (hf2.mono (fun j hj => ?_))).trans ((hf3.trans hf4).mono (fun j hj => ?_))
        · subst hj; exact f1
        · subst hj; exact f0
    have HF := Lib.hid hfin
    clear hfin r1 r2 hd3 hd4 p1 p2 o1 o2 o3 hd2
    go_wp2
    go_ret
    exact ⟨rfl, HF.out⟩
end
end Go.Proofs.Ytjmfeoenbncibaa
namespace Go.Proofs.Ytjmfeoenbncibaa
open Go.RowKit Go.Nau Go.Shelf
attribute [local go_sem] Oper.semAt_some

/-- How much of a loose write stays. -/
def stays (i : Nat) (keep torn : Int) : Int := if (i : Int) = torn then 256 else if (bits BinOp.and IntKind.u64 (keep / 2 ^ (i % 64)) 1 == 1) = true then 512 else 0

/-- A write that may be, and what of it stays. -/
abbrev LW (n : Nat) : Type := { x : (Nat × ByteArray) × Int // x.1.1 < n ∧ x.1.2.size = 512 ∧ (x.2 = 0 ∨ x.2 = 256 ∨ x.2 = 512) }

theorem left_in (F : Fence) (n : Nat) (hF : F.fn 66) (hro : F.round = none) (d : Nat) (keep torn : Int) (w : World) :
    CallsIn F n Try.prog 66 #[.pointer (some ⟨d, 0, none⟩), .agg #[.int .u64 keep, .int .i64 torn]] w fun e w' =>
      e = .returned (.func (.func 86) #[] #[.pointer (some ⟨w.heap.size, 0, none⟩), .pointer (some ⟨w.heap.size + 1, 0, none⟩)]) ∧
      w' = (w.alloc (.cells #[.pointer (some ⟨d, 0, none⟩)] 24)).alloc (.cells #[.int .u64 keep, .int .i64 torn] 73) := by
  refine callsIn_of_wp Try.func66 rfl hF ?_ hro
  simp only [Try.ntmps66, List.size_toArray, List.length_cons, List.length_nil, Nat.reduceAdd, Nat.reduceSub, Array.replicate_succ, Array.replicate_zero, List.push_toArray, List.append_toArray, List.nil_append, List.cons_append]
  gi_wp2
  go_ret
  exact ⟨rfl, rfl⟩

def told (m : Nat) (loose : List (LW m)) : List (Nat × ByteArray) := loose.map fun x => x.1.1

/-- The shape that the iterator's body reads: the pointer's box, the disk's loose writes, the fate's box. -/
structure Reads (W : World) (b1 b2 d : Nat) (L : Value) (xs : List (Nat × ByteArray)) (keep torn : Int) : Prop where
  box1 : W.cell? ⟨b1, 0, none⟩ = some (.pointer (some ⟨d, 0, none⟩))
  keep : W.cell? ⟨b2, 0, none⟩ = some (.int .u64 keep)
  torn : W.cell? ⟨b2, 1, none⟩ = some (.int .i64 torn)
  loose : W.cell? ⟨d, 2, none⟩ = some L
  own : W.ownsRow 0 122 2 L xs.length (wcells xs)

theorem wcells_get (l : List (Nat × ByteArray)) (i : Nat) (x : Nat × ByteArray) (h : l[i]? = some x) : (wcells l)[i * 2]? = some (.int .i64 x.1) ∧ (wcells l)[i * 2 + 1]? = some (.string x.2) := by
  induction l generalizing i with
  | nil => simp at h
  | cons y l ih =>
    cases i with
    | zero =>
      simp at h
      subst h
      simp [wcells]
    | succ i =>
      simp only [List.getElem?_cons_succ] at h
      obtain ⟨h1, h2⟩ := ih i h
      have e1 : (i + 1) * 2 = i * 2 + 1 + 1 := by omega
      simp only [wcells, List.flatMap_cons, List.cons_append, List.nil_append] at h1 h2 ⊢
      rw [e1]
      simp only [List.getElem?_cons_succ]
      exact ⟨h1, h2⟩

set_option maxRecDepth 100000 in
set_option maxHeartbeats 2000000 in
theorem left1_in (F : Fence) (n : Nat) (hF : F.fn 86) (hro : F.round = none) (hn : 1 ≤ n) (l b1 b2 d m : Nat) (L : Value) (zs : List (LW m)) (keep torn : Int) (hz : zs.length ≤ 1073741824)
    (hst : ∀ (k : Nat) (z : LW m), zs[k]? = some z → z.1.2 = stays k keep torn) (Kp : World → World → Prop) (hKp : ∀ A B, Kp A B → Reads A b1 b2 d L (told m zs) keep torn → Reads B b1 b2 d L (told m zs) keep torn)
    (J Jx : List (LW m) → World → Prop) (hJa : ∀ pre A o, J pre A → J pre (A.alloc o))
    (hY : ∀ pre x W, J pre W → pre.length < zs.length → YieldAt F (n - 1) Try.prog l #[.agg #[.int .i64 (x.1.1.1 : Int), .string x.1.1.2], .int .i64 x.1.2] W fun e W' =>
      (e = .returned (.bool true) ∧ J (pre ++ [x]) W' ∧ Kp W W') ∨ (e = .returned (.bool false) ∧ Jx (pre ++ [x]) W'))
    (W : World) (hR : Reads W b1 b2 d L (told m zs) keep torn) (h0 : J [] W) :
    CallsIn F n Try.prog 86 #[.func (.yield l) #[] #[], .pointer (some ⟨b1, 0, none⟩), .pointer (some ⟨b2, 0, none⟩)] W fun e W' => (∃ v, e = .returned v) ∧
      ((∃ ys, ys = zs ∧ J ys W') ∨ (∃ pre, pre <+: zs ∧ Jx pre W')) := by
  obtain ⟨A, c, hL, _⟩ := Rd.of_own hR.own
  subst hL
  have r1 := hR.box1
  have r2 := hR.loose
  refine callsIn_of_wp Try.func86 rfl hF ?_ hro
  simp only [Try.ntmps86, List.size_toArray, List.length_cons, List.length_nil, Nat.reduceAdd, Nat.reduceSub, Array.replicate_succ, Array.replicate_zero, List.push_toArray, List.append_toArray, List.nil_append, List.cons_append]
  gi_wp2
  gi_loopw [12] (fun i wr => ∃ k : Nat, k ≤ (told m zs).length ∧ i = .int .i64 k ∧ J (zs.take k) wr ∧ Reads wr b1 b2 d (.slice A (told m zs).length c) (told m zs) keep torn) (fun i _ => (told m zs).length - (intOf i).toNat)
  case atStart => exact ⟨0, Nat.zero_le _, rfl, h0, hR⟩
  case round =>
    obtain ⟨k, hk, rfl, hJs, hRd⟩ := hrel
    have hll : (told m zs).length = zs.length := by simp [told]
    by_cases hlt : k < (told m zs).length
    · have hlti : (k : Int) < ((told m zs).length : Int) := by omega
      have hb31 : (k : Int) ≤ 1073741824 := by omega
      obtain ⟨z, hz1⟩ : ∃ z, zs[k]? = some z := ⟨_, List.getElem?_eq_getElem (by omega)⟩
      have ht : (told m zs)[k]? = some z.1.1 := by simp [told, hz1]
      obtain ⟨A', c', eA, _, _, hrd⟩ := Rd.of_own hRd.own
      simp only [Value.slice.injEq, true_and] at eA
      obtain ⟨rfl, rfl⟩ := eA
      obtain ⟨ad, rfl, _, hcell⟩ := hrd.2 (by omega)
      obtain ⟨g0, g1⟩ : (wcells (told m zs))[k * 2]? = some (.int .i64 z.1.1.1) ∧ (wcells (told m zs))[k * 2 + 1]? = some (.string z.1.1.2) := wcells_get _ _ _ ht
      have e0 := hcell _ _ g0
      have e1 := hcell _ _ g1
      rw [← Go.Nau.add_add] at e1
      have e1' : wr.cell? ⟨(ad.add (k * 2)).block, (ad.add (k * 2)).off + 1, none⟩ = some (.string z.1.1.2) := e1
      have k1 := hRd.torn
      have k2 := hRd.keep
      have K1 : ∀ o, (wr.alloc o).cell? ⟨b2, 1, none⟩ = some (.int .i64 torn) := fun o => (Fr.alloc (Fr.refl (fun _ => False) wr) o).cell id k1
      have K2 : ∀ o, (wr.alloc o).cell? ⟨b2, 0, none⟩ = some (.int .u64 keep) := fun o => (Fr.alloc (Fr.refl (fun _ => False) wr) o).cell id k2
      have hpl : (zs.take k).length = k := by simp; omega
      have hyy := hY (zs.take k) z (wr.alloc (.cells #[.int .i64 z.1.1.1, .string z.1.1.2] 122)) (hJa _ _ _ hJs) (by omega)
      have hsn : zs.take k ++ [z] = zs.take (k + 1) := by rw [List.take_add_one, hz1]; rfl
      have hst1 := hst k z hz1
      have HST := Lib.hid hst1
      have HSN := Lib.hid hsn
      have HL := Lib.hid hll
      have HR' : Hid (Reads (wr.alloc (.cells #[.int .i64 z.1.1.1, .string z.1.1.2] 122)) b1 b2 d (.slice (some ad) (told m zs).length c) (told m zs) keep torn) :=
        ⟨(Fr.alloc (Fr.refl (fun _ => False) wr) _).cell id hRd.box1, K2 _, K1 _, (Fr.alloc (Fr.refl (fun _ => False) wr) _).cell id hRd.loose, hRd.own.alloc _⟩
      clear hst1 hsn hll hpl hz1 ht g0 g1 hcell hrd e1 k1 k2 hst
      by_cases hto : (k : Int) = torn
      · have hto' : ((k : Int) == torn) = true := by simpa using hto
        have hn1 : z.1.2 = 256 := by rw [HST.out]; unfold stays; rw [if_pos hto]
        rw [hn1] at hyy
        obtain ⟨fn, tmps, assign, body, hy, hRR⟩ := hyy
        clear hto hn1
        gi_wp2
        refine hRR.mono ?_
        rintro e W3 (⟨rfl, hJ3, hk3⟩ | ⟨rfl, hJx3⟩)
        · have hR3 := hKp _ _ hk3 HR'.out
          rw [HSN.out] at hJ3
          gi_wp2
          go_roundw
          case rel => exact ⟨k + 1, by omega, by go_num, hJ3, hR3⟩
          case measure => simp [intOf]; omega
        · rw [HSN.out] at hJx3
          gi_wp2
          refine bodyPost_ret (results_none rfl _ _ _) rfl ?_
          exact ⟨⟨_, rfl⟩, .inr ⟨_, List.take_prefix _ _, hJx3⟩⟩
      · have hto' : ((k : Int) == torn) = false := by simpa using hto
        by_cases hbt : (bits BinOp.and IntKind.u64 (keep / 2 ^ (k % 64)) 1 == 1) = true
        · have hn1 : z.1.2 = 512 := by rw [HST.out]; unfold stays; rw [if_neg hto, if_pos hbt]
          rw [hn1] at hyy
          obtain ⟨fn, tmps, assign, body, hy, hRR⟩ := hyy
          clear hto hn1
          gi_wp2
          refine hRR.mono ?_
          rintro e W3 (⟨rfl, hJ3, hk3⟩ | ⟨rfl, hJx3⟩)
          · have hR3 := hKp _ _ hk3 HR'.out
            rw [HSN.out] at hJ3
            gi_wp2
            go_roundw
            case rel => exact ⟨k + 1, by omega, by go_num, hJ3, hR3⟩
            case measure => simp [intOf]; omega
          · rw [HSN.out] at hJx3
            gi_wp2
            refine bodyPost_ret (results_none rfl _ _ _) rfl ?_
            exact ⟨⟨_, rfl⟩, .inr ⟨_, List.take_prefix _ _, hJx3⟩⟩
        · have hbt' : (bits BinOp.and IntKind.u64 (keep / 2 ^ (k % 64)) 1 == 1) = false := by simpa using hbt
          have hn1 : z.1.2 = 0 := by rw [HST.out]; unfold stays; rw [if_neg hto, if_neg hbt]
          rw [hn1] at hyy
          obtain ⟨fn, tmps, assign, body, hy, hRR⟩ := hyy
          clear hto hn1 hbt
          gi_wp2
          refine hRR.mono ?_
          rintro e W3 (⟨rfl, hJ3, hk3⟩ | ⟨rfl, hJx3⟩)
          · have hR3 := hKp _ _ hk3 HR'.out
            rw [HSN.out] at hJ3
            gi_wp2
            go_roundw
            case rel => exact ⟨k + 1, by omega, by go_num, hJ3, hR3⟩
            case measure => simp [intOf]; omega
          · rw [HSN.out] at hJx3
            gi_wp2
            refine bodyPost_ret (results_none rfl _ _ _) rfl ?_
            exact ⟨⟨_, rfl⟩, .inr ⟨_, List.take_prefix _ _, hJx3⟩⟩
    · have hkl : zs.take k = zs := List.take_of_length_le (by omega)
      rw [hkl] at hJs
      clear hkl hll
      gi_wp2
      go_end0
      exact ⟨⟨_, rfl⟩, .inl ⟨_, rfl, hJs⟩⟩
end Go.Proofs.Ytjmfeoenbncibaa

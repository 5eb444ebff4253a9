/- A disk's Blocks, Ops, Loose, Read, Image, CutAt, off: contracts over the given program. -/
import Derived.Test.YtjpmohennekbaaaDa
namespace Go.Proofs.Ytjpmohennekbaaa
open Go.RowKit Go.Nau

theorem blk_cell {w : World} {d : Nat} {cs : Array Value} {t : TypeId} (h : w.heap[d]? = some (.cells cs t (0, 0))) (i : Nat) : w.cell? ⟨d, i, none⟩ = cs[i]? := cell_of_row w d i cs t (0, 0) h
theorem blk_frozen {w : World} {d : Nat} {cs : Array Value} {t : TypeId} (h : w.heap[d]? = some (.cells cs t (0, 0))) (i : Nat) : w.frozen? ⟨d, i, none⟩ = false := by simp [World.frozen?, h]
theorem blk_set {w : World} {d : Nat} {cs : Array Value} {t : TypeId} (h : w.heap[d]? = some (.cells cs t (0, 0))) (i : Nat) (u : Value) : (w.setCell ⟨d, i, none⟩ u).heap[d]? = some (.cells (cs.setIfInBounds i u) t (0, 0)) := by
  simp [World.setCell, Array.getElem?_modify, h]

/-- What a call leaves of a disk. -/
def DPost (w : World) (F : Nat → Prop) (d : Nat) (s : DS) (w' : World) : Prop :=
  ∃ F', Dsk w' F' d s ∧ (∀ k, F' k → F k ∨ (w.heap.size ≤ k ∧ k < w'.heap.size)) ∧ Fr F w w'

/-- The pointer's block as it reads. -/
def dcells (n sb sc mb mc : Nat) (L : Value) (ops : Nat) (cut : Int) (gone : Bool) : Array Value :=
  #[.slice (some ⟨sb, 0, none⟩) n sc, .slice (some ⟨mb, 0, none⟩) n mc, L, .int .i64 ops, .int .i64 cut, .bool gone]

theorem blocks_nil (w : World) : Calls Try.prog 30 #[.pointer none] w fun e w' => e = .returned (.int .i64 0) ∧ w = w' := by
  go_enter Try.func30, Try.ntmps30
  go_wp2
  go_ret
  exact ⟨rfl, rfl⟩
theorem ops_nil (w : World) : Calls Try.prog 33 #[.pointer none] w fun e w' => e = .returned (.int .i64 0) ∧ w = w' := by
  go_enter Try.func33, Try.ntmps33
  go_wp2
  go_ret
  exact ⟨rfl, rfl⟩
theorem loose_nil (w : World) : Calls Try.prog 32 #[.pointer none] w fun e w' => e = .returned (.int .i64 0) ∧ w = w' := by
  go_enter Try.func32, Try.ntmps32
  go_wp2
  go_ret
  exact ⟨rfl, rfl⟩
theorem image_nil (w : World) : Calls Try.prog 19 #[.pointer none] w fun e w' => e = .returned (.slice none 0 0) ∧ w = w' := by
  go_enter Try.func19, Try.ntmps19
  go_wp2
  go_ret
  exact ⟨rfl, rfl⟩
theorem read_nil (n : Int) (w : World) : Calls Try.prog 25 #[.pointer none, .int .i64 n] w fun e w' => e = .returned (.tuple #[.string ⟨#[]⟩, .int .i64 1]) ∧ w = w' := by
  go_enter Try.func25, Try.ntmps25
  go_wp2
  go_ret2
  exact ⟨rfl, rfl⟩
theorem cutat_nil (n : Int) (w : World) : Calls Try.prog 26 #[.pointer none, .int .i64 n] w fun e w' => e = .returned (.tuple #[]) ∧ w = w' := by
  go_enter Try.func26, Try.ntmps26
  go_wp2
  go_end0
  exact ⟨rfl, rfl⟩
theorem write_nil (n : Int) (s : ByteArray) (w : World) : Calls Try.prog 27 #[.pointer none, .int .i64 n, .string s] w fun e w' => e = .returned (.int .i64 1) ∧ w = w' := by
  go_enter Try.func27, Try.ntmps27
  go_wp2
  go_ret
  exact ⟨rfl, rfl⟩
theorem flush_nil (w : World) : Calls Try.prog 31 #[.pointer none] w fun e w' => e = .returned (.int .i64 1) ∧ w = w' := by
  go_enter Try.func31, Try.ntmps31
  go_wp2
  go_ret
  exact ⟨rfl, rfl⟩

section
variable {w : World} {F : Nat → Prop} {d : Nat} {s : DS}
theorem blocks_dsk (h : Dsk w F d s) : Calls Try.prog 30 #[.pointer (some ⟨d, 0, none⟩)] w fun e w' => e = .returned (.int .i64 s.now.length) ∧ w = w' := by
  obtain ⟨sb, sc, mb, mc, L, hd, _⟩ := h
  have c1 := blk_cell hd 1
  simp at c1
  go_enter Try.func30, Try.ntmps30
  go_wp2
  go_ret
  exact ⟨rfl, rfl⟩
theorem ops_dsk (h : Dsk w F d s) : Calls Try.prog 33 #[.pointer (some ⟨d, 0, none⟩)] w fun e w' => e = .returned (.int .i64 s.ops) ∧ w = w' := by
  obtain ⟨sb, sc, mb, mc, L, hd, _⟩ := h
  have c1 := blk_cell hd 3
  simp at c1
  go_enter Try.func33, Try.ntmps33
  go_wp2
  go_ret
  exact ⟨rfl, rfl⟩
theorem loose_dsk (h : Dsk w F d s) : Calls Try.prog 32 #[.pointer (some ⟨d, 0, none⟩)] w fun e w' => e = .returned (.int .i64 s.loose.length) ∧ w = w' := by
  obtain ⟨sb, sc, mb, mc, L, hd, _, _, hL, _⟩ := h
  obtain ⟨A, c, rfl, _⟩ := Rd.of_own hL
  have c1 := blk_cell hd 2
  simp at c1
  go_enter Try.func32, Try.ntmps32
  go_wp2
  go_ret
  exact ⟨rfl, rfl⟩

set_option maxHeartbeats 400000 in
theorem read_ok (h : Dsk w F d s) (k : Nat) (x : ByteArray) (hx : s.now[k]? = some x) : Calls Try.prog 25 #[.pointer (some ⟨d, 0, none⟩), .int .i64 k] w fun e w' => e = .returned (.tuple #[.string x, .int .i64 0]) ∧ w = w' := by
  obtain ⟨sb, sc, mb, mc, L, hd, _, hM, _⟩ := h
  have c1 := blk_cell hd 1
  simp at c1
  have hk : k < s.now.length := (List.getElem?_eq_some_iff.1 hx).1
  have hki : (k : Int) < (s.now.length : Int) := by omega
  obtain ⟨hc, _⟩ := own_at hM (strs_at hx)
  clear hx
  go_enter Try.func25, Try.ntmps25
  go_wp2
  go_ret2
  exact ⟨rfl, rfl⟩
set_option maxHeartbeats 400000 in
theorem read_bad (h : Dsk w F d s) (k : Int) (hk : k < 0 ∨ (s.now.length : Int) ≤ k) : Calls Try.prog 25 #[.pointer (some ⟨d, 0, none⟩), .int .i64 k] w fun e w' => e = .returned (.tuple #[.string ⟨#[]⟩, .int .i64 41]) ∧ w = w' := by
  obtain ⟨sb, sc, mb, mc, L, hd, _, hM, _⟩ := h
  have c1 := blk_cell hd 1
  simp at c1
  rcases hk with hk | hk
  · go_enter Try.func25, Try.ntmps25
    go_wp2
    go_ret2
    exact ⟨rfl, rfl⟩
  · have hk0 : ¬ k < 0 := by omega
    go_enter Try.func25, Try.ntmps25
    go_wp2
    go_ret2
    exact ⟨rfl, rfl⟩

set_option maxHeartbeats 400000 in
theorem image_dsk (h : Dsk w F d s) (hn : s.now.length ≤ 8192) : Calls Try.prog 19 #[.pointer (some ⟨d, 0, none⟩)] w fun e w' =>
    ∃ v, e = .returned v ∧ w'.ownsRow w.heap.size 9 1 v s.now.length (strs s.now) ∧ Below w.heap.size w w' := by
  obtain ⟨sb, sc, mb, mc, L, hd, _, hM, _⟩ := h
  have c1 := blk_cell hd 1
  simp at c1
  have hcl := Try.slices_Clone_string mb 0 s.now.length mc s.now w (Nat.le_refl _) (by omega) (fun j hj => by
    have := (own_at hM (strs_at (List.getElem?_eq_getElem hj))).1
    rw [Nat.zero_add, this]
    simp [List.getD, List.getElem?_eq_getElem hj])
  rw [List.take_length] at hcl
  have HC := Lib.hid hcl
  clear hcl
  go_enter Try.func19, Try.ntmps19
  go_wp2_with fail
  refine HC.out.mono ?_
  rintro e w2 ⟨v, rfl, hown, _, hb⟩
  go_wp2_with fail
  go_ret
  exact ⟨v, rfl, hown, hb⟩

/-- Only the three last fields have turned. -/
theorem Dsk.turned {w' : World} {s' : DS} (h : Dsk w F d s) (hf : Fr (· = d) w w') (h1 : s'.safe = s.safe) (h2 : s'.now = s.now) (h3 : s'.loose = s.loose)
    (hc : ∀ sb sc mb mc L, w.heap[d]? = some (.cells (dcells s.now.length sb sc mb mc L s.ops s.cut s.gone) 83 (0, 0)) → w'.heap[d]? = some (.cells (dcells s.now.length sb sc mb mc L s'.ops s'.cut s'.gone) 83 (0, 0))) : DPost w F d s' w' := by
  obtain ⟨sb, sc, mb, mc, L, hd, o1, o2, o3, f0, f1, f2, f3, h4⟩ := h
  have hx := hc sb sc mb mc L hd
  refine ⟨F, ⟨sb, sc, mb, mc, L, ?_, ?_, ?_, ?_, f0, f1, f2, f3, ?_⟩, fun k hk => .inl hk, hf.mono (fun k hk => by subst hk; exact f0)⟩
  · rw [h2]
    exact hx
  · rw [h1, h2]
    exact Fr.own o1 hf (fun k hk => own_ne o1 hd (by decide) k hk)
  · rw [h2]
    exact Fr.own o2 hf (fun k hk => own_ne o2 hd (by decide) k hk)
  · rw [h3]
    exact Fr.own o3 hf (fun k hk => own_ne o3 hd (by decide) k hk)
  · rw [h2]
    exact h4

theorem Fr.set1 (w : World) (d i : Nat) (u : Value) : Fr (· = d) w (w.setCell ⟨d, i, none⟩ u) := Fr.setCell (S := (· = d)) (p := ⟨d, i, none⟩) (Fr.refl _ _) (fun _ => rfl) _
theorem Fr.drewN (S : Nat → Prop) (w : World) (n : Nat) : Fr S w (w.drewN n) := Fr.new (below_drewN (Below.refl _ _) n) S

set_option maxHeartbeats 400000 in
theorem cutat_dsk (h : Dsk w F d s) (c : Int) : Calls Try.prog 26 #[.pointer (some ⟨d, 0, none⟩), .int .i64 c] w fun e w' => e = .returned (.tuple #[]) ∧ DPost w F d { s with cut := c, gone := false } w' := by
  have h0 := h
  obtain ⟨sb, sc, mb, mc, L, hd, _⟩ := h
  have c4 := blk_cell hd 4
  have c5 := blk_cell hd 5
  have z4 := blk_frozen hd 4
  have z5 := blk_frozen hd 5
  simp at c4 c5
  go_enter Try.func26, Try.ntmps26
  go_wp2
  go_end0
  refine ⟨rfl, h0.turned ((Fr.set1 _ _ _ _).trans (Fr.set1 _ _ _ _)) rfl rfl rfl (fun sb sc mb mc L hd => ?_)⟩
  rw [blk_set (blk_set hd 4 _) 5 _]
  rfl

/-- Is the power gone? -/
def offB (s : DS) : Bool := s.gone || (decide (0 ≤ s.cut) && decide (s.cut ≤ s.ops))

set_option maxHeartbeats 1000000 in
theorem off_dsk (h : Dsk w F d s) : Calls Try.prog 61 #[.pointer (some ⟨d, 0, none⟩)] w fun e w' => e = .returned (.bool (offB s)) ∧ DPost w F d { s with gone := offB s } w' := by
  have h0 := h
  obtain ⟨sb, sc, mb, mc, L, hd, _⟩ := h
  have c3 := blk_cell hd 3
  have c4 := blk_cell hd 4
  have c5 := blk_cell hd 5
  have z5 := blk_frozen hd 5
  simp at c3 c4 c5
  have fin1 : ∀ q, offB s = true → DPost w F d { s with gone := offB s } ((w.drewN q).setCell ⟨d, 5, none⟩ (.bool true)) := fun q ho =>
    h0.turned ((Fr.drewN _ _ q).trans (Fr.set1 _ _ _ _)) rfl rfl rfl (fun sb sc mb mc L hd => by
      rw [ho, blk_set (w := w.drewN q) hd 5 _]
      rfl)
  have fin2 : ∀ q, offB s = s.gone → DPost w F d { s with gone := offB s } (w.drewN q) := fun q ho =>
    h0.turned (Fr.drewN _ _ q) rfl rfl rfl (fun sb sc mb mc L hd => by
      rw [ho]
      exact hd)
  have F1 := Lib.hid fin1
  have F2 := Lib.hid fin2
  clear fin1 fin2
  by_cases g1 : 0 ≤ s.cut
  · by_cases g2 : s.cut ≤ s.ops
    · have ho : offB s = true := by simp [offB, g1, g2]
      have HO := Lib.hid ho
      clear ho
      go_enter Try.func61, Try.ntmps61
      go_wp2
      go_quiet (fail)
      rename_i nq
      go_wp2
      go_ret
      exact ⟨by rw [HO.out]; rfl, F1.out nq HO.out⟩
    · have ho : offB s = s.gone := by simp [offB, g1, g2]
      have HO := Lib.hid ho
      clear ho
      go_enter Try.func61, Try.ntmps61
      go_wp2
      go_quiet (fail)
      rename_i nq
      go_wp2
      go_ret
      exact ⟨by rw [HO.out]; rfl, F2.out nq HO.out⟩
  · have ho : offB s = s.gone := by simp [offB, g1]
    have g1' : decide (0 ≤ s.cut) = false := by simpa using g1
    have HO := Lib.hid ho
    clear ho
    go_enter Try.func61, Try.ntmps61
    go_wp2
    go_quiet (fail)
    rename_i nq
    go_wp2
    go_ret
    exact ⟨by rw [HO.out]; rfl, F2.out nq HO.out⟩
end
end Go.Proofs.Ytjpmohennekbaaa

/- The law DirsKeeps walked. -/
import Derived.Test.YtliioeihbbhiiaaEm
namespace Go.Proofs.Ytliioeihbbhiiaa
open Go.RowKit Go.Nau Go.Shelf
attribute [local go_sem] Oper.semAt_some

theorem dirS_snoc1 (l : List Nm) (x : Nm) : dirS (l ++ [x]) = dirS l ++ strL (oneL x) := by
  unfold dirS
  rw [strL_append]
  simp
theorem addE_zero {s name : ByteArray} {ino : Nat} (h : addE s name ino = 0) : findE s name = 112 ∧ ino ≠ 0 ∧ s.size + (6 + name.size) ≤ 20000 := by
  unfold addE at h
  split at h
  · cases h
  · rename_i h0
    split at h
    · exact absurd h h0
    · rename_i h1
      split at h
      · cases h
      · rename_i h2
        split at h
        · cases h
        · exact ⟨by simpa using h1, h2, by omega⟩
theorem idxN_mem {l : List Nm} {name : ByteArray} : idxN l name = l.length ↔ memB name (l.map (·.name)) = false := by
  rw [← Bool.not_eq_true, memB_iff, ← idxN_lt_iff]
  have := idxN_le l name
  omega
theorem idxN_append {l m : List Nm} {name : ByteArray} (h : idxN l name = l.length) : idxN (l ++ m) name = l.length + idxN m name := by
  unfold idxN at *
  rw [List.findIdx_append, if_neg (by omega)]
  omega
theorem idxN_left {l m : List Nm} {name : ByteArray} (h : idxN l name < l.length) : idxN (l ++ m) name = idxN l name := by
  unfold idxN at *
  rw [List.findIdx_append, if_pos h]
theorem idxN_one (x : Nm) (name : ByteArray) : idxN [x] name = if x.name = name then 0 else 1 := by
  unfold idxN
  by_cases h : x.name = name
  · rw [if_pos h, List.findIdx_cons, eqB_iff.2 h]
    rfl
  · rw [if_neg h, List.findIdx_cons]
    cases e : eqB x.name name
    · rfl
    · exact absurd (eqB_iff.1 e) h
theorem fresh_snoc (l : List ByteArray) (n : ByteArray) (h : freshB [] l = true) (hm : memB n l = false) : freshB [] (l ++ [n]) = true := by
  rw [freshB_append, h]
  simp only [freshB, Bool.true_and, Bool.and_true, List.append_nil]
  have : memB n l.reverse = memB n l := by
    rw [Bool.eq_iff_iff, memB_iff, memB_iff, List.mem_reverse]
  rw [this, hm]
  rfl
/-- What an adding that went well is. -/
theorem added {s name : ByteArray} {ino : Nat} (hi : ino < 4294967296) (h : addE s name ino = 0) : ∃ l, GoodL l ∧ s = dirS l ∧ nameB name = true ∧ ino ≠ 0 ∧ idxN l name = l.length ∧ GoodL (l ++ [⟨name, ino⟩]) ∧ addS s name ino = dirS (l ++ [⟨name, ino⟩]) := by
  obtain ⟨h1, h2, h3⟩ := addE_zero h
  have hok : rdOk s = true := by
    unfold findE at h1
    split at h1
    · assumption
    · cases h1
  obtain ⟨g, hs⟩ := rdOk_good hok
  have hn := findE_name (.inr h1)
  have hx : idxN (namesL s) name = (namesL s).length := by
    unfold findE at h1
    rw [if_pos hok, if_pos hn] at h1
    split at h1
    · cases h1
    · rename_i hlt
      have := idxN_le (namesL s) name
      omega
  refine ⟨namesL s, g, hs, hn, h2, hx, ⟨?_, ?_, ?_⟩, ?_⟩
  · intro x hx'
    rcases List.mem_append.1 hx' with h | h
    · exact g.wf x h
    · rw [List.mem_singleton] at h
      subst h
      exact ⟨hn, Nat.pos_of_ne_zero h2, hi⟩
  · rw [List.map_append]
    exact fresh_snoc _ _ g.fresh (idxN_mem.1 hx)
  · rw [← dirS_size, dirS_snoc1, ByteArray.size_append, strL_size, oneL_length, ← hs]
    exact h3
  · unfold addS
    rw [if_pos h, dirS_snoc1, ← hs]
/-- A name that was added is found; others are found as before. -/
theorem added_find {l : List Nm} {name : ByteArray} {ino : Nat} (g : GoodL l) (g2 : GoodL (l ++ [⟨name, ino⟩])) (hn : nameB name = true) (hx : idxN l name = l.length) :
    findE (dirS (l ++ [⟨name, ino⟩])) name = 0 ∧ (findD (dirS (l ++ [⟨name, ino⟩])) name).ino = ino ∧ idxN (l ++ [⟨name, ino⟩]) name = l.length ∧ findE (dirS l) name = 112 := by
  have hi : idxN (l ++ [⟨name, ino⟩]) name = l.length := by
    rw [idxN_append hx, idxN_one, if_pos rfl]
    rfl
  have h0 : findE (dirS (l ++ [⟨name, ino⟩])) name = 0 := by
    rw [g2.findE, if_pos hn, hi, if_pos (by simp)]
  refine ⟨h0, ?_, hi, ?_⟩
  · obtain ⟨_, x, hx2, _, hD⟩ := g2.hit h0
    rw [hD]
    rw [hi] at hx2
    simp at hx2
    rw [← hx2]
  · rw [g.findE, if_pos hn, hx, if_neg (by omega)]
theorem added_other {l : List Nm} {name other : ByteArray} {ino : Nat} (g : GoodL l) (g2 : GoodL (l ++ [⟨name, ino⟩])) (hne : other ≠ name) :
    findE (dirS (l ++ [⟨name, ino⟩])) other = findE (dirS l) other ∧ (findD (dirS (l ++ [⟨name, ino⟩])) other).ino = (findD (dirS l) other).ino := by
  by_cases hlt : idxN l other < l.length
  · have hi := idxN_left (m := [⟨name, ino⟩]) hlt
    have he : findE (dirS (l ++ [⟨name, ino⟩])) other = findE (dirS l) other := by
      rw [g2.findE, g.findE, hi]
      simp only [List.length_append, List.length_cons, List.length_nil]
      rw [if_pos (show idxN l other < l.length + (0 + 1) by omega), if_pos hlt]
    refine ⟨he, ?_⟩
    by_cases h0 : findE (dirS l) other = 0
    · obtain ⟨_, x, hx, _, hD⟩ := g.hit h0
      obtain ⟨_, y, hy, _, hD2⟩ := g2.hit (he.trans h0)
      rw [hD, hD2]
      rw [hi, List.getElem?_append_left hlt, hx] at hy
      injection hy with hy
      rw [hy]
    · unfold findD
      rw [he, if_neg h0, if_neg h0]
  · have hx : idxN l other = l.length := by have := idxN_le l other; omega
    have hi : idxN (l ++ [⟨name, ino⟩]) other = l.length + 1 := by
      rw [idxN_append hx, idxN_one, if_neg (fun e => hne e.symm)]
    have he : findE (dirS (l ++ [⟨name, ino⟩])) other = findE (dirS l) other := by
      rw [g2.findE, g.findE, hi, hx]
      simp
    refine ⟨he, ?_⟩
    have h0 : findE (dirS l) other ≠ 0 := by
      rw [g.findE, hx]
      split
      · simp
      · decide
    unfold findD
    rw [he, if_neg h0, if_neg h0]
theorem added_drop {l : List Nm} {name : ByteArray} {ino : Nat} (g : GoodL l) (g2 : GoodL (l ++ [⟨name, ino⟩])) (hn : nameB name = true) (hx : idxN l name = l.length) : dropS (dirS (l ++ [⟨name, ino⟩])) name = dirS l := by
  obtain ⟨h0, _, hi, _⟩ := added_find g g2 hn hx
  rw [g2.dropS name h0, hi, List.eraseIdx_append_of_length_le (Nat.le_refl _), Nat.sub_self]
  simp
theorem added_set {l : List Nm} {name : ByteArray} {ino : Nat} (g : GoodL l) (g2 : GoodL (l ++ [⟨name, ino⟩])) (hn : nameB name = true) (hx : idxN l name = l.length) (h : ino ≠ 0) :
    setS (dirS (l ++ [⟨name, ino⟩])) name ino = dirS (l ++ [⟨name, ino⟩]) ∧ setE (dirS (l ++ [⟨name, ino⟩])) name ino = 0 := by
  obtain ⟨h0, _, hi, _⟩ := added_find g g2 hn hx
  refine ⟨?_, ?_⟩
  · rw [g2.setS name ino h0 h, hi, List.set_append_right _ _ (Nat.le_refl _), Nat.sub_self]
    rfl
  · unfold setE
    rw [if_pos h0, if_neg h]

set_option maxHeartbeats 4000000 in
set_option maxRecDepth 100000 in
theorem keeps_law (s name other : ByteArray) (n : Int) (hs : s.size ≤ maxLen) (h0 : 0 ≤ n) (h1 : n ≤ 4294967295) (w : World) :
    Calls Try.prog 4 #[.string s, .string name, .string other, .int .u32 n] w fun e w' => e = .returned (.bool true) ∧ Below w.heap.size w w' := by
  obtain ⟨ino, rfl⟩ := Int.eq_ofNat_of_zero_le h0
  have hi : ino < 4294967296 := by omega
  have hz := cutS_size s
  have HC := Lib.hid (fun W => cut_any s hs W)
  generalize cutS s = t at *
  have ht : t.size ≤ 9223372036854775807 := by omega
  have g1 := fun W => add_any t name ino ht hi W
  by_cases hE : addE t name ino = 0
  case neg =>
    have hen : (addE t name ino == 0) = false := by simpa using hE
    clear hE hs hz h0 h1 hi ht
    generalize addE t name ino = ae at *
    generalize addS t name ino = aS at *
    have G1 := Lib.hid g1
    clear g1
    go_enter Try.func4, Try.ntmps4
    go_wp2_with fail
    refine (shown_any _).mono ?_
    rintro e w1 ⟨rfl, b⟩
    go_wp2_with fail
    refine (HC.out _).mono ?_
    rintro e w2 ⟨rfl, rfl⟩
    go_wp2_with fail
    refine (G1.out _).mono ?_
    rintro e w2 ⟨rfl, b2⟩
    replace b := b.trans (b2.mono b.size)
    clear b2
    go_wp2_with fail
    go_ret
    exact ⟨rfl, b⟩
  obtain ⟨l, gl, hsl, hn, hi0, hx, gl2, hadd⟩ := added hi hE
  obtain ⟨f1, f2, f3, f4⟩ := added_find gl gl2 hn hx
  have d1 := added_drop gl gl2 hn hx
  obtain ⟨s1, s2⟩ := added_set gl gl2 hn hx hi0
  have ok2 := gl2.ok
  have hsz : (dirS (l ++ [⟨name, ino⟩])).size ≤ 9223372036854775807 := by rw [dirS_size]; have := gl2.size; omega
  have ho := fun h => added_other (other := other) gl gl2 h
  rw [hE, hadd] at g1
  have g2 := fun W => dfind_any (dirS (l ++ [⟨name, ino⟩])) name hsz W
  have g3 := fun W => dfind_any t other ht W
  have g4 := fun W => dfind_any (dirS (l ++ [⟨name, ino⟩])) other hsz W
  have g5 := fun W => drop_any (dirS (l ++ [⟨name, ino⟩])) name hsz W
  have g6 := fun W => dfind_any t name ht W
  have g7 := fun W => set_any (dirS (l ++ [⟨name, ino⟩])) name ino hsz hi W
  have g8 := fun W => right_any (dirS (l ++ [⟨name, ino⟩])) hsz W
  rw [f1, f2] at g2
  rw [d1, f1, ← hsl] at g5
  rw [← hsl] at ho
  rw [hsl, f4, ← hsl] at g6
  rw [s1, s2] at g7
  rw [ok2] at g8
  clear f1 f2 f3 f4 d1 s1 s2 ok2 hsz hadd gl gl2 hn hx hi0 hE hsl hs hz h0 h1 ht
  generalize dirS (l ++ [⟨name, ino⟩]) = a at *
  generalize (findD t name).ino = fn at *
  have G1 := Lib.hid g1
  have G2 := Lib.hid g2
  have G5 := Lib.hid g5
  have G6 := Lib.hid g6
  have G7 := Lib.hid g7
  have G8 := Lib.hid g8
  clear g1 g2 g5 g6 g7 g8
  by_cases hon : other = name
  case' pos =>
    have hot : (other.toList == name.toList) = true := by rw [hon]; simp
  case' neg =>
    have hot : (other.toList == name.toList) = false := by
      cases e : eqB other name
      · exact e
      · exact absurd (eqB_iff.1 e) hon
    obtain ⟨o1, o2⟩ := ho hon
    rw [o1, o2] at g4
  all_goals
    clear ho hon hi
    generalize (findD t other).ino = fo at *
    generalize findE t other = eo at *
    generalize (findD a other).ino = fo2 at *
    generalize findE a other = eo2 at *
    have G3 := Lib.hid g3
    have G4 := Lib.hid g4
    clear g3 g4
    go_enter Try.func4, Try.ntmps4
    go_wp2_with fail
    refine (shown_any _).mono ?_
    rintro e w1 ⟨rfl, b⟩
    go_wp2_with fail
    refine (HC.out _).mono ?_
    rintro e w2 ⟨rfl, rfl⟩
    go_wp2_with fail
    refine (G1.out _).mono ?_
    rintro e w2 ⟨rfl, b2⟩
    replace b := b.trans (b2.mono b.size)
    clear b2
    go_wp2_with fail
    refine (G2.out _).mono ?_
    rintro e w3 ⟨rfl, b2⟩
    replace b := b.trans (b2.mono b.size)
    clear b2
    go_wp2_with fail
    refine (G3.out _).mono ?_
    rintro e w4 ⟨rfl, b2⟩
    replace b := b.trans (b2.mono b.size)
    clear b2
    go_wp2_with fail
    refine (G4.out _).mono ?_
    rintro e w5 ⟨rfl, b2⟩
    replace b := b.trans (b2.mono b.size)
    clear b2
    go_wp2_with fail
    refine (G5.out _).mono ?_
    rintro e w6 ⟨rfl, b2⟩
    replace b := b.trans (b2.mono b.size)
    clear b2
    go_wp2_with fail
    refine (G6.out _).mono ?_
    rintro e w7 ⟨rfl, b2⟩
    replace b := b.trans (b2.mono b.size)
    clear b2
    go_wp2_with fail
    refine (G7.out _).mono ?_
    rintro e w8 ⟨rfl, b2⟩
    replace b := b.trans (b2.mono b.size)
    clear b2
    go_wp2_with fail
    refine (G8.out _).mono ?_
    rintro e w9 ⟨rfl, b2⟩
    replace b := b.trans (b2.mono b.size)
    clear b2
    go_wp2_with fail
    go_ret
    exact ⟨by simp, b⟩
end Go.Proofs.Ytliioeihbbhiiaa

/- The law DirsMoves walked. -/
import Derived.Test.YtliioeihbbhiiaaEt
import Derived.Test.YtliioeihbbhiiaaEo
namespace Go.Proofs.Ytliioeihbbhiiaa
open Go.RowKit Go.Nau Go.Shelf
attribute [local go_sem] Oper.semAt_some

/-- Two names added in either order. -/
theorem moves_plain {s a b : ByteArray} {n m : Nat} (hn : n < 4294967296) (hm : m < 4294967296) (h1 : addE s a n = 0) (h2 : addE (addS s a n) b m = 0) (h3 : addE s b m = 0) (h4 : addE (addS s b m) a n = 0) :
    ∃ x y : ByteArray, addS (addS s a n) b m = x ∧ addS (addS s b m) a n = y ∧ x.size ≤ 20000 ∧ y.size ≤ 20000 ∧ readE x = 0 ∧ readE y = 0 ∧ sortN (namesL x) = sortN (namesL y) ∧ (namesL x).length = (namesL y).length ∧ x.size = y.size ∧
      setE x a m = 0 ∧ findE (setS x a m) a = 0 ∧ findE (setS x a m) b = 0 ∧ (findD (setS x a m) a).ino = m ∧ (findD (setS x a m) b).ino = m ∧ (setS x a m).size ≤ 20000 := by
  obtain ⟨l, gl, hsl, ha, hn0, hxa, ga, hA⟩ := added hn h1
  rw [hA] at h2
  obtain ⟨l1, gl1, hs1, hb, hm0, hxb1, gab, hAB⟩ := added hm h2
  have e1 : l1 = l ++ [⟨a, n⟩] := by
    have := congrArg namesL hs1
    rw [ga.names, gl1.names] at this
    exact this.symm
  subst e1
  obtain ⟨l2, gl2, hs2, _, _, hxb, gb, hB⟩ := added hm h3
  have e2 : l2 = l := by
    rw [hsl] at hs2
    have := congrArg namesL hs2
    rw [gl.names, gl2.names] at this
    exact this.symm
  subst e2
  rw [hB] at h4
  obtain ⟨l3, gl3, hs3, _, _, hxa3, gba, hBA⟩ := added hn h4
  have e3 : l3 = l2 ++ [⟨b, m⟩] := by
    have := congrArg namesL hs3
    rw [gb.names, gl3.names] at this
    exact this.symm
  subst e3
  have hpm : (l2 ++ [(⟨b, m⟩ : Nm)] ++ [(⟨a, n⟩ : Nm)]).Perm (l2 ++ [(⟨a, n⟩ : Nm)] ++ [(⟨b, m⟩ : Nm)]) := by
    rw [List.append_assoc, List.append_assoc]
    exact List.Perm.append_left l2 (List.Perm.swap _ _ _)
  have hab : a ≠ b := by
    intro e
    subst e
    have : idxN (l2 ++ [⟨a, n⟩]) a = l2.length := by
      rw [idxN_append hxa, idxN_one, if_pos rfl]
      rfl
    rw [this] at hxb1
    simp at hxb1
  refine ⟨_, _, by rw [hA, hAB], by rw [hB, hBA], ?_, ?_, ?_, ?_, ?_, ?_, ?_, ?_⟩
  · rw [dirS_size]; exact gab.size
  · rw [dirS_size]; exact gba.size
  · unfold readE; rw [gab.ok]; rfl
  · unfold readE; rw [gba.ok]; rfl
  · rw [gab.names, gba.names]
    symm
    exact sortN_unique gab.dist ((sortN_perm _).trans hpm) (sortN_sorted _)
  · rw [gab.names, gba.names]
    simp
  · rw [dirS_size, dirS_size]
    simp only [List.flatMap_append, List.length_append, List.flatMap_cons, List.flatMap_nil, List.append_nil]
    omega
  · -- what is set
    have hia : idxN (l2 ++ [⟨a, n⟩] ++ [⟨b, m⟩]) a = l2.length := by
      have h : idxN (l2 ++ [⟨a, n⟩]) a = l2.length := by
        rw [idxN_append hxa, idxN_one, if_pos rfl]
        rfl
      rw [idxN_left (by rw [h]; simp), h]
    have hf0 : findE (dirS (l2 ++ [⟨a, n⟩] ++ [⟨b, m⟩])) a = 0 := by
      rw [gab.findE, if_pos ha, hia, if_pos (by simp)]
    have hset := gab.setS a m hf0 hm0
    rw [hia] at hset
    have hL : (l2 ++ [(⟨a, n⟩ : Nm)] ++ [(⟨b, m⟩ : Nm)]).set l2.length ⟨a, m⟩ = l2 ++ [⟨a, m⟩] ++ [⟨b, m⟩] := by
      rw [List.append_assoc, List.set_append_right _ _ (Nat.le_refl _), Nat.sub_self, List.append_assoc]
      rfl
    rw [hL] at hset
    have gam : GoodL (l2 ++ [⟨a, m⟩] ++ [⟨b, m⟩]) := by
      refine ⟨?_, ?_, ?_⟩
      · intro x hx
        rcases List.mem_append.1 hx with hx | hx
        · rcases List.mem_append.1 hx with hx | hx
          · exact gl.wf x hx
          · rw [List.mem_singleton] at hx
            subst hx
            exact ⟨ha, Nat.pos_of_ne_zero hm0, hm⟩
        · rw [List.mem_singleton] at hx
          subst hx
          exact ⟨hb, Nat.pos_of_ne_zero hm0, hm⟩
      · have := gab.fresh
        simpa using this
      · have := gab.size
        simp only [List.flatMap_append, List.length_append, List.flatMap_cons, List.flatMap_nil, List.append_nil, oneL_length] at this ⊢
        exact this
    have hja : idxN (l2 ++ [⟨a, m⟩] ++ [⟨b, m⟩]) a = l2.length := by
      have h : idxN (l2 ++ [⟨a, m⟩]) a = l2.length := by
        rw [idxN_append hxa, idxN_one, if_pos rfl]
        rfl
      rw [idxN_left (by rw [h]; simp), h]
    have hjb : idxN (l2 ++ [⟨a, m⟩] ++ [⟨b, m⟩]) b = l2.length + 1 := by
      have h : idxN (l2 ++ [⟨a, m⟩]) b = (l2 ++ [(⟨a, m⟩ : Nm)]).length := by
        rw [idxN_append hxb, idxN_one, if_neg hab]
        simp
      rw [idxN_append h, idxN_one, if_pos rfl]
      simp
    have fa : findE (dirS (l2 ++ [⟨a, m⟩] ++ [⟨b, m⟩])) a = 0 := by rw [gam.findE, if_pos ha, hja, if_pos (by simp)]
    have fb : findE (dirS (l2 ++ [⟨a, m⟩] ++ [⟨b, m⟩])) b = 0 := by rw [gam.findE, if_pos hb, hjb, if_pos (by simp)]
    rw [hset]
    refine ⟨?_, fa, fb, ?_, ?_, ?_⟩
    · unfold setE
      rw [if_pos hf0, if_neg hm0]
    · obtain ⟨_, x, hx, _, hD⟩ := gam.hit fa
      rw [hD]
      rw [hja] at hx
      simp at hx
      rw [← hx]
    · obtain ⟨_, x, hx, _, hD⟩ := gam.hit fb
      rw [hD]
      rw [hjb] at hx
      simp at hx
      rw [← hx]
    · rw [dirS_size]; exact gam.size

theorem addS_size (s name : ByteArray) (ino : Nat) : (addS s name ino).size ≤ 20000 := by
  unfold addS
  split
  · rename_i h
    obtain ⟨_, _, h3⟩ := addE_zero h
    rw [ByteArray.size_append, strL_size, oneL_length]
    exact h3
  · exact Nat.zero_le _

set_option maxHeartbeats 4000000 in
set_option maxRecDepth 100000 in
theorem moves_law (s a b : ByteArray) (n' m' : Int) (hs : s.size ≤ maxLen) (h0 : 0 ≤ n') (h1 : n' ≤ 4294967295) (h2 : 0 ≤ m') (h3 : m' ≤ 4294967295) (w : World) :
    Calls Try.prog 8 #[.string s, .string a, .string b, .int .u32 n', .int .u32 m'] w fun e w' => e = .returned (.bool true) ∧ Below w.heap.size w w' := by
  obtain ⟨n, rfl⟩ := Int.eq_ofNat_of_zero_le h0
  obtain ⟨m, rfl⟩ := Int.eq_ofNat_of_zero_le h2
  have hn : n < 4294967296 := by omega
  have hm : m < 4294967296 := by omega
  have hz := cutS_size s
  have HC := Lib.hid (fun W => cut_any s hs W)
  generalize cutS s = t at *
  have ht : t.size ≤ 9223372036854775807 := by omega
  have z1 : (addS t a n).size ≤ 9223372036854775807 := by have := addS_size t a n; omega
  have z2 : (addS t b m).size ≤ 9223372036854775807 := by have := addS_size t b m; omega
  have g1 := fun W => add_any t a n ht hn W
  have g2 := fun W => add_any (addS t a n) b m z1 hm W
  have g3 := fun W => add_any t b m ht hm W
  have g4 := fun W => add_any (addS t b m) a n z2 hn W
  have hcase : addE t a n ≠ 0 ∨ (addE t a n = 0 ∧ addE (addS t a n) b m ≠ 0) ∨ (addE t a n = 0 ∧ addE (addS t a n) b m = 0 ∧ addE t b m ≠ 0) ∨ (addE t a n = 0 ∧ addE (addS t a n) b m = 0 ∧ addE t b m = 0 ∧ addE (addS t b m) a n ≠ 0) ∨
      (addE t a n = 0 ∧ addE (addS t a n) b m = 0 ∧ addE t b m = 0 ∧ addE (addS t b m) a n = 0) := by
    by_cases c1 : addE t a n = 0
    · by_cases c2 : addE (addS t a n) b m = 0
      · by_cases c3 : addE t b m = 0
        · by_cases c4 : addE (addS t b m) a n = 0
          · exact .inr (.inr (.inr (.inr ⟨c1, c2, c3, c4⟩)))
          · exact .inr (.inr (.inr (.inl ⟨c1, c2, c3, c4⟩)))
        · exact .inr (.inr (.inl ⟨c1, c2, c3⟩))
      · exact .inr (.inl ⟨c1, c2⟩)
    · exact .inl c1
  by_cases hall : addE t a n = 0 ∧ addE (addS t a n) b m = 0 ∧ addE t b m = 0 ∧ addE (addS t b m) a n = 0
  case neg =>
    replace hcase : addE t a n ≠ 0 ∨ (addE t a n = 0 ∧ addE (addS t a n) b m ≠ 0) ∨ (addE t a n = 0 ∧ addE (addS t a n) b m = 0 ∧ addE t b m ≠ 0) ∨ (addE t a n = 0 ∧ addE (addS t a n) b m = 0 ∧ addE t b m = 0 ∧ addE (addS t b m) a n ≠ 0) := by
      rcases hcase with h | h | h | h | h
      · exact .inl h
      · exact .inr (.inl h)
      · exact .inr (.inr (.inl h))
      · exact .inr (.inr (.inr h))
      · exact absurd h hall
    generalize addS (addS t a n) b m = x at *
    generalize addS (addS t b m) a n = y at *
    generalize addE (addS t a n) b m = e2 at *
    generalize addE (addS t b m) a n = e4 at *
    generalize addE t a n = e1 at *
    generalize addE t b m = e3 at *
    generalize addS t a n = x1 at *
    generalize addS t b m = y1 at *
    have G1 := Lib.hid g1
    have G2 := Lib.hid g2
    have G3 := Lib.hid g3
    have G4 := Lib.hid g4
    clear g1 g2 g3 g4 hall hn hm hz ht z1 z2 hs h0 h1 h2 h3
    rcases hcase with q1 | ⟨rfl, q2⟩ | ⟨rfl, rfl, q3⟩ | ⟨rfl, rfl, rfl, q4⟩
    all_goals
      go_enter Try.func8, Try.ntmps8
      go_wp2_with fail
      refine (shown_any _).mono ?_
      rintro e w1 ⟨rfl, b⟩
      go_wp2_with fail
      refine (HC.out _).mono ?_
      rintro e w2 ⟨rfl, rfl⟩
      go_wp2_with fail
      refine (G1.out _).mono ?_
      rintro e w2 ⟨rfl, b2⟩
      replace b := b.trans (b2.mono b.size)
      clear b2
      go_wp2_with fail
      refine (G2.out _).mono ?_
      rintro e w3 ⟨rfl, b2⟩
      replace b := b.trans (b2.mono b.size)
      clear b2
      go_wp2_with fail
      refine (G3.out _).mono ?_
      rintro e w4 ⟨rfl, b2⟩
      replace b := b.trans (b2.mono b.size)
      clear b2
      go_wp2_with fail
      refine (G4.out _).mono ?_
      rintro e w5 ⟨rfl, b2⟩
      replace b := b.trans (b2.mono b.size)
      clear b2
      go_wp2_with fail
      go_ret
      exact ⟨rfl, b⟩
  obtain ⟨c1, c2, c3, c4⟩ := hall
  obtain ⟨x, y, hx, hy, hxs, hys, hxr, hyr, hso, hle, hsz, p1, p2, p3, p4, p5, p6⟩ := moves_plain hn hm c1 c2 c3 c4
  have g5 := fun W => dlist_any x (by omega) W
  have g6 := fun W => dlist_any y (by omega) W
  have g7 := fun W => set_any x a m (by omega) hm W
  have g8 := fun W => dfind_any (setS x a m) a (by omega) W
  have g9 := fun W => dfind_any (setS x a m) b (by omega) W
  have hll := namesL_le x
  have hsl := sortN_length (namesL x)
  rw [hx, c2] at g2
  rw [hy, c4] at g4
  rw [c1] at g1
  rw [c3] at g3
  unfold LPost at g5 g6
  rw [hxr, ← hsl] at g5
  rw [hyr, ← hso, ← hle, ← hsl] at g6
  rw [p1] at g7
  rw [p2, p4] at g8
  rw [p3, p5] at g9
  rw [← hsl] at hll
  have hsi : ((x.size : Int) == (y.size : Int)) = true := by rw [hsz]; simp
  clear hsl hso hle hx hy c1 c2 c3 c4 hcase hxs hys hxr hyr hsz p1 p2 p3 p4 p5 p6 z1 z2 hs h0 h1 h2 h3 hz ht hn hm
  generalize sortN (namesL x) = l at *
  generalize setS x a m = z at *
  generalize addS t a n = x1 at *
  generalize addS t b m = y1 at *
  have hsm := fun (A B : Option Addr) (c d : Nat) (W : World) h1 h2 => rsame_any l A B c d W h1 h2 (by omega)
  have G1 := Lib.hid g1
  have G2 := Lib.hid g2
  have G3 := Lib.hid g3
  have G4 := Lib.hid g4
  have G5 := Lib.hid g5
  have G6 := Lib.hid g6
  have G7 := Lib.hid g7
  have G8 := Lib.hid g8
  have G9 := Lib.hid g9
  have HSM := Lib.hid hsm
  clear g1 g2 g3 g4 g5 g6 g7 g8 g9 hsm hll
  go_enter Try.func8, Try.ntmps8
  go_wp2_with fail
  refine (shown_any _).mono ?_
  rintro e w1 ⟨rfl, b⟩
  go_wp2_with fail
  refine (HC.out _).mono ?_
  rintro e w2 ⟨rfl, rfl⟩
  go_wp2_with fail
  refine (G1.out _).mono ?_
  rintro e w2 ⟨rfl, b2⟩
  replace b := b.trans (b2.mono b.size)
  clear b2
  go_wp2_with fail
  refine (G2.out _).mono ?_
  rintro e w3 ⟨rfl, b2⟩
  replace b := b.trans (b2.mono b.size)
  clear b2
  go_wp2_with fail
  refine (G3.out _).mono ?_
  rintro e w4 ⟨rfl, b2⟩
  replace b := b.trans (b2.mono b.size)
  clear b2
  go_wp2_with fail
  refine (G4.out _).mono ?_
  rintro e w5 ⟨rfl, b2⟩
  replace b := b.trans (b2.mono b.size)
  clear b2
  go_wp2_with fail
  refine (G5.out _).mono ?_
  rintro e w6 ⟨v1, rfl, o1, b2⟩
  replace b := b.trans (b2.mono b.size)
  obtain ⟨A1, c1, rfl, _, r1⟩ := Rd.of_own2 o1
  have R1 := Lib.hid (r1.mono (T' := (· < w6.heap.size)) (fun k hk => hk.2))
  clear o1 r1 b2
  go_wp2_with fail
  refine (G6.out _).mono ?_
  rintro e w7 ⟨v2, rfl, o2, b2⟩
  replace b := b.trans (b2.mono b.size)
  obtain ⟨A2, c2, rfl, _, r2⟩ := Rd.of_own2 o2
  have hsz := b2.size
  have R3 := Lib.hid ((R1.out.kept (Fr.of_below b2) (fun k hk => by omega)).mono (T' := (· < w7.heap.size)) (fun k hk => by omega))
  have R4 := Lib.hid (r2.mono (T' := (· < w7.heap.size)) (fun k hk => hk.2))
  clear o2 r2 b2 R1 hsz
  go_wp2_with fail
  refine (G7.out _).mono ?_
  rintro e w8 ⟨rfl, b2⟩
  replace b := b.trans (b2.mono b.size)
  have hsz := b2.size
  have R1 := Lib.hid ((R3.out.kept (Fr.of_below b2) (fun k hk => by omega)).mono (T' := (· < w8.heap.size)) (fun k hk => by omega))
  have R2 := Lib.hid ((R4.out.kept (Fr.of_below b2) (fun k hk => by omega)).mono (T' := (· < w8.heap.size)) (fun k hk => by omega))
  clear b2 R3 R4 hsz
  go_wp2_with fail
  refine (G8.out _).mono ?_
  rintro e w9 ⟨rfl, b2⟩
  replace b := b.trans (b2.mono b.size)
  have hsz := b2.size
  have R3 := Lib.hid ((R1.out.kept (Fr.of_below b2) (fun k hk => by omega)).mono (T' := (· < w9.heap.size)) (fun k hk => by omega))
  have R4 := Lib.hid ((R2.out.kept (Fr.of_below b2) (fun k hk => by omega)).mono (T' := (· < w9.heap.size)) (fun k hk => by omega))
  clear b2 R1 R2 hsz
  go_wp2_with fail
  refine (G9.out _).mono ?_
  rintro e w10 ⟨rfl, b2⟩
  replace b := b.trans (b2.mono b.size)
  have hsz := b2.size
  have R1 := (R3.out.kept (Fr.of_below b2) (fun k hk => by omega)).mono (T' := (· < w10.heap.size)) (fun k hk => by omega)
  have R2 := (R4.out.kept (Fr.of_below b2) (fun k hk => by omega)).mono (T' := (· < w10.heap.size)) (fun k hk => by omega)
  have HS := Lib.hid (HSM.out _ _ c1 c2 _ R1 R2)
  clear b2 R1 R2 R3 R4 hsz HSM
  go_wp2_with fail
  refine HS.out.mono ?_
  rintro e w11 ⟨rfl, b2⟩
  replace b := b.trans (b2.mono b.size)
  clear b2 HS
  go_wp2_with fail
  go_ret
  exact ⟨by simp, b⟩
end Go.Proofs.Ytliioeihbbhiiaa

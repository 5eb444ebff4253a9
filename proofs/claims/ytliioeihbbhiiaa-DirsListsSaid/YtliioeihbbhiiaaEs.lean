/- Directories: the reference's Sorted: contract over the given program. -/
import Derived.Test.YtliioeihbbhiiaaEr
namespace Go.Proofs.Ytliioeihbbhiiaa
open Go.RowKit Go.Nau Go.Shelf
attribute [local go_sem] Oper.semAt_some

/-! ### a name laid into a list of names, plain -/
def leN (x y : Nm) : Prop := (!ltN y x) = true
theorem leN_iff {x y : Nm} : leN x y ↔ x.name.toList ≤ y.name.toList := by
  unfold leN
  rw [Bool.not_eq_true', ltN_not]
theorem leN_trans {x y z : Nm} (h1 : leN x y) (h2 : leN y z) : leN x z := by
  rw [leN_iff] at *
  exact List.le_trans h1 h2
theorem leN_of_lt {x y : Nm} (h : ltN x y = true) : leN x y := by
  rw [leN_iff]
  exact Std.le_of_lt (ltN_iff.1 h)
def insL (P : List Nm) (x : Nm) (R : List Nm) (k : Nat) : List Nm := P.take k ++ x :: (P.drop k ++ R)
theorem insL_length (P : List Nm) (x : Nm) (R : List Nm) (k : Nat) : (insL P x R k).length = P.length + 1 + R.length := by
  unfold insL
  simp only [List.length_append, List.length_cons, List.length_take, List.length_drop]
  omega
theorem insL_at (P : List Nm) (x : Nm) (R : List Nm) (k : Nat) (hk : k ≤ P.length) : (insL P x R k)[k]? = some x := by
  unfold insL
  rw [List.getElem?_append_right (by rw [List.length_take]; omega), List.length_take, Nat.min_eq_left hk, Nat.sub_self]
  rfl
theorem insL_before (P : List Nm) (x : Nm) (R : List Nm) (k : Nat) (hk : k < P.length) : (insL P x R (k + 1))[k]? = P[k]? := by
  unfold insL
  rw [List.getElem?_append_left (by rw [List.length_take]; omega), List.getElem?_take_of_lt (by omega)]
theorem insL_step (P : List Nm) (x y : Nm) (R : List Nm) (k : Nat) (hy : P[k]? = some y) : ((insL P x R (k + 1)).set (k + 1) y).set k x = insL P x R k := by
  have hk := (List.getElem?_eq_some_iff.1 hy).1
  have h1 : P.take (k + 1) = P.take k ++ [y] := by rw [List.take_add_one, hy]; rfl
  have h2 : P.drop k = y :: P.drop (k + 1) := by
    rw [List.drop_eq_getElem_cons hk]
    have := List.getElem?_eq_getElem hk
    rw [hy] at this
    injection this with this
    rw [this]
  have hl : (P.take k).length = k := by rw [List.length_take]; omega
  unfold insL
  rw [h1, h2, List.append_assoc]
  rw [List.set_append_right _ _ (by rw [hl]; omega), hl]
  have e : k + 1 - k = 1 := by omega
  rw [e]
  show (P.take k ++ (y :: y :: (P.drop (k + 1) ++ R))).set k x = _
  rw [List.set_append_right _ _ (by rw [hl]; omega), hl, Nat.sub_self]
  rfl
theorem insL_perm (P : List Nm) (x : Nm) (R : List Nm) (k : Nat) : (insL P x R k).Perm (P ++ x :: R) := by
  unfold insL
  have h1 : (P.take k ++ x :: (P.drop k ++ R)).Perm (x :: (P.take k ++ (P.drop k ++ R))) := List.perm_middle
  have h2 : (P ++ x :: R).Perm (x :: (P ++ R)) := List.perm_middle
  rw [← List.append_assoc, List.take_append_drop] at h1
  exact h1.trans h2.symm
theorem insL_sorted {P : List Nm} {x : Nm} {k : Nat} (hP : P.Pairwise leN) (hk : k ≤ P.length) (hd : ∀ y ∈ P.drop k, ltN x y = true) (ht : ∀ y, k ≠ 0 → P[k - 1]? = some y → ltN x y = false) : (insL P x [] k).Pairwise leN := by
  unfold insL
  rw [List.append_nil]
  have hsp : (P.take k ++ P.drop k).Pairwise leN := by rw [List.take_append_drop]; exact hP
  obtain ⟨p1, p2, p3⟩ := List.pairwise_append.1 hsp
  have hle : ∀ a ∈ P.take k, leN a x := by
    intro a ha
    rcases Nat.eq_zero_or_pos k with h0 | h0
    · subst h0
      simp at ha
    · have hk1 : k - 1 < P.length := by omega
      have hy : P[k - 1]? = some P[k - 1] := List.getElem?_eq_getElem hk1
      have h1 := ht _ (by omega) hy
      have h2 : leN P[k - 1] x := by unfold leN; rw [h1]; rfl
      obtain ⟨j, hj, rfl⟩ := List.getElem_of_mem ha
      rw [List.length_take] at hj
      rw [List.getElem_take]
      rcases Nat.lt_or_ge j (k - 1) with h3 | h3
      · exact leN_trans (List.pairwise_iff_getElem.1 hP j (k - 1) (by omega) hk1 h3) h2
      · have : j = k - 1 := by omega
        subst this
        exact h2
  refine List.pairwise_append.2 ⟨p1, List.pairwise_cons.2 ⟨fun a ha => leN_of_lt (hd a ha), p2⟩, fun a ha b hb => ?_⟩
  rcases List.mem_cons.1 hb with rfl | hb
  · exact hle a ha
  · exact p3 a ha b hb

theorem insL_take (P : List Nm) (x : Nm) (R : List Nm) (k : Nat) : (insL P x R k).take (P.length + 1) = insL P x [] k := by
  have h1 : insL P x R k = insL P x [] k ++ R := by unfold insL; simp
  rw [h1, List.take_left']
  rw [insL_length]
  simp

/-! ### cells of a row of names -/
theorem own_setNm {W : World} {base : Nat} {ad : Addr} {c : Nat} {l : List Nm} {q : Nat} (x : Nm) (h : W.ownsRow base 40 2 (.slice (some ad) l.length c) l.length (nmC l)) (hq : q < l.length) :
    (∃ v0 v1, W.cell? (ad.add (q * 2)) = some v0 ∧ W.frozen? (ad.add (q * 2)) = false ∧ (W.setCell (ad.add (q * 2)) (.string x.name)).cell? ⟨(ad.add (q * 2)).block, (ad.add (q * 2)).off + 1, none⟩ = some v1 ∧ (W.setCell (ad.add (q * 2)) (.string x.name)).frozen? ⟨(ad.add (q * 2)).block, (ad.add (q * 2)).off + 1, none⟩ = false) ∧ base ≤ ad.block ∧ ad.block < W.heap.size ∧
      ((W.setCell (ad.add (q * 2)) (.string x.name)).setCell ⟨(ad.add (q * 2)).block, (ad.add (q * 2)).off + 1, none⟩ (.int .u32 x.ino)).ownsRow base 40 2 (.slice (some ad) l.length c) l.length (nmC (l.set q x)) ∧
      Fr (· = ad.block) W ((W.setCell (ad.add (q * 2)) (.string x.name)).setCell ⟨(ad.add (q * 2)).block, (ad.add (q * 2)).off + 1, none⟩ (.int .u32 x.ino)) := by
  obtain ⟨g, cap, cur, hv, hg, hh, hn, hcm, hsz, ht⟩ := own_form h (by omega)
  simp only [Value.slice.injEq, Option.some.injEq, true_and] at hv
  obtain ⟨rfl, rfl⟩ := hv
  have ha : (⟨g, 0, none⟩ : Addr).add (q * 2) = ⟨g, q * 2, none⟩ := by
    unfold Addr.add
    split
    · rename_i h0
      rw [h0]
    · simp
  rw [ha]
  have hs : ∀ (m : List Nm) (p : Nat), p < m.length → ((nmC m).set (p * 2) (.string x.name)).set (p * 2 + 1) (.int .u32 x.ino) = nmC (m.set p x) := by
    intro m
    induction m with
    | nil => intro p hp; simp at hp
    | cons y m ih =>
      intro p hp
      cases p with
      | zero => rfl
      | succ p =>
        have := ih p (by simpa using hp)
        have e : (p + 1) * 2 = p * 2 + 1 + 1 := by omega
        rw [e]
        show Value.string y.name :: Value.int .u32 y.ino :: ((nmC m).set (p * 2) (.string x.name)).set (p * 2 + 1) (.int .u32 x.ino) = _
        rw [this]
        rfl
  have hsz2 : q * 2 + 1 < cur.size := by
    have : l.length * 2 ≤ c * 2 := Nat.mul_le_mul_right _ hn
    omega
  refine ⟨⟨cur[q * 2], cur[q * 2 + 1], ?_, blk_frozen hh _, ?_, blk_frozen (blk_set hh _ _) _⟩, hg, (Array.getElem?_eq_some_iff.1 hh).1, ?_, (Fr.set1 _ _ _ _).trans (Fr.set1 _ _ _ _)⟩
  · rw [cell_of_row _ _ _ _ _ _ hh]
    exact Array.getElem?_eq_getElem _
  · rw [cell_of_row _ _ _ _ _ _ (blk_set hh _ _), Array.getElem?_setIfInBounds_ne (show q * 2 ≠ q * 2 + 1 by omega)]
    exact Array.getElem?_eq_getElem hsz2
  refine ⟨by rw [nmC_length, List.length_set], .inr ⟨g, c, (cur.setIfInBounds (q * 2) (.string x.name)).setIfInBounds (q * 2 + 1) (.int .u32 x.ino), rfl, hg, blk_set (blk_set hh _ _) _ _, hn, hcm, by simpa using hsz, ?_⟩⟩
  rw [Array.toList_setIfInBounds, Array.toList_setIfInBounds, List.take_set, List.take_set, ht]
  exact hs l q hq

def SRel (w0 : World) (l : List Nm) (A : Option Addr) (c : Nat) (k : Nat) (i : Value) (wr : World) : Prop :=
  ∃ (q : Nat) (L : List Nm), k = l.length - (q - 1) ∧ i = .int .i64 q ∧ 1 ≤ q ∧ L.Perm l ∧ (L.take q).Pairwise leN ∧ wr.ownsRow w0.heap.size 40 2 (.slice A l.length c) l.length (nmC L) ∧ Below w0.heap.size w0 wr
def IRel (w0 : World) (P : List Nm) (x : Nm) (R : List Nm) (n : Nat) (ad : Addr) (c : Nat) (k : Nat) (i : Value) (wr : World) : Prop :=
  ∃ q : Nat, k = q ∧ i = .int .i64 q ∧ q ≤ P.length ∧ (∀ y ∈ P.drop q, ltN x y = true) ∧ wr.ownsRow w0.heap.size 40 2 (.slice (some ad) n c) n (nmC (insL P x R q)) ∧ Below w0.heap.size w0 wr

set_option maxHeartbeats 4000000 in
set_option maxRecDepth 100000 in
theorem rsorted_any (l : List Nm) (A : Option Addr) (c : Nat) (w : World) (hr : Rd (· < w.heap.size) w 2 A l.length (nmC l)) (hl : l.length ≤ 20001) (hd : DistN l) (hz : ∀ x ∈ l, x.name.size ≤ 59) :
    Calls Try.prog 35 #[.slice A l.length c] w fun e w' => ∃ v, e = .returned v ∧ w'.ownsRow w.heap.size 40 2 v l.length (nmC (sortN l)) ∧ Below w.heap.size w w' := by
  obtain ⟨i0, hi0, hz0, hz1, hz2⟩ := info_parts infoNm
  have HR := Lib.hid hr
  have HD := Lib.hid hd
  have HZ := Lib.hid hz
  clear hr hd hz
  have hli : (l.length : Int) ≤ 20001 := by omega
  have h1 : ∀ u ∈ nmC l, u.oneCell' = true := by
    intro u hu
    unfold nmC at hu
    obtain ⟨x, _, hx⟩ := List.mem_flatMap.1 hu
    simp [nmL] at hx
    rcases hx with rfl | rfl <;> rfl
  have H1 := Lib.hid h1
  clear h1
  go_enter Try.func35, Try.ntmps35
  go_wp2_with (first
    | (at_make; refine wpList_make_own _ rfl _ _ 34 rfl w.heap.size 40 i0 (.agg #[.string ⟨#[]⟩, .int .u32 0]) 2 Try.underlying34 hi0 hz0 hz1 _ _ _ l.length rfl rfl rfl (by rw [hz2]; omega) (by unfold maxLen; omega) (Nat.le_refl _) ?_; intro w2 hown2 hg2; have hb2 : Below w.heap.size w w2 := (Below.refl _ _).grown hg2 (Nat.le_refl _) (by simp); have hrd2 := HR.out.kept (Fr.of_grown hg2) (by simp))
    | (at_builtin; refine wpList_append_rd _ rfl (.tmp 9) (.tmp 10) 34 rfl w.heap.size 40 i0 _ 2 24 Try.underlying34 hi0 hz0 hz1 hz2 rfl (by decide) _ 0 [] rfl hown2 _ A l.length c (nmC l) rfl hrd2 H1.out (by unfold maxLen; omega) (by omega) hb2.size ?_; intro v3 w3 hown3 hg3 hat3))
  replace hown3 : w3.ownsRow w.heap.size 40 2 v3 l.length (nmC l) := by simpa using hown3
  have hb3 : Below w.heap.size w w3 := hb2.trans ((Fr.of_grown hg3).below hb2.size (fun k e => (hown2.lt k e.symm).1))
  clear hown2 hg2 hg3 hat3 hrd2 hb2
  obtain ⟨A3, c', rfl, _, _⟩ := Rd.of_own2 hown3
  have HO3 := Lib.hid hown3
  clear hown3 HR H1 hi0 hz0 hz1 hz2
  go_loopg [4] l.length (SRel w l A3 c')
  case atStart =>
    refine ⟨1, l, rfl, rfl, Nat.le_refl _, List.Perm.refl _, ?_, HO3.out, hb3⟩
    cases l with
    | nil => simp
    | cons x l => simp
  case round =>
    obtain ⟨q, L, hk, rfl, hq1, hp, hsrt, hown, hbw⟩ := hrel
    have hpl := hp.length_eq
    by_cases hlt : q < l.length
    · have hqi : (q : Int) < (l.length : Int) := by omega
      obtain ⟨ad, rfl⟩ : ∃ ad, A3 = some ad := by
        obtain ⟨g, cap, _, hv, _⟩ := own_form hown (by omega)
        simp only [Value.slice.injEq] at hv
        exact ⟨_, hv.1⟩
      obtain ⟨x, hx⟩ : ∃ x, L[q]? = some x := ⟨_, List.getElem?_eq_getElem (by omega)⟩
      have hsplit : L = insL (L.take q) x (L.drop (q + 1)) q := by
        unfold insL
        rw [List.take_take, Nat.min_self, List.drop_of_length_le (l := L.take q) (by rw [List.length_take]; omega), List.nil_append]
        have h2 : L.drop q = x :: L.drop (q + 1) := by
          rw [List.drop_eq_getElem_cons (by omega)]
          have := List.getElem?_eq_getElem (l := L) (i := q) (by omega)
          rw [hx] at this
          injection this with this
          rw [this]
        rw [← h2, List.take_append_drop]
      have hPl : (L.take q).length = q := by rw [List.length_take]; omega
      have hZ : ∀ y ∈ L, y.name.size ≤ 59 := fun y hy => HZ.out y (hp.subset hy)
      have hpm : (L.take q ++ x :: L.drop (q + 1)).Perm l := by
        have := insL_perm (L.take q) x (L.drop (q + 1)) q
        rw [← hsplit] at this
        exact this.symm.trans hp
      have hZx := hZ x (List.mem_of_getElem? hx)
      have hZP : ∀ y ∈ L.take q, y.name.size ≤ 59 := fun y hy => hZ y (List.mem_of_mem_take hy)
      rw [hsplit] at hown
      have hRl : (L.drop (q + 1)).length + (q + 1) = l.length := by rw [List.length_drop]; omega
      generalize hP : L.take q = P at *
      generalize hR : L.drop (q + 1) = R at *
      clear hP hR hsplit hx hZ hp hpl L
      have HO := Lib.hid hown
      have HS := Lib.hid hsrt
      have HP := Lib.hid hpm
      have HZP := Lib.hid hZP
      clear hown hsrt hpm hZP
      go_wp2_with fail
      go_loopg [5] q (IRel w P x R l.length ad c')
      case atStart => exact ⟨q, rfl, rfl, by omega, by rw [List.drop_of_length_le (by omega)]; simp, HO.out, hbw⟩
      case round =>
        obtain ⟨p, hk2, rfl, hp, hgt, hown, hbw2⟩ := hrel
        have hws := hbw2.size
        have hfin : (∀ y, p ≠ 0 → P[p - 1]? = some y → ltN x y = false) → (insL P x R p).Perm l ∧ ((insL P x R p).take (q + 1)).Pairwise leN := fun h => by
          refine ⟨(insL_perm P x R p).trans HP.out, ?_⟩
          rw [← hPl, insL_take]
          exact insL_sorted HS.out hp hgt h
        have HFIN := Lib.hid hfin
        have HGT := Lib.hid hgt
        clear hfin hgt
        rcases Nat.eq_zero_or_pos p with h0 | h0
        · subst h0
          have HF := Lib.hid (HFIN.out (fun y h _ => absurd rfl h))
          have HOW := Lib.hid hown
          clear hown HFIN
          rw [show ((0 : Nat) : Int) = 0 from rfl]
          go_wp2_with fail
          refine wp_region_quiet_below (by kernel_rfl) (by kernel_rfl) ?_
          repeat (go_big_quiet_step (fail))
          refine wpQuiet_nil ?_
          intro _ hw'
          obtain ⟨⟨dq, osq⟩, hw''⟩ := hw'
          subst hw''
          have hbr := below_regrown wr dq osq
          have hbw3 : Below w.heap.size w (Go.Sort.grow (redrawn wr dq) osq) := hbw2.trans (hbr.mono hbw2.size)
          have ho2 := Fr.own HOW.out (Fr.of_below hbr) (fun k hk h => by have := (HOW.out.lt k hk).2; omega)
          have HO2 := Lib.hid ho2
          clear ho2 hbr
          go_wp2_with fail
          go_roundg (l.length - q)
          case measure => omega
          case rel => exact ⟨q + 1, insL P x R 0, by rw [Nat.add_sub_cancel], by simp, by omega, HF.out.1, HF.out.2, HO2.out, hbw3⟩
        · obtain ⟨j, rfl⟩ : ∃ j, p = j + 1 := ⟨p - 1, by omega⟩
          obtain ⟨y, hy⟩ : ∃ y, P[j]? = some y := ⟨_, List.getElem?_eq_getElem (by omega)⟩
          have hln : (insL P x R (j + 1)).length = l.length := by rw [insL_length]; omega
          obtain ⟨A', c'', hv', hc', hrd⟩ := Rd.of_own2 hown
          injection hv' with hA' _ hcc'
          subst hA' hcc'
          obtain ⟨ad', hA2, _, ex0, ex1⟩ := nm_cells hrd (j + 1) x (insL_at P x R (j + 1) hp) (by omega)
          injection hA2 with hA2
          subst hA2
          obtain ⟨ad', hA2, hadb, ey0, ey1⟩ := nm_cells hrd j y (by rw [insL_before P x R j (by omega), hy]) (by omega)
          injection hA2 with hA2
          subst hA2
          have hless := fun W => rless_any x.name y.name (by omega) (by have := HZP.out y (List.mem_of_getElem? hy); omega) W
          have hcb : ∀ (d : Nat) (os : Array Obj), Calls Try.prog 49 #[.string x.name, .string y.name] (Go.Sort.grow (redrawn wr d) os) fun e w'' => e = .returned (.bool (ltN x y)) ∧ ∃ p : Regrown, w'' = Go.Sort.grow (redrawn wr p.d) p.os := fun d os => Calls.regrown_of (hless _)
          have cx0 : ∀ d os, (Go.Sort.grow (redrawn wr d) os).cell? (ad.add ((j + 1) * 2)) = some (.string x.name) := fun d os => cell_regrown ex0 d os
          have cy0 : ∀ d os, (Go.Sort.grow (redrawn wr d) os).cell? (ad.add (j * 2)) = some (.string y.name) := fun d os => cell_regrown ey0 d os
          have HCB := Lib.hid hcb
          have hji : (j : Int) + 1 < (l.length : Int) := by omega
          have hji2 : (j : Int) < (l.length : Int) := by omega
          have HOW := Lib.hid hown
          have HY := Lib.hid hy
          have HLN := Lib.hid hln
          have HADB := Lib.hid hadb
          have HE := Lib.hid (And.intro (And.intro ex0 ex1) (And.intro ey0 ey1))
          clear hless hcb hown hrd hc' hy hadb ex0 ex1 ey0 ey1 hln
          cases hlt2 : ltN x y
          · rw [hlt2] at HCB
            have HF := Lib.hid (HFIN.out (fun y' _ h => by
              rw [Nat.add_sub_cancel, HY.out] at h
              injection h with h
              rw [← h]
              exact hlt2))
            clear HFIN hlt2
            go_wp2_with fail
            refine wp_region_quiet_below (by kernel_rfl) (by kernel_rfl) ?_
            repeat (go_big_quiet_step (exact HCB.out _ _))
            refine wpQuiet_nil ?_
            intro _ hw'
            obtain ⟨⟨dq, osq⟩, hw''⟩ := hw'
            subst hw''
            have hbr := below_regrown wr dq osq
            have hbw3 : Below w.heap.size w (Go.Sort.grow (redrawn wr dq) osq) := hbw2.trans (hbr.mono hbw2.size)
            have ho2 := Fr.own HOW.out (Fr.of_below hbr) (fun k hk h => by have := (HOW.out.lt k hk).2; omega)
            have HO2 := Lib.hid ho2
            clear ho2 hbr cx0 cy0
            go_wp2_with fail
            go_roundg (l.length - q)
            case measure => omega
            case rel => exact ⟨q + 1, insL P x R (j + 1), by rw [Nat.add_sub_cancel], by simp, by omega, HF.out.1, HF.out.2, HO2.out, hbw3⟩
          · rw [hlt2] at HCB
            clear HFIN
            go_wp2_with fail
            refine wp_region_quiet_below (by kernel_rfl) (by kernel_rfl) ?_
            repeat (go_big_quiet_step (exact HCB.out _ _))
            refine wpQuiet_nil ?_
            intro _ hw'
            obtain ⟨⟨dq, osq⟩, hw''⟩ := hw'
            subst hw''
            have hbr := below_regrown wr dq osq
            have hbw3 : Below w.heap.size w (Go.Sort.grow (redrawn wr dq) osq) := hbw2.trans (hbr.mono hbw2.size)
            have ho2 := Fr.own HOW.out (Fr.of_below hbr) (fun k hk h => by have := (HOW.out.lt k hk).2; omega)
            have hadb := HADB.out.2
            have fb : ∀ {a : Addr} {v : Value}, a.block = ad.block → wr.cell? a = some v → (Go.Sort.grow (redrawn wr dq) osq).cell? a = some v := fun ha h => (Fr.of_below hbr).cell (by rw [ha]; show ¬ wr.heap.size ≤ ad.block; omega) h
            have gx0 := fb (add_block _ _) HE.out.1.1
            have gx1 := fb (by show (ad.add ((j + 1) * 2)).block = _; rw [add_block]) HE.out.1.2
            have gy0 := fb (add_block _ _) HE.out.2.1
            have gy1 := fb (by show (ad.add (j * 2)).block = _; rw [add_block]) HE.out.2.2
            have hsw := hbr.size
            clear cx0 cy0 hbr fb
            generalize Go.Sort.grow (redrawn wr dq) osq = W1 at *
            have ho3 : (W1.alloc (.cells #[.string x.name, .int .u32 x.ino] 40)).ownsRow w.heap.size 40 2 (.slice (some ad) (insL P x R (j + 1)).length c') (insL P x R (j + 1)).length (nmC (insL P x R (j + 1))) := by
              rw [HLN.out]
              exact ho2.alloc _
            have hbx := heap_alloc_new W1 (.cells #[.string x.name, .int .u32 x.ino] 40)
            have hfa : Fr (fun _ => False) W1 (W1.alloc (.cells #[.string x.name, .int .u32 x.ino] 40)) := (Fr.refl _ W1).alloc _
            have ay0 := hfa.cell id gy0
            have ay1 := hfa.cell id gy1
            have hsz2 : (W1.alloc (.cells #[.string x.name, .int .u32 x.ino] 40)).heap.size = W1.heap.size + 1 := by simp
            have hbw4 := hbw3.alloc hbw3.size (.cells #[.string x.name, .int .u32 x.ino] 40)
            obtain ⟨⟨_, _, fc0, fz0, fc1, fz1⟩, hgb, hgl, own4, fr4⟩ := own_setNm y ho3 (q := j + 1) (by rw [HLN.out]; omega)
            have hne : W1.heap.size ≠ ad.block := by
              have := (ho2.lt ad.block rfl).2
              omega
            generalize hW2 : W1.alloc (.cells #[.string x.name, .int .u32 x.ino] 40) = W2 at *
            have hbx2 := fr4.get hne hbx
            have own5 : ((W2.setCell (ad.add ((j + 1) * 2)) (.string y.name)).setCell ⟨(ad.add ((j + 1) * 2)).block, (ad.add ((j + 1) * 2)).off + 1, none⟩ (.int .u32 y.ino)).ownsRow w.heap.size 40 2 (.slice (some ad) ((insL P x R (j + 1)).set (j + 1) y).length c') ((insL P x R (j + 1)).set (j + 1) y).length (nmC ((insL P x R (j + 1)).set (j + 1) y)) := by
              rw [List.length_set]
              exact own4
            obtain ⟨⟨_, _, fd0, fy0, fd1, fy1⟩, _, _, own6, fr6⟩ := own_setNm x own5 (q := j) (by rw [List.length_set, HLN.out]; omega)
            rw [insL_step P x y R j HY.out, List.length_set, HLN.out] at own6
            have b0 := blk_cell hbx 0
            have b1 := blk_cell hbx 1
            have b20 := blk_cell hbx2 0
            have b21 := blk_cell hbx2 1
            have bz0 := blk_frozen hbx 0
            have bz1 := blk_frozen hbx 1
            simp at b0 b1 b20 b21
            have HO6 := Lib.hid own6
            have HG2 : ∀ y' ∈ P.drop j, ltN x y' = true := fun y' h => by
              have h2 : P.drop j = y :: P.drop (j + 1) := by
                have hjl := (List.getElem?_eq_some_iff.1 HY.out).1
                rw [List.drop_eq_getElem_cons hjl]
                have := List.getElem?_eq_getElem hjl
                rw [HY.out] at this
                injection this with this
                rw [this]
              rw [h2] at h
              rcases List.mem_cons.1 h with rfl | h
              · exact hlt2
              · exact HGT.out y' h
            have HG3 := Lib.hid HG2
            have hb5 := hbw4.trans (((fr4.trans fr6).below hbw4.size (fun k hk => by omega)))
            have HB5 := Lib.hid hb5
            clear own4 own5 own6 fr4 fr6 ho2 ho3 hbx hbx2 HG2 hb5 hbw4 hfa hlt2
            go_wp2_with fail
            go_roundg j
            case measure => omega
            case rel => exact ⟨j, rfl, rfl, by omega, HG3.out, HO6.out, HB5.out⟩
    · have hlt2 : (l.length : Int) ≤ (q : Int) := by omega
      have hLL : L.take q = L := List.take_of_length_le (by omega)
      rw [hLL] at hsrt
      have hu := sortN_unique HD.out hp hsrt
      rw [hu] at hown
      have HO := Lib.hid hown
      clear hown hsrt hp hu hLL hpl
      go_wp2_with fail
      go_ret
      exact ⟨_, rfl, HO.out, hbw⟩
end Go.Proofs.Ytliioeihbbhiiaa

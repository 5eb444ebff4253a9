/- The law DirsLists walked. -/
import Derived.Test.YtliioeihbbhiiaaEv
namespace Go.Proofs.Ytliioeihbbhiiaa
open Go.RowKit Go.Nau Go.Shelf
attribute [local go_sem] Oper.semAt_some

theorem flat_perm {l m : List Nm} (h : l.Perm m) : (l.flatMap oneL).length = (m.flatMap oneL).length := by
  induction h with
  | nil => rfl
  | cons x _ ih => simp only [List.flatMap_cons, List.length_append, ih]
  | swap x y l => simp only [List.flatMap_cons, List.length_append]; omega
  | trans _ _ h1 h2 => exact h1.trans h2
/-- What is listed is found, as it is told, in rising order. -/
structure Listed (t : ByteArray) (L : List Nm) : Prop where
  find : ∀ (q : Nat) (x : Nm), L[q]? = some x → findE t x.name = 0 ∧ (findD t x.name).ino = x.ino ∧ x.name.size ≤ 59
  rise : ∀ (q : Nat) (x y : Nm), L[q]? = some x → L[q + 1]? = some y → Op.bytesLess x.name.toList y.name.toList = true
  flat : (L.flatMap oneL).length = t.size
theorem listed_of {t : ByteArray} (h : rdOk t = true) : Listed t (sortN (namesL t)) := by
  obtain ⟨g, hs⟩ := rdOk_good h
  have hp := sortN_perm (namesL t)
  refine ⟨fun q x hx => ?_, fun q x y hx hy => ?_, ?_⟩
  · have hmem := hp.subset (List.mem_of_getElem? hx)
    have hwf := g.wf x hmem
    have hlt : idxN (namesL t) x.name < (namesL t).length := idxN_lt_iff.2 (List.mem_map.2 ⟨x, hmem, rfl⟩)
    have h0 : findE (dirS (namesL t)) x.name = 0 := by rw [g.findE, if_pos hwf.1, if_pos hlt]
    obtain ⟨_, y, hy, hyn, hD⟩ := g.hit h0
    have hyx : y = x := g.dist y (List.mem_of_getElem? hy) x hmem hyn
    rw [← hs] at h0 hD
    exact ⟨h0, by rw [hD, hyx], nameB_le hwf.1⟩
  · have hsr := sortN_sorted (namesL t)
    have hnd : ((sortN (namesL t)).map (·.name)).Nodup := (hp.map _).symm.nodup (freshB_nodup [] _ g.fresh).1
    obtain ⟨hq, ex⟩ := List.getElem?_eq_some_iff.1 hx
    obtain ⟨hq2, ey⟩ := List.getElem?_eq_some_iff.1 hy
    have h1 := List.pairwise_iff_getElem.1 hsr q (q + 1) hq hq2 (by omega)
    have h2 := List.pairwise_iff_getElem.1 hnd q (q + 1) (by simpa using hq) (by simpa using hq2) (by omega)
    rw [List.getElem_map, List.getElem_map, ex, ey] at h2
    rw [ex, ey] at h1
    cases h3 : Op.bytesLess x.name.toList y.name.toList
    · exfalso
      have h4 : ltN x y = false := h3
      rw [Bool.not_eq_true', ltN_not] at h1
      rw [ltN_not] at h4
      exact h2 (name_of_toList (List.le_antisymm h1 h4))
    · rfl
  · rw [flat_perm hp]
    have := congrArg ByteArray.size hs
    rw [dirS_size] at this
    exact this.symm

def LiRel (w1 : World) (L : List Nm) (k : Nat) (v i : Value) (wr : World) : Prop :=
  ∃ q : Nat, k = L.length - q ∧ i = .int .i64 q ∧ q ≤ L.length ∧ v = .int .i64 (((L.take q).flatMap oneL).length : Nat) ∧ Below w1.heap.size w1 wr

set_option maxHeartbeats 4000000 in
set_option maxRecDepth 100000 in
theorem lists_law (s : ByteArray) (hs : s.size ≤ maxLen) (w : World) :
    Calls Try.prog 6 #[.string s] w fun e w' => e = .returned (.bool true) ∧ Below w.heap.size w w' := by
  have hz := cutS_size s
  have HC := Lib.hid (fun W => cut_any s hs W)
  generalize cutS s = t at *
  have ht : t.size ≤ 9223372036854775807 := by omega
  have g1 := fun W => dlist_any t ht W
  have g2 := fun W => right_any t ht W
  unfold LPost at g1
  cases hok : rdOk t
  · have hE : readE t = 110 := by unfold readE; rw [hok]; rfl
    rw [hE] at g1
    rw [hok] at g2
    have G1 := Lib.hid g1
    have G2 := Lib.hid g2
    clear g1 g2 hE hok ht hz hs
    go_enter Try.func6, Try.ntmps6
    go_wp2_with fail
    refine (shown_any _).mono ?_
    rintro e w1 ⟨rfl, b⟩
    go_wp2_with fail
    refine (HC.out _).mono ?_
    rintro e w2 ⟨rfl, rfl⟩
    go_wp2_with fail
    refine (G1.out _).mono ?_
    rintro e w2 ⟨v, rfl, _, b2⟩
    replace b := b.trans (b2.mono b.size)
    clear b2
    go_wp2_with fail
    refine (G2.out _).mono ?_
    rintro e w3 ⟨rfl, b2⟩
    replace b := b.trans (b2.mono b.size)
    clear b2
    go_wp2_with fail
    go_ret
    exact ⟨rfl, b⟩
  · have hE : readE t = 0 := by unfold readE; rw [hok]; rfl
    have hli := listed_of hok
    have hll := namesL_le t
    have hsl := sortN_length (namesL t)
    rw [hE, ← hsl] at g1
    rw [← hsl] at hll
    have HL := Lib.hid hli
    have G1 := Lib.hid g1
    have HF := Lib.hid (fun name W => dfind_any t name ht W)
    clear g1 g2 hE hok hs hsl hli
    generalize hLg : sortN (namesL t) = L at *
    clear hLg
    have hli : (L.length : Int) ≤ 20001 := by omega
    go_enter Try.func6, Try.ntmps6
    go_wp2_with fail
    refine (shown_any _).mono ?_
    rintro e w1 ⟨rfl, b⟩
    go_wp2_with fail
    refine (HC.out _).mono ?_
    rintro e w2 ⟨rfl, rfl⟩
    go_wp2_with fail
    refine (G1.out _).mono ?_
    rintro e w2 ⟨v, rfl, o1, b2⟩
    replace b := b.trans (b2.mono b.size)
    obtain ⟨A1, c1, rfl, _, r1⟩ := Rd.of_own2 o1
    have R1 := Lib.hid r1
    clear o1 r1 b2
    go_wp2_with fail
    go_loopg [6, 7] L.length (LiRel w2 L)
    case atStart => exact ⟨0, rfl, rfl, Nat.zero_le _, rfl, Below.refl _ _⟩
    case round =>
      obtain ⟨q, rfl, rfl, hq, rfl, hbw⟩ := hrel
      have hws := hbw.size
      by_cases hql : q < L.length
      · have hqi : (q : Int) < (L.length : Int) := by omega
        obtain ⟨x, hx⟩ : ∃ x, L[q]? = some x := ⟨_, List.getElem?_eq_getElem hql⟩
        obtain ⟨ad, rfl, hadb, e0, e1⟩ := nm_cells (R1.out.kept (Fr.of_below hbw) (fun k hk => by omega)) q x hx hql
        obtain ⟨f0, f1, f2⟩ := HL.out.find q x hx
        have hfx := fun W => HF.out x.name W
        rw [f0, f1] at hfx
        have HFX := Lib.hid hfx
        have HADB := Lib.hid hadb
        have HX := Lib.hid hx
        have hfl : ((L.take (q + 1)).flatMap oneL).length = ((L.take q).flatMap oneL).length + 6 + x.name.size := by
          rw [List.take_add_one, hx]
          simp only [Option.toList_some, List.flatMap_append, List.length_append, List.flatMap_cons, List.flatMap_nil, List.append_nil, oneL_length]
          omega
        have hfb : ((L.take q).flatMap oneL).length ≤ 21000 := by
          have h1 := flat_take_le L q
          have h2 := HL.out.flat
          omega
        have HFL := Lib.hid hfl
        clear hfx f0 f1 hadb hx hfl
        generalize ((L.take q).flatMap oneL).length = sz at *
        have hszi : (sz : Int) ≤ 21000 := by omega
        have hxi : (x.name.size : Int) ≤ 59 := by omega
        go_wp2_with fail
        refine (HFX.out _).mono ?_
        rintro e w3 ⟨rfl, b2⟩
        have hab := HADB.out.2
        have e0' := (Fr.of_below b2).cell (by rw [add_block]; show ¬ wr.heap.size ≤ ad.block; omega) e0
        have e1' := (Fr.of_below b2).cell (by show ¬ wr.heap.size ≤ (ad.add (q * 2)).block; rw [add_block]; omega) e1
        have hbw2 := hbw.trans (b2.mono hbw.size)
        have c0 : ∀ d os, (Go.Sort.grow (redrawn w3 d) os).cell? (ad.add (q * 2)) = some (.string x.name) := fun d os => cell_regrown e0' d os
        have c1 : ∀ d os, (Go.Sort.grow (redrawn w3 d) os).cell? ⟨(ad.add (q * 2)).block, (ad.add (q * 2)).off + 1, none⟩ = some (.int .u32 x.ino) := fun d os => cell_regrown e1' d os
        rcases Nat.eq_zero_or_pos q with hq0 | hq0
        · have hqz : ¬ 0 < (q : Int) := by omega
          have hqz2 : ¬ 0 < q := by omega
          clear hq0
          clear e0 e1 b2 hbw e0' e1'
          go_wp2_with fail
          refine wp_region_quiet_below (by kernel_rfl) (by kernel_rfl) ?_
          repeat (go_big_quiet_step (fail))
          refine wpQuiet_nil ?_
          intro _ hw'
          obtain ⟨⟨dq, osq⟩, hw''⟩ := hw'
          subst hw''
          have e0 := c0 dq osq
          have hbw4 := hbw2.trans ((below_regrown w3 dq osq).mono hbw2.size)
          clear c0 c1 hbw2
          go_wp2_with fail
          go_roundg (L.length - (q + 1))
          case measure => omega
          case rel => exact ⟨q + 1, rfl, by simp, by omega, by rw [HFL.out]; simp, hbw4⟩
        · obtain ⟨j, rfl⟩ : ∃ j, q = j + 1 := ⟨q - 1, by omega⟩
          obtain ⟨y, hy⟩ : ∃ y, L[j]? = some y := ⟨_, List.getElem?_eq_getElem (by omega)⟩
          obtain ⟨ad', hae, _, d0, _⟩ := nm_cells (R1.out.kept (Fr.of_below hbw2) (fun k hk => by omega)) j y hy (by omega)
          injection hae with hae
          subst hae
          have hrise := HL.out.rise j y x hy HX.out
          have c2 : ∀ d os, (Go.Sort.grow (redrawn w3 d) os).cell? (ad.add (j * 2)) = some (.string y.name) := fun d os => cell_regrown d0 d os
          clear e0 e1 b2 hbw d0 hy e0' e1'
          go_wp2_with fail
          refine wp_region_quiet_below (by kernel_rfl) (by kernel_rfl) ?_
          repeat (go_big_quiet_step (fail))
          refine wpQuiet_nil ?_
          intro _ hw'
          obtain ⟨⟨dq, osq⟩, hw''⟩ := hw'
          subst hw''
          have e0 := c0 dq osq
          have hbw4 := hbw2.trans ((below_regrown w3 dq osq).mono hbw2.size)
          clear c0 c1 c2 hbw2
          go_wp2_with fail
          go_roundg (L.length - (j + 1 + 1))
          case measure => omega
          case rel => exact ⟨j + 1 + 1, rfl, by simp, by omega, by rw [HFL.out]; simp, hbw4⟩
      · obtain rfl : q = L.length := by omega
        have hfe : (L.flatMap oneL).length = t.size := HL.out.flat
        rw [List.take_length, hfe]
        have hbb := b.trans (hbw.mono b.size)
        clear hfe hbw
        go_wp2_with fail
        go_ret
        exact ⟨by simp, hbb⟩
end Go.Proofs.Ytliioeihbbhiiaa

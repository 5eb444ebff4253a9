/- The law DirsEmpties walked. -/
import Derived.Test.YtliioeihbbhiiaaEt
import Derived.Test.YtliioeihbbhiiaaEo
namespace Go.Proofs.Ytliioeihbbhiiaa
open Go.RowKit Go.Nau Go.Shelf
attribute [local go_sem] Oper.semAt_some

/-! ### names dropped one behind the other, plain -/
/-- What is left when the first q of a sorted list are struck from a directory's names. -/
def LeftN (L l : List Nm) (q : Nat) : Prop := GoodL l ∧ l.Perm (L.drop q)
theorem left_start {L l : List Nm} (g : GoodL l) (h : L = sortN l) : LeftN L l 0 := by
  refine ⟨g, ?_⟩
  rw [List.drop_zero, h]
  exact (sortN_perm l).symm
theorem eraseIdx_flat {l : List Nm} {q : Nat} {x : Nm} (h : l[q]? = some x) : ((l.eraseIdx q).flatMap oneL).length + (6 + x.name.size) = (l.flatMap oneL).length := by
  have hs := dirS_split q x h
  rw [List.eraseIdx_eq_take_drop_succ, List.flatMap_append, hs]
  simp only [List.length_append, oneL_length]
  omega
theorem fresh_iff : ∀ (met l : List ByteArray), freshB met l = true ↔ l.Nodup ∧ ∀ x ∈ l, x ∉ met
  | met, [] => by simp [freshB]
  | met, a :: l => by
    refine ⟨freshB_nodup met (a :: l), fun ⟨h1, h2⟩ => ?_⟩
    simp only [freshB, Bool.and_eq_true, Bool.not_eq_true']
    obtain ⟨h3, h4⟩ := List.nodup_cons.1 h1
    refine ⟨?_, (fresh_iff (a :: met) l).2 ⟨h4, fun x hx => ?_⟩⟩
    · rw [← Bool.not_eq_true, memB_iff]
      exact h2 a (List.mem_cons_self)
    · intro c
      rcases List.mem_cons.1 c with rfl | c
      · exact h3 hx
      · exact h2 x (List.mem_cons_of_mem _ hx) c
theorem GoodL.sub {l m : List Nm} (g : GoodL m) (h : l.Sublist m) : GoodL l := by
  refine ⟨fun x hx => g.wf x (h.subset hx), ?_, Nat.le_trans (flat_sub h) g.size⟩
  rw [fresh_iff]
  exact ⟨((freshB_nodup [] _ g.fresh).1).sublist (h.map _), by simp⟩
theorem left_step {L l : List Nm} {q : Nat} {x : Nm} (h : LeftN L l q) (hx : L[q]? = some x) :
    findE (dirS l) x.name = 0 ∧ (dropS (dirS l) x.name).size + (6 + x.name.size) = (dirS l).size ∧ ∃ l', dropS (dirS l) x.name = dirS l' ∧ LeftN L l' (q + 1) := by
  obtain ⟨g, hp⟩ := h
  have hq := (List.getElem?_eq_some_iff.1 hx).1
  have hd : L.drop q = x :: L.drop (q + 1) := by
    rw [List.drop_eq_getElem_cons hq]
    have := List.getElem?_eq_getElem hq
    rw [hx] at this
    injection this with this
    rw [this]
  rw [hd] at hp
  have hmem : x ∈ l := hp.symm.subset (List.mem_cons_self)
  have hwf := g.wf x hmem
  have hlt : idxN l x.name < l.length := idxN_lt_iff.2 (List.mem_map.2 ⟨x, hmem, rfl⟩)
  have h0 : findE (dirS l) x.name = 0 := by rw [g.findE, if_pos hwf.1, if_pos hlt]
  obtain ⟨_, y, hy, hyn, _⟩ := g.hit h0
  have hyx : y = x := g.dist y (List.mem_of_getElem? hy) x hmem hyn
  subst hyx
  have hdr := g.dropS y.name h0
  refine ⟨h0, ?_, l.eraseIdx (idxN l y.name), hdr, g.sub (List.eraseIdx_sublist _ _), ?_⟩
  · rw [hdr, dirS_size, dirS_size]
    exact eraseIdx_flat hy
  · have h1 : l.Perm (y :: l.eraseIdx (idxN l y.name)) := by
      obtain ⟨hi, e⟩ := List.getElem?_eq_some_iff.1 hy
      generalize idxN l y.name = i at *
      have h2 : l = l.take i ++ y :: l.drop (i + 1) := by
        conv => lhs; rw [← List.take_append_drop i l, List.drop_eq_getElem_cons hi, e]
      rw [List.eraseIdx_eq_take_drop_succ]
      conv => lhs; rw [h2]
      exact List.perm_middle
    exact List.Perm.cons_inv (h1.symm.trans hp)
theorem left_end {L l : List Nm} (h : LeftN L l L.length) : dirS l = ⟨#[]⟩ := by
  obtain ⟨_, hp⟩ := h
  rw [List.drop_length] at hp
  have : l = [] := List.Perm.eq_nil hp
  rw [this]
  rfl

def cut3 (s : ByteArray) : ByteArray := s.extract 0 (min (s.size : Int) 3000).toNat
theorem cut3_size (s : ByteArray) : (cut3 s).size ≤ 3000 := by
  unfold cut3
  rw [ByteArray.size_extract]
  omega

def ERel (w1 : World) (L : List Nm) (k : Nat) (v i : Value) (wr : World) : Prop :=
  ∃ (q : Nat) (l : List Nm), k = L.length - q ∧ i = .int .i64 q ∧ q ≤ L.length ∧ v = .string (dirS l) ∧ LeftN L l q ∧ Below w1.heap.size w1 wr

set_option maxHeartbeats 4000000 in
set_option maxRecDepth 100000 in
theorem empties_law (s : ByteArray) (hs : s.size ≤ maxLen) (w : World) :
    Calls Try.prog 7 #[.string s] w fun e w' => e = .returned (.bool true) ∧ Below w.heap.size w w' := by
  have hs2 : s.size ≤ 9223372036854775807 := hs
  have hz := cut3_size s
  have hce : s.extract 0 (min (s.size : Int) 3000).toNat = cut3 s := rfl
  have hm1 : (min (s.size : Int) 3000) ≤ (s.size : Int) := by omega
  have hm2 : 0 ≤ (min (s.size : Int) 3000) := by omega
  generalize cut3 s = t at *
  have ht : t.size ≤ 9223372036854775807 := by omega
  have g1 := fun W => dlist_any t ht W
  unfold LPost at g1
  cases hok : rdOk t
  · have hE : readE t = 110 := by unfold readE; rw [hok]; rfl
    rw [hE] at g1
    have G1 := Lib.hid g1
    have HCE := Lib.hid hce
    clear g1 hE hok ht hz hs hce
    rcases Nat.lt_or_ge s.size 3000 with hlt | hlt
    case' inl => have hi : (s.size : Int) < 3000 := by omega
    case' inr => have hi : 3000 ≤ (s.size : Int) := by omega
    all_goals
      go_enter Try.func7, Try.ntmps7
      go_wp2_with fail
      refine (shown_any _).mono ?_
      rintro e w1 ⟨rfl, b⟩
      go_wp2_with fail
      rw [HCE.out]
      refine (G1.out _).mono ?_
      rintro e w2 ⟨v, rfl, _, b2⟩
      replace b := b.trans (b2.mono b.size)
      clear b2
      go_wp2_with fail
      go_ret
      exact ⟨rfl, b⟩
  · have hE : readE t = 0 := by unfold readE; rw [hok]; rfl
    obtain ⟨gt, hts⟩ := rdOk_good hok
    have hll := namesL_le t
    have hsl := sortN_length (namesL t)
    rw [hE, ← hsl] at g1
    rw [← hsl] at hll
    have hst : LeftN (sortN (namesL t)) (namesL t) 0 := left_start gt rfl
    have hsz : ∀ l q, LeftN (sortN (namesL t)) l q → (dirS l).size ≤ 20000 := fun l q h => by rw [dirS_size]; exact h.1.size
    have hle := fun l q x => @left_step (sortN (namesL t)) l q x
    have hen := fun l => @left_end (sortN (namesL t)) l
    have HTS := Lib.hid hts
    have HST := Lib.hid hst
    have HLE := Lib.hid hle
    have HEN := Lib.hid hen
    have HSZ := Lib.hid hsz
    have G1 := Lib.hid g1
    have HCE := Lib.hid hce
    clear g1 hE hok ht hz hs hce hsl hts hst hle hen gt hsz
    generalize hLg : sortN (namesL t) = L at *
    clear hLg
    have hli : (L.length : Int) ≤ 20001 := by omega
    rcases Nat.lt_or_ge s.size 3000 with hlt | hlt
    case' inl => have hi : (s.size : Int) < 3000 := by omega
    case' inr => have hi : 3000 ≤ (s.size : Int) := by omega
    all_goals
      go_enter Try.func7, Try.ntmps7
      go_wp2_with fail
      refine (shown_any _).mono ?_
      rintro e w1 ⟨rfl, b⟩
      go_wp2_with fail
      rw [HCE.out]
      refine (G1.out _).mono ?_
      rintro e w2 ⟨v, rfl, o1, b2⟩
      replace b := b.trans (b2.mono b.size)
      obtain ⟨A1, c1, rfl, _, r1⟩ := Rd.of_own2 o1
      have R1 := Lib.hid r1
      clear o1 r1 b2
      go_wp2_with fail
      go_loopg [0, 6] L.length (ERel w2 L)
      case atStart => exact ⟨0, namesL t, rfl, rfl, Nat.zero_le _, by rw [← HTS.out], HST.out, Below.refl _ _⟩
      case round =>
        obtain ⟨q, l, rfl, rfl, hq, rfl, hleft, hbw⟩ := hrel
        have hws := hbw.size
        by_cases hql : q < L.length
        · have hqi : (q : Int) < (L.length : Int) := by omega
          obtain ⟨x, hx⟩ : ∃ x, L[q]? = some x := ⟨_, List.getElem?_eq_getElem hql⟩
          obtain ⟨ad, rfl, hadb, e0, e1⟩ := nm_cells (R1.out.kept (Fr.of_below hbw) (fun k hk => by omega)) q x hx hql
          obtain ⟨f0, f1, l', f2, f3⟩ := HLE.out l q x hleft hx
          have hds := HSZ.out l q hleft
          have hdr := fun W => drop_any (dirS l) x.name (by omega) W
          rw [f0] at hdr
          have hcond : ((dropS (dirS l) x.name).size : Int) = ((dirS l).size : Int) - 6 - (x.name.size : Int) := by omega
          rw [f2] at hdr hcond
          have HDR := Lib.hid hdr
          have HF3 := Lib.hid f3
          have HADB := Lib.hid hadb
          clear hdr hleft hx f0 f1 f2 f3 hadb
          go_wp2_with fail
          refine (HDR.out _).mono ?_
          rintro e w3 ⟨rfl, b2⟩
          have hab := HADB.out.2
          have e0' := (Fr.of_below b2).cell (by rw [add_block]; show ¬ wr.heap.size ≤ ad.block; omega) e0
          have hbw2 := hbw.trans (b2.mono hbw.size)
          clear e0 e1 b2 hbw
          go_wp2_with fail
          go_roundg (L.length - (q + 1))
          case measure => omega
          case rel => exact ⟨q + 1, l', rfl, by simp, by omega, rfl, HF3.out, hbw2⟩
        · obtain rfl : q = L.length := by omega
          have hne := HEN.out l hleft
          have hem : ((dirS l).toList == []) = true := by rw [hne]; kernel_rfl
          have hbb := b.trans (hbw.mono b.size)
          clear hleft hne hbw
          go_wp2_with fail
          go_ret
          exact ⟨by simp, hbb⟩
end Go.Proofs.Ytliioeihbbhiiaa

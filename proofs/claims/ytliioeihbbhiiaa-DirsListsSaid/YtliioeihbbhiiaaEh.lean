/- Directories: the reference's place and Read: contracts over the given program. -/
import Derived.Test.YtliioeihbbhiiaaEg
namespace Go.Proofs.Ytliioeihbbhiiaa
open Go.RowKit Go.Nau Go.Shelf
attribute [local go_sem] Oper.semAt_some

set_option maxHeartbeats 1000000 in
theorem place_any (l : List Nm) (A : Option Addr) (c : Nat) (name : ByteArray) (w : World) (hr : Rd (· < w.heap.size) w 2 A l.length (nmC l)) (hl : l.length ≤ 1000000) :
    Calls Try.prog 39 #[.slice A l.length c, .string name] w fun e w' => e = .returned (.int .i64 (idxI l name)) ∧ w = w' := by
  have HR := Lib.hid hr
  clear hr
  have hli : (l.length : Int) ≤ 1000000 := by omega
  go_enter Try.func39, Try.ntmps39
  go_wp2_with fail
  go_loopg [5] l.length (fun k i wr => ∃ q : Nat, k = l.length - q ∧ i = .int .i64 q ∧ q ≤ l.length ∧ Miss l name q ∧ w = wr)
  case atStart => exact ⟨0, rfl, rfl, Nat.zero_le _, fun j y hj => by omega, rfl⟩
  case round =>
    obtain ⟨q, rfl, rfl, hq, HN, rfl⟩ := hrel
    by_cases hlt : q < l.length
    · have hqi : (q : Int) < (l.length : Int) := by omega
      obtain ⟨x, hx⟩ : ∃ x, l[q]? = some x := ⟨_, List.getElem?_eq_getElem hlt⟩
      obtain ⟨ad, rfl, hadb, e0, e1⟩ := nm_cells HR.out q x hx hlt
      have HX := Lib.hid hx
      clear hx
      cases hm : eqB x.name name
      · have hm' : (x.name.toList == name.toList) = false := hm
        have HN2 := HN.snoc HX.out hm
        clear HN HX hm
        go_wp2_with fail
        go_roundg (l.length - (q + 1))
        case measure => omega
        case rel => exact ⟨q + 1, rfl, by simp, by omega, HN2, rfl⟩
      · have hm' : (x.name.toList == name.toList) = true := hm
        go_wp2_with fail
        go_ret
        exact ⟨by rw [idxI_hit HX.out hm HN]; rfl, rfl⟩
    · obtain rfl : q = l.length := by omega
      have hmiss := idxI_miss (l := l) (name := name) (fun j y hj hy => HN j y hj hy)
      have HM := Lib.hid hmiss
      clear hmiss HN
      go_wp2_with fail
      go_ret
      exact ⟨by rw [HM.out]; rfl, rfl⟩

theorem idxI_or (l : List Nm) (name : ByteArray) : idxI l name = -1 ∨ 0 ≤ idxI l name := by
  unfold idxI
  split
  · exact .inr (by omega)
  · exact .inl rfl
theorem idxN_lt_iff {l : List Nm} {name : ByteArray} : idxN l name < l.length ↔ name ∈ l.map (·.name) := by
  unfold idxN
  rw [List.findIdx_lt_length]
  simp only [eqB_iff, List.mem_map]
theorem idxI_neg {l : List Nm} {name : ByteArray} : idxI l name = -1 ↔ memB name (l.map (·.name)) = false := by
  rw [← Bool.not_eq_true, memB_iff, ← idxN_lt_iff]
  unfold idxI
  split
  · rename_i h
    exact ⟨fun e => by omega, fun e => absurd h e⟩
  · rename_i h
    exact ⟨fun _ => h, fun _ => rfl⟩

def pairT (l : List De) : List (De × Bool) := l.map fun x => (x, true)
theorem pairT_names (l : List De) : (pairT l).map (·.1.name) = l.map (·.name) := by simp [pairT, Function.comp_def]
theorem nmC_snoc (l : List Nm) (x : Nm) : nmC (l ++ [x]) = nmC l ++ nmL x := by simp [nmC]
theorem ttS_size (s : ByteArray) (p : Nat) : (ttS s p).size ≤ s.size := by
  unfold ttS
  split
  · rw [ByteArray.size_extract]
    omega
  · exact Nat.zero_le _
theorem infoNm : (Try.prog.info? 40).map (fun i => (i.zero, i.size, i.bytes)) = some (some (.agg #[.string ⟨#[]⟩, .int .u32 0]), 2, 24) := by kernel_rfl
theorem rd_nm (W : World) (x : Nm) : ∀ j u, (nmL x)[j]? = some u → (W.alloc (.cells #[.string x.name, .int .u32 x.ino] 40)).cell? ((⟨W.heap.size, 0, none⟩ : Addr).add j) = some u := by
  intro j u hu
  have hn := heap_alloc_new W (.cells #[.string x.name, .int .u32 x.ino] 40)
  have ha : (⟨W.heap.size, 0, none⟩ : Addr).add j = ⟨W.heap.size, j, none⟩ := by unfold Addr.add; split <;> simp_all
  rw [ha, cell_of_row _ W.heap.size j _ _ _ hn]
  simpa [nmL] using hu

structure RRIn (w0 : World) (s : ByteArray) (p : Nat) (pre : List De) (v : Value) (wr : World) : Prop where
  seq : pairT pre ++ seqD s (s.size + 1) p = seqOf s
  fresh : freshB [] (pre.map (·.name)) = true
  own : wr.ownsRow w0.heap.size 40 2 v pre.length (nmC (pre.map toNm))
  bel : Below w0.heap.size w0 wr
def RRRel (w0 : World) (s : ByteArray) (k : Nat) (v i : Value) (wr : World) : Prop :=
  ∃ (p : Nat) (pre : List De), k = s.size - p ∧ i = .int .i64 p ∧ p ≤ s.size ∧ RRIn w0 s p pre v wr
def RRPost (w : World) (s : ByteArray) (e : Ending) (w' : World) : Prop :=
  ∃ v, e = .returned (.tuple #[v, .bool (rdOk s)]) ∧ w'.ownsRow w.heap.size 40 2 v (namesL s).length (nmC (namesL s)) ∧ Below w.heap.size w w'
theorem RRIn.len {w0 : World} {s : ByteArray} {p : Nat} {pre : List De} {v : Value} {wr : World} (h : RRIn w0 s p pre v wr) : pre.length ≤ s.size + 1 := by
  have h1 := seqD_length s (s.size + 1) 0
  have h2 := congrArg List.length h.seq
  unfold seqOf at h2
  simp only [List.length_append, pairT, List.length_map] at h2
  omega
theorem RRIn.bad {w0 : World} {s : ByteArray} {p : Nat} {pre : List De} {v : Value} {wr : World} (h : RRIn w0 s p pre v wr) (hb : ∀ x r, seqD s (s.size + 1) p = x :: r → x.2 = false ∨ memB x.1.name (pre.map (·.name)) = true) (hp : p < s.size) : rdOk s = false := by
  obtain ⟨x, r, hx⟩ : ∃ x r, seqD s (s.size + 1) p = x :: r := by
    unfold seqD
    rw [if_pos hp]
    split
    · exact ⟨_, _, rfl⟩
    · exact ⟨_, _, rfl⟩
  have h1 := hb x r hx
  unfold rdOk
  rw [← h.seq, hx]
  rw [List.all_append, List.map_append, freshB_append, pairT_names]
  simp only [List.all_cons, List.map_cons, freshB]
  rcases h1 with h1 | h1
  · simp [h1]
  · have : memB x.1.name ((pre.map (·.name)).reverse ++ []) = true := by
      rw [memB_iff] at h1 ⊢
      simpa using h1
    rw [this]
    simp
theorem RRPost.bad {w w' : World} {s : ByteArray} (ho : rdOk s = false) (hb : Below w.heap.size w w') : RRPost w s (.returned (.tuple #[.slice none 0 0, .bool false])) w' := by
  unfold RRPost namesL readL
  rw [ho]
  exact ⟨.slice none 0 0, rfl, ⟨rfl, .inl ⟨rfl, rfl⟩⟩, hb⟩
theorem RRPost.good {w wr : World} {s : ByteArray} {pre : List De} {v : Value} (h : RRIn w s s.size pre v wr) (h5 : s.size ≤ 20000) : RRPost w s (.returned (.tuple #[v, .bool true])) wr := by
  have hst : seqD s (s.size + 1) s.size = [] := by
    unfold seqD
    rw [if_neg (by omega)]
  have hs := h.seq
  rw [hst, List.append_nil] at hs
  have hok : rdOk s = true := by
    unfold rdOk
    rw [← hs, pairT_names, h.fresh]
    simp [pairT, h5]
  have hL : readL s = pre := by
    unfold readL
    rw [hok, if_pos rfl, ← hs]
    simp [pairT, Function.comp_def]
  refine ⟨v, by rw [hok], ?_, h.bel⟩
  unfold namesL
  rw [hL, List.length_map]
  exact h.own

set_option maxHeartbeats 4000000 in
set_option maxRecDepth 100000 in
theorem rread_any (s : ByteArray) (hs : s.size ≤ 9223372036854775807) (w : World) : Calls Try.prog 34 #[.string s] w (RRPost w s) := by
  obtain ⟨i0, hi0, hz0, hz1, hz2⟩ := info_parts infoNm
  by_cases h5 : s.size ≤ 20000
  case neg =>
    clear hi0 hz0 hz1 hz2
    have h5' : 20000 < (s.size : Int) := by omega
    have ho : rdOk s = false := by unfold rdOk; simp [h5]
    have HO := Lib.hid ho
    clear ho h5
    go_enter Try.func34, Try.ntmps34
    go_wp2_with fail
    go_ret2
    unfold RRPost namesL readL
    rw [HO.out]
    exact ⟨.slice none 0 0, rfl, ⟨rfl, .inl ⟨rfl, rfl⟩⟩, Below.refl _ w⟩
  have h5' : (s.size : Int) ≤ 20000 := by omega
  go_enter Try.func34, Try.ntmps34
  go_wp2_with fail
  go_loopg [4, 5] s.size (RRRel w s)
  case atStart => exact ⟨0, [], rfl, rfl, Nat.zero_le _, rfl, rfl, ⟨rfl, .inl ⟨rfl, rfl⟩⟩, Below.refl _ _⟩
  case round =>
    obtain ⟨p, pre, rfl, rfl, hp, hI⟩ := hrel
    have hbe := hI.bel
    have hws := hbe.size
    by_cases hlt : p < s.size
    · have hpi : (p : Int) < (s.size : Int) := by omega
      have hln := hI.len
      have t1 : Calls Try.prog 47 #[.string s, .int .i64 p, .int .i64 4] wr fun e w' => e = .returned (.tuple #[.int .u64 (takeN s p 4), .int .i64 (takeE s p 4)]) ∧ wr = w' := rtake_any s p 4 (by omega) (by omega) hs (by omega) wr
      have t2 : Calls Try.prog 48 #[.string s, .int .i64 ((p : Int) + 4)] wr fun e w' => e = .returned (.tuple #[.string (ttS s (p + 4)), .int .i64 (ttE s (p + 4)), .int .i64 (ttN s (p + 4))]) ∧ wr = w' := rtaketext_any s (p + 4) hs (by omega) wr
      have t3 := risname_any (ttS s (p + 4)) (by have := ttS_size s (p + 4); omega) wr
      have hino : takeN s p 4 < 4294967296 := takeN_lt' s p 4
      obtain ⟨A, c, rfl, hc, hrd⟩ := Rd.of_own2 hI.own
      have hpll : pre.length = (pre.map toNm).length := by rw [List.length_map]
      have t4 := place_any (pre.map toNm) A c (ttS s (p + 4)) wr (by rw [← hpll]; exact hrd.mono (fun k hk => hk.2)) (by rw [← hpll]; omega)
      rw [← hpll] at t4
      have hmm : idxI (pre.map toNm) (ttS s (p + 4)) = -1 ↔ memB (ttS s (p + 4)) (pre.map (·.name)) = false := by
        rw [idxI_neg, List.map_map]
        rfl
      have hor := idxI_or (pre.map toNm) (ttS s (p + 4))
      have T1 := Lib.hid t1
      have T2 := Lib.hid t2
      have T3 := Lib.hid t3
      have T4 := Lib.hid t4
      clear t1 t2 t3 t4 hrd hpll
      by_cases hk : deOk s p = true
      · have hen := deOk_en hk
        have hk0 := hk
        unfold deOk at hk0
        simp only [Bool.and_eq_true, decide_eq_true_eq] at hk0
        obtain ⟨k1, k2, k3, k4⟩ := hk0
        rw [k1] at T1
        rw [k2] at T2
        rw [k4] at T3
        have k3i : ((takeN s p 4 : Int) == 0) = false := by simp; omega
        have hst : seqD s (s.size + 1) p = (deAt s p, true) :: seqD s (s.size + 1) (deAt s p).en := by
          conv => lhs; unfold seqD
          rw [if_pos hlt, if_pos hk, seqD_more s.size (s.size + 1) _ (by omega) (by omega)]
        have hdn : (deAt s p).name = ttS s (p + 4) := rfl
        cases hm : memB (ttS s (p + 4)) (pre.map (·.name))
        · have hix := hmm.2 hm
          rw [hix] at T4
          have hseq2 : pairT (pre ++ [deAt s p]) ++ seqD s (s.size + 1) (deAt s p).en = seqOf s := by
            have e : pairT (pre ++ [deAt s p]) = pairT pre ++ [(deAt s p, true)] := by simp [pairT]
            rw [e, List.append_assoc, List.singleton_append, ← hst]
            exact hI.seq
          have hfr2 : freshB [] ((pre ++ [deAt s p]).map (·.name)) = true := by
            rw [List.map_append, freshB_append, hI.fresh]
            simp only [List.map_cons, List.map_nil, freshB, Bool.true_and, Bool.and_true, List.append_nil]
            rw [hdn]
            have : memB (ttS s (p + 4)) (pre.map (·.name)).reverse = memB (ttS s (p + 4)) (pre.map (·.name)) := by
              rw [Bool.eq_iff_iff, memB_iff, memB_iff, List.mem_reverse]
            rw [this, hm]
            rfl
          have hee : (deAt s p).en = ttE s (p + 4) := rfl
          have hx : toNm (deAt s p) = ⟨ttS s (p + 4), takeN s p 4⟩ := rfl
          rw [hee] at hen
          have hinoi : (takeN s p 4 : Int) < 4294967296 := by omega
          have HI := Lib.hid hI
          have HX := Lib.hid hx
          have HS2 := Lib.hid hseq2
          have HF2 := Lib.hid hfr2
          have HEE := Lib.hid hee
          have HO := Lib.hid hI.own
          have HRX := Lib.hid (rd_nm wr ⟨ttS s (p + 4), takeN s p 4⟩)
          clear hI hx hseq2 hfr2 hee hst hdn hm hmm hor hix k1 k2 k3 k4 hk hc
          generalize deAt s p = x at *
          generalize ttS s (p + 4) = nm at *
          generalize takeN s p 4 = ino at *
          generalize ttE s (p + 4) = en at *
          generalize hpn : pre.length = n at *
          have HPN := Lib.hid hpn
          clear hpn
          go_wp2_with fail
          refine T1.out.mono ?_
          rintro e w1 ⟨rfl, hw1⟩
          rw [← hw1]
          clear hw1 w1
          go_wp2_with fail
          refine T2.out.mono ?_
          rintro e w1 ⟨rfl, hw1⟩
          rw [← hw1]
          clear hw1 w1
          go_wp2_with fail
          refine T3.out.mono ?_
          rintro e w1 ⟨rfl, hw1⟩
          rw [← hw1]
          clear hw1 w1
          go_wp2_with fail
          refine T4.out.mono ?_
          rintro e w1 ⟨rfl, hw1⟩
          rw [← hw1]
          clear hw1 w1
          go_wp2_with (at_builtin; refine wpList_append_own _ rfl (.tmp 55) (.tmp 60) 34 rfl w.heap.size 40 i0 _ 2 24 Try.underlying34 hi0 hz0 hz1 hz2 rfl (by decide) _ n (nmC (pre.map toNm)) rfl (HO.out.alloc _) ⟨wr.heap.size, 0, none⟩ 1 1 (nmL ⟨nm, ino⟩) rfl rfl HRX.out (by simp [nmL, Value.oneCell']) (by unfold maxLen; omega) (by omega) (by simp; omega) ?_; intro v2 w2 hown2 hg2 hat2)
          have hs2 := (hg2.size)
          simp at hs2
          have hrel2 : RRIn w s en (pre ++ [x]) v2 w2 := by
            refine ⟨by rw [← HEE.out]; exact HS2.out, HF2.out, ?_, hbe.trans (((Fr.alloc (Fr.refl (fun k => w.heap.size ≤ k) wr) _).trans ((Fr.of_grown hg2).mono (fun k e => (HO.out.lt k e.symm).1))).below hws (fun k h => h))⟩
            rw [List.map_append, List.length_append, HPN.out]
            show w2.ownsRow _ _ _ _ _ (nmC (pre.map toNm ++ [toNm x]))
            rw [nmC_snoc, HX.out]
            exact hown2
          clear hown2 hg2 hat2
          go_roundg (s.size - en)
          case measure => omega
          case rel => exact ⟨en, pre ++ [x], rfl, rfl, by omega, hrel2⟩
        · have hix : 0 ≤ idxI (pre.map toNm) (ttS s (p + 4)) := by
            rcases hor with h | h
            · rw [hmm.1 h] at hm
              cases hm
            · exact h
          have hbad := hI.bad (fun x r hx => by
            rw [hst] at hx
            injection hx with hx _
            subst hx
            exact .inr hm) hlt
          have HB := Lib.hid hbad
          clear hI hst hdn hm hmm hor k1 k2 k3 k4 hk hc hbad
          generalize idxI (pre.map toNm) (ttS s (p + 4)) = ix at *
          generalize ttS s (p + 4) = nm at *
          generalize takeN s p 4 = ino at *
          generalize ttE s (p + 4) = en at *
          go_wp2_with fail
          refine T1.out.mono ?_
          rintro e w1 ⟨rfl, hw1⟩
          rw [← hw1]
          clear hw1 w1
          go_wp2_with fail
          refine T2.out.mono ?_
          rintro e w1 ⟨rfl, hw1⟩
          rw [← hw1]
          clear hw1 w1
          go_wp2_with fail
          refine T3.out.mono ?_
          rintro e w1 ⟨rfl, hw1⟩
          rw [← hw1]
          clear hw1 w1
          go_wp2_with fail
          refine T4.out.mono ?_
          rintro e w1 ⟨rfl, hw1⟩
          rw [← hw1]
          clear hw1 w1
          go_wp2_with fail
          go_ret2
          exact RRPost.bad HB.out hbe
      · replace hk : deOk s p = false := by simpa using hk
        have hst : seqD s (s.size + 1) p = [(deAt s p, false)] := by
          conv => lhs; unfold seqD
          rw [if_pos hlt, hk]
          rfl
        have hbad := hI.bad (fun x r hx => by
          rw [hst] at hx
          injection hx with hx _
          subst hx
          exact .inl rfl) hlt
        have hcase : (takeE s p 4 = 2) ∨ (takeE s p 4 = 0 ∧ ttN s (p + 4) = 2) ∨ (takeE s p 4 = 0 ∧ ttN s (p + 4) = 0 ∧ nameB (ttS s (p + 4)) = false) ∨ (takeE s p 4 = 0 ∧ ttN s (p + 4) = 0 ∧ nameB (ttS s (p + 4)) = true ∧ takeN s p 4 = 0) := by
          unfold deOk at hk
          have h1 : takeE s p 4 = 0 ∨ takeE s p 4 = 2 := by unfold takeE; split <;> simp
          have h2 : ttN s (p + 4) = 0 ∨ ttN s (p + 4) = 2 := by unfold ttN; split <;> simp
          rcases h1 with h1 | h1
          · rcases h2 with h2 | h2
            · cases h3 : nameB (ttS s (p + 4))
              · exact .inr (.inr (.inl ⟨h1, h2, rfl⟩))
              · refine .inr (.inr (.inr ⟨h1, h2, rfl, ?_⟩))
                rw [h1, h2, h3] at hk
                simp at hk
                omega
            · exact .inr (.inl ⟨h1, h2⟩)
          · exact .inl h1
        have HB := Lib.hid hbad
        clear hI hst hmm hor hk hc hbad T4 hino
        generalize nameB (ttS s (p + 4)) = nb at *
        generalize ttS s (p + 4) = nm at *
        generalize takeN s p 4 = ino at *
        generalize ttE s (p + 4) = en at *
        generalize takeE s p 4 = e1 at *
        generalize ttN s (p + 4) = e2 at *
        rcases hcase with rfl | ⟨rfl, rfl⟩ | ⟨rfl, rfl, rfl⟩ | ⟨rfl, rfl, rfl, rfl⟩
        case' inr.inr.inr => rw [show ((0 : Nat) : Int) = 0 from rfl] at T1
        all_goals
          go_wp2_with fail
          refine T1.out.mono ?_
          rintro e w1 ⟨rfl, hw1⟩
          rw [← hw1]
          clear hw1 w1
          go_wp2_with fail
          refine T2.out.mono ?_
          rintro e w1 ⟨rfl, hw1⟩
          rw [← hw1]
          clear hw1 w1
          go_wp2_with fail
          refine T3.out.mono ?_
          rintro e w1 ⟨rfl, hw1⟩
          rw [← hw1]
          clear hw1 w1
          go_wp2_with fail
          go_ret2
          exact RRPost.bad HB.out hbe
    · obtain rfl : p = s.size := by omega
      have HP := Lib.hid (RRPost.good hI h5)
      clear hI
      go_wp2_with fail
      go_ret2
      exact HP.out
end Go.Proofs.Ytliioeihbbhiiaa

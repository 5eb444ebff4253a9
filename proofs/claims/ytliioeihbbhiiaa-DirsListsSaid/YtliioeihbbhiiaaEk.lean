/- Directories: the reference's Drop: contract over the given program. -/
import Derived.Test.YtliioeihbbhiiaaEj
namespace Go.Proofs.Ytliioeihbbhiiaa
open Go.RowKit Go.Nau Go.Shelf
attribute [local go_sem] Oper.semAt_some

theorem eraseIdx_take_ne {α : Type} (l : List α) (q j : Nat) (x : α) (h : l[j]? = some x) (hne : j ≠ q) : (l.take (j + 1)).eraseIdx q = (l.take j).eraseIdx q ++ [x] := by
  have hj := (List.getElem?_eq_some_iff.1 h).1
  rw [List.take_add_one, h]
  simp only [Option.toList_some]
  by_cases hlt : q < j
  · rw [List.eraseIdx_append_of_lt_length (by rw [List.length_take]; omega)]
  · rw [List.eraseIdx_append_of_length_le (by rw [List.length_take]; omega), List.eraseIdx_of_length_le (l := l.take j) (by rw [List.length_take]; omega)]
    congr 1
    rw [List.length_take, Nat.min_eq_left (by omega)]
    obtain ⟨k, hk⟩ : ∃ k, q - j = k + 1 := ⟨q - j - 1, by omega⟩
    rw [hk]
    rfl
theorem eraseIdx_take_eq {α : Type} (l : List α) (q : Nat) (x : α) (h : l[q]? = some x) : (l.take (q + 1)).eraseIdx q = (l.take q).eraseIdx q := by
  have hj := (List.getElem?_eq_some_iff.1 h).1
  rw [List.take_add_one, h]
  simp only [Option.toList_some]
  rw [List.eraseIdx_append_of_length_le (by rw [List.length_take]; omega), List.eraseIdx_of_length_le (l := l.take q) (by rw [List.length_take]; omega)]
  rw [List.length_take, Nat.min_eq_left (by omega), Nat.sub_self]
  simp
theorem flat_sub {l m : List Nm} (h : l.Sublist m) : (l.flatMap oneL).length ≤ (m.flatMap oneL).length := by
  induction h with
  | slnil => simp
  | cons a _ ih => simp only [List.flatMap_cons, List.length_append]; omega
  | cons_cons a _ ih => simp only [List.flatMap_cons, List.length_append]; omega

def DRel (w w1 : World) (l : List Nm) (q k : Nat) (v i : Value) (wr : World) : Prop :=
  ∃ j : Nat, k = l.length - j ∧ i = .int .i64 j ∧ j ≤ l.length ∧ wr.ownsRow w1.heap.size 40 2 v ((l.take j).eraseIdx q).length (nmC ((l.take j).eraseIdx q)) ∧ Below w1.heap.size w1 wr

set_option maxHeartbeats 1000000 in
set_option maxRecDepth 100000 in
theorem rdrop_any (s name : ByteArray) (hs : s.size ≤ 9223372036854775807) (hn : name.size ≤ 9223372036854775807) (w : World) : Calls Try.prog 16 #[.string s, .string name] w fun e w' =>
    e = .returned (.tuple #[.string (rdropS s name), .int .i64 (findE s name)]) ∧ Below w.heap.size w w' := by
  obtain ⟨i0, hi0, hz0, hz1, hz2⟩ := info_parts infoNm
  have HR := Lib.hid (fun W => found_any s name hs hn W)
  unfold FPost at HR
  have hd : rdropS s name = if findE s name = 0 then dirS ((namesL s).eraseIdx (idxN (namesL s) name)) else ⟨#[]⟩ := rfl
  by_cases h0 : findE s name = 0
  case neg =>
    rw [if_neg h0] at hd
    rw [hd]
    have hen1 : (findE s name == 0) = false := by simpa using h0
    clear hd h0 hi0 hz0 hz1 hz2
    generalize findE s name = en at *
    go_enter Try.func16, Try.ntmps16
    go_wp2_with fail
    refine (HR.out _).mono ?_
    rintro e w1 ⟨v, rfl, _, hb1⟩
    go_wp2_with fail
    go_ret2
    exact ⟨rfl, hb1⟩
  obtain ⟨q, hq, hqi, hx⟩ := findD_mem h0
  have hxn := names_get hx
  have hI : foundI s name = q := by unfold foundI; rw [if_pos h0, hqi]
  have hL : foundL s name = namesL s := by unfold foundL; rw [if_pos (.inl h0)]
  rw [← namesL_length] at hq
  have hll := namesL_le s
  have hfl := names_flat s
  have hwf := fun x h => @namesL_wf s x h
  rw [hI, hL, h0] at HR
  rw [if_pos h0, hqi] at hd
  rw [hd, h0]
  clear h0 hqi hx hI hL hd hxn
  generalize namesL s = l at *
  have hqi : (q : Int) < (l.length : Int) := by omega
  have hli : (l.length : Int) ≤ 20001 := by omega
  have hBy := fun (A : Option Addr) (c : Nat) (W : World) (hr : Rd (· < W.heap.size) W 2 A (l.eraseIdx q).length (nmC (l.eraseIdx q))) => rbytes11_any (l.eraseIdx q) A c W hr (by have := flat_sub (List.eraseIdx_sublist l q); omega) (fun y hy => by
    have := hwf y ((List.eraseIdx_sublist l q).subset hy)
    have h2 := nameB_le this.1
    exact ⟨by omega, this.2.2⟩) (by have := (List.eraseIdx_sublist l q).length_le; omega)
  have HBY := Lib.hid hBy
  clear hBy hfl hwf
  generalize dirS (l.eraseIdx q) = d at *
  go_enter Try.func16, Try.ntmps16
  go_wp2_with fail
  refine (HR.out _).mono ?_
  rintro e w1 ⟨v, rfl, hown, hb1⟩
  obtain ⟨A, c, rfl, hc, hrd⟩ := Rd.of_own2 hown
  have HRD := Lib.hid hrd
  clear hown HR hrd
  go_wp2_with fail
  go_loopg [9, 10] l.length (DRel w w1 l q)
  case atStart => exact ⟨0, rfl, rfl, Nat.zero_le _, ⟨rfl, .inl ⟨rfl, rfl⟩⟩, Below.refl _ _⟩
  case round =>
    obtain ⟨j, rfl, rfl, hj, hown, hbw⟩ := hrel
    have hws := hbw.size
    by_cases hlt : j < l.length
    · have hji : (j : Int) < (l.length : Int) := by omega
      obtain ⟨x, hx⟩ : ∃ x, l[j]? = some x := ⟨_, List.getElem?_eq_getElem hlt⟩
      by_cases hjq : j = q
      · have hjqi : ((j : Int) == (q : Int)) = true := by simp; omega
        have he : (l.take (j + 1)).eraseIdx q = (l.take j).eraseIdx q := by subst hjq; exact eraseIdx_take_eq l j x hx
        rw [← he] at hown
        have HO := Lib.hid hown
        clear hown he hjq hx
        go_wp2_with fail
        go_roundg (l.length - (j + 1))
        case measure => omega
        case rel => exact ⟨j + 1, rfl, by simp, by omega, HO.out, hbw⟩
      · have hjqi : ((j : Int) == (q : Int)) = false := by simp; omega
        have he := eraseIdx_take_ne l q j x hx hjq
        obtain ⟨ad, rfl, hadb, e0, e1⟩ := nm_cells ((HRD.out.kept (Fr.of_below hbw) (fun k hk => by omega))) j x hx hlt
        have hml : ((l.take j).eraseIdx q).length ≤ 20001 := by
          have h1 := (List.eraseIdx_sublist (l.take j) q).length_le
          rw [List.length_take] at h1
          omega
        have HO := Lib.hid hown
        have HE := Lib.hid he
        have HRX := Lib.hid (rd_nm wr x)
        clear hown he hjq hx
        generalize hm : (l.take j).eraseIdx q = m at *
        have HM := Lib.hid hm
        clear hm
        generalize hn' : m.length = n at *
        have HN := Lib.hid hn'
        clear hn'
        go_wp2_with (at_builtin; refine wpList_append_own _ rfl (.tmp 30) (.tmp 35) 34 rfl w1.heap.size 40 i0 _ 2 24 Try.underlying34 hi0 hz0 hz1 hz2 rfl (by decide) _ n (nmC m) rfl (HO.out.alloc _) ⟨wr.heap.size, 0, none⟩ 1 1 (nmL x) rfl rfl HRX.out (by simp [nmL, Value.oneCell']) (by unfold maxLen; omega) (by omega) (by simp; omega) ?_; intro v2 w2 hown2 hg2 hat2)
        have hs2 := (hg2.size)
        simp at hs2
        have hrel2 : w2.ownsRow w1.heap.size 40 2 v2 ((l.take (j + 1)).eraseIdx q).length (nmC ((l.take (j + 1)).eraseIdx q)) := by
          rw [HE.out, List.length_append, HN.out, nmC_snoc]
          exact hown2
        have hbw2 : Below w1.heap.size w1 w2 := hbw.trans (((Fr.alloc (Fr.refl (fun k => w1.heap.size ≤ k) wr) _).trans ((Fr.of_grown hg2).mono (fun k e => (HO.out.lt k e.symm).1))).below hws (fun k h => h))
        clear hown2 hg2 hat2 hbw
        go_roundg (l.length - (j + 1))
        case measure => omega
        case rel => exact ⟨j + 1, rfl, by simp, by omega, hrel2, hbw2⟩
    · obtain rfl : j = l.length := by omega
      rw [List.take_length] at hown
      obtain ⟨A', c', rfl, hc', hrd⟩ := Rd.of_own2 hown
      have HRD2 := Lib.hid hrd
      clear hown hrd HRD
      have hb2 := hb1.trans (hbw.mono hb1.size)
      go_wp2_with fail
      refine (HBY.out _ _ _ (HRD2.out.mono (fun k hk => hk.2))).mono ?_
      rintro e w2 ⟨rfl, hb3⟩
      have hb4 := hb2.trans (hb3.mono hb2.size)
      clear hb3
      go_wp2_with fail
      go_ret2
      exact ⟨rfl, hb4⟩
end Go.Proofs.Ytliioeihbbhiiaa

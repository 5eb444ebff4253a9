/- The law RingOrder: it answers true, over the given program. -/
import Derived.Test.YtcgphkghamcgcaaE
import Derived.Test.YtcgphkghamcgcaaO
import Derived.Deep.LoopGhost
import Derived.Deep.QuietTactic
import Derived.BigQuiet
namespace Go.Proofs.Ytcgphkghamcgcaa
open Go.RowKit Go.Conc Go.Nau

abbrev txts (l : List ByteArray) : List Value := l.map Value.string

theorem take_consS (w : World) (b c size : Nat) (x : Value) (l : List Value) (h : Que w 48 b c size (x :: l)) :
    Calls Try.prog 21 #[.pointer (some ⟨b, 0, none⟩)] w fun e w' => e = .returned (.tuple #[x, .bool true]) ∧ Que w' 48 b c size l ∧ Fr (· = c) w w' := by
  obtain ⟨hb, s, r, hc⟩ := h
  refine (take_someS w b c size s r x l hb hc).mono ?_
  rintro e w' ⟨he, rfl⟩
  exact ⟨he, Que.put hb hc, setChan_fr ..⟩
theorem take_nilS' (w : World) (b c size : Nat) (h : Que w 48 b c size []) :
    Calls Try.prog 21 #[.pointer (some ⟨b, 0, none⟩)] w fun e w' => e = .returned (.tuple #[.string ⟨#[]⟩, .bool false]) ∧ w = w' := by
  obtain ⟨hb, s, r, hc⟩ := h
  refine (take_noneS w b c size s r hb hc).mono ?_
  rintro e w' ⟨he, rfl⟩
  exact ⟨he, rfl⟩
theorem put_consS (w : World) (b c size : Nat) (v : Value) (l : List Value) (h : Que w 48 b c size l) (hl : l.length < size) :
    Calls Try.prog 10 #[.pointer (some ⟨b, 0, none⟩), v] w fun e w' => e = .returned (.bool true) ∧ Que w' 48 b c size (l ++ [v]) ∧ Fr (· = c) w w' := by
  obtain ⟨hb, s, r, hc⟩ := h
  refine (put_roomS v w b c size s r l hb hc hl).mono ?_
  rintro e w' ⟨he, rfl⟩
  refine ⟨he, ?_, setChan_fr ..⟩
  have : l.toArray.push v = (l ++ [v]).toArray := by simp
  rw [this]
  exact Que.put hb hc
theorem put_fullS' (w : World) (b c size : Nat) (v : Value) (l : List Value) (h : Que w 48 b c size l) (hl : size ≤ l.length) :
    Calls Try.prog 10 #[.pointer (some ⟨b, 0, none⟩), v] w fun e w' => e = .returned (.bool false) ∧ w = w' := by
  obtain ⟨hb, s, r, hc⟩ := h
  refine (put_fullS v w b c size s r l hb hc hl).mono ?_
  rintro e w' ⟨he, rfl⟩
  exact ⟨he, rfl⟩

theorem Try.infoS : (Try.prog.info? 9).map (fun i => (i.zero, i.size, i.bytes)) = some (some (.string ⟨#[]⟩), 1, 16) := by kernel_rfl

def DrainPostS (w : World) (b c size : Nat) (l : List ByteArray) (e : Ending) (w' : World) : Prop :=
  ∃ v, e = .returned v ∧ w'.ownsRow w.heap.size 9 1 v l.length (txts l) ∧ Que w' 48 b c size [] ∧ Fr (· = c) w w'

set_option maxHeartbeats 1000000 in
theorem drainS (w : World) (b c size : Nat) (l : List ByteArray) (h : Que w 48 b c size (txts l)) (hl : l.length ≤ 1024) :
    Calls Try.prog 11 #[.pointer (some ⟨b, 0, none⟩)] w (DrainPostS w b c size l) := by
  obtain ⟨i0, hi, hz0, hz1, hz2⟩ := info_parts Try.infoS
  have hcb := h.ne
  have hbc := h.lt
  go_enter Try.func11, Try.ntmps11
  go_wp2
  go_loopw [3] (fun o wr => ∃ pre rest, l = pre ++ rest ∧ wr.ownsRow w.heap.size 9 1 o pre.length (txts pre) ∧ Que wr 48 b c size (txts rest) ∧ Fr (· = c) w wr) (fun _ wr => left c wr)
  case atStart => exact ⟨[], l, rfl, World.ownsRow_nil _ _ _ _, h, Fr.refl _ _⟩
  case round =>
    obtain ⟨pre, rest, hx, hown, hq, hf⟩ := hrel
    cases rest with
    | nil =>
      go_wp2_with (go_at_call 21; refine (take_nilS' _ _ _ _ hq).mono ?_; rintro e w' ⟨rfl, rfl⟩)
      go_ret
      refine ⟨_, rfl, ?_, hq, hf⟩
      rw [hx, List.append_nil]
      exact hown
    | cons x rest =>
      have hlen : pre.length + 1 ≤ 1024 := by rw [hx] at hl; simp at hl; omega
      have hsz := hf.size
      have Hx := Lib.hid hx
      clear hx
      go_wp2_with fail
      refine (take_consS _ _ _ _ _ _ hq).mono ?_
      rintro e w1 ⟨rfl, hq1, hf1⟩
      have hown1 : w1.ownsRow w.heap.size 9 1 u3 pre.length (txts pre) := Fr.own hown hf1 (fun k hk e => by have := (hown.lt k hk).1; omega)
      have hsz1 := hf1.size
      have hleft : left c wr = rest.length + 1 := by rw [hq.left]; simp
      have Hl := Lib.hid hleft
      clear hleft
      go_wp2_with (at_builtin; refine wpList_append_own _ rfl _ _ 22 rfl w.heap.size 9 i0 (.string ⟨#[]⟩) 1 16 Try.underlying22 hi hz0 hz1 hz2 rfl (by decide) _ _ _ rfl (hown1.alloc _) ⟨w1.heap.size, 0, none⟩ 1 1 [.string x] rfl rfl (cell_one_new _ _ _) ?c2 ?c3 ?c4 ?c5 ?_)
      case c2 => simp [Value.oneCell']
      case c3 => unfold maxLen; omega
      case c4 => omega
      case c5 => simp; omega
      intro v' w2 hown2 hgrow _
      have hf2 : Fr (· = c) w w2 := ((hf.trans hf1).alloc _).grown hgrow (fun k hk hlt => by have := (hown.lt k hk).1; omega)
      have hq2 : Que w2 48 b c size (txts rest) := (hq1.kept (Fr.alloc (Fr.refl (fun _ => False) _) _) id id).kept (Fr.of_grown hgrow) (fun e => by have := (hown.lt b e.symm).1; omega) (fun e => by have := (hown.lt c e.symm).1; omega)
      have hleft2 : left c w2 = rest.length := by rw [hq2.left]; simp
      have Hl2 := Lib.hid hleft2
      clear hleft2 hgrow hf1 hq1 hown1 hq hown
      go_wp2
      go_roundw
      case rel => exact ⟨pre ++ [x], rest, by rw [Hx.out]; simp, by simpa using hown2, hq2, hf2⟩
      case measure => rw [Hl2.out, Hl.out]; omega
--ORDER
def OrderRel (w2 : World) (b c k M : Nat) (l : List ByteArray) (g : Nat) (vi : Value) (wr : World) : Prop :=
  ∃ j : Nat, g = M - j ∧ vi = .int .i64 j ∧ j ≤ M ∧ Que wr 48 b c k (txts ((l.take j).take k)) ∧ Fr (· = c) w2 wr

theorem take_take_snoc (l : List ByteArray) (j k : Nat) (x : ByteArray) (hx : l[j]? = some x) (h : j < k) : (l.take j).take k ++ [x] = (l.take (j + 1)).take k := by
  rw [List.take_take, List.take_take, Nat.min_eq_right (by omega : j ≤ k), Nat.min_eq_right (by omega : j + 1 ≤ k), List.take_add_one, hx]
  rfl
theorem take_take_full (l : List ByteArray) (j k : Nat) (h : k ≤ j) : (l.take j).take k = (l.take (j + 1)).take k := by
  rw [List.take_take, List.take_take, Nat.min_eq_left h, Nat.min_eq_left (by omega)]

theorem order_bad (size : Int) (A : Option Addr) (n cc : Nat) (w : World) (hcc : n ≤ cc) (hccm : cc ≤ maxLen) (h : size < 1 ∨ 1024 < size) :
    Calls Try.prog 3 #[.int .i64 size, .slice A n cc] w fun e w' => e = .returned (.bool true) ∧ Below w.heap.size w w' := by
  unfold maxLen at hccm
  rcases Nat.lt_or_ge 2000 n with hn | hn
  all_goals
    rcases id h with hs | hs
    case' inr => have hs' : ¬ size < 1 := by omega
    all_goals
      go_enter Try.func3, Try.ntmps3
      go_wp2_with fail
      refine (shown_any _).mono ?_
      rintro e w1 ⟨rfl, hb1⟩
      go_wp2_with fail
      refine (new_badS _ _ h).mono ?_
      rintro e w2 ⟨rfl, rfl⟩
      go_wp2_with fail
      go_ret
      exact ⟨rfl, hb1⟩

set_option maxHeartbeats 4000000 in
set_option maxRecDepth 100000 in
theorem order_few (k : Nat) (A : Option Addr) (n cc : Nat) (l : List ByteArray) (w : World) (hr0 : Rd (· < w.heap.size) w 1 A n (txts l)) (hl0 : l.length = n) (hcc : n ≤ cc) (hccm : cc ≤ maxLen) (hn : n ≤ 2000) (hkn : n < k)
    (hk1 : 1 ≤ k) (hk2 : k ≤ 1024) :
    Calls Try.prog 3 #[.int .i64 k, .slice A n cc] w fun e w' => e = .returned (.bool true) ∧ Below w.heap.size w w' := by
  obtain ⟨lc, hr, hl⟩ : ∃ lc, Rd (· < w.heap.size) w 1 A (n) (txts lc) ∧ lc.length = n := ⟨l.take (n), by
    have := hr0.take (k := n) (by omega)
    rw [Nat.mul_one, ← List.map_take] at this
    exact this, by simp; omega⟩
  clear hr0 hl0
  unfold maxLen at hccm
  have hs1 : ¬ (k : Int) < 1 := by omega
  have hs2 : ¬ 1024 < (k : Int) := by omega
  go_enter Try.func3, Try.ntmps3
  go_wp2_with fail
  refine (shown_any _).mono ?_
  rintro e w1 ⟨rfl, hb1⟩
  go_wp2_with fail
  refine (new_okS _ _ (by omega) (by omega)).mono ?_
  rintro e w2 ⟨b, c, rfl, hb2, hc2, hbc, hb3, hc3, hq, hbw⟩
  rw [Int.toNat_natCast] at hq
  have hz1 := hb1.size
  have hz2 := hbw.size
  have hB : Below w.heap.size w w2 := hb1.trans (hbw.mono hz1)
  clear hbw hb1
  go_wp2_with fail
  go_loopg [7] (n) (OrderRel w2 b c k (n) lc)
  case atStart => exact ⟨0, rfl, rfl, by omega, by simpa using hq, Fr.refl _ _⟩
  case round =>
    obtain ⟨j, rfl, rfl, hj, hq', hf⟩ := hrel
    have hrw : Rd (· < w.heap.size) wr 1 A (n) (txts lc) := (hr.kept (Fr.of_below hB) (fun x hx => by omega)).kept hf (fun x hx => by omega)
    have hfs := hf.size
    have Hl := Lib.hid hl
    by_cases hlt : j < n
    · have hlti : (j : Int) < (n : Nat) := by omega
      obtain ⟨ad, u, rfl, had, hu, hcu⟩ := hrw.at1 hlt
      obtain ⟨x, hx, rfl⟩ : ∃ x, lc[j]? = some x ∧ u = .string x := by
        simp at hu
        obtain ⟨x, h1, h2⟩ := hu
        exact ⟨x, h1, h2.symm⟩
      have Hx := Lib.hid hx
      clear hx hu
      by_cases hjk : j < k
      · have hjki : (j : Int) < (k : Int) := by omega
        go_wp2_with fail
        refine (put_consS _ _ _ _ (.string x) _ hq' (by simp; omega)).mono ?_
        rintro e w6 ⟨rfl, hq6, hf6⟩
        go_wp2_with fail
        go_roundg (n - (j + 1))
        case measure => omega
        case rel =>
          refine ⟨j + 1, rfl, by go_num, by omega, ?_, hf.trans hf6⟩
          rw [← take_take_snoc lc j k x Hx.out hjk]
          simpa using hq6
      · have hjki : ¬ (j : Int) < (k : Int) := by omega
        go_wp2_with fail
        refine (put_fullS' _ _ _ _ (.string x) _ hq' (by simp; rw [Hl.out]; omega)).mono ?_
        rintro e w6 ⟨rfl, rfl⟩
        go_wp2_with fail
        go_roundg (n - (j + 1))
        case measure => omega
        case rel =>
          refine ⟨j + 1, rfl, by go_num, by omega, ?_, hf⟩
          rw [← take_take_full lc j k (by omega)]
          exact hq'
    · have hlti : ¬ (j : Int) < (n : Nat) := by omega
      have hjM : lc.take j = lc := List.take_of_length_le (by omega)
      rw [hjM] at hq'
      clear hjM
      obtain ⟨ld, hld, hq'', hll⟩ : ∃ ld, ld = lc.take k ∧ Que wr 48 b c k (txts ld) ∧ ld.length = n := ⟨lc.take k, rfl, hq', by simp; omega⟩
      have Hld := Lib.hid hld
      have h1024 : ld.length ≤ 1024 := by omega
      have Hll := Lib.hid hll
      clear hld hll
      have hkM : True := trivial
      go_wp2_with fail
      refine (drainS _ b c k ld hq'' h1024).mono ?_
      rintro e w4 ⟨v', rfl, hown, hq4, hf4⟩
      obtain ⟨A', c', rfl, h3, h4, h5⟩ := Rd.of_own hown
      rw [Hll.out] at h3 h5 ⊢
      have hrw4 : Rd (· < w.heap.size) w4 1 A (n) (txts lc) := hrw.kept hf4 (fun x hx => by omega)
      have hB4 : Below w.heap.size w w4 := hB.trans ((hf.trans hf4).below (by omega) (fun x hx => by omega))
      have hlens : (txts ld).length = n := by rw [List.length_map]; exact Hll.out
      have HS := Lib.hid hlens
      clear hlens hown
      have hR1 : n ≤ n := by omega
      have hR2 : n ≤ 1024 := by omega
      go_wp2_with fail
      refine (len_queS _ _ _ _ _ hq4).mono ?_
      rintro e w5 ⟨rfl, rfl⟩
      go_wp2_with fail
      go_loopg [9] (n) (fun g i wr => ∃ t q : Nat, g = n - t ∧ i = .int .i64 t ∧ t ≤ n ∧ wr = w4.drewN q)
      case atStart => exact ⟨0, 0, rfl, rfl, by omega, rfl⟩
      case round =>
        obtain ⟨t, q, rfl, rfl, ht, rfl⟩ := hrel
        by_cases htR : t < n
        · have htRi : (t : Int) < (n : Nat) := by omega
          obtain ⟨ad, u, rfl, _, hu, hcu⟩ := hrw4.at1 (k := t) (by omega)
          obtain ⟨ad', u', rfl, _, hu', hcu'⟩ := h5.at1 htR
          have huu : u = u' := by
            have : (txts ld)[t]? = (txts lc)[t]? := by
              rw [Hld.out]
              show ((lc.take k).map Value.string)[t]? = (lc.map Value.string)[t]?
              rw [List.map_take, List.getElem?_take, if_pos (by omega)]
            rw [this, hu] at hu'
            injection hu'
          subst huu
          obtain ⟨x, hx, rfl⟩ : ∃ x, lc[t]? = some x ∧ u = .string x := by
            simp at hu
            obtain ⟨x, h1, h2⟩ := hu
            exact ⟨x, h1, h2.symm⟩
          clear hu hu' hx
          go_wp2_with fail
          go_quiet (fail)
          go_wp2_with fail
          go_roundg (n - (t + 1))
          case measure => omega
          case rel => exact ⟨t + 1, _, rfl, by go_num, by omega, by first | rfl | exact World.drewN_drewN _ _ _⟩
        · have htRi : ¬ (t : Int) < (n : Nat) := by omega
          go_wp2_with fail
          go_ret
          exact ⟨rfl, below_drewN hB4 _⟩

set_option maxHeartbeats 4000000 in
set_option maxRecDepth 100000 in
theorem order_many (k : Nat) (A : Option Addr) (n cc : Nat) (l : List ByteArray) (w : World) (hr0 : Rd (· < w.heap.size) w 1 A n (txts l)) (hl0 : l.length = n) (hcc : n ≤ cc) (hccm : cc ≤ maxLen) (hn : n ≤ 2000) (hkn : k ≤ n)
    (hk1 : 1 ≤ k) (hk2 : k ≤ 1024) :
    Calls Try.prog 3 #[.int .i64 k, .slice A n cc] w fun e w' => e = .returned (.bool true) ∧ Below w.heap.size w w' := by
  obtain ⟨lc, hr, hl⟩ : ∃ lc, Rd (· < w.heap.size) w 1 A (n) (txts lc) ∧ lc.length = n := ⟨l.take (n), by
    have := hr0.take (k := n) (by omega)
    rw [Nat.mul_one, ← List.map_take] at this
    exact this, by simp; omega⟩
  clear hr0 hl0
  unfold maxLen at hccm
  have hs1 : ¬ (k : Int) < 1 := by omega
  have hs2 : ¬ 1024 < (k : Int) := by omega
  go_enter Try.func3, Try.ntmps3
  go_wp2_with fail
  refine (shown_any _).mono ?_
  rintro e w1 ⟨rfl, hb1⟩
  go_wp2_with fail
  refine (new_okS _ _ (by omega) (by omega)).mono ?_
  rintro e w2 ⟨b, c, rfl, hb2, hc2, hbc, hb3, hc3, hq, hbw⟩
  rw [Int.toNat_natCast] at hq
  have hz1 := hb1.size
  have hz2 := hbw.size
  have hB : Below w.heap.size w w2 := hb1.trans (hbw.mono hz1)
  clear hbw hb1
  go_wp2_with fail
  go_loopg [7] (n) (OrderRel w2 b c k (n) lc)
  case atStart => exact ⟨0, rfl, rfl, by omega, by simpa using hq, Fr.refl _ _⟩
  case round =>
    obtain ⟨j, rfl, rfl, hj, hq', hf⟩ := hrel
    have hrw : Rd (· < w.heap.size) wr 1 A (n) (txts lc) := (hr.kept (Fr.of_below hB) (fun x hx => by omega)).kept hf (fun x hx => by omega)
    have hfs := hf.size
    have Hl := Lib.hid hl
    by_cases hlt : j < n
    · have hlti : (j : Int) < (n : Nat) := by omega
      obtain ⟨ad, u, rfl, had, hu, hcu⟩ := hrw.at1 hlt
      obtain ⟨x, hx, rfl⟩ : ∃ x, lc[j]? = some x ∧ u = .string x := by
        simp at hu
        obtain ⟨x, h1, h2⟩ := hu
        exact ⟨x, h1, h2.symm⟩
      have Hx := Lib.hid hx
      clear hx hu
      by_cases hjk : j < k
      · have hjki : (j : Int) < (k : Int) := by omega
        go_wp2_with fail
        refine (put_consS _ _ _ _ (.string x) _ hq' (by simp; omega)).mono ?_
        rintro e w6 ⟨rfl, hq6, hf6⟩
        go_wp2_with fail
        go_roundg (n - (j + 1))
        case measure => omega
        case rel =>
          refine ⟨j + 1, rfl, by go_num, by omega, ?_, hf.trans hf6⟩
          rw [← take_take_snoc lc j k x Hx.out hjk]
          simpa using hq6
      · have hjki : ¬ (j : Int) < (k : Int) := by omega
        go_wp2_with fail
        refine (put_fullS' _ _ _ _ (.string x) _ hq' (by simp; rw [Hl.out]; omega)).mono ?_
        rintro e w6 ⟨rfl, rfl⟩
        go_wp2_with fail
        go_roundg (n - (j + 1))
        case measure => omega
        case rel =>
          refine ⟨j + 1, rfl, by go_num, by omega, ?_, hf⟩
          rw [← take_take_full lc j k (by omega)]
          exact hq'
    · have hlti : ¬ (j : Int) < (n : Nat) := by omega
      have hjM : lc.take j = lc := List.take_of_length_le (by omega)
      rw [hjM] at hq'
      clear hjM
      obtain ⟨ld, hld, hq'', hll⟩ : ∃ ld, ld = lc.take k ∧ Que wr 48 b c k (txts ld) ∧ ld.length = k := ⟨lc.take k, rfl, hq', by simp; omega⟩
      have Hld := Lib.hid hld
      have h1024 : ld.length ≤ 1024 := by omega
      have Hll := Lib.hid hll
      clear hld hll
      have hkM : True := trivial
      go_wp2_with fail
      refine (drainS _ b c k ld hq'' h1024).mono ?_
      rintro e w4 ⟨v', rfl, hown, hq4, hf4⟩
      obtain ⟨A', c', rfl, h3, h4, h5⟩ := Rd.of_own hown
      rw [Hll.out] at h3 h5 ⊢
      have hrw4 : Rd (· < w.heap.size) w4 1 A (n) (txts lc) := hrw.kept hf4 (fun x hx => by omega)
      have hB4 : Below w.heap.size w w4 := hB.trans ((hf.trans hf4).below (by omega) (fun x hx => by omega))
      have hlens : (txts ld).length = k := by rw [List.length_map]; exact Hll.out
      have HS := Lib.hid hlens
      clear hlens hown
      have hR1 : k ≤ n := by omega
      have hR2 : k ≤ 1024 := by omega
      go_wp2_with fail
      refine (len_queS _ _ _ _ _ hq4).mono ?_
      rintro e w5 ⟨rfl, rfl⟩
      go_wp2_with fail
      go_loopg [9] (k) (fun g i wr => ∃ t q : Nat, g = k - t ∧ i = .int .i64 t ∧ t ≤ k ∧ wr = w4.drewN q)
      case atStart => exact ⟨0, 0, rfl, rfl, by omega, rfl⟩
      case round =>
        obtain ⟨t, q, rfl, rfl, ht, rfl⟩ := hrel
        by_cases htR : t < k
        · have htRi : (t : Int) < (k : Nat) := by omega
          obtain ⟨ad, u, rfl, _, hu, hcu⟩ := hrw4.at1 (k := t) (by omega)
          obtain ⟨ad', u', rfl, _, hu', hcu'⟩ := h5.at1 htR
          have huu : u = u' := by
            have : (txts ld)[t]? = (txts lc)[t]? := by
              rw [Hld.out]
              show ((lc.take k).map Value.string)[t]? = (lc.map Value.string)[t]?
              rw [List.map_take, List.getElem?_take, if_pos (by omega)]
            rw [this, hu] at hu'
            injection hu'
          subst huu
          obtain ⟨x, hx, rfl⟩ : ∃ x, lc[t]? = some x ∧ u = .string x := by
            simp at hu
            obtain ⟨x, h1, h2⟩ := hu
            exact ⟨x, h1, h2.symm⟩
          clear hu hu' hx
          go_wp2_with fail
          go_quiet (fail)
          go_wp2_with fail
          go_roundg (k - (t + 1))
          case measure => omega
          case rel => exact ⟨t + 1, _, rfl, by go_num, by omega, by first | rfl | exact World.drewN_drewN _ _ _⟩
        · have htRi : ¬ (t : Int) < (k : Nat) := by omega
          go_wp2_with fail
          go_ret
          exact ⟨rfl, below_drewN hB4 _⟩

set_option maxHeartbeats 4000000 in
set_option maxRecDepth 100000 in
theorem order_cut (k : Nat) (A : Option Addr) (n cc : Nat) (l : List ByteArray) (w : World) (hr0 : Rd (· < w.heap.size) w 1 A n (txts l)) (hl0 : l.length = n) (hcc : n ≤ cc) (hccm : cc ≤ maxLen) (hn : 2000 < n)
    (hk1 : 1 ≤ k) (hk2 : k ≤ 1024) :
    Calls Try.prog 3 #[.int .i64 k, .slice A n cc] w fun e w' => e = .returned (.bool true) ∧ Below w.heap.size w w' := by
  obtain ⟨lc, hr, hl⟩ : ∃ lc, Rd (· < w.heap.size) w 1 A (2000) (txts lc) ∧ lc.length = 2000 := ⟨l.take (2000), by
    have := hr0.take (k := 2000) (by omega)
    rw [Nat.mul_one, ← List.map_take] at this
    exact this, by simp; omega⟩
  clear hr0 hl0
  unfold maxLen at hccm
  have hs1 : ¬ (k : Int) < 1 := by omega
  have hs2 : ¬ 1024 < (k : Int) := by omega
  go_enter Try.func3, Try.ntmps3
  go_wp2_with fail
  refine (shown_any _).mono ?_
  rintro e w1 ⟨rfl, hb1⟩
  go_wp2_with fail
  refine (new_okS _ _ (by omega) (by omega)).mono ?_
  rintro e w2 ⟨b, c, rfl, hb2, hc2, hbc, hb3, hc3, hq, hbw⟩
  rw [Int.toNat_natCast] at hq
  have hz1 := hb1.size
  have hz2 := hbw.size
  have hB : Below w.heap.size w w2 := hb1.trans (hbw.mono hz1)
  clear hbw hb1
  go_wp2_with fail
  go_loopg [7] (2000) (OrderRel w2 b c k (2000) lc)
  case atStart => exact ⟨0, rfl, rfl, by omega, by simpa using hq, Fr.refl _ _⟩
  case round =>
    obtain ⟨j, rfl, rfl, hj, hq', hf⟩ := hrel
    have hrw : Rd (· < w.heap.size) wr 1 A (2000) (txts lc) := (hr.kept (Fr.of_below hB) (fun x hx => by omega)).kept hf (fun x hx => by omega)
    have hfs := hf.size
    have Hl := Lib.hid hl
    by_cases hlt : j < 2000
    · have hlti : (j : Int) < (2000 : Nat) := by omega
      obtain ⟨ad, u, rfl, had, hu, hcu⟩ := hrw.at1 hlt
      obtain ⟨x, hx, rfl⟩ : ∃ x, lc[j]? = some x ∧ u = .string x := by
        simp at hu
        obtain ⟨x, h1, h2⟩ := hu
        exact ⟨x, h1, h2.symm⟩
      have Hx := Lib.hid hx
      clear hx hu
      by_cases hjk : j < k
      · have hjki : (j : Int) < (k : Int) := by omega
        go_wp2_with fail
        refine (put_consS _ _ _ _ (.string x) _ hq' (by simp; omega)).mono ?_
        rintro e w6 ⟨rfl, hq6, hf6⟩
        go_wp2_with fail
        go_roundg (2000 - (j + 1))
        case measure => omega
        case rel =>
          refine ⟨j + 1, rfl, by go_num, by omega, ?_, hf.trans hf6⟩
          rw [← take_take_snoc lc j k x Hx.out hjk]
          simpa using hq6
      · have hjki : ¬ (j : Int) < (k : Int) := by omega
        go_wp2_with fail
        refine (put_fullS' _ _ _ _ (.string x) _ hq' (by simp; rw [Hl.out]; omega)).mono ?_
        rintro e w6 ⟨rfl, rfl⟩
        go_wp2_with fail
        go_roundg (2000 - (j + 1))
        case measure => omega
        case rel =>
          refine ⟨j + 1, rfl, by go_num, by omega, ?_, hf⟩
          rw [← take_take_full lc j k (by omega)]
          exact hq'
    · have hlti : ¬ (j : Int) < (2000 : Nat) := by omega
      have hjM : lc.take j = lc := List.take_of_length_le (by omega)
      rw [hjM] at hq'
      clear hjM
      obtain ⟨ld, hld, hq'', hll⟩ : ∃ ld, ld = lc.take k ∧ Que wr 48 b c k (txts ld) ∧ ld.length = k := ⟨lc.take k, rfl, hq', by simp; omega⟩
      have Hld := Lib.hid hld
      have h1024 : ld.length ≤ 1024 := by omega
      have Hll := Lib.hid hll
      clear hld hll
      have hkM : True := trivial
      go_wp2_with fail
      refine (drainS _ b c k ld hq'' h1024).mono ?_
      rintro e w4 ⟨v', rfl, hown, hq4, hf4⟩
      obtain ⟨A', c', rfl, h3, h4, h5⟩ := Rd.of_own hown
      rw [Hll.out] at h3 h5 ⊢
      have hrw4 : Rd (· < w.heap.size) w4 1 A (2000) (txts lc) := hrw.kept hf4 (fun x hx => by omega)
      have hB4 : Below w.heap.size w w4 := hB.trans ((hf.trans hf4).below (by omega) (fun x hx => by omega))
      have hlens : (txts ld).length = k := by rw [List.length_map]; exact Hll.out
      have HS := Lib.hid hlens
      clear hlens hown
      have hR1 : k ≤ 2000 := by omega
      have hR2 : k ≤ 1024 := by omega
      go_wp2_with fail
      refine (len_queS _ _ _ _ _ hq4).mono ?_
      rintro e w5 ⟨rfl, rfl⟩
      go_wp2_with fail
      go_loopg [9] (k) (fun g i wr => ∃ t q : Nat, g = k - t ∧ i = .int .i64 t ∧ t ≤ k ∧ wr = w4.drewN q)
      case atStart => exact ⟨0, 0, rfl, rfl, by omega, rfl⟩
      case round =>
        obtain ⟨t, q, rfl, rfl, ht, rfl⟩ := hrel
        by_cases htR : t < k
        · have htRi : (t : Int) < (k : Nat) := by omega
          obtain ⟨ad, u, rfl, _, hu, hcu⟩ := hrw4.at1 (k := t) (by omega)
          obtain ⟨ad', u', rfl, _, hu', hcu'⟩ := h5.at1 htR
          have huu : u = u' := by
            have : (txts ld)[t]? = (txts lc)[t]? := by
              rw [Hld.out]
              show ((lc.take k).map Value.string)[t]? = (lc.map Value.string)[t]?
              rw [List.map_take, List.getElem?_take, if_pos (by omega)]
            rw [this, hu] at hu'
            injection hu'
          subst huu
          obtain ⟨x, hx, rfl⟩ : ∃ x, lc[t]? = some x ∧ u = .string x := by
            simp at hu
            obtain ⟨x, h1, h2⟩ := hu
            exact ⟨x, h1, h2.symm⟩
          clear hu hu' hx
          go_wp2_with fail
          go_quiet (fail)
          go_wp2_with fail
          go_roundg (k - (t + 1))
          case measure => omega
          case rel => exact ⟨t + 1, _, rfl, by go_num, by omega, by first | rfl | exact World.drewN_drewN _ _ _⟩
        · have htRi : ¬ (t : Int) < (k : Nat) := by omega
          go_wp2_with fail
          go_ret
          exact ⟨rfl, below_drewN hB4 _⟩

theorem ringorder_any (size : Int) (A : Option Addr) (n cc : Nat) (l : List ByteArray) (w : World) (hr : Rd (· < w.heap.size) w 1 A n (txts l)) (hl : l.length = n) (hcc : n ≤ cc) (hccm : cc ≤ maxLen) :
    Calls Try.prog 3 #[.int .i64 size, .slice A n cc] w fun e w' => e = .returned (.bool true) ∧ Below w.heap.size w w' := by
  by_cases hs : size < 1 ∨ 1024 < size
  · exact order_bad size A n cc w hcc hccm hs
  · obtain ⟨k, rfl⟩ := Int.eq_ofNat_of_zero_le (show 0 ≤ size by omega)
    by_cases hn : n ≤ 2000
    · by_cases hk : n < k
      · exact order_few k A n cc l w hr hl hcc hccm hn hk (by omega) (by omega)
      · exact order_many k A n cc l w hr hl hcc hccm hn (by omega) (by omega) (by omega)
    · exact order_cut k A n cc l w hr hl hcc hccm (by omega) (by omega) (by omega)
end Go.Proofs.Ytcgphkghamcgcaa

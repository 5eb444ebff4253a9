/- The law RingWraps: it answers true, over the given program. -/
import Derived.Test.YtcgphkghamcgcaaG
import Derived.Deep.RegionWith
namespace Go.Proofs.Ytcgphkghamcgcaa
open Go.RowKit Go.Conc Go.Nau

/-- What waits between two rounds: the numbers from one place up to another. -/
def mid (l : List Int) (a q : Nat) : List Int := (l.drop a).take q
theorem mid_length (l : List Int) (a q : Nat) (h : a + q ≤ l.length) : (mid l a q).length = q := by
  unfold mid; simp; omega
theorem mid_snoc (l : List Int) (a q : Nat) (x : Int) (h : l[a + q]? = some x) : mid l a q ++ [x] = mid l a (q + 1) := by
  unfold mid
  rw [List.take_add_one, List.getElem?_drop, h]
  rfl
theorem mid_cons (l : List Int) (a q : Nat) (x : Int) (h : l[a]? = some x) : mid l a (q + 1) = x :: mid l (a + 1) q := by
  unfold mid
  have hlt : a < l.length := (List.getElem?_eq_some_iff.1 h).1
  rw [List.drop_eq_getElem_cons hlt, List.take_succ_cons]
  congr 1
  have := List.getElem?_eq_getElem hlt
  rw [h] at this
  injection this with this
  exact this.symm
theorem mid_all (l : List Int) (a q : Nat) (h : a + q = l.length) : mid l a q = l.drop a := by
  unfold mid
  exact List.take_of_length_le (by simp; omega)

def WrapRel (w2 : World) (b c k M many : Nat) (l : List Int) (g : Nat) (va vi : Value) (wr : World) : Prop :=
  ∃ (a q : Nat), g = M - (a + q) ∧ va = .int .i64 a ∧ vi = .int .i64 ((a + q : Nat) : Int) ∧ a + q ≤ M ∧ q ≤ many ∧ Que wr 53 b c k (nums (mid l a q)) ∧ Fr (· = c) w2 wr

set_option maxHeartbeats 2000000 in
set_option maxRecDepth 100000 in
theorem wraps_all (k many : Nat) (A : Option Addr) (n cc : Nat) (l : List Int) (w : World) (hr0 : Rd (· < w.heap.size) w 1 A n (nums l)) (hl0 : l.length = n) (hcc : n ≤ cc) (hA : A ≠ none) (hccm : cc ≤ maxLen) (hn : n ≤ 500)
    (hk1 : 1 ≤ k) (hk2 : k ≤ 1024) (hm1 : 1 ≤ many) (hm2 : many ≤ k) :
    Calls Try.prog 4 #[.int .i64 k, .slice A n cc, .int .i64 many] w fun e w' => e = .returned (.bool true) ∧ Below w.heap.size w w' := by
  obtain ⟨lc, hr, hl⟩ : ∃ lc, Rd (· < w.heap.size) w 1 A (n) (nums lc) ∧ lc.length = n := ⟨l.take (n), by
    have := hr0.take (k := n) (by omega)
    rw [Nat.mul_one, ← List.map_take] at this
    exact this, by simp; omega⟩
  clear hr0 hl0
  unfold maxLen at hccm
  have hs1 : ¬ (many : Int) < 1 := by omega
  have hs2 : ¬ (k : Int) < (many : Int) := by omega
  have hs3 : ¬ k < many := by omega
  
  go_enter Try.func4, Try.ntmps4
  go_wp2_with fail
  refine (shown_any _).mono ?_
  rintro e w1 ⟨rfl, hb1⟩
  go_wp2_with fail
  refine (new_okI _ _ (by omega) (by omega)).mono ?_
  rintro e w2 ⟨b, c, rfl, hb2, hc2, hbc, hb3, hc3, hq, hbw⟩
  rw [Int.toNat_natCast] at hq
  have hz1 := hb1.size
  have hz2 := hbw.size
  have hB : Below w.heap.size w w2 := hb1.trans (hbw.mono hz1)
  clear hbw hb1
  go_wp2_with fail
  go_loopg [9, 10] (n) (WrapRel w2 b c k (n) many lc)
  case atStart => exact ⟨0, 0, rfl, rfl, rfl, by omega, by omega, hq, Fr.refl _ _⟩
  case round =>
    obtain ⟨a, q, rfl, rfl, rfl, hj, hqm, hq', hf⟩ := hrel
    have hrw : Rd (· < w.heap.size) wr 1 A (n) (nums lc) := (hr.kept (Fr.of_below hB) (fun x hx => by omega)).kept hf (fun x hx => by omega)
    have hfs := hf.size
    have hlen : (nums (mid lc a q)).length = q := by rw [List.length_map]; exact mid_length _ _ _ (by omega)
    have HL := Lib.hid hlen
    have Hl := Lib.hid hl
    clear hlen
    by_cases hlt : a + q < n
    · have hlti : ((a : Int) + (q : Int)) < (n : Nat) := by omega
      obtain ⟨ad, u, rfl, had, hu, hcu⟩ := hrw.at1 hlt
      obtain ⟨x, hx, rfl⟩ := nums_get hu
      have Hx := Lib.hid hx
      clear hx hu
      by_cases hqe : q = many
      · subst hqe
        obtain ⟨ad2, u, e2, _, hu, hcy⟩ := hrw.at1 (k := a) (by omega)
        injection e2 with e2
        subst e2
        obtain ⟨y, hy, rfl⟩ := nums_get hu
        clear hu
        obtain ⟨r, rfl⟩ : ∃ r, q = r + 1 := ⟨q - 1, by omega⟩
        rw [mid_cons lc a r y hy] at hq'
        have Hy := Lib.hid hy
        clear hy
        have hyy : (y != y) = false := by simp
        go_wp2_with fail
        refine (len_queI _ _ _ _ _ hq').mono ?_
        rintro e w4 ⟨rfl, rfl⟩
        rw [show (nums (y :: mid lc (a + 1) r)).length = r + 1 from by rw [List.length_map, List.length_cons, mid_length _ _ _ (by rw [Hl.out]; omega)]]
        go_wp2_with fail
        refine (take_consI _ _ _ _ _ _ hq').mono ?_
        rintro e w5 ⟨rfl, hq5, hf5⟩
        have hcu5 : w5.cell? (ad.add (a + (r + 1))) = some (.int .i64 x) := hf5.cell (by rw [add_block]; omega) hcu
        have hcy5 : w5.cell? (ad.add a) = some (.int .i64 y) := hf5.cell (by rw [add_block]; omega) hcy
        go_wp2_with fail
        refine (put_consI _ _ _ _ (.int .i64 x) _ hq5 (by rw [List.length_map, mid_length _ _ _ (by rw [Hl.out]; omega)]; omega)).mono ?_
        rintro e w6 ⟨rfl, hq6, hf6⟩
        go_wp2_with fail
        go_roundg (n - (a + 1 + (r + 1)))
        case measure => omega
        case rel =>
          refine ⟨a + 1, r + 1, rfl, by go_num, by go_num, by omega, hqm, ?_, (hf.trans hf5).trans hf6⟩
          rw [← mid_snoc lc (a + 1) r x (by rw [← Hx.out]; congr 1; omega)]
          simpa [nums] using hq6
      · have hqe1 : ((q : Int) == (many : Int)) = false := by simp; omega
        have hqe2 : (q == many) = false := by simp; omega
        go_wp2_with fail
        refine (len_queI _ _ _ _ _ hq').mono ?_
        rintro e w4 ⟨rfl, rfl⟩
        rw [HL.out]
        go_wp2_with fail
        refine (put_consI _ _ _ _ (.int .i64 x) _ hq' (by rw [HL.out]; omega)).mono ?_
        rintro e w6 ⟨rfl, hq6, hf6⟩
        go_wp2_with fail
        go_roundg (n - (a + (q + 1)))
        case measure => omega
        case rel =>
          refine ⟨a, q + 1, rfl, by go_num, by go_num, by omega, by omega, ?_, hf.trans hf6⟩
          rw [← mid_snoc lc a q x Hx.out]
          simpa [nums] using hq6
    · have hlti : ¬ ((a : Int) + (q : Int)) < (n : Nat) := by omega
      have hq'' : Que wr 53 b c k (nums (lc.drop a)) := by rw [← mid_all lc a q (by rw [Hl.out]; omega)]; exact hq'
      have hcut : Rd (· < w.heap.size) wr 1 (if cc = a then A else A.map (·.add a)) (n - a) (nums (lc.drop a)) := by
        have := hrw.cut (k := a) (cap := cc) (by omega) (by omega)
        rw [Nat.mul_one, ← List.map_drop] at this
        exact this
      have hll : (lc.drop a).length ≤ 1024 := by rw [List.length_drop, Hl.out]; omega
      have hbb : w2.heap.size ≤ wr.heap.size := hf.size
      generalize lc.drop a = ld at *
      have hfin : ∀ w4, Fr (· = c) wr w4 → Below w.heap.size w w4 := fun w4 h4 => hB.trans ((hf.trans h4).below (by omega) (fun x hx => by omega))
      have HF := Lib.hid hfin
      clear hfin
      have hMb : n - a ≤ maxLen := by unfold maxLen; omega
      have h1024 : 1024 ≤ maxLen := by unfold maxLen; omega
      rcases A with _ | ad
      · exact absurd rfl hA
      · by_cases hca : cc = a
        · first
            | omega
            | (obtain rfl : n = a := by omega
               subst hca
               have hld : ld = [] := by have := hcut.1; simpa using this
               have hr4' : ∀ w4, Fr (· = c) wr w4 → Rd (· < w.heap.size) w4 1 (some ad) 0 (nums ld) := fun w4 _ => by rw [hld]; exact Rd.nil ..
               have HS := Lib.hid hr4'
               clear hr4' hcut hld
               go_wp2_with fail
               go_region_with (first
                 | (go_at_call 18; refine (drainI _ b c k ld (by exact hq'') hll).mono ?_; rintro e w4 ⟨v', rfl, hown, hq4, hf4⟩; obtain ⟨A', c', rfl, h3, h4, h5⟩ := Rd.of_own hown; have hf5 := (Fr.drew (Fr.refl (· = c) wr)).trans hf4; have hr4 := HS.out w4 hf5; have hb4 := HF.out w4 hf5; clear hown hq4 hf4 hf5)
                 | (go_at_call 17; refine (sameI _ _ _ _ _ _ _ _ _ _ _ h5 hr4 (Nat.le_trans hll h1024) (Nat.zero_le _)).mono ?_; rintro e w5 ⟨rfl, nq, rfl⟩))
               all_goals
                 go_wp2
                 go_ret
                 exact ⟨by first | rfl | simp [Act.put], below_drewN hb4 _⟩)
        · rw [if_neg hca] at hcut
          have hr4' : ∀ w4, Fr (· = c) wr w4 → Rd (· < w.heap.size) w4 1 (some (ad.add a)) (n - a) (nums ld) := fun w4 h4 => Rd.kept hcut h4 (fun x hx => by omega)
          have HS := Lib.hid hr4'
          clear hr4' hcut
          go_wp2_with fail
          go_region_with (first
            | (go_at_call 18; refine (drainI _ b c k ld (by exact hq'') hll).mono ?_; rintro e w4 ⟨v', rfl, hown, hq4, hf4⟩; obtain ⟨A', c', rfl, h3, h4, h5⟩ := Rd.of_own hown; have hf5 := (Fr.drew (Fr.refl (· = c) wr)).trans hf4; have hr4 := HS.out w4 hf5; have hb4 := HF.out w4 hf5; clear hown hq4 hf4 hf5)
            | (go_at_call 17; refine (sameI _ _ _ _ _ _ _ _ _ _ _ h5 hr4 (Nat.le_trans hll h1024) hMb).mono ?_; rintro e w5 ⟨rfl, nq, rfl⟩))
          all_goals
            go_wp2
            go_ret
            exact ⟨by first | rfl | simp [Act.put], below_drewN hb4 _⟩

set_option maxHeartbeats 2000000 in
set_option maxRecDepth 100000 in
theorem wraps_cut (k many : Nat) (A : Option Addr) (n cc : Nat) (l : List Int) (w : World) (hr0 : Rd (· < w.heap.size) w 1 A n (nums l)) (hl0 : l.length = n) (hcc : n ≤ cc) (hA : A ≠ none) (hccm : cc ≤ maxLen) (hn : 500 < n)
    (hk1 : 1 ≤ k) (hk2 : k ≤ 1024) (hm1 : 1 ≤ many) (hm2 : many ≤ k) :
    Calls Try.prog 4 #[.int .i64 k, .slice A n cc, .int .i64 many] w fun e w' => e = .returned (.bool true) ∧ Below w.heap.size w w' := by
  obtain ⟨lc, hr, hl⟩ : ∃ lc, Rd (· < w.heap.size) w 1 A (500) (nums lc) ∧ lc.length = 500 := ⟨l.take (500), by
    have := hr0.take (k := 500) (by omega)
    rw [Nat.mul_one, ← List.map_take] at this
    exact this, by simp; omega⟩
  clear hr0 hl0
  unfold maxLen at hccm
  have hs1 : ¬ (many : Int) < 1 := by omega
  have hs2 : ¬ (k : Int) < (many : Int) := by omega
  have hs3 : ¬ k < many := by omega
  
  go_enter Try.func4, Try.ntmps4
  go_wp2_with fail
  refine (shown_any _).mono ?_
  rintro e w1 ⟨rfl, hb1⟩
  go_wp2_with fail
  refine (new_okI _ _ (by omega) (by omega)).mono ?_
  rintro e w2 ⟨b, c, rfl, hb2, hc2, hbc, hb3, hc3, hq, hbw⟩
  rw [Int.toNat_natCast] at hq
  have hz1 := hb1.size
  have hz2 := hbw.size
  have hB : Below w.heap.size w w2 := hb1.trans (hbw.mono hz1)
  clear hbw hb1
  go_wp2_with fail
  go_loopg [9, 10] (500) (WrapRel w2 b c k (500) many lc)
  case atStart => exact ⟨0, 0, rfl, rfl, rfl, by omega, by omega, hq, Fr.refl _ _⟩
  case round =>
    obtain ⟨a, q, rfl, rfl, rfl, hj, hqm, hq', hf⟩ := hrel
    have hrw : Rd (· < w.heap.size) wr 1 A (500) (nums lc) := (hr.kept (Fr.of_below hB) (fun x hx => by omega)).kept hf (fun x hx => by omega)
    have hfs := hf.size
    have hlen : (nums (mid lc a q)).length = q := by rw [List.length_map]; exact mid_length _ _ _ (by omega)
    have HL := Lib.hid hlen
    have Hl := Lib.hid hl
    clear hlen
    by_cases hlt : a + q < 500
    · have hlti : ((a : Int) + (q : Int)) < (500 : Nat) := by omega
      obtain ⟨ad, u, rfl, had, hu, hcu⟩ := hrw.at1 hlt
      obtain ⟨x, hx, rfl⟩ := nums_get hu
      have Hx := Lib.hid hx
      clear hx hu
      by_cases hqe : q = many
      · subst hqe
        obtain ⟨ad2, u, e2, _, hu, hcy⟩ := hrw.at1 (k := a) (by omega)
        injection e2 with e2
        subst e2
        obtain ⟨y, hy, rfl⟩ := nums_get hu
        clear hu
        obtain ⟨r, rfl⟩ : ∃ r, q = r + 1 := ⟨q - 1, by omega⟩
        rw [mid_cons lc a r y hy] at hq'
        have Hy := Lib.hid hy
        clear hy
        have hyy : (y != y) = false := by simp
        go_wp2_with fail
        refine (len_queI _ _ _ _ _ hq').mono ?_
        rintro e w4 ⟨rfl, rfl⟩
        rw [show (nums (y :: mid lc (a + 1) r)).length = r + 1 from by rw [List.length_map, List.length_cons, mid_length _ _ _ (by rw [Hl.out]; omega)]]
        go_wp2_with fail
        refine (take_consI _ _ _ _ _ _ hq').mono ?_
        rintro e w5 ⟨rfl, hq5, hf5⟩
        have hcu5 : w5.cell? (ad.add (a + (r + 1))) = some (.int .i64 x) := hf5.cell (by rw [add_block]; omega) hcu
        have hcy5 : w5.cell? (ad.add a) = some (.int .i64 y) := hf5.cell (by rw [add_block]; omega) hcy
        go_wp2_with fail
        refine (put_consI _ _ _ _ (.int .i64 x) _ hq5 (by rw [List.length_map, mid_length _ _ _ (by rw [Hl.out]; omega)]; omega)).mono ?_
        rintro e w6 ⟨rfl, hq6, hf6⟩
        go_wp2_with fail
        go_roundg (500 - (a + 1 + (r + 1)))
        case measure => omega
        case rel =>
          refine ⟨a + 1, r + 1, rfl, by go_num, by go_num, by omega, hqm, ?_, (hf.trans hf5).trans hf6⟩
          rw [← mid_snoc lc (a + 1) r x (by rw [← Hx.out]; congr 1; omega)]
          simpa [nums] using hq6
      · have hqe1 : ((q : Int) == (many : Int)) = false := by simp; omega
        have hqe2 : (q == many) = false := by simp; omega
        go_wp2_with fail
        refine (len_queI _ _ _ _ _ hq').mono ?_
        rintro e w4 ⟨rfl, rfl⟩
        rw [HL.out]
        go_wp2_with fail
        refine (put_consI _ _ _ _ (.int .i64 x) _ hq' (by rw [HL.out]; omega)).mono ?_
        rintro e w6 ⟨rfl, hq6, hf6⟩
        go_wp2_with fail
        go_roundg (500 - (a + (q + 1)))
        case measure => omega
        case rel =>
          refine ⟨a, q + 1, rfl, by go_num, by go_num, by omega, by omega, ?_, hf.trans hf6⟩
          rw [← mid_snoc lc a q x Hx.out]
          simpa [nums] using hq6
    · have hlti : ¬ ((a : Int) + (q : Int)) < (500 : Nat) := by omega
      have hq'' : Que wr 53 b c k (nums (lc.drop a)) := by rw [← mid_all lc a q (by rw [Hl.out]; omega)]; exact hq'
      have hcut : Rd (· < w.heap.size) wr 1 (if cc = a then A else A.map (·.add a)) (500 - a) (nums (lc.drop a)) := by
        have := hrw.cut (k := a) (cap := cc) (by omega) (by omega)
        rw [Nat.mul_one, ← List.map_drop] at this
        exact this
      have hll : (lc.drop a).length ≤ 1024 := by rw [List.length_drop, Hl.out]; omega
      have hbb : w2.heap.size ≤ wr.heap.size := hf.size
      generalize lc.drop a = ld at *
      have hfin : ∀ w4, Fr (· = c) wr w4 → Below w.heap.size w w4 := fun w4 h4 => hB.trans ((hf.trans h4).below (by omega) (fun x hx => by omega))
      have HF := Lib.hid hfin
      clear hfin
      have hMb : 500 - a ≤ maxLen := by unfold maxLen; omega
      have h1024 : 1024 ≤ maxLen := by unfold maxLen; omega
      rcases A with _ | ad
      · exact absurd rfl hA
      · by_cases hca : cc = a
        · first
            | omega
            | (obtain rfl : n = a := by omega
               subst hca
               have hld : ld = [] := by have := hcut.1; simpa using this
               have hr4' : ∀ w4, Fr (· = c) wr w4 → Rd (· < w.heap.size) w4 1 (some ad) 0 (nums ld) := fun w4 _ => by rw [hld]; exact Rd.nil ..
               have HS := Lib.hid hr4'
               clear hr4' hcut hld
               go_wp2_with fail
               go_region_with (first
                 | (go_at_call 18; refine (drainI _ b c k ld (by exact hq'') hll).mono ?_; rintro e w4 ⟨v', rfl, hown, hq4, hf4⟩; obtain ⟨A', c', rfl, h3, h4, h5⟩ := Rd.of_own hown; have hf5 := (Fr.drew (Fr.refl (· = c) wr)).trans hf4; have hr4 := HS.out w4 hf5; have hb4 := HF.out w4 hf5; clear hown hq4 hf4 hf5)
                 | (go_at_call 17; refine (sameI _ _ _ _ _ _ _ _ _ _ _ h5 hr4 (Nat.le_trans hll h1024) (Nat.zero_le _)).mono ?_; rintro e w5 ⟨rfl, nq, rfl⟩))
               all_goals
                 go_wp2
                 go_ret
                 exact ⟨by first | rfl | simp [Act.put], below_drewN hb4 _⟩)
        · rw [if_neg hca] at hcut
          have hr4' : ∀ w4, Fr (· = c) wr w4 → Rd (· < w.heap.size) w4 1 (some (ad.add a)) (500 - a) (nums ld) := fun w4 h4 => Rd.kept hcut h4 (fun x hx => by omega)
          have HS := Lib.hid hr4'
          clear hr4' hcut
          go_wp2_with fail
          go_region_with (first
            | (go_at_call 18; refine (drainI _ b c k ld (by exact hq'') hll).mono ?_; rintro e w4 ⟨v', rfl, hown, hq4, hf4⟩; obtain ⟨A', c', rfl, h3, h4, h5⟩ := Rd.of_own hown; have hf5 := (Fr.drew (Fr.refl (· = c) wr)).trans hf4; have hr4 := HS.out w4 hf5; have hb4 := HF.out w4 hf5; clear hown hq4 hf4 hf5)
            | (go_at_call 17; refine (sameI _ _ _ _ _ _ _ _ _ _ _ h5 hr4 (Nat.le_trans hll h1024) hMb).mono ?_; rintro e w5 ⟨rfl, nq, rfl⟩))
          all_goals
            go_wp2
            go_ret
            exact ⟨by first | rfl | simp [Act.put], below_drewN hb4 _⟩

set_option maxHeartbeats 1000000 in
set_option maxRecDepth 100000 in
theorem wraps_nil (k many : Nat) (w : World) (hk1 : 1 ≤ k) (hk2 : k ≤ 1024) (hm1 : 1 ≤ many) (hm2 : many ≤ k) :
    Calls Try.prog 4 #[.int .i64 k, .slice none 0 0, .int .i64 many] w fun e w' => e = .returned (.bool true) ∧ Below w.heap.size w w' := by
  have hs1 : ¬ (many : Int) < 1 := by omega
  have hs2 : ¬ (k : Int) < (many : Int) := by omega
  have hs3 : ¬ k < many := by omega
  go_enter Try.func4, Try.ntmps4
  go_wp2_with fail
  refine (shown_any _).mono ?_
  rintro e w1 ⟨rfl, hb1⟩
  go_wp2_with fail
  refine (new_okI _ _ (by omega) (by omega)).mono ?_
  rintro e w2 ⟨b, c, rfl, hb2, hc2, hbc, hb3, hc3, hq, hbw⟩
  rw [Int.toNat_natCast] at hq
  have hz1 := hb1.size
  have hB : Below w.heap.size w w2 := hb1.trans (hbw.mono hz1)
  have hll : ([] : List Int).length ≤ 1024 := by simp
  have hfin : ∀ w4, Fr (· = c) w2 w4 → Below w.heap.size w w4 := fun w4 h4 => hB.trans (h4.below (by have := hbw.size; omega) (fun x hx => by omega))
  have HF := Lib.hid hfin
  clear hfin hbw hb1
  go_wp2_with fail
  go_loopg [9, 10] 0 (fun _ va vi wr => va = .int .i64 0 ∧ vi = .int .i64 0 ∧ wr = w2)
  case atStart => exact ⟨rfl, rfl, rfl⟩
  case round =>
    obtain ⟨rfl, rfl, rfl⟩ := hrel
    go_wp2_with fail
    go_region_with (first
      | (go_at_call 18; refine (drainI _ b c k [] (by exact hq) hll).mono ?_; rintro e w4 ⟨v', rfl, hown, hq4, hf4⟩; obtain ⟨A', c', rfl, h3, h4, h5⟩ := Rd.of_own hown; have hb4 := HF.out w4 ((Fr.drew (Fr.refl (· = c) wr)).trans hf4); clear hown hq4 hf4)
      | (go_at_call 17; refine (sameI _ (fun _ => True) _ _ _ _ _ _ _ _ [] h5 (Rd.nil ..) (Nat.zero_le _) (Nat.zero_le _)).mono ?_; rintro e w5 ⟨rfl, nq, rfl⟩))
    all_goals
      go_wp2
      go_ret
      exact ⟨by first | rfl | simp [Act.put], below_drewN hb4 _⟩

/-- Sizes at which there is no queue; numbers that may not wait. -/
theorem wraps_bad (size many : Int) (A : Option Addr) (n cc : Nat) (w : World) (hcc : n ≤ cc) (hccm : cc ≤ maxLen) (h : (size < 1 ∨ 1024 < size) ∨ (1 ≤ size ∧ size ≤ 1024 ∧ (many < 1 ∨ (1 ≤ many ∧ size < many)))) :
    Calls Try.prog 4 #[.int .i64 size, .slice A n cc, .int .i64 many] w fun e w' => e = .returned (.bool true) ∧ Below w.heap.size w w' := by
  unfold maxLen at hccm
  rcases Nat.lt_or_ge 500 n with hn | hn
  all_goals
    rcases h with h | ⟨h1, h2, h | ⟨h, h3⟩⟩
    · go_enter Try.func4, Try.ntmps4
      go_wp2_with fail
      refine (shown_any _).mono ?_
      rintro e w1 ⟨rfl, hb1⟩
      go_wp2_with fail
      refine (new_badI _ _ h).mono ?_
      rintro e w2 ⟨rfl, rfl⟩
      go_wp2_with fail
      go_ret
      exact ⟨rfl, hb1⟩
    · go_enter Try.func4, Try.ntmps4
      go_wp2_with fail
      refine (shown_any _).mono ?_
      rintro e w1 ⟨rfl, hb1⟩
      go_wp2_with fail
      refine (new_okI _ _ h1 h2).mono ?_
      rintro e w2 ⟨b, c, rfl, hb2, hc2, hbc, hb3, hc3, hq, hbw⟩
      go_wp2_with fail
      go_ret
      exact ⟨rfl, hb1.trans (hbw.mono hb1.size)⟩
    · have h' : ¬ many < 1 := by omega
      go_enter Try.func4, Try.ntmps4
      go_wp2_with fail
      refine (shown_any _).mono ?_
      rintro e w1 ⟨rfl, hb1⟩
      go_wp2_with fail
      refine (new_okI _ _ h1 h2).mono ?_
      rintro e w2 ⟨b, c, rfl, hb2, hc2, hbc, hb3, hc3, hq, hbw⟩
      go_wp2_with fail
      go_ret
      exact ⟨rfl, hb1.trans (hbw.mono hb1.size)⟩

theorem ringwraps_any (size many : Int) (A : Option Addr) (n cc : Nat) (l : List Int) (w : World) (hr : Rd (· < w.heap.size) w 1 A n (nums l)) (hl : l.length = n) (hcc : n ≤ cc) (hccm : cc ≤ maxLen) (hA : A = none → n = 0 ∧ cc = 0) :
    Calls Try.prog 4 #[.int .i64 size, .slice A n cc, .int .i64 many] w fun e w' => e = .returned (.bool true) ∧ Below w.heap.size w w' := by
  by_cases hs : (size < 1 ∨ 1024 < size) ∨ (1 ≤ size ∧ size ≤ 1024 ∧ (many < 1 ∨ (1 ≤ many ∧ size < many)))
  · exact wraps_bad size many A n cc w hcc hccm hs
  · obtain ⟨k, rfl⟩ := Int.eq_ofNat_of_zero_le (show 0 ≤ size by omega)
    obtain ⟨m, rfl⟩ := Int.eq_ofNat_of_zero_le (show 0 ≤ many by omega)
    rcases A with _ | ad
    · obtain ⟨rfl, rfl⟩ := hA rfl
      exact wraps_nil k m w (by omega) (by omega) (by omega) (by omega)
    · by_cases hn : n ≤ 500
      · exact wraps_all k m (some ad) n cc l w hr hl hcc (by simp) hccm hn (by omega) (by omega) (by omega) (by omega)
      · exact wraps_cut k m (some ad) n cc l w hr hl hcc (by simp) hccm (by omega) (by omega) (by omega) (by omega) (by omega)
end Go.Proofs.Ytcgphkghamcgcaa

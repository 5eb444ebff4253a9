/- The law RingTwo: it answers true, over the given program. -/
import Derived.Test.YtcgphkghamcgcaaG
namespace Go.Proofs.Ytcgphkghamcgcaa
open Go.RowKit Go.Conc Go.Nau

/-- What holds between two rounds: how far the scripts are, the lists beside, the queues. -/
def TwoRel (w3 : World) (b c b' c' k : Nat) (g : Nat) (v v' i : Value) (wr : World) : Prop :=
  ∃ (j : Nat) (A : Option Addr) (n cc : Nat) (L : List Int) (A' : Option Addr) (n' cc' : Nat) (L' : List Int), g = 100 - j ∧ i = .int .i64 j ∧ j ≤ 100 ∧
    v = .slice A n cc ∧ n ≤ cc ∧ cc ≤ maxLen ∧ n ≤ k ∧ v' = .slice A' n' cc' ∧ n' ≤ cc' ∧ cc' ≤ maxLen ∧ n' ≤ k ∧
    Rd (fun x => w3.heap.size ≤ x) wr 1 A n (nums L) ∧ Que wr 53 b c k (nums L) ∧ Rd (fun x => w3.heap.size ≤ x) wr 1 A' n' (nums L') ∧ Que wr 53 b' c' k (nums L') ∧ Fr (fun x => x = c ∨ x = c') w3 wr

set_option maxHeartbeats 4000000 in
set_option maxRecDepth 100000 in
theorem ringtwo_any (size : Int) (A B : Option Addr) (n m cc dd : Nat) (l l' : List (Int × Int)) (w : World) (hr : Rd (· < w.heap.size) w 2 A n (pairs .i64 .i64 l)) (hl : l.length = n) (hn : n ≤ maxLen)
    (hr' : Rd (· < w.heap.size) w 2 B m (pairs .i64 .i64 l')) (hl' : l'.length = m) (hm : m ≤ maxLen)
    (hwf : ∀ x ∈ l, -9223372036854775808 ≤ x.1 ∧ x.1 ≤ 9223372036854775807) (hwf' : ∀ x ∈ l', -9223372036854775808 ≤ x.1 ∧ x.1 ≤ 9223372036854775807) :
    Calls Try.prog 5 #[.int .i64 size, .slice A n cc, .slice B m dd] w fun e w' => e = .returned (.bool true) ∧ Below w.heap.size w w' := by
  have bad : ∀ (hs : size < 1 ∨ 1024 < size), Calls Try.prog 5 #[.int .i64 size, .slice A n cc, .slice B m dd] w fun e w' => e = .returned (.bool true) ∧ Below w.heap.size w w' := by
    intro hs0
    rcases id hs0 with hs | hs
    case' inr => have hs' : ¬ size < 1 := by omega
    all_goals
      go_enter Try.func5, Try.ntmps5
      go_wp2_with fail
      refine (shown_any _).mono ?_
      rintro e w1 ⟨rfl, hb1⟩
      go_wp2_with fail
      refine (new_badI _ _ hs0).mono ?_
      rintro e w2 ⟨rfl, rfl⟩
      go_wp2_with fail
      refine (new_badI _ _ hs0).mono ?_
      rintro e w2 ⟨rfl, rfl⟩
      go_wp2_with fail
      go_ret
      exact ⟨rfl, hb1⟩
  by_cases hs : size < 1 ∨ 1024 < size
  · exact bad hs
  · clear bad
    obtain ⟨k, rfl⟩ := Int.eq_ofNat_of_zero_le (show 0 ≤ size by omega)
    have hk1 : 1 ≤ k := by omega
    have hk2 : k ≤ 1024 := by omega
    have hs1 : ¬ (k : Int) < 1 := by omega
    have hs2 : ¬ 1024 < (k : Int) := by omega
    unfold maxLen at hn hm
    clear hs
    go_enter Try.func5, Try.ntmps5
    go_wp2_with fail
    refine (shown_any _).mono ?_
    rintro e w1 ⟨rfl, hb1⟩
    go_wp2_with fail
    refine (new_okI _ _ (by omega) (by omega)).mono ?_
    rintro e w2 ⟨b, c, rfl, hb2, hc2, hbc, hb3, hc3, hq, hbw⟩
    rw [Int.toNat_natCast] at hq
    go_wp2_with fail
    refine (new_okI _ _ (by omega) (by omega)).mono ?_
    rintro e w3 ⟨b', c', rfl, hb2', hc2', hbc', hb3', hc3', hq', hbw'⟩
    rw [Int.toNat_natCast] at hq'
    have hz1 := hb1.size
    have hz2 := hbw.size
    have hz3 := hbw'.size
    have hB : Below w.heap.size w w3 := (hb1.trans (hbw.mono hz1)).trans (hbw'.mono (by omega))
    have hq3 : Que w3 53 b c k [] := hq.kept (Fr.of_below hbw') (by omega) (by omega)
    clear hbw hb1 hbw' hq
    go_wp2_with fail
    go_loopg [10, 11, 12] 100 (TwoRel w3 b c b' c' k)
    case atStart => exact ⟨0, none, 0, 0, [], none, 0, 0, [], rfl, rfl, by omega, rfl, by omega, by simp [maxLen], by omega, rfl, by omega, by simp [maxLen], by omega, Rd.nil .., hq3, Rd.nil .., hq', Fr.refl _ _⟩
    case round =>
      obtain ⟨j, A1, n1, c1, L1, A2, n2, c2, L2, rfl, rfl, hj, rfl, hn1, hc1, hk1', rfl, hn2, hc2n, hk2', hrd1, hq1, hrd2, hq2, hf⟩ := hrel
      have hrw : Rd (· < w.heap.size) wr 2 A n (pairs .i64 .i64 l) := (hr.kept (Fr.of_below hB) (fun x hx => by omega)).kept hf (fun x hx => by omega)
      have hrw' : Rd (· < w.heap.size) wr 2 B m (pairs .i64 .i64 l') := (hr'.kept (Fr.of_below hB) (fun x hx => by omega)).kept hf (fun x hx => by omega)
      have hfs := hf.size
      have hL1 : L1.length = n1 := by have := hrd1.1; simpa using this
      have hL2 : L2.length = n2 := by have := hrd2.1; simpa using this
      have HL1 := Lib.hid hL1
      have HL2 := Lib.hid hL2
      clear hL1 hL2
      have nums1 : (nums L1).length = n1 := by rw [List.length_map]; exact HL1.out
      have nums2 : (nums L2).length = n2 := by rw [List.length_map]; exact HL2.out
      have HN1 := Lib.hid nums1
      have HN2 := Lib.hid nums2
      clear nums1 nums2
      by_cases hj3 : j < 100
      · have hj3i : (j : Int) < 100 := by omega
        by_cases hlt : j < n
        · by_cases hlt' : j < m
          · obtain ⟨ad, x, rfl, hx, hx0, hx1⟩ := op_at hrw hl hlt
            have hwx := hwf x (List.mem_of_getElem? hx)
            obtain ⟨x0, x1⟩ := x
            have Hx := Lib.hid hx
            clear hx
            obtain ⟨ad', x', rfl, hx', hx0', hx1'⟩ := op_at hrw' hl' hlt'
            have hwx' := hwf' x' (List.mem_of_getElem? hx')
            obtain ⟨x0', x1'⟩ := x'
            have Hx' := Lib.hid hx'
            clear hx'
            have hadb : ad'.block < w.heap.size := by obtain ⟨a0, e0, t0, _⟩ := hrw'.2 (by omega); injection e0 with e0; subst e0; exact t0
            go_wp2_with fail
            refine (doesI (fun x => w3.heap.size ≤ x) A1 b c k n1 c1 L1 x0 x1 wr hrd1 hn1 hc1 hq1 hk2 hk1' (fun x hx => by omega) (fun x hx => by omega) hwx.1 hwx.2).mono ?_
            rintro e w4 ⟨A3, n3, c3, rfl, hrd3, hn3, hc3', hq3', hf3⟩
            have hle := doesL_le L1 k x0 x1 (by rw [HL1.out]; exact hk1')
            generalize doesL L1 k x0 x1 = L3 at *
            have hL3 : L3.length = n3 := by have := hrd3.1; simpa using this
            rw [hL3] at hle
            clear hL3
            have hq24 : Que w4 53 b' c' k (nums L2) := hq2.kept hf3 (fun e => by omega) (fun e => by omega)
            have hrd24 : Rd (fun x => w3.heap.size ≤ x) w4 1 A2 n2 (nums L2) := hrd2.kept hf3 (fun x hx e => by omega)
            have hf4 : Fr (fun x => x = c ∨ x = c') w3 w4 := hf.trans (hf3.mono (fun x hx => .inl hx))
            have hfs4 := hf4.size
            have hx0'' : w4.cell? (ad'.add (j * 2)) = some (.int .i64 x0') := hf3.cell (by rw [add_block]; omega) hx0'
            have hx1'' : w4.cell? ⟨(ad'.add (j * 2)).block, (ad'.add (j * 2)).off + 1, none⟩ = some (.int .i64 x1') := hf3.cell (by rw [add_block]; omega) hx1'
            go_wp2_with fail
            refine (doesI (fun x => w3.heap.size ≤ x) A2 b' c' k n2 c2 L2 x0' x1' w4 hrd24 hn2 hc2n hq24 hk2 hk2' (fun x hx => by omega) (fun x hx => by omega) hwx'.1 hwx'.2).mono ?_
            rintro e w5 ⟨A5, n5, c5, rfl, hrd5, hn5, hc5', hq5', hf5⟩
            have hle5 := doesL_le L2 k x0' x1' (by rw [HL2.out]; exact hk2')
            generalize doesL L2 k x0' x1' = L5 at *
            have hL5 : L5.length = n5 := by have := hrd5.1; simpa using this
            rw [hL5] at hle5
            clear hL5
            have hf6 : Fr (fun x => x = c ∨ x = c') w3 w5 := hf4.trans (hf5.mono (fun x hx => .inr hx))
            have hq35 : Que w5 53 b c k (nums L3) := hq3'.kept hf5 (fun e => by omega) (fun e => by omega)
            have hrd35 : Rd (fun x => w3.heap.size ≤ x) w5 1 A3 n3 (nums L3) := hrd3.kept hf5 (fun x hx e => by omega)
            go_wp2_with fail
            go_roundg (100 - (j + 1))
            case measure => omega
            case rel => exact ⟨j + 1, A3, n3, c3, L3, A5, n5, c5, L5, rfl, by go_num, by omega, rfl, hn3, hc3', hle, rfl, hn5, hc5', hle5, hrd35, hq35, hrd5, hq5', hf6⟩
          · obtain ⟨ad, x, rfl, hx, hx0, hx1⟩ := op_at hrw hl hlt
            have hwx := hwf x (List.mem_of_getElem? hx)
            obtain ⟨x0, x1⟩ := x
            have Hx := Lib.hid hx
            clear hx
            go_wp2_with fail
            refine (doesI (fun x => w3.heap.size ≤ x) A1 b c k n1 c1 L1 x0 x1 wr hrd1 hn1 hc1 hq1 hk2 hk1' (fun x hx => by omega) (fun x hx => by omega) hwx.1 hwx.2).mono ?_
            rintro e w4 ⟨A3, n3, c3, rfl, hrd3, hn3, hc3', hq3', hf3⟩
            have hle := doesL_le L1 k x0 x1 (by rw [HL1.out]; exact hk1')
            generalize doesL L1 k x0 x1 = L3 at *
            have hL3 : L3.length = n3 := by have := hrd3.1; simpa using this
            rw [hL3] at hle
            clear hL3
            have hq24 : Que w4 53 b' c' k (nums L2) := hq2.kept hf3 (fun e => by omega) (fun e => by omega)
            have hrd24 : Rd (fun x => w3.heap.size ≤ x) w4 1 A2 n2 (nums L2) := hrd2.kept hf3 (fun x hx e => by omega)
            have hf4 : Fr (fun x => x = c ∨ x = c') w3 w4 := hf.trans (hf3.mono (fun x hx => .inl hx))
            have hfs4 := hf4.size
            go_wp2_with fail
            go_roundg (100 - (j + 1))
            case measure => omega
            case rel => exact ⟨j + 1, A3, n3, c3, L3, A2, n2, c2, L2, rfl, by go_num, by omega, rfl, hn3, hc3', hle, rfl, hn2, hc2n, hk2', hrd3, hq3', hrd24, hq24, hf4⟩
        · by_cases hlt' : j < m
          · obtain ⟨ad', x', rfl, hx', hx0', hx1'⟩ := op_at hrw' hl' hlt'
            have hwx' := hwf' x' (List.mem_of_getElem? hx')
            obtain ⟨x0', x1'⟩ := x'
            have Hx' := Lib.hid hx'
            clear hx'
            go_wp2_with fail
            refine (doesI (fun x => w3.heap.size ≤ x) A2 b' c' k n2 c2 L2 x0' x1' wr hrd2 hn2 hc2n hq2 hk2 hk2' (fun x hx => by omega) (fun x hx => by omega) hwx'.1 hwx'.2).mono ?_
            rintro e w5 ⟨A5, n5, c5, rfl, hrd5, hn5, hc5', hq5', hf5⟩
            have hle5 := doesL_le L2 k x0' x1' (by rw [HL2.out]; exact hk2')
            generalize doesL L2 k x0' x1' = L5 at *
            have hL5 : L5.length = n5 := by have := hrd5.1; simpa using this
            rw [hL5] at hle5
            clear hL5
            have hf6 : Fr (fun x => x = c ∨ x = c') w3 w5 := hf.trans (hf5.mono (fun x hx => .inr hx))
            have hq15 : Que w5 53 b c k (nums L1) := hq1.kept hf5 (fun e => by omega) (fun e => by omega)
            have hrd15 : Rd (fun x => w3.heap.size ≤ x) w5 1 A1 n1 (nums L1) := hrd1.kept hf5 (fun x hx e => by omega)
            go_wp2_with fail
            go_roundg (100 - (j + 1))
            case measure => omega
            case rel => exact ⟨j + 1, A1, n1, c1, L1, A5, n5, c5, L5, rfl, by go_num, by omega, rfl, hn1, hc1, hk1', rfl, hn5, hc5', hle5, hrd15, hq15, hrd5, hq5', hf6⟩
          · go_wp2_with fail
            refine (len_queI _ _ _ _ _ hq1).mono ?_
            rintro e w4 ⟨rfl, rfl⟩
            rw [HN1.out]
            go_wp2_with fail
            refine (len_queI _ _ _ _ _ hq2).mono ?_
            rintro e w5 ⟨rfl, rfl⟩
            rw [HN2.out]
            go_wp2_with fail
            go_ret
            exact ⟨rfl, hB.trans (hf.below (by omega) (fun x hx => by omega))⟩
      · have hj3i : ¬ (j : Int) < 100 := by omega
        go_wp2_with fail
        refine (len_queI _ _ _ _ _ hq1).mono ?_
        rintro e w4 ⟨rfl, rfl⟩
        rw [HN1.out]
        go_wp2_with fail
        refine (len_queI _ _ _ _ _ hq2).mono ?_
        rintro e w5 ⟨rfl, rfl⟩
        rw [HN2.out]
        go_wp2_with fail
        go_ret
        exact ⟨rfl, hB.trans (hf.below (by omega) (fun x hx => by omega))⟩
end Go.Proofs.Ytcgphkghamcgcaa

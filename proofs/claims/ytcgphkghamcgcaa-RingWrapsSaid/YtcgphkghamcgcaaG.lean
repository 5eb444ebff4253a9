/- The law RingDoes: it answers true, over the given program. -/
import Derived.Test.YtcgphkghamcgcaaE
import Derived.Test.YtcgphkghamcgcaaO
import Derived.Deep.LoopGhost
namespace Go.Proofs.Ytcgphkghamcgcaa
open Go.RowKit Go.Conc Go.Nau

theorem op_at {T : Nat → Prop} {w : World} {A : Option Addr} {n : Nat} {l : List (Int × Int)} (h : Rd T w 2 A n (pairs .i64 .i64 l)) (hl : l.length = n) {k : Nat} (hk : k < n) :
    ∃ (ad : Addr) (x : Int × Int), A = some ad ∧ l[k]? = some x ∧ w.cell? (ad.add (k * 2)) = some (.int .i64 x.1) ∧ w.cell? ⟨(ad.add (k * 2)).block, (ad.add (k * 2)).off + 1, none⟩ = some (.int .i64 x.2) := by
  obtain ⟨ad, e, _, hc⟩ := h.2 (by omega)
  have hx : l[k]? = some l[k] := List.getElem?_eq_getElem (by omega)
  obtain ⟨g0, g1⟩ := pairs_get .i64 .i64 l k _ hx
  have h1 := hc _ _ g1
  rw [← add_add] at h1
  exact ⟨ad, l[k], e, hx, hc _ _ g0, h1⟩

/-- What holds between two rounds: how far the script is, the list beside, the queue. -/
def DoesRel (w2 : World) (b c k n : Nat) (g : Nat) (v i : Value) (wr : World) : Prop :=
  ∃ (j : Nat) (A' : Option Addr) (n' c' : Nat) (L : List Int), g = n - j ∧ i = .int .i64 j ∧ j ≤ n ∧ j ≤ 300 ∧ v = .slice A' n' c' ∧ n' ≤ c' ∧ c' ≤ maxLen ∧ n' ≤ k ∧
    Rd (fun x => w2.heap.size ≤ x) wr 1 A' n' (nums L) ∧ Que wr 53 b c k (nums L) ∧ Fr (· = c) w2 wr

set_option maxHeartbeats 1000000 in
set_option maxRecDepth 100000 in
theorem ringdoes_any (size : Int) (A : Option Addr) (n cc : Nat) (l : List (Int × Int)) (w : World) (hr : Rd (· < w.heap.size) w 2 A n (pairs .i64 .i64 l)) (hl : l.length = n) (hn : n ≤ maxLen)
    (hwf : ∀ x ∈ l, -9223372036854775808 ≤ x.1 ∧ x.1 ≤ 9223372036854775807) :
    Calls Try.prog 6 #[.int .i64 size, .slice A n cc] w fun e w' => e = .returned (.bool true) ∧ Below w.heap.size w w' := by
  have bad : ∀ (hs : size < 1 ∨ 1024 < size), Calls Try.prog 6 #[.int .i64 size, .slice A n cc] w fun e w' => e = .returned (.bool true) ∧ Below w.heap.size w w' := by
    intro hs0
    rcases id hs0 with hs | hs
    case' inr => have hs' : ¬ size < 1 := by omega
    all_goals
      go_enter Try.func6, Try.ntmps6
      go_wp2_with fail
      refine (shown_any _).mono ?_
      rintro e w1 ⟨rfl, hb1⟩
      go_wp2_with fail
      refine (new_badI _ _ hs0).mono ?_
      rintro e w2 ⟨rfl, rfl⟩
      go_wp2_with fail
      go_ret
      exact ⟨rfl, hb1⟩
  by_cases hs : size < 1 ∨ 1024 < size
  · exact bad hs
  · clear bad
    obtain ⟨k, rfl⟩ := Int.eq_ofNat_of_zero_le (show 0 ≤ size by omega)
    have hk1 : 1 ≤ k := by omega
    have hk2 : k ≤ 1024 := by omega
    have hs1 : ¬ (k : Int) < 1 := by omega
    have hs2 : ¬ 1024 < (k : Int) := by omega
    unfold maxLen at hn
    clear hs
    go_enter Try.func6, Try.ntmps6
    go_wp2_with fail
    refine (shown_any _).mono ?_
    rintro e w1 ⟨rfl, hb1⟩
    go_wp2_with fail
    refine (new_okI _ _ (by omega) (by omega)).mono ?_
    rintro e w2 ⟨b, c, rfl, hb2, hc2, hbc, hb3, hc3, hq, hbw⟩
    rw [Int.toNat_natCast] at hq
    have hz1 := hb1.size
    have hz2 := hbw.size
    have hB : Below w.heap.size w w2 := hb1.trans (hbw.mono hz1)
    clear hbw hb1
    go_wp2_with fail
    go_loopg [7, 8] n (DoesRel w2 b c k n)
    case atStart => exact ⟨0, none, 0, 0, [], by omega, rfl, by omega, by omega, rfl, by omega, by simp [maxLen], by omega, Rd.nil .., hq, Fr.refl _ _⟩
    case round =>
      obtain ⟨j, A', n', c', L, rfl, rfl, hjn, hj3, rfl, hn', hc', hnk, hrd, hq', hf⟩ := hrel
      have hrw : Rd (· < w.heap.size) wr 2 A n (pairs .i64 .i64 l) := (hr.kept (Fr.of_below hB) (fun x hx => by omega)).kept hf (fun x hx => by omega)
      have hfs := hf.size
      have hcs := hc3
      have hL : L.length = n' := by have := hrd.1; simpa using this
      have HL := Lib.hid hL
      clear hL
      by_cases hlt : j < n
      · by_cases hlt3 : j < 300
        · obtain ⟨ad, x, rfl, hx, hx0, hx1⟩ := op_at hrw hl hlt
          have hwx := hwf x (List.mem_of_getElem? hx)
          have hlt3i : (j : Int) < 300 := by omega
          obtain ⟨x0, x1⟩ := x
          have Hx := Lib.hid hx
          clear hx
          go_wp2_with fail
          refine (doesI (fun x => w2.heap.size ≤ x) A' b c k n' c' L x0 x1 wr hrd hn' hc' hq' hk2 hnk (fun x hx => by omega) (fun x hx => by omega) hwx.1 hwx.2).mono ?_
          rintro e w3 ⟨A2, n2, c2, rfl, hrd2, hn2, hc2', hq2, hf2⟩
          have hle := doesL_le L k x0 x1 (by rw [HL.out]; exact hnk)
          generalize doesL L k x0 x1 = L2 at *
          have hL2 : L2.length = n2 := by have := hrd2.1; simpa using this
          rw [hL2] at hle
          have HL2 := Lib.hid hL2
          clear hL2
          go_wp2_with fail
          refine (len_queI _ _ _ _ _ hq2).mono ?_
          rintro e w4 ⟨rfl, rfl⟩
          rw [show (nums L2).length = n2 from by rw [List.length_map]; exact HL2.out]
          go_wp2_with fail
          refine (size_queI _ _ _ _ _ hq2).mono ?_
          rintro e w5 ⟨rfl, rfl⟩
          go_wp2_with fail
          go_roundg (n - (j + 1))
          case measure => omega
          case rel => exact ⟨j + 1, A2, n2, c2, L2, rfl, by go_num, by omega, by omega, rfl, hn2, hc2', hle, hrd2, hq2, hf.trans hf2⟩
        · have hlt3i : ¬ (j : Int) < 300 := by omega
          go_wp2_with fail
          go_ret
          exact ⟨rfl, hB.trans (hf.below (by omega) (fun x hx => by omega))⟩
      · go_wp2_with fail
        go_ret
        exact ⟨rfl, hB.trans (hf.below (by omega) (fun x hx => by omega))⟩
end Go.Proofs.Ytcgphkghamcgcaa

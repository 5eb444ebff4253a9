/- num.Text, num.TakeText, and the reference's TakeText: contracts over the given program. -/
import Derived.Test.YtliioeihbbhiiaaNc
namespace Go.Proofs.Ytliioeihbbhiiaa
open Go.RowKit Go.Nau Go.Shelf
attribute [local go_sem] Oper.semAt_some

def textS (t : ByteArray) : ByteArray := bytesS t.size 2 ++ t
theorem textS_size (t : ByteArray) : (textS t).size = 2 + t.size := by unfold textS; rw [ByteArray.size_append, bytesS_size]

theorem text_any (t : ByteArray) (h : t.size ≤ 65535) (w : World) : Calls Try.prog 41 #[.string t] w fun e w' => e = .returned (.tuple #[.string (textS t), .int .i64 0]) ∧ Below w.heap.size w w' := by
  have hi : (t.size : Int) ≤ 65535 := by omega
  have hp := fun W => put_any t.size 2 (by omega) (by omega) (by omega) (by omega) W
  have hz := bytesS_size t.size 2
  have ht : textS t = bytesS t.size 2 ++ t := rfl
  have hn : ¬ 9223372036854775807 < 2 + t.size := by omega
  generalize bytesS t.size 2 = x at *
  have HT := Lib.hid ht
  have HP := Lib.hid hp
  clear h hp ht
  go_enter Try.func41, Try.ntmps41
  go_wp2_with fail
  refine (HP.out _).mono ?_
  rintro e w1 ⟨rfl, hb1⟩
  go_wp2_with fail
  go_ret2
  exact ⟨by rw [HT.out]; rfl, hb1⟩

/-- Is a text there, at a place? -/
def ttB (s : ByteArray) (p : Nat) : Bool := decide (p + 2 ≤ s.size) && decide (p + 2 + takeN s p 2 ≤ s.size)
def ttS (s : ByteArray) (p : Nat) : ByteArray := if ttB s p then s.extract (p + 2) (p + 2 + takeN s p 2) else ⟨#[]⟩
def ttE (s : ByteArray) (p : Nat) : Nat := if ttB s p then p + 2 + takeN s p 2 else 0
def ttN (s : ByteArray) (p : Nat) : Int := if ttB s p then 0 else 2
theorem takeN_lt' (s : ByteArray) (p k : Nat) : takeN s p k < 256 ^ k := by
  unfold takeN
  split
  · rename_i h
    have := takeL_lt (partS s p k)
    rwa [partS_length s p k h] at this
  · exact Nat.pow_pos (by omega)

set_option maxHeartbeats 400000 in
set_option maxRecDepth 100000 in
theorem taketext_any (s : ByteArray) (p : Nat) (hs : s.size ≤ 9223372036854775807) (hp : p ≤ 1000000) (w : World) :
    Calls Try.prog 57 #[.string s, .int .i64 p] w fun e w' => e = .returned (.tuple #[.string (ttS s p), .int .i64 (ttE s p), .int .i64 (ttN s p)]) ∧ w = w' := by
  have ht := fun W => ntake_any s p 2 (by omega) (by omega) hs hp W
  have hlt : takeN s p 2 < 65536 := takeN_lt' s p 2
  by_cases h1 : p + 2 ≤ s.size
  · have he : takeE s p 2 = 0 := by unfold takeE; rw [if_pos h1]
    rw [he] at ht
    have hpi : (p : Int) ≤ 1000000 := by omega
    have h1i : (p : Int) + 2 ≤ (s.size : Int) := by omega
    have hsi : (s.size : Int) ≤ 9223372036854775807 := by omega
    have hlti : (takeN s p 2 : Int) < 65536 := by omega
    by_cases h2 : p + 2 + takeN s p 2 ≤ s.size
    · have hb : ttB s p = true := by unfold ttB; simp [h1, h2]
      unfold ttS ttE ttN
      rw [hb]
      simp only [if_true]
      have hd : decide ((s.size : Int) - ((p : Int) + 2) < (takeN s p 2 : Int)) = false := by simp; omega
      have h2i : (p : Int) + 2 + (takeN s p 2 : Int) ≤ (s.size : Int) := by omega
      have HT := Lib.hid ht
      clear ht he hb h1 h2 hlt hs hp
      generalize takeN s p 2 = n at *
      go_enter Try.func57, Try.ntmps57
      go_wp2_with fail
      refine (HT.out _).mono ?_
      rintro e w1 ⟨rfl, rfl⟩
      go_wp2_with fail
      go_ret3
      exact ⟨rfl, rfl⟩
    · have hb : ttB s p = false := by unfold ttB; simp [h2]
      unfold ttS ttE ttN
      rw [hb]
      simp only [Bool.false_eq_true, if_false]
      have hd : decide ((s.size : Int) - ((p : Int) + 2) < (takeN s p 2 : Int)) = true := by simp; omega
      have HT := Lib.hid ht
      clear ht he hb h1 h2 hlt hs hp
      generalize takeN s p 2 = n at *
      go_enter Try.func57, Try.ntmps57
      go_wp2_with fail
      refine (HT.out _).mono ?_
      rintro e w1 ⟨rfl, rfl⟩
      go_wp2_with fail
      go_ret3
      exact ⟨rfl, rfl⟩
  · have he : takeE s p 2 = 2 := by unfold takeE; rw [if_neg h1]
    rw [he] at ht
    have hb : ttB s p = false := by unfold ttB; simp [h1]
    unfold ttS ttE ttN
    rw [hb]
    simp only [Bool.false_eq_true, if_false]
    have HT := Lib.hid ht
    clear ht he hb h1 hlt hs hp
    generalize takeN s p 2 = n at *
    go_enter Try.func57, Try.ntmps57
    go_wp2_with fail
    refine (HT.out _).mono ?_
    rintro e w1 ⟨rfl, rfl⟩
    go_wp2_with fail
    go_ret3
    exact ⟨rfl, rfl⟩

set_option maxHeartbeats 400000 in
set_option maxRecDepth 100000 in
theorem rtaketext_any (s : ByteArray) (p : Nat) (hs : s.size ≤ 9223372036854775807) (hp : p ≤ 1000000) (w : World) :
    Calls Try.prog 48 #[.string s, .int .i64 p] w fun e w' => e = .returned (.tuple #[.string (ttS s p), .int .i64 (ttE s p), .int .i64 (ttN s p)]) ∧ w = w' := by
  have ht := fun W => rtake_any s p 2 (by omega) (by omega) hs hp W
  have hlt : takeN s p 2 < 65536 := takeN_lt' s p 2
  by_cases h1 : p + 2 ≤ s.size
  · have he : takeE s p 2 = 0 := by unfold takeE; rw [if_pos h1]
    rw [he] at ht
    have hpi : (p : Int) ≤ 1000000 := by omega
    have h1i : (p : Int) + 2 ≤ (s.size : Int) := by omega
    have hsi : (s.size : Int) ≤ 9223372036854775807 := by omega
    have hlti : (takeN s p 2 : Int) < 65536 := by omega
    by_cases h2 : p + 2 + takeN s p 2 ≤ s.size
    · have hb : ttB s p = true := by unfold ttB; simp [h1, h2]
      unfold ttS ttE ttN
      rw [hb]
      simp only [if_true]
      have hd : decide ((s.size : Int) - (p : Int) - 2 < (takeN s p 2 : Int)) = false := by simp; omega
      have h2i : (p : Int) + 2 + (takeN s p 2 : Int) ≤ (s.size : Int) := by omega
      have HT := Lib.hid ht
      clear ht he hb h1 h2 hlt hs hp
      generalize takeN s p 2 = n at *
      go_enter Try.func48, Try.ntmps48
      go_wp2_with fail
      refine (HT.out _).mono ?_
      rintro e w1 ⟨rfl, rfl⟩
      go_wp2_with fail
      go_ret3
      exact ⟨rfl, rfl⟩
    · have hb : ttB s p = false := by unfold ttB; simp [h2]
      unfold ttS ttE ttN
      rw [hb]
      simp only [Bool.false_eq_true, if_false]
      have hd : decide ((s.size : Int) - (p : Int) - 2 < (takeN s p 2 : Int)) = true := by simp; omega
      have HT := Lib.hid ht
      clear ht he hb h1 h2 hlt hs hp
      generalize takeN s p 2 = n at *
      go_enter Try.func48, Try.ntmps48
      go_wp2_with fail
      refine (HT.out _).mono ?_
      rintro e w1 ⟨rfl, rfl⟩
      go_wp2_with fail
      go_ret3
      exact ⟨rfl, rfl⟩
  · have he : takeE s p 2 = 2 := by unfold takeE; rw [if_neg h1]
    rw [he] at ht
    have hb : ttB s p = false := by unfold ttB; simp [h1]
    unfold ttS ttE ttN
    rw [hb]
    simp only [Bool.false_eq_true, if_false]
    have HT := Lib.hid ht
    clear ht he hb h1 hlt hs hp
    generalize takeN s p 2 = n at *
    go_enter Try.func48, Try.ntmps48
    go_wp2_with fail
    refine (HT.out _).mono ?_
    rintro e w1 ⟨rfl, rfl⟩
    go_wp2_with fail
    go_ret3
    exact ⟨rfl, rfl⟩

end Go.Proofs.Ytliioeihbbhiiaa

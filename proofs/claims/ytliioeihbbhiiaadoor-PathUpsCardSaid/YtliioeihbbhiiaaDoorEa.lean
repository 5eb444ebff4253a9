/- Names: dirs.IsName and the reference's: contracts over the given program. -/
import Derived.Test.YtliioeihbbhiiaaDoorB
import Derived.Lib.IndexLaws
namespace Go.Proofs.YtliioeihbbhiiaaDoor
open Go.RowKit Go.Nau Go.Shelf
attribute [local go_sem] Oper.semAt_some

def cleanL (l : List UInt8) : Bool := l.all fun c => !(c == 0) && !(c == 47)
def nameB (s : ByteArray) : Bool := decide (1 ≤ s.size) && (decide (s.size ≤ 59) && (!(s.data.toList == [46]) && (!(s.data.toList == [46, 46]) && cleanL s.data.toList)))

theorem idx_none {l : List UInt8} {c : UInt8} : Lib.indexByte l c < 0 ↔ l.all (fun b => !(b == c)) = true := by
  induction l with
  | nil => simp [Lib.indexByte]
  | cons b l ih =>
    have hge := Lib.indexByte_ge l c
    unfold Lib.indexByte
    rw [List.all_cons]
    by_cases h : b = c
    · subst h
      simp
    · have hb : (b == c) = false := by simpa using h
      rw [hb]
      simp only [Bool.false_eq_true, if_false, Bool.not_false, Bool.true_and]
      rw [← ih]
      by_cases h1 : Lib.indexByte l c = -1
      · simp [h1]
      · have h2 : (Lib.indexByte l c == -1) = false := by simpa using h1
        rw [h2]
        simp only [Bool.false_eq_true, if_false]
        omega
theorem clean_split (l : List UInt8) : cleanL l = (l.all (fun b => !(b == 0)) && l.all (fun b => !(b == 47))) := by
  unfold cleanL
  induction l with
  | nil => rfl
  | cons b l ih =>
    simp only [List.all_cons]
    rw [ih]
    cases (!(b == 0)) <;> cases (!(b == 47)) <;> simp

set_option maxHeartbeats 1000000 in
set_option maxRecDepth 100000 in
theorem isname_any (s : ByteArray) (w : World) : Calls Tryd.prog 20 #[.string s] w fun e w' => e = .returned (.bool (nameB s)) ∧ w = w' := by
  have hsz : s.size = s.data.toList.length := Lib.size_eq s
  have htl : s.toList = s.data.toList := ByteArray.toList_eq s
  by_cases h0 : s.toList = []
  · have hn : nameB s = false := by unfold nameB; rw [hsz, ← htl, h0]; rfl
    have h0' : s.toList.isEmpty = true := by rw [h0]; rfl
    rw [hn]
    clear hn hsz htl h0
    go_enter Tryd.func20, Tryd.ntmps20
    go_wp2_with fail
    go_ret
    exact ⟨rfl, rfl⟩
  have h0' : s.toList.isEmpty = false := by simpa using h0
  have hlen : 1 ≤ s.size := by
    rw [hsz, ← htl]
    exact List.length_pos_iff.2 h0
  by_cases h1 : (s.toList == [46]) = true
  · have hn : nameB s = false := by unfold nameB; rw [← htl, h1]; simp
    rw [hn]
    clear hn hsz htl h0 hlen
    go_enter Tryd.func20, Tryd.ntmps20
    go_wp2_with fail
    go_ret
    exact ⟨rfl, rfl⟩
  have h1 : (s.toList == [46]) = false := by simpa using h1
  by_cases h2 : (s.toList == [46, 46]) = true
  · have hn : nameB s = false := by unfold nameB; rw [← htl, h2]; simp
    rw [hn]
    clear hn hsz htl h0 hlen
    go_enter Tryd.func20, Tryd.ntmps20
    go_wp2_with fail
    go_ret
    exact ⟨rfl, rfl⟩
  have h2 : (s.toList == [46, 46]) = false := by simpa using h2
  by_cases h3 : s.size ≤ 59
  case neg =>
    have hn : nameB s = false := by unfold nameB; simp [h3]
    have h3i : 59 < (s.size : Int) := by omega
    rw [hn]
    clear hn hsz htl h0 hlen h3
    go_enter Tryd.func20, Tryd.ntmps20
    go_wp2_with fail
    go_ret
    exact ⟨rfl, rfl⟩
  have h3i : (s.size : Int) ≤ 59 := by omega
  have hn : nameB s = cleanL s.data.toList := by
    unfold nameB
    rw [← htl, h1, h2]
    simp [h3, hlen]
  rw [hn, clean_split]
  have hc0 : ∀ W, Calls Tryd.prog 27 #[.string s, .int .u8 0] W fun e w' => e = .returned (.int .i64 (Lib.indexByte s.data.toList 0)) ∧ w' = W := fun W => Tryd.strings_IndexByte s 0 W
  have hc4 : ∀ W, Calls Tryd.prog 27 #[.string s, .int .u8 47] W fun e w' => e = .returned (.int .i64 (Lib.indexByte s.data.toList 47)) ∧ w' = W := fun W => Tryd.strings_IndexByte s 47 W
  have e0 := @idx_none s.data.toList 0
  have e4 := @idx_none s.data.toList 47
  have HC0 := Lib.hid hc0
  have HC4 := Lib.hid hc4
  clear hc0 hc4 hn hsz htl h0 hlen h3
  generalize Lib.indexByte s.data.toList 0 = i0 at *
  generalize Lib.indexByte s.data.toList 47 = i4 at *
  by_cases g0 : i0 < 0
  · rw [e0.1 g0, Bool.true_and]
    by_cases g4 : i4 < 0
    · rw [e4.1 g4]
      clear e0 e4
      go_enter Tryd.func20, Tryd.ntmps20
      go_wp2_with fail
      refine (HC0.out _).mono ?_
      rintro e w1 ⟨rfl, hw1⟩
      subst hw1
      go_wp2_with fail
      refine (HC4.out _).mono ?_
      rintro e w1 ⟨rfl, hw1⟩
      subst hw1
      go_wp2_with fail
      go_ret
      exact ⟨by simp, rfl⟩
    · have e4' : (s.data.toList.all fun b => !(b == 47)) = false := by
        cases h : (s.data.toList.all fun b => !(b == 47)) with
        | false => rfl
        | true => exact absurd (e4.2 h) g4
      have g4' : 0 ≤ i4 := by omega
      rw [e4']
      clear e0 e4 e4'
      go_enter Tryd.func20, Tryd.ntmps20
      go_wp2_with fail
      refine (HC0.out _).mono ?_
      rintro e w1 ⟨rfl, hw1⟩
      subst hw1
      go_wp2_with fail
      refine (HC4.out _).mono ?_
      rintro e w1 ⟨rfl, hw1⟩
      subst hw1
      go_wp2_with fail
      go_ret
      exact ⟨by simp; omega, rfl⟩
  · have e0' : (s.data.toList.all fun b => !(b == 0)) = false := by
      cases h : (s.data.toList.all fun b => !(b == 0)) with
      | false => rfl
      | true => exact absurd (e0.2 h) g0
    have g0' : 0 ≤ i0 := by omega
    rw [e0', Bool.false_and]
    clear e0 e4 e0'
    go_enter Tryd.func20, Tryd.ntmps20
    go_wp2_with fail
    refine (HC0.out _).mono ?_
    rintro e w1 ⟨rfl, hw1⟩
    subst hw1
    go_wp2_with fail
    go_ret
    exact ⟨by simp, rfl⟩
end Go.Proofs.YtliioeihbbhiiaaDoor

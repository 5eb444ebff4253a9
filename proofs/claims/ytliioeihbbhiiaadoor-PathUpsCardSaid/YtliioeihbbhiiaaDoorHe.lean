/- Paths: Within, the reference's Within and Same: over the given program. -/
import Derived.Test.YtliioeihbbhiiaaDoorHd
namespace Go.Proofs.YtliioeihbbhiiaaDoor
open Go.RowKit Go.Nau Go.Shelf
attribute [local go_sem] Oper.semAt_some

theorem txt_inj {a b : ByteArray} (h : a.toList = b.toList) : a = b := by
  rw [ByteArray.toList_eq, ByteArray.toList_eq] at h
  exact ByteArray.ext (Array.toList_inj.mp h)
theorem str_cell {T : Nat → Prop} {w : World} {A : Option Addr} {n : Nat} {l : List ByteArray} (hr : Rd T w 1 A n (strs l)) (q : Nat) (x : ByteArray) (hx : l[q]? = some x) (hq : q < n) :
    ∃ ad, A = some ad ∧ T ad.block ∧ w.cell? (ad.add q) = some (.string x) := by
  obtain ⟨ad, u, rfl, hb, hu, hc⟩ := hr.at1 hq
  have : (strs l)[q]? = some (.string x) := by simp [strs, hx]
  rw [this] at hu
  cases hu
  exact ⟨ad, rfl, hb, hc⟩
/-- Is one list the start of another one? -/
def wthB : List ByteArray → List ByteArray → Bool
  | [], _ => true
  | _ :: _, [] => false
  | x :: a, y :: b => (x.toList == y.toList) && wthB a b
theorem wthB_len : ∀ {a b : List ByteArray}, b.length < a.length → wthB a b = false
  | [], _, h => by simp at h
  | _ :: _, [], _ => rfl
  | x :: a, y :: b, h => by
    unfold wthB
    rw [wthB_len (a := a) (b := b) (by simpa using h)]
    simp
theorem wthB_iff : ∀ {a b : List ByteArray}, wthB a b = true ↔ a <+: b
  | [], _ => by simp [wthB]
  | x :: a, [] => by simp [wthB]
  | x :: a, y :: b => by
    unfold wthB
    rw [Bool.and_eq_true, wthB_iff, List.cons_prefix_cons]
    constructor
    · rintro ⟨h1, h2⟩
      exact ⟨txt_inj (by simpa using h1), h2⟩
    · rintro ⟨rfl, h2⟩
      exact ⟨by simp, h2⟩
theorem wthB_step {la lb : List ByteArray} {q : Nat} {x y : ByteArray} (hx : la[q]? = some x) (hy : lb[q]? = some y) : wthB (la.drop q) (lb.drop q) = ((x.toList == y.toList) && wthB (la.drop (q + 1)) (lb.drop (q + 1))) := by
  obtain ⟨h1, rfl⟩ := List.getElem?_eq_some_iff.1 hx
  obtain ⟨h2, rfl⟩ := List.getElem?_eq_some_iff.1 hy
  rw [List.drop_eq_getElem_cons h1, List.drop_eq_getElem_cons h2]
  rfl

set_option maxHeartbeats 1000000 in
theorem within_any (la lb : List ByteArray) (A B : Option Addr) (c d : Nat) (w : World) (hra : Rd (· < w.heap.size) w 1 A la.length (strs la)) (hrb : Rd (· < w.heap.size) w 1 B lb.length (strs lb)) (hl : la.length ≤ maxLen) :
    Calls Tryd.prog 9 #[.slice A la.length c, .slice B lb.length d] w fun e w' => e = .returned (.bool (wthB la lb)) ∧ w' = w := by
  have RA := Lib.hid hra
  have RB := Lib.hid hrb
  clear hra hrb
  by_cases hle : la.length ≤ lb.length
  case neg =>
    rw [wthB_len (by omega)]
    have hle' : (lb.length : Int) < (la.length : Int) := by omega
    clear hle
    go_enter Tryd.func9, Tryd.ntmps9
    go_wp2_with fail
    go_ret
    exact ⟨rfl, rfl⟩
  have hle' : ¬ (lb.length : Int) < (la.length : Int) := by omega
  have hm : (la.length : Int) ≤ 9223372036854775807 := by unfold maxLen at hl; omega
  have h0 : wthB (la.drop 0) (lb.drop 0) = wthB la lb := by simp
  generalize hR : wthB la lb = R at *
  go_enter Tryd.func9, Tryd.ntmps9
  go_wp2_with fail
  go_loopg [14] la.length (fun k i wr => ∃ q : Nat, k = la.length - q ∧ i = .int .i64 q ∧ q ≤ la.length ∧ wthB (la.drop q) (lb.drop q) = R ∧ wr = w)
  case atStart => exact ⟨0, rfl, rfl, Nat.zero_le _, h0, rfl⟩
  case round =>
    obtain ⟨q, rfl, rfl, hq, hR2, rfl⟩ := hrel
    by_cases hlt : q < la.length
    · have hqi : (q : Int) < (la.length : Int) := by omega
      have hltb : q < lb.length := by omega
      have hqb : (q : Int) < (lb.length : Int) := by omega
      obtain ⟨x, hx⟩ : ∃ x, la[q]? = some x := ⟨_, List.getElem?_eq_getElem hlt⟩
      obtain ⟨y, hy⟩ : ∃ y, lb[q]? = some y := ⟨_, List.getElem?_eq_getElem hltb⟩
      obtain ⟨ad, rfl, _, e0⟩ := str_cell RA.out q x hx hlt
      obtain ⟨bd, rfl, _, g0⟩ := str_cell RB.out q y hy hltb
      rw [wthB_step hx hy] at hR2
      clear hx hy h0 hR
      cases hxy : (y.toList == x.toList)
      · have hxy' : (x.toList == y.toList) = false := by rw [← hxy]; exact Bool.beq_comm ..
        rw [hxy'] at hR2
        simp only [Bool.false_and] at hR2
        subst hR2
        clear hxy'
        go_wp2_with fail
        go_ret
        exact ⟨rfl, rfl⟩
      · have hxy' : (x.toList == y.toList) = true := by
          have := beq_iff_eq.1 hxy
          rw [this]; simp
        rw [hxy', Bool.true_and] at hR2
        have HR2 := Lib.hid hR2
        clear hR2 hxy'
        go_wp2_with fail
        go_roundg (la.length - (q + 1))
        case measure => omega
        case rel => exact ⟨q + 1, rfl, by simp, by omega, HR2.out, rfl⟩
    · obtain rfl : q = la.length := by omega
      have : R = true := by rw [← hR2]; simp [wthB]
      subst this
      clear hR hR2 h0
      go_wp2_with fail
      go_ret
      exact ⟨rfl, rfl⟩

set_option maxHeartbeats 1000000 in
theorem rwithin_any (la lb : List ByteArray) (A B : Option Addr) (c d : Nat) (w : World) (hra : Rd (· < w.heap.size) w 1 A la.length (strs la)) (hrb : Rd (· < w.heap.size) w 1 B lb.length (strs lb)) (hl : la.length ≤ maxLen) :
    Calls Tryd.prog 17 #[.slice A la.length c, .slice B lb.length d] w fun e w' => e = .returned (.bool (wthB la lb)) ∧ ∃ n, w' = w.drewN n := by
  have RA := Lib.hid hra
  have RB := Lib.hid hrb
  clear hra hrb
  by_cases hle : la.length ≤ lb.length
  case neg =>
    rw [wthB_len (by omega)]
    have hle' : (lb.length : Int) < (la.length : Int) := by omega
    clear hle
    go_enter Tryd.func17, Tryd.ntmps17
    go_wp2_with fail
    go_ret
    exact ⟨rfl, 0, rfl⟩
  have hle' : ¬ (lb.length : Int) < (la.length : Int) := by omega
  have hm : (la.length : Int) ≤ 9223372036854775807 := by unfold maxLen at hl; omega
  have h0 : wthB (la.drop 0) (lb.drop 0) = wthB la lb := by simp
  generalize hR : wthB la lb = R at *
  go_enter Tryd.func17, Tryd.ntmps17
  go_wp2_with fail
  go_loopg [5] la.length (fun k i wr => ∃ q : Nat, k = la.length - q ∧ i = .int .i64 q ∧ q ≤ la.length ∧ wthB (la.drop q) (lb.drop q) = R ∧ ∃ n, wr = w.drewN n)
  case atStart => exact ⟨0, rfl, rfl, Nat.zero_le _, h0, 0, rfl⟩
  case round =>
    obtain ⟨q, rfl, rfl, hq, hR2, n, rfl⟩ := hrel
    by_cases hlt : q < la.length
    · have hqi : (q : Int) < (la.length : Int) := by omega
      have hltb : q < lb.length := by omega
      have hqb : (q : Int) < (lb.length : Int) := by omega
      obtain ⟨x, hx⟩ : ∃ x, la[q]? = some x := ⟨_, List.getElem?_eq_getElem hlt⟩
      obtain ⟨y, hy⟩ : ∃ y, lb[q]? = some y := ⟨_, List.getElem?_eq_getElem hltb⟩
      obtain ⟨ad, rfl, _, e0⟩ := str_cell RA.out q x hx hlt
      obtain ⟨bd, rfl, _, g0⟩ := str_cell RB.out q y hy hltb
      rw [wthB_step hx hy] at hR2
      clear hx hy h0 hR
      cases hxy : (x.toList == y.toList)
      · rw [hxy, Bool.false_and] at hR2
        subst hR2
        go_wp2_with fail
        refine wp_region_quiet_lit (by kernel_rfl) (by kernel_rfl) ?_
        repeat (go_big_quiet_step (fail))
        refine wpQuiet_nil ?_
        rintro w' ⟨nq, rfl⟩
        go_simp
        go_wp2_with fail
        go_ret
        exact ⟨rfl, n + nq, by simp⟩
      · rw [hxy, Bool.true_and] at hR2
        have HR2 := Lib.hid hR2
        clear hR2
        go_wp2_with fail
        refine wp_region_quiet_lit (by kernel_rfl) (by kernel_rfl) ?_
        repeat (go_big_quiet_step (fail))
        refine wpQuiet_nil ?_
        rintro w' ⟨nq, rfl⟩
        go_simp
        go_wp2_with fail
        go_roundg (la.length - (q + 1))
        case measure => omega
        case rel => exact ⟨q + 1, rfl, by simp, by omega, HR2.out, n + nq, by simp⟩
    · obtain rfl : q = la.length := by omega
      have : R = true := by rw [← hR2]; simp [wthB]
      subst this
      clear hR hR2 h0
      go_wp2_with fail
      go_ret
      exact ⟨rfl, n, rfl⟩

def sameB (la lb : List ByteArray) : Bool := wthB la lb && decide (la.length = lb.length)
theorem sameB_iff {la lb : List ByteArray} : sameB la lb = true ↔ la = lb := by
  unfold sameB
  rw [Bool.and_eq_true, wthB_iff, decide_eq_true_eq]
  exact ⟨fun ⟨h1, h2⟩ => h1.eq_of_length h2, fun h => by rw [h]; exact ⟨List.prefix_rfl, rfl⟩⟩
set_option maxHeartbeats 1000000 in
theorem rsame_any (la lb : List ByteArray) (A B : Option Addr) (c d : Nat) (w : World) (hra : Rd (· < w.heap.size) w 1 A la.length (strs la)) (hrb : Rd (· < w.heap.size) w 1 B lb.length (strs lb)) (hl : la.length ≤ maxLen) (hl2 : lb.length ≤ maxLen) :
    Calls Tryd.prog 10 #[.slice A la.length c, .slice B lb.length d] w fun e w' => e = .returned (.bool (sameB la lb)) ∧ ∃ n, w' = w.drewN n := by
  have H := Lib.hid (rwithin_any la lb A B c d w hra hrb hl)
  have hs : sameB la lb = (wthB la lb && decide (la.length = lb.length)) := rfl
  rw [hs]
  clear hs hra hrb
  unfold maxLen at hl hl2
  have hm1 : (la.length : Int) ≤ 9223372036854775807 := by omega
  have hm2 : (lb.length : Int) ≤ 9223372036854775807 := by omega
  generalize wthB la lb = R at *
  generalize la.length = m at *
  generalize lb.length = n at *
  cases R
  · clear hl hl2
    go_enter Tryd.func10, Tryd.ntmps10
    go_wp2_with fail
    refine H.out.mono ?_
    rintro e w2 ⟨rfl, q, rfl⟩
    go_wp2_with fail
    go_ret
    exact ⟨rfl, q, rfl⟩
  · clear hl hl2
    by_cases he : m = n
    · rw [decide_eq_true he]
      subst he
      go_enter Tryd.func10, Tryd.ntmps10
      go_wp2_with fail
      refine H.out.mono ?_
      rintro e w2 ⟨rfl, q, rfl⟩
      go_wp2_with fail
      go_ret
      exact ⟨rfl, q, rfl⟩
    · have he' : ¬ (m : Int) = (n : Int) := by omega
      rw [decide_eq_false he]
      clear he
      go_enter Tryd.func10, Tryd.ntmps10
      go_wp2_with fail
      refine H.out.mono ?_
      rintro e w2 ⟨rfl, q, rfl⟩
      go_wp2_with fail
      go_ret
      refine ⟨?_, q, rfl⟩
      have : ((m : Int) == (n : Int)) = false := by simpa using he'
      show Ending.returned (.bool ((m : Int) == (n : Int))) = _
      rw [this]
      rfl
end Go.Proofs.YtliioeihbbhiiaaDoor

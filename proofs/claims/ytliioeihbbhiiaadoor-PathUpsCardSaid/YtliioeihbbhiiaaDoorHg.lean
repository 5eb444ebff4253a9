/- Paths: the law PathChain walked: over the given program. -/
import Derived.Test.YtliioeihbbhiiaaDoorHf
namespace Go.Proofs.YtliioeihbbhiiaaDoor
open Go.RowKit Go.Nau Go.Shelf
attribute [local go_sem] Oper.semAt_some

/-- A list cut at a number of its parts. -/
theorem rd_cut {w : World} {A : Option Addr} {n m : Nat} {l : List ByteArray} (h : Rd (· < w.heap.size) w 1 A n (strs l)) (hm : m ≤ n) : Rd (· < w.heap.size) w 1 A m (strs (l.take m)) := by
  have := h.take hm
  rwa [Nat.mul_one, show (strs l).take m = strs (l.take m) by simp [strs, List.map_take]] at this
theorem cut_ex {w : World} {A : Option Addr} {n k : Nat} {l : List ByteArray} (h : Rd (· < w.heap.size) w 1 A n (strs l)) (hl : l.length = n) :
    ∃ m, m = min n k ∧ (l.take k).length = m ∧ Rd (· < w.heap.size) w 1 A m (strs (l.take k)) := by
  refine ⟨min n k, rfl, by rw [List.length_take, hl, Nat.min_comm], ?_⟩
  have := rd_cut h (Nat.min_le_left n k)
  have e : l.take (min n k) = l.take k := by
    conv => rhs; rw [List.take_eq_take_min, hl, Nat.min_comm]
  rwa [e] at this

theorem wthB_refl (l : List ByteArray) : wthB l l = true := wthB_iff.2 List.prefix_rfl
theorem wthB_trans {a b c : List ByteArray} (h : wthB a b = true) (k : wthB b c = true) : wthB a c = true := wthB_iff.2 ((wthB_iff.1 h).trans (wthB_iff.1 k))
theorem wthB_both (a b : List ByteArray) : (wthB a b && wthB b a) = sameB a b := by
  rw [Bool.eq_iff_iff, Bool.and_eq_true, wthB_iff, wthB_iff, sameB_iff]
  exact ⟨fun ⟨h1, h2⟩ => h1.eq_of_length (Nat.le_antisymm h1.length_le h2.length_le), fun h => by rw [h]; exact ⟨List.prefix_rfl, List.prefix_rfl⟩⟩

set_option maxHeartbeats 4000000 in
set_option maxRecDepth 100000 in
theorem chain_core (A B C : Option Addr) (na nb nc ca cb cc ma mb mc : Nat) (x y z bo sm : Bool) (w : World)
    (h1 : (na : Int) ≤ 9223372036854775807 ∧ (nb : Int) ≤ 9223372036854775807 ∧ (nc : Int) ≤ 9223372036854775807) (h2 : na ≤ ca ∧ nb ≤ cb ∧ nc ≤ cc) (h3 : min (na : Int) 50 = ma ∧ min (nb : Int) 50 = mb ∧ min (nc : Int) 50 = mc) (h4 : ma ≤ ca ∧ mb ≤ cb ∧ mc ≤ cc)
    (hS : ∀ W, Calls Tryd.prog 8 #[] W fun e w' => e = .returned (.bool true) ∧ Below W.heap.size W w')
    (hx : ∀ W, Below w.heap.size w W → Calls Tryd.prog 9 #[.slice A ma ca, .slice B mb cb] W fun e w' => e = .returned (.bool x) ∧ w' = W)
    (hy : ∀ W, Below w.heap.size w W → Calls Tryd.prog 9 #[.slice B mb cb, .slice C mc cc] W fun e w' => e = .returned (.bool y) ∧ w' = W)
    (hz : ∀ W, Below w.heap.size w W → Calls Tryd.prog 9 #[.slice A ma ca, .slice C mc cc] W fun e w' => e = .returned (.bool z) ∧ w' = W)
    (hb : ∀ W, Below w.heap.size w W → Calls Tryd.prog 9 #[.slice B mb cb, .slice A ma ca] W fun e w' => e = .returned (.bool bo) ∧ w' = W)
    (ha : ∀ W, Below w.heap.size w W → Calls Tryd.prog 9 #[.slice A ma ca, .slice A ma ca] W fun e w' => e = .returned (.bool true) ∧ w' = W)
    (hn : ∀ W, Below w.heap.size w W → Calls Tryd.prog 9 #[.slice none 0 0, .slice A ma ca] W fun e w' => e = .returned (.bool true) ∧ w' = W)
    (hs : ∀ W, Below w.heap.size w W → Calls Tryd.prog 10 #[.slice A ma ca, .slice B mb cb] W fun e w' => e = .returned (.bool sm) ∧ ∃ n, w' = W.drewN n)
    (hT : x = true → y = true → z = true) (hE : (x && bo) = sm) :
    Calls Tryd.prog 3 #[.slice A na ca, .slice B nb cb, .slice C nc cc] w fun e w' => e = .returned (.bool true) ∧ Below w.heap.size w w' := by
  obtain ⟨h1a, h1b, h1c⟩ := h1
  obtain ⟨h3a, h3b, h3c⟩ := h3
  obtain ⟨h4a, h4b, h4c⟩ := h4
  obtain ⟨h2a, h2b, h2c⟩ := h2
  have HS := Lib.hid hS
  have HX := Lib.hid hx
  have HY := Lib.hid hy
  have HZ := Lib.hid hz
  have HB := Lib.hid hb
  have HA := Lib.hid ha
  have HN := Lib.hid hn
  have HM := Lib.hid hs
  have HT := Lib.hid hT
  clear hS hx hy hz hb ha hn hs hT
  subst hE
  go_enter Tryd.func3, Tryd.ntmps3
  go_wp2_with fail
  refine (HS.out _).mono ?_
  rintro e w1 ⟨rfl, b⟩
  go_wp2_with fail
  refine (HX.out _ b).mono ?_
  rintro e w2 ⟨rfl, rfl⟩
  go_wp2_with fail
  refine (HY.out _ b).mono ?_
  rintro e w2 ⟨rfl, rfl⟩
  go_wp2_with fail
  refine (HZ.out _ b).mono ?_
  rintro e w2 ⟨rfl, rfl⟩
  go_wp2_with fail
  refine (HB.out _ b).mono ?_
  rintro e w2 ⟨rfl, rfl⟩
  go_wp2_with fail
  refine (HA.out _ b).mono ?_
  rintro e w2 ⟨rfl, rfl⟩
  go_wp2_with fail
  refine (HN.out _ b).mono ?_
  rintro e w2 ⟨rfl, rfl⟩
  cases x
  · go_wp2_with fail
    refine (HM.out _ b).mono ?_
    rintro e w2 ⟨rfl, n, rfl⟩
    go_wp2_with fail
    go_ret
    exact ⟨rfl, below_drewN b n⟩
  · cases y
    · go_wp2_with fail
      refine (HM.out _ b).mono ?_
      rintro e w2 ⟨rfl, n, rfl⟩
      go_wp2_with fail
      go_ret
      exact ⟨by cases bo <;> rfl, below_drewN b n⟩
    · obtain rfl := HT.out rfl rfl
      go_wp2_with fail
      refine (HM.out _ b).mono ?_
      rintro e w2 ⟨rfl, n, rfl⟩
      go_wp2_with fail
      go_ret
      exact ⟨by cases bo <;> rfl, below_drewN b n⟩

theorem chain_law (A B C : Option Addr) (na nb nc ca cb cc : Nat) (la lb lc : List ByteArray) (w : World) (hra : Rd (· < w.heap.size) w 1 A na (strs la)) (hrb : Rd (· < w.heap.size) w 1 B nb (strs lb)) (hrc : Rd (· < w.heap.size) w 1 C nc (strs lc))
    (ha : la.length = na) (hb : lb.length = nb) (hc : lc.length = nc) (ha2 : na ≤ ca) (hb2 : nb ≤ cb) (hc2 : nc ≤ cc) (ha3 : ca ≤ maxLen) (hb3 : cb ≤ maxLen) (hc3 : cc ≤ maxLen) :
    Calls Tryd.prog 3 #[.slice A na ca, .slice B nb cb, .slice C nc cc] w fun e w' => e = .returned (.bool true) ∧ Below w.heap.size w w' := by
  obtain ⟨ma, ea, ka, ra⟩ := cut_ex (k := 50) hra ha
  obtain ⟨mb, eb, kb, rb⟩ := cut_ex (k := 50) hrb hb
  obtain ⟨mc, ec, kc, rc⟩ := cut_ex (k := 50) hrc hc
  unfold maxLen at ha3 hb3 hc3
  generalize la.take 50 = a at *
  generalize lb.take 50 = b at *
  generalize lc.take 50 = c at *
  have hml : ∀ k, k ≤ 50 → k ≤ maxLen := fun k h => by unfold maxLen; omega
  refine chain_core A B C na nb nc ca cb cc ma mb mc (wthB a b) (wthB b c) (wthB a c) (wthB b a) (sameB a b) w ⟨by omega, by omega, by omega⟩ ⟨ha2, hb2, hc2⟩ ⟨by omega, by omega, by omega⟩ ⟨by omega, by omega, by omega⟩ (fun W => shown_any W)
    (fun W h => ?_) (fun W h => ?_) (fun W h => ?_) (fun W h => ?_) (fun W h => ?_) (fun W h => ?_) (fun W h => ?_) (fun h1 h2 => wthB_trans h1 h2) (wthB_both a b)
  · rw [← ka] at ra ⊢; rw [← kb] at rb ⊢
    exact within_any a b A B ca cb W (rd_on ra h) (rd_on rb h) (hml _ (by omega))
  · rw [← kb] at rb ⊢; rw [← kc] at rc ⊢
    exact within_any b c B C cb cc W (rd_on rb h) (rd_on rc h) (hml _ (by omega))
  · rw [← ka] at ra ⊢; rw [← kc] at rc ⊢
    exact within_any a c A C ca cc W (rd_on ra h) (rd_on rc h) (hml _ (by omega))
  · rw [← ka] at ra ⊢; rw [← kb] at rb ⊢
    exact within_any b a B A cb ca W (rd_on rb h) (rd_on ra h) (hml _ (by omega))
  · rw [← ka] at ra ⊢
    have := within_any a a A A ca ca W (rd_on ra h) (rd_on ra h) (hml _ (by omega))
    rwa [wthB_refl] at this
  · rw [← ka] at ra ⊢
    exact within_any [] a none A 0 ca W (Rd.nil _ _ _ _) (rd_on ra h) (hml _ (by simp))
  · rw [← ka] at ra ⊢; rw [← kb] at rb ⊢
    exact rsame_any a b A B ca cb W (rd_on ra h) (rd_on rb h) (hml _ (by omega)) (hml _ (by omega))
end Go.Proofs.YtliioeihbbhiiaaDoor

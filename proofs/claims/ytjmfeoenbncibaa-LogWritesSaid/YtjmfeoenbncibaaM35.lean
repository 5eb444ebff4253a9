/- Texts of this proof, joined: Md Me Mf. They hold under no condition beyond what each theorem states. -/
import Derived.Test.YtjmfeoenbncibaaM34
namespace Go.Proofs.Ytjmfeoenbncibaa
open Go.RowKit Go.Nau Go.Shelf
attribute [local go_sem] Oper.semAt_some

set_option maxRecDepth 100000 in
theorem pick15_any (c : Int) (n : Nat) (hc : -9223372036854775808 ≤ c ∧ c < 9223372036854775808) (hn : 0 < n) (hn2 : n ≤ 1000) (w : World) :
    Calls Try.prog 35 #[.int .i64 c, .int .i64 (n : Int)] w fun e w' => e = .returned (.int .i64 (pk c n : Int)) ∧ w' = w := by
  have hp : ∀ d : Int, 0 ≤ d → d < 9223372036854775808 → 0 ≤ d % (n : Int) ∧ d % (n : Int) < n := fun d _ _ => ⟨Int.emod_nonneg _ (by omega), Int.emod_lt_of_pos _ (by omega)⟩
  by_cases h : c < 0
  · have e : (pk c n : Int) = (-(c + 1)) % (n : Int) := by
      unfold pk
      rw [if_pos h]
      have := (hp (-(c + 1)) (by omega) (by omega)).1
      omega
    rw [e]
    obtain ⟨h1, h2⟩ := hp (-(c + 1)) (by omega) (by omega)
    have e2 : Int.tmod (-(c + 1)) (n : Int) = (-(c + 1)) % (n : Int) := Int.tmod_eq_emod_of_nonneg (by omega)
    go_enter Try.func35, Try.ntmps35
    go_wp2
    go_ret
    exact ⟨rfl, rfl⟩
  · have e : (pk c n : Int) = c % (n : Int) := by
      unfold pk
      rw [if_neg h]
      have := (hp c (by omega) (by omega)).1
      omega
    rw [e]
    obtain ⟨h1, h2⟩ := hp c (by omega) (by omega)
    have e2 : Int.tmod c (n : Int) = c % (n : Int) := Int.tmod_eq_emod_of_nonneg (by omega)
    go_enter Try.func35, Try.ntmps35
    go_wp2
    go_ret
    exact ⟨rfl, rfl⟩

theorem cut_any (A : Option Addr) (n c m : Nat) (hn : (n : Int) ≤ 9223372036854775807) (hnc : n ≤ c) (hm : m = min n 20) (w : World) :
    Calls Try.prog 24 #[.slice A n c] w fun e w' => e = .returned (.slice A m c) ∧ w = w' := by
  have h1 : min (n : Int) 20 = m := by omega
  have h2 : m ≤ c := by omega
  have h3 : (m : Int) ≤ n := by omega
  have h4 : (n : Int) ≤ c := by omega
  clear hm hnc
  go_enter Try.func24, Try.ntmps24
  go_wp2
  go_ret
  exact ⟨rfl, rfl⟩

def SIRel (w0 : World) (n : Nat) (k : Nat) (i : Value) (wr : World) : Prop :=
  ∃ q nq : Nat, k = n - q ∧ i = .int .i64 q ∧ q ≤ n ∧ wr = w0.drewN nq

set_option maxHeartbeats 1000000 in
set_option maxRecDepth 100000 in
theorem sints_any (T T' : Nat → Prop) (A A' : Option Addr) (n c c' : Nat) (xs : List Value) (hxs : ∀ x ∈ xs, ∃ i, x = .int .i64 i) (w : World) (hr : Rd T w 1 A n xs) (hr' : Rd T' w 1 A' n xs) (hn : n ≤ 1073741824) :
    Calls Try.prog 25 #[.slice A n c, .slice A' n c'] w fun e w' => e = .returned (.bool true) ∧ ∃ q, w' = w.drewN q := by
  have hni : (n : Int) ≤ 1073741824 := by omega
  have hxl : xs.length = n := by have := hr.1; simpa using this
  have HR := Lib.hid hr
  have HR' := Lib.hid hr'
  have HXS := Lib.hid hxs
  clear hr hr' hxs
  go_enter Try.func25, Try.ntmps25
  go_wp2_with fail
  go_loopg [5] n (SIRel w n)
  case atStart => exact ⟨0, 0, rfl, rfl, Nat.zero_le _, rfl⟩
  case round =>
    obtain ⟨q, nq, rfl, rfl, hq, rfl⟩ := hrel
    by_cases hlt : q < n
    · have hlti : (q : Int) < (n : Int) := by omega
      obtain ⟨ad, rfl, _, hcell⟩ := HR.out.2 (by omega)
      obtain ⟨ad', rfl, _, hcell'⟩ := HR'.out.2 (by omega)
      obtain ⟨x, hx⟩ : ∃ x, xs[q]? = some x := ⟨_, List.getElem?_eq_getElem (by omega)⟩
      have e0 := hcell _ _ hx
      have e0' := hcell' _ _ hx
      obtain ⟨i, rfl⟩ := HXS.out x (List.mem_of_getElem? hx)
      clear hcell hcell' hx
      go_wp2_with fail
      go_quiet (fail)
      rename_i nq2
      go_wp2_with fail
      go_roundg (n - (q + 1))
      case measure => omega
      case rel => exact ⟨q + 1, _, rfl, by simp, by omega, rfl⟩
    · obtain rfl : q = n := by omega
      go_wp2_with fail
      go_ret
      exact ⟨rfl, _, rfl⟩
end Go.Proofs.Ytjmfeoenbncibaa
namespace Go.Proofs.Ytjmfeoenbncibaa
open Go.RowKit Go.Nau Go.Shelf
attribute [local go_sem] Oper.semAt_some

abbrev ptrV (g : Nat) : Value := .pointer (some ⟨g, 0, none⟩)
/-- The contracts of the calls of LogGoes: I holds ahead of a round, J ahead of its Write. -/
structure GoH (w : World) (I J : Nat → Nat → Nat → Nat → World → Nat → Prop) (T : Nat → Option Addr → Nat → Nat → Prop) : Prop where
  new : ∀ W, Below w.heap.size w W → Calls Try.prog 10 #[.int .i64 256] W fun e w2 => ∃ c, e = .returned (.tuple #[ptrV c, .int .i64 0]) ∧ Calls Try.prog 10 #[.int .i64 256] w2 fun e w3 => ∃ d, e = .returned (.tuple #[ptrV d, .int .i64 0]) ∧
    Calls Try.prog 11 #[ptrV c, .int .i64 16, .int .u64 1, .int .i64 2] w3 fun e w4 => ∃ ga, e = .returned (.tuple #[ptrV ga, .int .i64 0]) ∧ Calls Try.prog 11 #[ptrV d, .int .i64 16, .int .u64 1, .int .i64 2] w4 fun e w5 => ∃ gb, e = .returned (.tuple #[ptrV gb, .int .i64 0]) ∧ I c d ga 0 w5 gb
  below : ∀ c d ga q W gb, I c d ga q W gb → Below w.heap.size w W
  belowJ : ∀ c d ga q W gb, J c d ga q W gb → Below w.heap.size w W
  scan : ∀ c d ga q W gb, I c d ga q W gb → Calls Try.prog 12 #[ptrV d, .int .i64 16, .int .u64 1, .int .i64 2] W fun e w1 => ∃ (A1 : Option Addr) (k c1 g : Nat) (P S X : Int), e = .returned (.tuple #[.slice A1 k c1, ptrV g, .int .i64 0]) ∧ ¬ ((q : Int) < (k : Int)) ∧
    (Calls Try.prog 13 #[ptrV g] w1 fun e w' => e = .returned (.int .i64 P) ∧ w1 = w') ∧ (Calls Try.prog 13 #[ptrV gb] w1 fun e w' => e = .returned (.int .i64 P) ∧ w1 = w') ∧
    (Calls Try.prog 14 #[ptrV g] w1 fun e w' => e = .returned (.int .u64 S) ∧ w1 = w') ∧ (Calls Try.prog 14 #[ptrV gb] w1 fun e w' => e = .returned (.int .u64 S) ∧ w1 = w') ∧
    (Calls Try.prog 15 #[ptrV gb] w1 fun e w' => e = .returned (.int .i64 X) ∧ w1 = w') ∧ ((X = 0 ∧ I c d ga q w1 g) ∨ ((X != 0) = true ∧
      Calls Try.prog 19 #[ptrV g, .int .i64 X] w1 fun e w2 => (∃ r, e = .returned (.int .i64 r)) ∧ I c d ga q w2 g))
  next : ∀ c d ga q W gb, q < 6 → I c d ga q W gb → ∃ X : Int, (Calls Try.prog 15 #[ptrV ga] W fun e w' => e = .returned (.int .i64 X) ∧ W = w') ∧
    ((X = 0 ∧ Calls Try.prog 19 #[ptrV ga, .int .i64 (3 + (q : Int))] W fun e w1 => (∃ r, e = .returned (.int .i64 r)) ∧ (Calls Try.prog 15 #[ptrV gb] w1 fun e w' => e = .returned (.int .i64 0) ∧ w1 = w') ∧
      Calls Try.prog 19 #[ptrV gb, .int .i64 (3 + (q : Int))] w1 fun e w2 => (∃ r, e = .returned (.int .i64 r)) ∧ J c d ga q w2 gb) ∨
     ((X == 0) = false ∧ (Calls Try.prog 15 #[ptrV gb] W fun e w' => e = .returned (.int .i64 X) ∧ W = w') ∧ J c d ga q W gb))
  room : ∀ c d ga q W gb, J c d ga q W gb → ∃ R : Nat, Calls Try.prog 18 #[ptrV ga] W fun e w' => e = .returned (.int .i64 R) ∧ W = w'
  write : ∀ c d ga q W gb, J c d ga q W gb → ∀ A m1 cr m2 sy, T q A m1 cr → m2 ≤ m1 → Calls Try.prog 17 #[ptrV ga, .int .u64 2, .slice A m2 cr, .bool false, .bool sy] W fun e w1 => ∃ (A1 : Option Addr) (n1 c1 : Nat) (E : Int), e = .returned (.tuple #[.slice A1 n1 c1, .int .i64 E]) ∧
    Calls Try.prog 17 #[ptrV gb, .int .u64 2, .slice A m2 cr, .bool false, .bool sy] w1 fun e w2 => ∃ (A2 : Option Addr) (c2 : Nat), e = .returned (.tuple #[.slice A2 n1 c2, .int .i64 E]) ∧
      Calls Try.prog 25 #[.slice A1 n1 c1, .slice A2 n1 c2] w2 fun e w3 => e = .returned (.bool true) ∧ I c d ga (q + 1) w3 gb
  end_ : ∀ c d ga q W gb, I c d ga q W gb → Calls Try.prog 12 #[ptrV c, .int .i64 16, .int .u64 1, .int .i64 2] W fun e w1 => ∃ (A1 : Option Addr) (k c1 g : Nat), e = .returned (.tuple #[.slice A1 k c1, ptrV g, .int .i64 0]) ∧
    Calls Try.prog 12 #[ptrV d, .int .i64 16, .int .u64 1, .int .i64 2] w1 fun e w2 => ∃ (A2 : Option Addr) (c2 g2 : Nat), e = .returned (.tuple #[.slice A2 k c2, ptrV g2, .int .i64 0]) ∧
      Calls Try.prog 23 #[.slice A1 k c1, .slice A2 k c2] w2 fun e w3 => e = .returned (.bool true) ∧ Calls Try.prog 27 #[ptrV c] w3 fun e w4 => ∃ v, e = .returned v ∧
        Calls Try.prog 27 #[ptrV d] w4 fun e w5 => ∃ v2, e = .returned v2 ∧ Calls Try.prog 26 #[v, v2] w5 fun e w6 => e = .returned (.bool true) ∧ Below w.heap.size w w6

def GoRel (I : Nat → Nat → Nat → Nat → World → Nat → Prop) (c d ga M : Nat) (k : Nat) (v12 v14 _ _ _ _ _ _ _ _ : Value) (wr : World) : Prop :=
  ∃ q gb : Nat, k = M - q ∧ v12 = ptrV gb ∧ v14 = .int .i64 q ∧ q ≤ M ∧ I c d ga q wr gb

set_option maxHeartbeats 4000000 in
set_option maxRecDepth 100000 in
theorem lgoes_core (A : Option Addr) (n c0 M : Nat) (after : Int) (w : World) (I J : Nat → Nat → Nat → Nat → World → Nat → Prop) (T : Nat → Option Addr → Nat → Nat → Prop) (hH : GoH w I J T) (hn : (n : Int) ≤ 9223372036854775807) (hM : M = min n 6)
    (hE : ∀ q, q < n → ∃ ad, A = some ad ∧ ∀ W, Below w.heap.size w W → ∃ (Ar : Option Addr) (nr cr m1 : Nat), W.cell? (ad.add q) = some (.slice Ar nr cr) ∧ (Calls Try.prog 24 #[.slice Ar nr cr] W fun e w' => e = .returned (.slice Ar m1 cr) ∧ W = w') ∧ m1 ≤ cr ∧ m1 ≤ 20 ∧ T q Ar m1 cr) :
    Calls Try.prog 6 #[.slice A n c0, .int .i64 after] w fun e w' => e = .returned (.bool true) ∧ Below w.heap.size w w' := by
  have HH := Lib.hid hH
  have HE := Lib.hid hE
  have hS := Lib.hid (shown_any w)
  clear hH hE
  go_enter Try.func6, Try.ntmps6
  go_wp2_with fail
  refine hS.out.mono ?_
  rintro e w1 ⟨rfl, hb1⟩
  have hN := HH.out.new w1 hb1
  have HN := Lib.hid hN
  clear hN hb1
  go_wp2_with fail
  refine HN.out.mono ?_
  rintro e w2 ⟨c, rfl, hN⟩
  clear HN
  have HN := Lib.hid hN
  clear hN
  go_wp2_with fail
  refine HN.out.mono ?_
  rintro e w3 ⟨d, rfl, hN⟩
  clear HN
  have HN := Lib.hid hN
  clear hN
  go_wp2_with fail
  refine HN.out.mono ?_
  rintro e w4 ⟨ga, rfl, hN⟩
  clear HN
  have HN := Lib.hid hN
  clear hN
  go_wp2_with fail
  refine HN.out.mono ?_
  rintro e w5 ⟨gb, rfl, hN⟩
  clear HN
  have HN := Lib.hid hN
  clear hN
  go_wp2_with fail
  go_loopg [12, 14, 15, 16, 17, 18, 19, 20, 21, 22] M (GoRel I c d ga M)
  case atStart => exact ⟨0, gb, rfl, rfl, rfl, Nat.zero_le _, HN.out⟩
  case round =>
    obtain ⟨q, gb2, rfl, rfl, rfl, hq, hI⟩ := hrel
    clear HN
    by_cases hlt : q < M
    · obtain ⟨ad, rfl, hcell⟩ := HE.out q (by omega)
      have HC := Lib.hid hcell
      clear hcell
      have g1 : (q : Int) < n := by omega
      have g2 : (q : Int) < 6 := by omega
      by_cases ha : (q : Int) = after
      case' pos =>
        subst ha
        have hs := HH.out.scan _ _ _ _ _ _ hI
        have HSC := Lib.hid hs
        clear hs hI
        go_wp2_with fail
        refine HSC.out.mono ?_
        rintro e w6 ⟨A1, k, c1, g, P, S, X, rfl, hk, p1, p2, s1, s2, x1, hx⟩
        have P1 := Lib.hid p1
        have P2 := Lib.hid p2
        have S1 := Lib.hid s1
        have S2 := Lib.hid s2
        have X1 := Lib.hid x1
        clear p1 p2 s1 s2 x1
        go_wp2_with fail
        refine P1.out.mono ?_
        rintro e w7 ⟨rfl, rfl⟩
        go_wp2_with fail
        refine P2.out.mono ?_
        rintro e w7 ⟨rfl, rfl⟩
        go_wp2_with fail
        refine S1.out.mono ?_
        rintro e w7 ⟨rfl, rfl⟩
        go_wp2_with fail
        refine S2.out.mono ?_
        rintro e w7 ⟨rfl, rfl⟩
        rcases hx with ⟨rfl, hI⟩ | ⟨hx0, hs⟩
      case' inl =>
        go_wp2_with fail
        refine X1.out.mono ?_
        rintro e w7 ⟨rfl, rfl⟩
      case' inr =>
        have HSN := Lib.hid hs
        clear hs
        go_wp2_with fail
        refine X1.out.mono ?_
        rintro e w7 ⟨rfl, rfl⟩
        go_wp2_with fail
        refine X1.out.mono ?_
        rintro e w7 ⟨rfl, rfl⟩
        go_wp2_with fail
        refine HSN.out.mono ?_
        rintro e w7 ⟨⟨r, rfl⟩, hI⟩
      case' neg =>
        have ha' : ((q : Int) == after) = false := by simp; exact ha
        clear ha
      all_goals
        obtain ⟨X, hX, hcase⟩ := HH.out.next _ _ _ _ _ _ (by omega) hI
        have HX := Lib.hid hX
        clear hX hI
        rcases hcase with ⟨rfl, hs⟩ | ⟨hx0, hnb, hJ⟩
        case' inl =>
          have HS := Lib.hid hs
          clear hs
          go_wp2_with fail
          refine HX.out.mono ?_
          rintro e wa ⟨rfl, rfl⟩
          go_wp2_with fail
          refine HS.out.mono ?_
          rintro e wb ⟨⟨r, rfl⟩, hnb, hs⟩
          clear HS
          have HS := Lib.hid hs
          have HNB := Lib.hid hnb
          clear hs hnb
          go_wp2_with fail
          refine HNB.out.mono ?_
          rintro e wa ⟨rfl, rfl⟩
          go_wp2_with fail
          refine HS.out.mono ?_
          rintro e wc ⟨⟨r, rfl⟩, hJ⟩
        case' inr =>
          have HNB := Lib.hid hnb
          clear hnb
          go_wp2_with fail
          refine HX.out.mono ?_
          rintro e wa ⟨rfl, rfl⟩
          go_wp2_with fail
          refine HNB.out.mono ?_
          rintro e wa ⟨rfl, rfl⟩
        all_goals
          obtain ⟨Ar, nr, cr, m1, hcl, hcut, hmc, hm20, hT⟩ := HC.out _ (HH.out.belowJ _ _ _ _ _ _ hJ)
          have HCUT := Lib.hid hcut
          have HT := Lib.hid hT
          have HJ := Lib.hid hJ
          clear hcut hT hJ
          go_wp2_with fail
          refine HCUT.out.mono ?_
          rintro e wz ⟨rfl, rfl⟩
          obtain ⟨R, hR⟩ := HH.out.room _ _ _ _ _ _ HJ.out
          obtain ⟨m2, hm2⟩ : ∃ m2 : Nat, min (m1 : Int) (R : Int) = m2 := ⟨min m1 R, by omega⟩
          have hm21 : m2 ≤ m1 := by omega
          have hm2c : m2 ≤ cr := by omega
          have HR := Lib.hid hR
          clear hR
          go_wp2_with fail
          refine HR.out.mono ?_
          rintro e wz ⟨rfl, rfl⟩
          have hw := fun sy => HH.out.write _ _ _ _ _ _ HJ.out Ar m1 cr m2 sy HT.out hm21
          have HW := Lib.hid hw
          clear hw
          go_wp2_with fail
          refine (HW.out _).mono ?_
          rintro e w11 ⟨A1, n1, c1, E, rfl, hw⟩
          have HW2 := Lib.hid hw
          clear hw
          go_wp2_with fail
          refine HW2.out.mono ?_
          rintro e w12 ⟨A2, c2, rfl, hw⟩
          have HW3 := Lib.hid hw
          clear hw
          go_wp2_with fail
          refine HW3.out.mono ?_
          rintro e w13 ⟨rfl, hI2⟩
          go_wp2_with fail
          go_roundg (M - (q + 1))
          case measure => omega
          case rel => exact ⟨q + 1, _, rfl, rfl, by simp, by omega, hI2⟩
    · obtain rfl : q = M := by omega
      have hE := HH.out.end_ _ _ _ _ _ _ hI
      have HX := Lib.hid hE
      clear hE hI
      have hgo : ((q : Int) < n ∧ ¬ (q : Int) < 6) ∨ ¬ (q : Int) < n := by omega
      rcases hgo with ⟨g1, g2⟩ | g1
      all_goals
        go_wp2_with fail
        refine HX.out.mono ?_
        rintro e w6 ⟨A1, k, c1, g, rfl, hE⟩
        have HX6 := Lib.hid hE
        clear hE
        go_wp2_with fail
        refine HX6.out.mono ?_
        rintro e w7 ⟨A2, c2, g7, rfl, hE⟩
        have HX7 := Lib.hid hE
        clear hE
        go_wp2_with fail
        refine HX7.out.mono ?_
        rintro e w8 ⟨rfl, hE⟩
        have HX8 := Lib.hid hE
        clear hE
        go_wp2_with fail
        refine HX8.out.mono ?_
        rintro e w9 ⟨v9, rfl, hE⟩
        have HX9 := Lib.hid hE
        clear hE
        go_wp2_with fail
        refine HX9.out.mono ?_
        rintro e w10 ⟨v10, rfl, hE⟩
        have HX10 := Lib.hid hE
        clear hE
        go_wp2_with fail
        refine HX10.out.mono ?_
        rintro e w11 ⟨rfl, hb⟩
        go_wp2_with fail
        go_ret
        exact ⟨rfl, hb⟩
end Go.Proofs.Ytjmfeoenbncibaa
namespace Go.Proofs.Ytjmfeoenbncibaa
open Go.RowKit Go.Nau Go.Shelf

/-- Two disks of one content, and a log on each that stands at one place. -/
structure LgSt (w W : World) (F1 F2 : Nat → Prop) (c d ga gb : Nat) (s : DS) (l : LS) : Prop where
  b : Below w.heap.size w W
  f1 : ∀ k, F1 k → w.heap.size ≤ k ∧ k < W.heap.size
  f2 : ∀ k, F2 k → w.heap.size ≤ k ∧ k < W.heap.size
  f12 : ∀ k, F1 k → ¬ F2 k
  a0 : w.heap.size ≤ ga ∧ ga < W.heap.size
  b0 : w.heap.size ≤ gb ∧ gb < W.heap.size
  a1 : ¬ F1 ga
  a2 : ¬ F2 ga
  b1 : ¬ F1 gb
  b2 : ¬ F2 gb
  ab : ga ≠ gb
  d1 : Dsk W F1 c s
  d2 : Dsk W F2 d s
  la : Lg W ga c l
  lb : Lg W gb d l
theorem LgSt.below {w W W' : World} {F1 F2 : Nat → Prop} {c d ga gb : Nat} {s : DS} {l : LS} (h : LgSt w W F1 F2 c d ga gb s l) (hb : Below W.heap.size W W') : LgSt w W' F1 F2 c d ga gb s l := by
  have hs := hb.size
  have hf : Fr (fun _ => False) W W' := Fr.new hb _
  exact ⟨h.b.trans (hb.mono h.b.size), fun k hk => by have := h.f1 k hk; omega, fun k hk => by have := h.f2 k hk; omega, h.f12, by have := h.a0; omega, by have := h.b0; omega, h.a1, h.a2, h.b1, h.b2, h.ab, h.d1.kept hf (fun _ _ => id), h.d2.kept hf (fun _ _ => id), hf.get id h.la, hf.get id h.lb⟩

/-- What may be said of a disk and its log behind q rounds. -/
structure LgP (q B : Nat) (s : DS) (l : LS) (k : Nat) : Prop where
  inv : DInv s
  len : s.now.length = 256
  ok : LOk s.now.length l
  cut : NoCut s
  ops : s.ops ≤ 18 * q
  loose : s.loose.length ≤ 18 * q
  chain : Chain s.now shL k l
  seq : SeqLt l.seq s.now
  kq : k ≤ q
  pos : l.pos / 16 ≤ B
  next : l.next ≤ B

theorem LgP.more {q B : Nat} {s : DS} {l : LS} {k : Nat} (h : LgP q B s l k) {q' B' : Nat} (hq : q ≤ q') (hB : B ≤ B') : LgP q' B' s l k :=
  ⟨h.inv, h.len, h.ok, h.cut, by have := h.ops; omega, by have := h.loose; omega, h.chain, h.seq, by have := h.kq; omega, by have := h.pos; omega, by have := h.next; omega⟩
theorem goN_seg {l : LS} {k nx B : Nat} (hk : k ≤ 15 - l.pos % 16) (hp : l.pos / 16 ≤ B) (hn : nx ≤ B) : (goN l k nx).pos / 16 ≤ B ∧ (goN l k nx).next ≤ B := by
  unfold goN
  split
  · exact ⟨by dsimp only; omega, by dsimp only; omega⟩
  · exact ⟨by dsimp only; omega, by dsimp only; omega⟩
/-- Behind a Write. -/
theorem LgP.write {q B : Nat} {s : DS} {l : LS} {k : Nat} (h : LgP q B s l k) {cp : Nat} (hcp : cp < 18446744073709551616) {its : List (Ent × ByteArray)} (hwf : ∀ x ∈ its, x.1.wf) (en sy : Bool) :
    ∃ k', LgP (q + 1) B (lwrite l s cp its en sy).s (lwrite l s cp its en sy).l k' := by
  obtain ⟨i1, i2, i3, i4, i5⟩ := lwrite_inv h.inv h.ok cp its en sy
  obtain ⟨n1, n2⟩ := nocut_lwrite h.cut h.ok cp its en sy
  rcases n2 with he | ⟨e1, e2, _⟩
  · obtain ⟨c1, c2, _⟩ := chain_write h.chain h.seq h.ok hcp hwf he
    obtain ⟨_, w2, _, _, _, w6, _⟩ := lwrite_ok he
    have hg := goN_seg w2 h.pos h.next
    rw [← w6] at hg
    refine ⟨k + 1, i1, i2.trans h.len, ?_, n1, by have := h.ops; omega, by have := h.loose; omega, c1, c2, by have := h.kq; omega, hg.1, hg.2⟩
    rw [i2]
    exact i3
  · rw [e1, e2]
    exact ⟨k, h.more (by omega) (Nat.le_refl _)⟩
/-- Behind SetNext. -/
theorem LgP.setNext {q : Nat} {s : DS} {l : LS} {k B n : Nat} (h : LgP q B s l k) (hn : B < n) (h15 : n < 16) : LgP q n s (snL s.now.length l n) k ∧ (snL s.now.length l n) = { l with next := n } := by
  have hsb : segB s.now.length ((n : Nat) : Int) = true := by rw [segB_iff, h.len]; omega
  have he : snL s.now.length l n = { l with next := n } := by unfold snL; rw [if_pos hsb]; simp
  have hp := h.pos
  rw [he]
  refine ⟨⟨h.inv, h.len, he ▸ snL_ok h.ok n, h.cut, h.ops, h.loose, ⟨h.chain.there, h.chain.pos, h.chain.seq, fun h0 => ?_, fun _ => ?_⟩, h.seq, h.kq, ?_, Nat.le_refl _⟩, rfl⟩
  · have h0' : n = 0 := h0
    omega
  · show l.pos / 16 < n
    omega
  · show l.pos / 16 ≤ n
    omega

def GoI (w : World) (B : Nat) (c d ga q : Nat) (W : World) (gb : Nat) : Prop :=
  ∃ F1 F2 s l k, LgSt w W F1 F2 c d ga gb s l ∧ LgP q (B + q) s l k

theorem LgP.scan {q B : Nat} {s : DS} {l : LS} {k : Nat} (h : LgP q B s l k) {w : World} {F : Nat → Prop} {d : Nat} (hd : Dsk w F d s) (hF : ∀ k, F k → k < w.heap.size) :
    Calls Try.prog 12 #[.pointer (some ⟨d, 0, none⟩), .int .i64 16, .int .u64 1, .int .i64 2] w fun e w1 => ∃ v, e = .returned (.tuple #[v, ptrV w.heap.size, .int .i64 0]) ∧ FRow w1 (w.heap.size + 1) v (fndL s.now shL k) ∧ Lg w1 w.heap.size d (stL s.now shL k) ∧ Below w.heap.size w w1 := by
  refine (scan_any hd hF h.inv (by rw [h.len]) 16 1 2 (by decide) (by decide) (by decide)).mono ?_
  rintro e w1 hb
  unfold ScPost at hb
  rw [h.len] at hb
  rcases hb with ⟨hb, _⟩ | ⟨_, N, v, hN, rfl, hfr, hlg, hb1⟩
  · exact absurd hb (by decide)
  · have hNk : N = k := scanN_eq hN (chain_scan h.chain h.seq)
    subst hNk
    exact ⟨v, rfl, hfr, hlg, hb1⟩
theorem LgP.found {q B : Nat} {s : DS} {l : LS} {k : Nat} (h : LgP q B s l k) : ScanN s.now shL k := chain_scan h.chain h.seq
theorem LgP.state {q B : Nat} {s : DS} {l : LS} {k : Nat} (h : LgP q B s l k) (h0 : l.next = 0) : stL s.now shL k = l := by
  have h1 := h.chain.pos
  have h2 := h.chain.seq
  have h3 := h.chain.nxt h0
  generalize stL s.now shL k = x at *
  obtain ⟨a, b, c⟩ := x
  obtain ⟨a', b', c'⟩ := l
  dsimp only at h0 h1 h2 h3
  subst h0 h1 h2 h3
  rfl

theorem itC_take (l : List (Ent × ByteArray)) (m : Nat) : (itC l).take (m * 5) = itC (l.take m) := by
  induction l generalizing m with
  | nil => simp [itC]
  | cons x l ih =>
    cases m with
    | zero => simp [itC]
    | succ m =>
      show (itL x ++ itC l).take _ = itL x ++ itC (l.take m)
      rw [List.take_append, itL_length, show (m + 1) * 5 - 5 = m * 5 by omega, ih m, List.take_of_length_le (by rw [itL_length]; omega)]

/-- Items in memory. -/
def ItT (w : World) (A : Option Addr) (m c : Nat) : Prop := ∃ its : List (Ent × ByteArray), its.length = m ∧ Rd (· < w.heap.size) w 5 A m (itC its) ∧ (∀ x ∈ its, x.1.wf) ∧ (∀ x ∈ its, x.2.size ≤ maxLen) ∧ m ≤ c
theorem ItT.take {w : World} {A : Option Addr} {m c n : Nat} (h : ItT w A m c) (hn : n ≤ m) : ItT w A n c := by
  obtain ⟨its, h1, h2, h3, h4, h5⟩ := h
  refine ⟨its.take n, by rw [List.length_take]; omega, ?_, fun x hx => h3 x (List.mem_of_mem_take hx), fun x hx => h4 x (List.mem_of_mem_take hx), by omega⟩
  have := h2.take hn
  rwa [itC_take] at this
end Go.Proofs.Ytjmfeoenbncibaa

/- Paths: the law PathUps walked: over the given program. -/
import Derived.Test.YtliioeihbbhiiaaDoorHr
namespace Go.Proofs.YtliioeihbbhiiaaDoor
open Go.RowKit Go.Nau Go.Shelf
attribute [local go_sem] Oper.semAt_some

theorem wpList_make_run {P : Program} {w : World} {ops : Array Oper} {rest : List Oper} {o : Oper} {a : Act} {Q : Exit → Act → World → Prop} (hgd : o.guard = none) (l c : Operand) (t : TypeId)
    (ho : o.op = .makeSlice t l c) (u1 u2 : Value) (hl : a.eval l = u1) (hc : a.eval c = u2) (v' : Value) (w' : World)
    (hrun : (Instr.makeSlice t u1 u2).run P w = .ok v' w') (h : wpList P ops Q rest (a.put o.dst v') w') : wpList P ops Q (o :: rest) a w := by
  refine wpList_plain hgd fun K hK => ?_
  unfold Oper.wp
  simp [execOp, ho, hl, hc, hrun, Result.andThen]
  exact hK _ _ h

/-- 'append(append(make(..), a...), b...)'. -/
def BothRun (A B : Option Addr) (ma ca mb cb : Nat) (ab : List ByteArray) (W : World) : Prop :=
  ∃ v3 V3 v5 V5 v7 V7, (Instr.makeSlice 22 (.int .i64 0) (.int .i64 ((ma : Int) + (mb : Int)))).run Tryd.prog W = .ok v3 V3 ∧ runAp v3 (.slice A ma ca) V3 = .ok v5 V5 ∧ runAp v5 (.slice B mb cb) V5 = .ok v7 V7 ∧ CpyOut W ab v7 V7
theorem both_run (A B : Option Addr) (ca cb : Nat) (a b : List ByteArray) (W : World) (hra : Rd (· < W.heap.size) W 1 A a.length (strs a)) (hrb : Rd (· < W.heap.size) W 1 B b.length (strs b)) (h1 : a.length ≤ 20) (h2 : b.length ≤ 20) : BothRun A B a.length ca b.length cb (a ++ b) W := by
  have rdl : ∀ V, Below W.heap.size W V → Rd (fun _ => True) V 1 A a.length (strs a) := fun V h => (rd_on hra h).mono (fun _ _ => trivial)
  have rdm : ∀ V, Below W.heap.size W V → Rd (fun _ => True) V 1 B b.length (strs b) := fun V h => (rd_on hrb h).mono (fun _ _ => trivial)
  have hc : ((a.length : Int) + (b.length : Int)) = ((a.length + b.length : Nat) : Int) := by omega
  unfold BothRun
  rw [hc]
  obtain ⟨v3, V3, r3, o3, f3, b3, e3⟩ := cpy_mk (wr := W) W (a.length + b.length) (by omega) (Below.refl _ _)
  obtain ⟨v5, V5, r5, o5, f5, b5⟩ := cpy_ap V3 v3 0 [] rfl o3 b3 A a.length ca a (rdl _ b3) (by omega)
  obtain ⟨v7, V7, r7, o7, f7, b7⟩ := cpy_ap V5 v5 (0 + a.length) ([] ++ a) (by simp) o5 b5 B b.length cb b (rdm _ b5) (by omega)
  exact ⟨v3, V3, v5, V5, v7, V7, r3, r5, r7, cpy_end o7 (by simp) b7⟩

set_option maxHeartbeats 8000000 in
set_option maxRecDepth 100000 in
theorem ups_core (name s t : ByteArray) (ms : Nat) (A B : Option Addr) (na ca ma nb cb mb : Nat) (ab L1 L2 : List ByteArray) (J X Y Z : ByteArray) (E1 E2 O G H I : Int) (w : World)
    (h1 : (s.size : Int) ≤ 9223372036854775807 ∧ (na : Int) ≤ 9223372036854775807 ∧ (nb : Int) ≤ 9223372036854775807 ∧ (name.size : Int) ≤ 9000000000000000000) (h3 : min (s.size : Int) 500 = ms ∧ min (na : Int) 20 = ma ∧ min (nb : Int) 20 = mb) (h4 : ms ≤ s.size ∧ ma ≤ ca ∧ mb ≤ cb ∧ (ma : Int) ≤ 20 ∧ (mb : Int) ≤ 20) (h5 : s.extract 0 ms = t) (h6 : (t.size : Int) ≤ 500 ∧ (X.size : Int) ≤ 1000 ∧ (Y.size : Int) ≤ 1000)
    (hc1 : O = 120 ∨ O = 0 ∧ E2 = E1 ∧ (name.size : Int) < 60)
    (hc2 : G = 120 ∨ G = 0 ∧ H = 120 ∨ G = 0 ∧ H = 0 ∧ ma = 0 ∨ G = 0 ∧ H = 0 ∧ ma ≠ 0 ∧ mb = 0 ∨ G = 0 ∧ H = 0 ∧ ma ≠ 0 ∧ mb ≠ 0 ∧ 1000 < (X.size : Int) + (Y.size : Int) ∨ G = 0 ∧ H = 0 ∧ ma ≠ 0 ∧ mb ≠ 0 ∧ (X.size : Int) + (Y.size : Int) ≤ 1000 ∧ I = 0 ∧ Z = X ++ Y)
    (hS : ∀ W, Calls Tryd.prog 8 #[] W fun e w' => e = .returned (.bool true) ∧ Below W.heap.size W w')
    (hA1 : ∀ W, Calls Tryd.prog 11 #[.string (⟨#[47]⟩ ++ t)] W (LstOut L1 E1 W))
    (hA2 : ∀ W, Calls Tryd.prog 11 #[.string (⟨#[47]⟩ ++ name ++ ⟨#[47, 46, 46, 47]⟩ ++ t)] W (LstOut L2 E2 W))
    (hO : ∀ W, Calls Tryd.prog 13 #[.slice (some ⟨W.heap.size, 0, none⟩) 1 1] (W.alloc (.cells #[.string name] 9)) fun e w' => e = .returned (.tuple #[.string J, .int .i64 O]) ∧ Below W.heap.size W w')
    (hM : O = 0 → ∀ P Q c d W, Rd (· < W.heap.size) W 1 P L1.length (strs L1) → Rd (· < W.heap.size) W 1 Q L2.length (strs L2) → Calls Tryd.prog 10 #[.slice P L1.length c, .slice Q L2.length d] W fun e w' => e = .returned (.bool true) ∧ Below W.heap.size W w')
    (hJ : ∀ W, Below w.heap.size w W → Calls Tryd.prog 13 #[.slice A ma ca] W fun e w' => e = .returned (.tuple #[.string X, .int .i64 G]) ∧ Below W.heap.size W w')
    (hK : ∀ W, Below w.heap.size w W → Calls Tryd.prog 13 #[.slice B mb cb] W fun e w' => e = .returned (.tuple #[.string Y, .int .i64 H]) ∧ Below W.heap.size W w')
    (hR : ∀ W, Below w.heap.size w W → BothRun A B ma ca mb cb ab W)
    (hB : ∀ P c W, Rd (· < W.heap.size) W 1 P ab.length (strs ab) → ab.length ≤ c → Calls Tryd.prog 13 #[.slice P ab.length c] W fun e w' => e = .returned (.tuple #[.string Z, .int .i64 I]) ∧ Below W.heap.size W w')
    (hW1 : mb ≠ 0 → ∀ P c W, Below w.heap.size w W → Rd (· < W.heap.size) W 1 P ab.length (strs ab) → Calls Tryd.prog 9 #[.slice A ma ca, .slice P ab.length c] W fun e w' => e = .returned (.bool true) ∧ w' = W)
    (hW2 : mb ≠ 0 → ∀ P c W, Below w.heap.size w W → Rd (· < W.heap.size) W 1 P ab.length (strs ab) → Calls Tryd.prog 9 #[.slice P ab.length c, .slice A ma ca] W fun e w' => e = .returned (.bool false) ∧ w' = W) :
    Calls Tryd.prog 6 #[.string name, .string s, .slice A na ca, .slice B nb cb] w fun e w' => e = .returned (.bool true) ∧ Below w.heap.size w w' := by
  obtain ⟨h1a, h1b, h1c, h1d⟩ := h1
  obtain ⟨h3a, h3b, h3c⟩ := h3
  obtain ⟨h4a, h4b, h4c, h4d, h4e⟩ := h4
  obtain ⟨h6a, h6b, h6c⟩ := h6
  have HS := Lib.hid hS
  have HA1 := Lib.hid hA1
  have HA2 := Lib.hid hA2
  have HO := Lib.hid hO
  have HM := Lib.hid hM
  have HJ := Lib.hid hJ
  have HK := Lib.hid hK
  have HR := Lib.hid hR
  have HB := Lib.hid hB
  have HW1 := Lib.hid hW1
  have HW2 := Lib.hid hW2
  have HC1 := Lib.hid hc1
  have HC := Lib.hid hc2
  clear hS hA1 hA2 hO hM hJ hK hR hB hW1 hW2 hc1 hc2
  unfold BothRun runAp CpyOut at HR
  have hm0 : 0 ≤ (ms : Int) := by omega
  go_enter Tryd.func6, Tryd.ntmps6
  go_wp2_with fail
  refine (HS.out _).mono ?_
  rintro e w1 ⟨rfl, b⟩
  go_wp2_with fail
  refine (HA1.out _).mono ?_
  rintro e w2 ⟨P1, p1, rfl, -, -, r1, b1⟩
  replace b := b.trans (b1.mono b.size)
  have R1 := Lib.hid r1
  clear b1 r1
  go_wp2_with fail
  refine (HA2.out _).mono ?_
  rintro e w3 ⟨P2, p2, rfl, -, -, r2, b2⟩
  replace b := b.trans (b2.mono b.size)
  have R2 := Lib.hid (rd_on R1.out b2)
  have R3 := Lib.hid r2
  clear b2 r2 R1
  go_wp2_with fail
  refine (HO.out _).mono ?_
  rintro e w4 ⟨rfl, b2⟩
  replace b := b.trans (b2.mono b.size)
  have R4 := Lib.hid (rd_on R2.out b2)
  have R5 := Lib.hid (rd_on R3.out b2)
  clear b2 R2 R3
  rcases HC1.out with rfl | ⟨rfl, rfl, hnl⟩
  · clear R4 R5 HM
    go_wp2_with fail
    refine (HJ.out _ b).mono ?_
    rintro e w6 ⟨rfl, b2⟩
    replace b := b.trans (b2.mono b.size)
    clear b2
    go_wp2_with fail
    refine (HK.out _ b).mono ?_
    rintro e w7 ⟨rfl, b2⟩
    replace b := b.trans (b2.mono b.size)
    clear b2
    obtain ⟨v3, V3, v5, V5, v7, V7, r3, r5, r7, A2, c2, rfl, k1, k2, k3, k4⟩ := HR.out _ b
    replace b := b.trans (k4.mono b.size)
    have HK3 := Lib.hid k3
    have HK1 := Lib.hid k1
    clear k1 k2 k3 k4
    have HR3 := Lib.hid r3
    have HR5 := Lib.hid r5
    have HR7 := Lib.hid r7
    clear r3 r5 r7
    go_wp2_with (first | (at_make; refine wpList_make_run rfl (.const (.int .i64 0)) (.tmp 92) 22 rfl _ _ rfl rfl _ _ HR3.out ?_) | (at_builtin; refine wpList_append_run rfl (.tmp 93) (.tmp 94) 22 rfl _ _ rfl rfl _ _ HR5.out ?_) | (at_builtin; refine wpList_append_run rfl (.tmp 95) (.tmp 96) 22 rfl _ _ rfl rfl _ _ HR7.out ?_))
    refine (HB.out _ _ _ HK3.out HK1.out).mono ?_
    rintro e w8 ⟨rfl, b2⟩
    have hk4 := rd_on HK3.out b2
    replace b := b.trans (b2.mono b.size)
    have HK4 := Lib.hid hk4
    clear b2 hk4 HK3 HR3 HR5 HR7
    rcases HC.out with rfl | ⟨rfl, rfl⟩ | ⟨rfl, rfl, h⟩ | ⟨rfl, rfl, h, h'⟩ | ⟨rfl, rfl, h, h', h''⟩ | ⟨rfl, rfl, h, h', h'', rfl, hZ⟩
    · go_wp2_with fail
      go_ret
      exact ⟨rfl, b⟩
    · go_wp2_with fail
      go_ret
      exact ⟨rfl, b⟩
    · have hi : (ma : Int) = 0 := by omega
      go_wp2_with fail
      go_ret
      exact ⟨rfl, b⟩
    · have hi : ¬ (ma : Int) = 0 := by omega
      have hi' : (mb : Int) = 0 := by omega
      go_wp2_with fail
      go_ret
      exact ⟨rfl, b⟩
    · have hi : ¬ (ma : Int) = 0 := by omega
      have hi' : ¬ (mb : Int) = 0 := by omega
      go_wp2_with fail
      go_ret
      exact ⟨rfl, b⟩
    · have hi : ¬ (ma : Int) = 0 := by omega
      have hi' : ¬ (mb : Int) = 0 := by omega
      subst hZ
      have hib : ((ma : Int) == 0) = false := by simpa using hi
      have hib' : ((mb : Int) == 0) = false := by simpa using hi'
      have hi2 : ¬ 1000 < (X.size : Int) + (Y.size : Int) := by omega
      go_wp2_with fail
      refine (HW1.out h' _ c2 _ b HK4.out).mono ?_
      rintro e w9 ⟨rfl, rfl⟩
      go_wp2_with fail
      refine (HW2.out h' _ c2 _ b HK4.out).mono ?_
      rintro e w9 ⟨rfl, rfl⟩
      go_wp2_with fail
      go_ret
      exact ⟨rfl, b⟩
  · go_wp2_with fail
    refine (HM.out trivial _ _ p1 p2 _ R4.out R5.out).mono ?_
    rintro e w5 ⟨rfl, b2⟩
    replace b := b.trans (b2.mono b.size)
    clear b2 R4 R5 HM
    go_wp2_with fail
    refine (HJ.out _ b).mono ?_
    rintro e w6 ⟨rfl, b2⟩
    replace b := b.trans (b2.mono b.size)
    clear b2
    go_wp2_with fail
    refine (HK.out _ b).mono ?_
    rintro e w7 ⟨rfl, b2⟩
    replace b := b.trans (b2.mono b.size)
    clear b2
    obtain ⟨v3, V3, v5, V5, v7, V7, r3, r5, r7, A2, c2, rfl, k1, k2, k3, k4⟩ := HR.out _ b
    replace b := b.trans (k4.mono b.size)
    have HK3 := Lib.hid k3
    have HK1 := Lib.hid k1
    clear k1 k2 k3 k4
    have HR3 := Lib.hid r3
    have HR5 := Lib.hid r5
    have HR7 := Lib.hid r7
    clear r3 r5 r7
    go_wp2_with (first | (at_make; refine wpList_make_run rfl (.const (.int .i64 0)) (.tmp 92) 22 rfl _ _ rfl rfl _ _ HR3.out ?_) | (at_builtin; refine wpList_append_run rfl (.tmp 93) (.tmp 94) 22 rfl _ _ rfl rfl _ _ HR5.out ?_) | (at_builtin; refine wpList_append_run rfl (.tmp 95) (.tmp 96) 22 rfl _ _ rfl rfl _ _ HR7.out ?_))
    refine (HB.out _ _ _ HK3.out HK1.out).mono ?_
    rintro e w8 ⟨rfl, b2⟩
    have hk4 := rd_on HK3.out b2
    replace b := b.trans (b2.mono b.size)
    have HK4 := Lib.hid hk4
    clear b2 hk4 HK3 HR3 HR5 HR7
    rcases HC.out with rfl | ⟨rfl, rfl⟩ | ⟨rfl, rfl, h⟩ | ⟨rfl, rfl, h, h'⟩ | ⟨rfl, rfl, h, h', h''⟩ | ⟨rfl, rfl, h, h', h'', rfl, hZ⟩
    · go_wp2_with fail
      go_ret
      exact ⟨rfl, b⟩
    · go_wp2_with fail
      go_ret
      exact ⟨rfl, b⟩
    · have hi : (ma : Int) = 0 := by omega
      go_wp2_with fail
      go_ret
      exact ⟨rfl, b⟩
    · have hi : ¬ (ma : Int) = 0 := by omega
      have hi' : (mb : Int) = 0 := by omega
      go_wp2_with fail
      go_ret
      exact ⟨rfl, b⟩
    · have hi : ¬ (ma : Int) = 0 := by omega
      have hi' : ¬ (mb : Int) = 0 := by omega
      go_wp2_with fail
      go_ret
      exact ⟨rfl, b⟩
    · have hi : ¬ (ma : Int) = 0 := by omega
      have hi' : ¬ (mb : Int) = 0 := by omega
      subst hZ
      have hib : ((ma : Int) == 0) = false := by simpa using hi
      have hib' : ((mb : Int) == 0) = false := by simpa using hi'
      have hi2 : ¬ 1000 < (X.size : Int) + (Y.size : Int) := by omega
      go_wp2_with fail
      refine (HW1.out h' _ c2 _ b HK4.out).mono ?_
      rintro e w9 ⟨rfl, rfl⟩
      go_wp2_with fail
      refine (HW2.out h' _ c2 _ b HK4.out).mono ?_
      rintro e w9 ⟨rfl, rfl⟩
      go_wp2_with fail
      go_ret
      exact ⟨rfl, b⟩
end Go.Proofs.YtliioeihbbhiiaaDoor

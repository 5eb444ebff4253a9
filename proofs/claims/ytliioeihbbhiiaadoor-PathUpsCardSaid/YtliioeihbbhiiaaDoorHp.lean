/- Paths: the law PathBack walked: over the given program. -/
import Derived.Test.YtliioeihbbhiiaaDoorHm
namespace Go.Proofs.YtliioeihbbhiiaaDoor
open Go.RowKit Go.Nau Go.Shelf
attribute [local go_sem] Oper.semAt_some

set_option maxHeartbeats 4000000 in
set_option maxRecDepth 100000 in
theorem back_core (s t : ByteArray) (ms : Nat) (P : Option Addr) (np cp mp : Nat) (L M N : List ByteArray) (X Y : ByteArray) (G F Gm H I : Int) (w : World)
    (h1 : (s.size : Int) ≤ 9223372036854775807 ∧ (np : Int) ≤ 9223372036854775807) (h3 : min (s.size : Int) 2000 = ms ∧ min (np : Int) 50 = mp) (h4 : ms ≤ s.size ∧ mp ≤ cp) (h5 : s.extract 0 ms = t)
    (hc1 : G = 120 ∨ G = 0 ∧ F = 0) (hc2 : Gm = 120 ∨ Gm = 0 ∧ H = 0 ∧ I = 0 ∧ (Y.size : Int) ≤ max 1 (t.size : Int))
    (hS : ∀ W, Calls Tryd.prog 8 #[] W fun e w' => e = .returned (.bool true) ∧ Below W.heap.size W w')
    (hJ : ∀ W, Below w.heap.size w W → Calls Tryd.prog 13 #[.slice P mp cp] W fun e w' => e = .returned (.tuple #[.string X, .int .i64 G]) ∧ Below W.heap.size W w')
    (hA : ∀ W, Calls Tryd.prog 11 #[.string X] W (LstOut L F W))
    (hB : ∀ W, Calls Tryd.prog 11 #[.string t] W (LstOut M Gm W))
    (hK : ∀ A c W, Rd (· < W.heap.size) W 1 A M.length (strs M) → M.length ≤ c → Calls Tryd.prog 13 #[.slice A M.length c] W fun e w' => e = .returned (.tuple #[.string Y, .int .i64 H]) ∧ Below W.heap.size W w')
    (hC : ∀ W, Calls Tryd.prog 11 #[.string Y] W (LstOut N I W))
    (hS1 : G = 0 → ∀ A c W, Below w.heap.size w W → Rd (· < W.heap.size) W 1 A L.length (strs L) → Calls Tryd.prog 10 #[.slice A L.length c, .slice P mp cp] W fun e w' => e = .returned (.bool true) ∧ Below W.heap.size W w')
    (hS2 : Gm = 0 → ∀ A B c d W, Rd (· < W.heap.size) W 1 A N.length (strs N) → Rd (· < W.heap.size) W 1 B M.length (strs M) → Calls Tryd.prog 10 #[.slice A N.length c, .slice B M.length d] W fun e w' => e = .returned (.bool true) ∧ Below W.heap.size W w')
    (hW1 : Gm = 0 → ∀ A B c d W, Rd (· < W.heap.size) W 1 A N.length (strs N) → Rd (· < W.heap.size) W 1 B M.length (strs M) → Calls Tryd.prog 9 #[.slice B M.length d, .slice A N.length c] W fun e w' => e = .returned (.bool true) ∧ w' = W)
    (hW2 : Gm = 0 → ∀ A B c d W, Rd (· < W.heap.size) W 1 A N.length (strs N) → Rd (· < W.heap.size) W 1 B M.length (strs M) → Calls Tryd.prog 9 #[.slice A N.length c, .slice B M.length d] W fun e w' => e = .returned (.bool true) ∧ w' = W) :
    Calls Tryd.prog 5 #[.slice P np cp, .string s] w fun e w' => e = .returned (.bool true) ∧ Below w.heap.size w w' := by
  obtain ⟨h1a, h1b⟩ := h1
  obtain ⟨h3a, h3b⟩ := h3
  obtain ⟨h4a, h4b⟩ := h4
  have HS := Lib.hid hS
  have HJ := Lib.hid hJ
  have HA := Lib.hid hA
  have HB := Lib.hid hB
  have HK := Lib.hid hK
  have HC := Lib.hid hC
  have HS1 := Lib.hid hS1
  have HS2 := Lib.hid hS2
  have HW1 := Lib.hid hW1
  have HW2 := Lib.hid hW2
  have HC1 := Lib.hid hc1
  have HC2 := Lib.hid hc2
  clear hS hJ hA hB hK hC hS1 hS2 hW1 hW2 hc1 hc2
  have hm0 : 0 ≤ (ms : Int) := by omega
  go_enter Tryd.func5, Tryd.ntmps5
  go_wp2_with fail
  refine (HS.out _).mono ?_
  rintro e w1 ⟨rfl, b⟩
  go_wp2_with fail
  refine (HJ.out _ b).mono ?_
  rintro e w2 ⟨rfl, b1⟩
  replace b := b.trans (b1.mono b.size)
  clear b1
  go_wp2_with fail
  refine (HA.out _).mono ?_
  rintro e w3 ⟨A, c, rfl, -, -, r1, b1⟩
  replace b := b.trans (b1.mono b.size)
  have R1 := Lib.hid r1
  clear b1 r1
  go_wp2_with fail
  refine (HB.out _).mono ?_
  rintro e w4 ⟨B, d, rfl, hd, -, r2, b2⟩
  replace b := b.trans (b2.mono b.size)
  have R2 := Lib.hid (rd_on R1.out b2)
  have R3 := Lib.hid r2
  have HD := Lib.hid hd
  clear b2 r2 R1 hd
  go_wp2_with fail
  refine (HK.out _ _ _ R3.out HD.out).mono ?_
  rintro e w5 ⟨rfl, b2⟩
  replace b := b.trans (b2.mono b.size)
  have R4 := Lib.hid (rd_on R2.out b2)
  have R5 := Lib.hid (rd_on R3.out b2)
  clear b2 R2 R3
  go_wp2_with fail
  refine (HC.out _).mono ?_
  rintro e w6 ⟨D, f, rfl, -, -, r3, b2⟩
  replace b := b.trans (b2.mono b.size)
  have R6 := Lib.hid (rd_on R4.out b2)
  have R7 := Lib.hid (rd_on R5.out b2)
  have R8 := Lib.hid r3
  clear b2 R4 R5 r3
  have fin : ∀ W, Below w6.heap.size w6 W → Rd (· < W.heap.size) W 1 B M.length (strs M) ∧ Rd (· < W.heap.size) W 1 D N.length (strs N) ∧ Below w.heap.size w W := fun W h => ⟨rd_on R7.out h, rd_on R8.out h, b.trans (h.mono b.size)⟩
  have FIN := Lib.hid fin
  clear fin
  rcases HC1.out with rfl | ⟨rfl, rfl⟩
  · rcases HC2.out with rfl | ⟨rfl, rfl, rfl, hsz⟩
    · go_wp2_with fail
      go_ret
      exact ⟨rfl, b⟩
    · go_wp2_with fail
      refine (HS2.out trivial _ _ f d _ R8.out R7.out).mono ?_
      rintro e w7 ⟨rfl, k7⟩
      obtain ⟨q1, q2, q3⟩ := FIN.out _ k7
      have Q1 := Lib.hid q1
      have Q2 := Lib.hid q2
      clear q1 q2 k7 b
      go_wp2_with fail
      refine (HW1.out trivial _ _ f d _ Q2.out Q1.out).mono ?_
      rintro e w8 ⟨rfl, rfl⟩
      go_wp2_with fail
      refine (HW2.out trivial _ _ f d _ Q2.out Q1.out).mono ?_
      rintro e w8 ⟨rfl, rfl⟩
      go_wp2_with fail
      go_ret
      exact ⟨rfl, q3⟩
  · go_wp2_with fail
    refine (HS1.out trivial _ c _ b R6.out).mono ?_
    rintro e w7 ⟨rfl, k7⟩
    obtain ⟨q1, q2, q3⟩ := FIN.out _ k7
    have Q1 := Lib.hid q1
    have Q2 := Lib.hid q2
    clear q1 q2 k7 b
    rcases HC2.out with rfl | ⟨rfl, rfl, rfl, hsz⟩
    · go_wp2_with fail
      go_ret
      exact ⟨rfl, q3⟩
    · go_wp2_with fail
      refine (HS2.out trivial _ _ f d _ Q2.out Q1.out).mono ?_
      rintro e w8 ⟨rfl, k8⟩
      have q4 := q3.trans (k8.mono q3.size)
      have Q3 := Lib.hid (rd_on Q1.out k8)
      have Q4 := Lib.hid (rd_on Q2.out k8)
      clear k8 q3
      go_wp2_with fail
      refine (HW1.out trivial _ _ f d _ Q4.out Q3.out).mono ?_
      rintro e w9 ⟨rfl, rfl⟩
      go_wp2_with fail
      refine (HW2.out trivial _ _ f d _ Q4.out Q3.out).mono ?_
      rintro e w9 ⟨rfl, rfl⟩
      go_wp2_with fail
      go_ret
      exact ⟨rfl, q4⟩
end Go.Proofs.YtliioeihbbhiiaaDoor

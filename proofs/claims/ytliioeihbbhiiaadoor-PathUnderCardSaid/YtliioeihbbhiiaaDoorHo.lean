/- Paths: the law PathUnder walked: over the given program. -/
import Derived.Test.YtliioeihbbhiiaaDoorHn
namespace Go.Proofs.YtliioeihbbhiiaaDoor
open Go.RowKit Go.Nau Go.Shelf
attribute [local go_sem] Oper.semAt_some

set_option maxHeartbeats 4000000 in
set_option maxRecDepth 100000 in
theorem under_core (s t : ByteArray) (ms : Nat) (P O : Option Addr) (np cp mp no co : Nat) (L : List ByteArray) (E : Int) (y : Bool) (w : World)
    (h1 : (s.size : Int) ≤ 9223372036854775807 ∧ (np : Int) ≤ 9223372036854775807) (h3 : min (s.size : Int) 2000 = ms ∧ min (np : Int) 50 = mp) (h4 : ms ≤ s.size ∧ mp ≤ cp) (h5 : s.extract 0 ms = t)
    (hS : ∀ W, Calls Tryd.prog 8 #[] W fun e w' => e = .returned (.bool true) ∧ Below W.heap.size W w')
    (hA : ∀ W, Below w.heap.size w W → Calls Tryd.prog 15 #[.slice P mp cp, .string t] W (LstOut L E W))
    (hB : ∀ W, Below w.heap.size w W → Calls Tryd.prog 16 #[.slice P mp cp, .string t] W (LstOut L E W))
    (hM : ∀ A B c d W, Rd (· < W.heap.size) W 1 A L.length (strs L) → Rd (· < W.heap.size) W 1 B L.length (strs L) → Calls Tryd.prog 10 #[.slice A L.length c, .slice B L.length d] W fun e w' => e = .returned (.bool true) ∧ Below W.heap.size W w')
    (hW : ∀ W, Below w.heap.size w W → Calls Tryd.prog 9 #[.slice P mp cp, .slice O no co] W fun e w' => e = .returned (.bool y) ∧ w' = W)
    (hR : ∀ W, Below w.heap.size w W → Calls Tryd.prog 17 #[.slice P mp cp, .slice O no co] W fun e w' => e = .returned (.bool y) ∧ Below W.heap.size W w') :
    Calls Tryd.prog 7 #[.slice P np cp, .string s, .slice O no co] w fun e w' => e = .returned (.bool true) ∧ Below w.heap.size w w' := by
  obtain ⟨h1a, h1b⟩ := h1
  obtain ⟨h3a, h3b⟩ := h3
  obtain ⟨h4a, h4b⟩ := h4
  have HS := Lib.hid hS
  have HA := Lib.hid hA
  have HB := Lib.hid hB
  have HM := Lib.hid hM
  have HW := Lib.hid hW
  have HR := Lib.hid hR
  clear hS hA hB hM hW hR
  have hm0 : 0 ≤ (ms : Int) := by omega
  go_enter Tryd.func7, Tryd.ntmps7
  go_wp2_with fail
  refine (HS.out _).mono ?_
  rintro e w1 ⟨rfl, b⟩
  go_wp2_with fail
  refine (HA.out _ b).mono ?_
  rintro e w2 ⟨A, c, rfl, hc, hcm, r1, b1⟩
  replace b := b.trans (b1.mono b.size)
  have R1 := Lib.hid r1
  clear b1 r1 hc hcm
  go_wp2_with fail
  refine (HB.out _ b).mono ?_
  rintro e w3 ⟨B, d, rfl, hd, hdm, r2, b2⟩
  replace b := b.trans (b2.mono b.size)
  have HC := Lib.hid (HM.out A B c d w3 (rd_on R1.out b2) r2)
  clear b2 r2 hd hdm R1
  go_wp2_with fail
  refine HC.out.mono ?_
  rintro e w4 ⟨rfl, b2⟩
  replace b := b.trans (b2.mono b.size)
  clear b2 HC
  go_wp2_with fail
  refine (HW.out _ b).mono ?_
  rintro e w5 ⟨rfl, rfl⟩
  go_wp2_with fail
  refine (HR.out _ b).mono ?_
  rintro e w6 ⟨rfl, b2⟩
  replace b := b.trans (b2.mono b.size)
  clear b2
  go_wp2_with fail
  go_ret
  exact ⟨by simp, b⟩

theorem undL_len (d : List ByteArray) (t : ByteArray) : (undL d t).length ≤ 40 := splitL_len _
theorem under_law (s : ByteArray) (A O : Option Addr) (n c no co : Nat) (l lo : List ByteArray) (w : World) (hs : s.size ≤ maxLen) (hr : Rd (· < w.heap.size) w 1 A n (strs l)) (hro : Rd (· < w.heap.size) w 1 O no (strs lo)) (hl : l.length = n) (hlo : lo.length = no) (hn : n ≤ c) (hc : c ≤ maxLen) (hwf : ∀ x ∈ l, x.size ≤ maxLen) :
    Calls Tryd.prog 7 #[.slice A n c, .string s, .slice O no co] w fun e w' => e = .returned (.bool true) ∧ Below w.heap.size w w' := by
  obtain ⟨m, ea, ka, ra⟩ := cut_ex (k := 50) hr hl
  obtain ⟨ms, es, es2, es3, es4, es5⟩ := cutB_ex s 2000 hs
  have hwt : ∀ x ∈ l.take 50, x.size ≤ maxLen := fun x hx => hwf x (List.mem_of_mem_take hx)
  generalize l.take 50 = p at *
  unfold maxLen at hs hc
  have hpm : p.length ≤ maxLen := by unfold maxLen; omega
  subst hlo
  refine under_core s (s.extract 0 ms) ms A O n c m lo.length co (undL p (s.extract 0 ms)) (undE p (s.extract 0 ms)) (wthB p lo) w ⟨by omega, by omega⟩ ⟨es2, by omega⟩ ⟨es3, by omega⟩ rfl (fun W => shown_any W) (fun W h => ?_) (fun W h => ?_) (fun A B c d W ha hb => ?_) (fun W h => ?_) (fun W h => ?_)
  · rw [← ka] at ra ⊢
    exact under_any p A c _ W (by omega) ⟨fun s W hs => split_out s hs W, join_any p A c W (rd_on ra h) (by omega) hpm⟩
  · rw [← ka] at ra ⊢
    exact runder_any p A c _ W (by omega) ⟨fun s W hs => rsplit_out s hs W, (rjoin_any p A c W (rd_on ra h) hpm hwt).mono (fun e w' ⟨h1, h2⟩ => ⟨h1, h2 ▸ Below.refl _ _⟩)⟩
  · have hL := joinL_len (undL_len p (s.extract 0 ms))
    have := same_out (undL p (s.extract 0 ms)) (undL p (s.extract 0 ms)) hL hL A B c d W ha hb
    rwa [sameB_iff.2 rfl] at this
  · rw [← ka] at ra ⊢
    exact within_any p lo A O c co W (rd_on ra h) (rd_on hro h) hpm
  · rw [← ka] at ra ⊢
    exact (rwithin_any p lo A O c co W (rd_on ra h) (rd_on hro h) hpm).mono (fun e w' ⟨h1, n, h2⟩ => ⟨h1, h2 ▸ below_drew W n⟩)
end Go.Proofs.YtliioeihbbhiiaaDoor

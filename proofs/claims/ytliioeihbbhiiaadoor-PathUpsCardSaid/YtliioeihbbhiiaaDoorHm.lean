/- Paths: the law PathSplits walked: over the given program. -/
import Derived.Test.YtliioeihbbhiiaaDoorHl
namespace Go.Proofs.YtliioeihbbhiiaaDoor
open Go.RowKit Go.Nau Go.Shelf
attribute [local go_sem] Oper.semAt_some

/-- What a call answers that gives parts and a number. -/
def LstOut (L : List ByteArray) (E : Int) (W : World) (e : Ending) (w' : World) : Prop :=
  ∃ A c, e = .returned (.tuple #[.slice A L.length c, .int .i64 E]) ∧ L.length ≤ c ∧ c ≤ maxLen ∧ Rd (· < w'.heap.size) w' 1 A L.length (strs L) ∧ Below W.heap.size W w'
theorem split_out (s : ByteArray) (hs : s.size ≤ 9223372036854775807) (W : World) : Calls Tryd.prog 11 #[.string s] W (LstOut (splitL s) (splitE s) W) :=
  (split_any s hs W).mono (fun e w' ⟨A, c, h1, h2, h3, h4, h5⟩ => ⟨A, c, h1, h2, h3, h4.mono (fun k hk => hk.2), h5⟩)
theorem rsplit_out (s : ByteArray) (hs : s.size ≤ 9223372036854775807) (W : World) : Calls Tryd.prog 12 #[.string s] W (LstOut (splitL s) (splitE s) W) := rsplit_any s hs W
theorem same_out (L M : List ByteArray) (hL : L.length ≤ maxLen) (hM : M.length ≤ maxLen) (A B : Option Addr) (c d : Nat) (W : World) (ha : Rd (· < W.heap.size) W 1 A L.length (strs L)) (hb : Rd (· < W.heap.size) W 1 B M.length (strs M)) :
    Calls Tryd.prog 10 #[.slice A L.length c, .slice B M.length d] W fun e w' => e = .returned (.bool (sameB L M)) ∧ Below W.heap.size W w' :=
  (rsame_any L M A B c d W ha hb hL hM).mono (fun e w' ⟨h1, n, h2⟩ => ⟨h1, h2 ▸ below_drew W n⟩)

set_option maxHeartbeats 4000000 in
set_option maxRecDepth 100000 in
theorem splits_core (s t : ByteArray) (ms : Nat) (P : Option Addr) (np cp mp : Nat) (L : List ByteArray) (X : ByteArray) (E G : Int) (w : World)
    (h1 : (s.size : Int) ≤ 9223372036854775807 ∧ (np : Int) ≤ 9223372036854775807) (h3 : min (s.size : Int) 2000 = ms ∧ min (np : Int) 50 = mp) (h4 : ms ≤ s.size ∧ mp ≤ cp) (h5 : s.extract 0 ms = t)
    (hS : ∀ W, Calls Tryd.prog 8 #[] W fun e w' => e = .returned (.bool true) ∧ Below W.heap.size W w')
    (hA : ∀ W, Calls Tryd.prog 11 #[.string t] W (LstOut L E W))
    (hB : ∀ W, Calls Tryd.prog 12 #[.string t] W (LstOut L E W))
    (hJ : ∀ W, Below w.heap.size w W → Calls Tryd.prog 13 #[.slice P mp cp] W fun e w' => e = .returned (.tuple #[.string X, .int .i64 G]) ∧ Below W.heap.size W w')
    (hK : ∀ W, Below w.heap.size w W → Calls Tryd.prog 14 #[.slice P mp cp] W fun e w' => e = .returned (.tuple #[.string X, .int .i64 G]) ∧ w' = W)
    (hM : ∀ A B c d W, Rd (· < W.heap.size) W 1 A L.length (strs L) → Rd (· < W.heap.size) W 1 B L.length (strs L) → Calls Tryd.prog 10 #[.slice A L.length c, .slice B L.length d] W fun e w' => e = .returned (.bool true) ∧ Below W.heap.size W w') :
    Calls Tryd.prog 4 #[.string s, .slice P np cp] w fun e w' => e = .returned (.bool true) ∧ Below w.heap.size w w' := by
  obtain ⟨h1a, h1b⟩ := h1
  obtain ⟨h3a, h3b⟩ := h3
  obtain ⟨h4a, h4b⟩ := h4
  have HS := Lib.hid hS
  have HA := Lib.hid hA
  have HB := Lib.hid hB
  have HJ := Lib.hid hJ
  have HK := Lib.hid hK
  have HM := Lib.hid hM
  clear hS hA hB hJ hK hM
  have hm0 : 0 ≤ (ms : Int) := by omega
  go_enter Tryd.func4, Tryd.ntmps4
  go_wp2_with fail
  refine (HS.out _).mono ?_
  rintro e w1 ⟨rfl, b⟩
  go_wp2_with fail
  refine (HA.out _).mono ?_
  rintro e w2 ⟨A, c, rfl, hc, hcm, r1, b1⟩
  replace b := b.trans (b1.mono b.size)
  have R1 := Lib.hid r1
  clear b1 r1 hc hcm
  go_wp2_with fail
  refine (HB.out _).mono ?_
  rintro e w3 ⟨B, d, rfl, hd, hdm, r2, b2⟩
  replace b := b.trans (b2.mono b.size)
  have R2 := Lib.hid (rd_on R1.out b2)
  have R3 := Lib.hid r2
  clear b2 r2 hd hdm R1
  go_wp2_with fail
  refine (HJ.out _ b).mono ?_
  rintro e w4 ⟨rfl, b2⟩
  replace b := b.trans (b2.mono b.size)
  have R4 := Lib.hid (rd_on R2.out b2)
  have R5 := Lib.hid (rd_on R3.out b2)
  clear b2 R2 R3
  go_wp2_with fail
  refine (HK.out _ b).mono ?_
  rintro e w5 ⟨rfl, rfl⟩
  have HC := Lib.hid (HM.out A B c d w5 R4.out R5.out)
  clear R4 R5
  go_wp2_with fail
  refine HC.out.mono ?_
  rintro e w6 ⟨rfl, b2⟩
  replace b := b.trans (b2.mono b.size)
  clear b2 HC
  go_wp2_with fail
  go_ret
  exact ⟨by simp, b⟩

theorem joinL_len {L : List ByteArray} (h : L.length ≤ 40) : L.length ≤ maxLen := by unfold maxLen; omega
theorem splitL_len (s : ByteArray) : (splitL s).length ≤ 40 := by
  unfold splitL
  split
  · rename_i h
    unfold splOk at h
    simp only [Bool.and_eq_true, decide_eq_true_eq] at h
    exact h.2.2.2
  · simp
theorem cutB_ex (s : ByteArray) (k : Nat) (hs : s.size ≤ maxLen) : ∃ ms, ms = min s.size k ∧ min (s.size : Int) k = ms ∧ ms ≤ s.size ∧ (s.extract 0 ms).size ≤ 9223372036854775807 ∧ (s.extract 0 ms).size ≤ k := by
  refine ⟨min s.size k, rfl, by omega, by omega, ?_, ?_⟩
  · rw [ByteArray.size_extract]; unfold maxLen at hs; omega
  · rw [ByteArray.size_extract]; omega

theorem splits_law (s : ByteArray) (A : Option Addr) (n c : Nat) (l : List ByteArray) (w : World) (hs : s.size ≤ maxLen) (hr : Rd (· < w.heap.size) w 1 A n (strs l)) (hl : l.length = n) (hn : n ≤ c) (hc : c ≤ maxLen) (hwf : ∀ x ∈ l, x.size ≤ maxLen) :
    Calls Tryd.prog 4 #[.string s, .slice A n c] w fun e w' => e = .returned (.bool true) ∧ Below w.heap.size w w' := by
  obtain ⟨m, ea, ka, ra⟩ := cut_ex (k := 50) hr hl
  obtain ⟨ms, es, es2, es3, es4, _⟩ := cutB_ex s 2000 hs
  have hwt : ∀ x ∈ l.take 50, x.size ≤ maxLen := fun x hx => hwf x (List.mem_of_mem_take hx)
  generalize l.take 50 = p at *
  unfold maxLen at hs hc
  have hpm : p.length ≤ maxLen := by unfold maxLen; omega
  refine splits_core s (s.extract 0 ms) ms A n c m (splitL (s.extract 0 ms)) (joinS p) (splitE (s.extract 0 ms)) (joinE p) w ⟨by omega, by omega⟩ ⟨es2, by omega⟩ ⟨es3, by omega⟩ rfl (fun W => shown_any W) (fun W => split_out _ es4 W) (fun W => rsplit_out _ es4 W) (fun W h => ?_) (fun W h => ?_) (fun A B c d W ha hb => ?_)
  · rw [← ka] at ra ⊢
    exact join_any p A c W (rd_on ra h) (by omega) hpm
  · rw [← ka] at ra ⊢
    exact rjoin_any p A c W (rd_on ra h) hpm hwt
  · have hL := joinL_len (splitL_len (s.extract 0 ms))
    have := same_out (splitL (s.extract 0 ms)) (splitL (s.extract 0 ms)) hL hL A B c d W ha hb
    rwa [sameB_iff.2 rfl] at this
end Go.Proofs.YtliioeihbbhiiaaDoor

/- Texts of this proof, joined: Lb Lc Ld. They hold under no condition beyond what each theorem states. -/
import Derived.Test.YtjmfeoenbncibaaM17
import Derived.Test.YtjmfeoenbncibaaM20
namespace Go.Proofs.Ytjmfeoenbncibaa
open Go.RowKit Go.Nau Go.Shelf
attribute [local go_sem] Oper.semAt_some

def lgC (d : Nat) (l : LS) : Array Value := #[.pointer (some ⟨d, 0, none⟩), .int .i64 l.pos, .int .u64 l.seq, .int .i64 l.next]
/-- A log lies at block g, of the disk at block d. -/
def Lg (w : World) (g d : Nat) (l : LS) : Prop := w.heap[g]? = some (.cells (lgC d l) 95 (0, 0))
/-- A reference log. -/
def RLg (w : World) (g d : Nat) (l : LS) : Prop := w.heap[g]? = some (.cells (lgC d l) 53 (0, 0))

theorem isLast_any (n : Int) (w : World) (h0 : 0 ≤ n) (h1 : n ≤ 9223372036854775807) : Calls Try.prog 43 #[.int .i64 n] w fun e w' => e = .returned (.bool (decide (n % 16 = 15))) ∧ w = w' := by
  go_enter Try.func43, Try.ntmps43
  go_wp2
  go_ret
  refine ⟨?_, rfl⟩
  congr 2

theorem isSeg_any {w : World} {F : Nat → Prop} {d : Nat} {s : DS} (h : Dsk w F d s) (hn : s.now.length ≤ 4096) (n : Int) (hi : -9223372036854775808 ≤ n ∧ n ≤ 9223372036854775807) :
    Calls Try.prog 44 #[.pointer (some ⟨d, 0, none⟩), .int .i64 n] w fun e w' => e = .returned (.bool (segB s.now.length n)) ∧ w = w' := by
  have hb := blocks_dsk h
  generalize hL : s.now.length = L at *
  have HB := Lib.hid hb
  clear hb hL h
  have hli : (L : Int) ≤ 4096 := by omega
  by_cases h0 : 0 < n
  · have hs : segB L n = decide (n < (L : Int) / 16) := by unfold segB; simp [h0]
    have HS := Lib.hid hs
    clear hs
    go_enter Try.func44, Try.ntmps44
    go_wp2_with fail
    refine HB.out.mono ?_
    rintro e w1 ⟨rfl, rfl⟩
    go_wp2
    go_ret
    exact ⟨by rw [HS.out]; rfl, rfl⟩
  · have hs : segB L n = false := by unfold segB; simp [h0]
    have HS := Lib.hid hs
    clear hs
    go_enter Try.func44, Try.ntmps44
    go_wp2
    go_ret
    exact ⟨by rw [HS.out]; rfl, rfl⟩

section
variable {w : World} {g d : Nat} {l : LS}
theorem at_any (h : Lg w g d l) : Calls Try.prog 13 #[.pointer (some ⟨g, 0, none⟩)] w fun e w' => e = .returned (.int .i64 l.pos) ∧ w = w' := by
  have c1 := blk_cell h 1
  simp [lgC] at c1
  go_enter Try.func13, Try.ntmps13
  go_wp2
  go_ret
  exact ⟨rfl, rfl⟩
theorem seq_any (h : Lg w g d l) : Calls Try.prog 14 #[.pointer (some ⟨g, 0, none⟩)] w fun e w' => e = .returned (.int .u64 l.seq) ∧ w = w' := by
  have c1 := blk_cell h 2
  simp [lgC] at c1
  go_enter Try.func14, Try.ntmps14
  go_wp2
  go_ret
  exact ⟨rfl, rfl⟩
theorem next_any (h : Lg w g d l) : Calls Try.prog 15 #[.pointer (some ⟨g, 0, none⟩)] w fun e w' => e = .returned (.int .i64 l.next) ∧ w = w' := by
  have c1 := blk_cell h 3
  simp [lgC] at c1
  go_enter Try.func15, Try.ntmps15
  go_wp2
  go_ret
  exact ⟨rfl, rfl⟩
theorem lroom_any (h : Lg w g d l) : Calls Try.prog 18 #[.pointer (some ⟨g, 0, none⟩)] w fun e w' => e = .returned (.int .i64 ((15 - l.pos % 16 : Nat) : Int)) ∧ w = w' := by
  have c1 := blk_cell h 1
  simp [lgC] at c1
  have hr := room_any (l.pos : Int) w
  have e : roomI (l.pos : Int) = ((15 - l.pos % 16 : Nat) : Int) := by
    unfold roomI
    rw [if_neg (by omega)]
    omega
  rw [e] at hr
  have HR := Lib.hid hr
  clear hr e
  go_enter Try.func18, Try.ntmps18
  go_wp2_with fail
  refine HR.out.mono ?_
  rintro e w1 ⟨rfl, rfl⟩
  go_wp2
  go_ret
  exact ⟨rfl, rfl⟩
end
theorem at_nil (w : World) : Calls Try.prog 13 #[.pointer none] w fun e w' => e = .returned (.int .i64 0) ∧ w = w' := by
  go_enter Try.func13, Try.ntmps13
  go_wp2
  go_ret
  exact ⟨rfl, rfl⟩
theorem seq_nil (w : World) : Calls Try.prog 14 #[.pointer none] w fun e w' => e = .returned (.int .u64 0) ∧ w = w' := by
  go_enter Try.func14, Try.ntmps14
  go_wp2
  go_ret
  exact ⟨rfl, rfl⟩
theorem next_nil (w : World) : Calls Try.prog 15 #[.pointer none] w fun e w' => e = .returned (.int .i64 0) ∧ w = w' := by
  go_enter Try.func15, Try.ntmps15
  go_wp2
  go_ret
  exact ⟨rfl, rfl⟩
theorem lroom_nil (w : World) : Calls Try.prog 18 #[.pointer none] w fun e w' => e = .returned (.int .i64 0) ∧ w = w' := by
  go_enter Try.func18, Try.ntmps18
  go_wp2
  go_ret
  exact ⟨rfl, rfl⟩
theorem setnext_nil (n : Int) (w : World) : Calls Try.prog 19 #[.pointer none, .int .i64 n] w fun e w' => e = .returned (.int .i64 1) ∧ w = w' := by
  go_enter Try.func19, Try.ntmps19
  go_wp2
  go_ret
  exact ⟨rfl, rfl⟩

/-- What SetNext answers, and leaves. -/
def snE (nb : Nat) (n : Int) : Int := if segB nb n then 0 else 2
def snL (nb : Nat) (l : LS) (n : Int) : LS := if segB nb n then { l with next := n.toNat } else l
theorem snL_ok {nb : Nat} {l : LS} (h : LOk nb l) (n : Int) : LOk nb (snL nb l n) := by
  unfold snL
  split
  · rename_i hs
    exact ⟨h.n16, h.n256, h.lo, h.hi, h.last, h.seq0, h.seq1, .inr (segB_toNat hs).1⟩
  · exact h
theorem setnext_any {w : World} {F : Nat → Prop} {g d : Nat} {s : DS} {l : LS} (hd : Dsk w F d s) (h : Lg w g d l) (hn : s.now.length ≤ 4096) (n : Int) (hi : -9223372036854775808 ≤ n ∧ n ≤ 9223372036854775807) :
    Calls Try.prog 19 #[.pointer (some ⟨g, 0, none⟩), .int .i64 n] w fun e w' => e = .returned (.int .i64 (snE s.now.length n)) ∧ Lg w' g d (snL s.now.length l n) ∧ Fr (· = g) w w' := by
  have hseg := isSeg_any hd hn n hi
  have c0 := blk_cell h 0
  have c3 := blk_cell h 3
  have z3 := blk_frozen h 3
  simp [lgC] at c0 c3
  cases hs : segB s.now.length n with
  | false =>
    rw [hs] at hseg
    have e1 : snE s.now.length n = 2 := by unfold snE; rw [hs]; rfl
    have e2 : snL s.now.length l n = l := by unfold snL; rw [hs]; rfl
    rw [e1, e2]
    have HS := Lib.hid hseg
    have H := Lib.hid h
    clear hs hseg e1 e2 h hd
    go_enter Try.func19, Try.ntmps19
    go_wp2_with fail
    refine HS.out.mono ?_
    rintro e w1 ⟨rfl, rfl⟩
    go_wp2
    go_ret
    exact ⟨rfl, H.out, Fr.refl _ _⟩
  | true =>
    rw [hs] at hseg
    have e1 : snE s.now.length n = 0 := by unfold snE; rw [hs]; rfl
    have e2 : snL s.now.length l n = { l with next := n.toNat } := by unfold snL; rw [hs]; rfl
    have e3 := (segB_toNat hs).2
    rw [e1, e2]
    have HS := Lib.hid hseg
    have H := Lib.hid h
    have H3 := Lib.hid e3
    clear hs hseg e1 e2 h hd e3
    go_enter Try.func19, Try.ntmps19
    go_wp2_with fail
    refine HS.out.mono ?_
    rintro e w1 ⟨rfl, rfl⟩
    go_wp2
    go_ret
    refine ⟨rfl, ?_, Fr.set1 _ _ _ _⟩
    show (World.setCell w ⟨g, 3, none⟩ (.int .i64 n)).heap[g]? = _
    rw [blk_set H.out 3 _]
    unfold lgC
    dsimp only
    rw [H3.out]
    rfl
end Go.Proofs.Ytjmfeoenbncibaa
namespace Go.Proofs.Ytjmfeoenbncibaa
open Go.RowKit Go.Nau Go.Shelf
attribute [local go_sem] Oper.semAt_some

/-- May a log begin there? -/
def beginB (nb : Nat) (p : Int) (sq : Nat) (nx : Int) : Bool :=
  decide (16 ≤ p) && (decide (p < nb) && (decide (p % 16 ≠ 15) && (decide (0 < sq) && (decide (sq < 281474976710656) && (decide (nx = 0) || segB nb nx)))))
theorem beginB_iff {nb : Nat} {p : Int} {sq : Nat} {nx : Int} : beginB nb p sq nx = true ↔ 16 ≤ p ∧ p < nb ∧ p % 16 ≠ 15 ∧ 0 < sq ∧ sq < 281474976710656 ∧ (nx = 0 ∨ segB nb nx = true) := by
  unfold beginB
  simp only [Bool.and_eq_true, Bool.or_eq_true, decide_eq_true_eq]
def beginL (p : Int) (sq : Nat) (nx : Int) : LS := ⟨p.toNat, sq, nx.toNat⟩
theorem beginL_ok {nb : Nat} (h16 : nb % 16 = 0) (h4 : nb ≤ 4096) {p : Int} {sq : Nat} {nx : Int} (h : beginB nb p sq nx = true) : LOk nb (beginL p sq nx) := by
  obtain ⟨h1, h2, h3, h5, h6, h7⟩ := beginB_iff.1 h
  refine ⟨h16, h4, by show 16 ≤ p.toNat; omega, by show p.toNat < nb; omega, by show p.toNat % 16 ≠ 15; omega, h5, Nat.le_of_lt h6, ?_⟩
  rcases h7 with rfl | h7
  · exact .inl rfl
  · exact .inr (segB_toNat h7).1
theorem beginL_vals {nb : Nat} {p : Int} {sq : Nat} {nx : Int} (h : beginB nb p sq nx = true) : ((beginL p sq nx).pos : Int) = p ∧ (beginL p sq nx).seq = sq ∧ ((beginL p sq nx).next : Int) = nx := by
  obtain ⟨h1, h2, h3, h5, h6, h7⟩ := beginB_iff.1 h
  refine ⟨by show ((p.toNat : Nat) : Int) = p; omega, rfl, ?_⟩
  show ((nx.toNat : Nat) : Int) = nx
  rcases h7 with rfl | h7
  · rfl
  · exact (segB_toNat h7).2

theorem begin_nil (p : Int) (sq : Nat) (nx : Int) (w : World) : Calls Try.prog 11 #[.pointer none, .int .i64 p, .int .u64 sq, .int .i64 nx] w fun e w' => e = .returned (.tuple #[.pointer none, .int .i64 1]) ∧ w = w' := by
  go_enter Try.func11, Try.ntmps11
  go_wp2
  go_ret2
  exact ⟨rfl, rfl⟩

def BegPost (w : World) (d nb : Nat) (p : Int) (sq : Nat) (nx : Int) (e : Ending) (w' : World) : Prop :=
  (beginB nb p sq nx = true ∧ e = .returned (.tuple #[.pointer (some ⟨w.heap.size, 0, none⟩), .int .i64 0]) ∧ Lg w' w.heap.size d (beginL p sq nx) ∧ Below w.heap.size w w' ∧ w'.heap.size = w.heap.size + 1) ∨
  (beginB nb p sq nx = false ∧ e = .returned (.tuple #[.pointer none, .int .i64 151]) ∧ w' = w)

set_option maxHeartbeats 1000000 in
set_option maxRecDepth 100000 in
theorem begin_core (d nb : Nat) (p : Int) (sq : Int) (nx : Int) (w : World) (hn : (nb : Int) ≤ 4096) (hp : -9223372036854775808 ≤ p ∧ p ≤ 9223372036854775807) (h0 : 0 ≤ sq)
    (hB : Calls Try.prog 42 #[.pointer (some ⟨d, 0, none⟩)] w fun e w' => e = .returned (.int .i64 nb) ∧ w = w') (sg : Bool)
    (hS : Calls Try.prog 44 #[.pointer (some ⟨d, 0, none⟩), .int .i64 nx] w fun e w' => e = .returned (.bool sg) ∧ w = w') (P : Bool → Prop)
    (hP1 : 16 ≤ p → p < nb → p % 16 ≠ 15 → 0 < sq → sq < 281474976710656 → (nx = 0 ∨ sg = true) → P true) (hP2 : p < 16 ∨ nb ≤ p ∨ p % 16 = 15 ∨ sq = 0 ∨ 281474976710656 ≤ sq ∨ (nx ≠ 0 ∧ sg = false) → P false) :
    Calls Try.prog 11 #[.pointer (some ⟨d, 0, none⟩), .int .i64 p, .int .u64 sq, .int .i64 nx] w fun e w' => 
      (P true ∧ e = .returned (.tuple #[.pointer (some ⟨w.heap.size, 0, none⟩), .int .i64 0]) ∧ w' = w.alloc (.cells #[.pointer (some ⟨d, 0, none⟩), .int .i64 p, .int .u64 sq, .int .i64 nx] 95)) ∨ (P false ∧ e = .returned (.tuple #[.pointer none, .int .i64 151]) ∧ w' = w) := by
  have HB := Lib.hid hB
  have HS := Lib.hid hS
  have H1 := Lib.hid hP1
  have H2 := Lib.hid hP2
  clear hB hS hP1 hP2
  by_cases a1 : p < 16
  · go_enter Try.func11, Try.ntmps11
    go_wp2
    go_ret2
    exact .inr ⟨H2.out (.inl a1), rfl, rfl⟩
  by_cases a2 : (nb : Int) ≤ p
  · go_enter Try.func11, Try.ntmps11
    go_wp2_with fail
    refine HB.out.mono ?_
    rintro e w1 ⟨rfl, rfl⟩
    go_wp2
    go_ret2
    exact .inr ⟨H2.out (.inr (.inl a2)), rfl, rfl⟩
  have hl := isLast_any p w (by omega) (by omega)
  have a2' : ¬ ((nb : Int) ≤ p) := a2
  by_cases a3 : p % 16 = 15
  · rw [decide_eq_true a3] at hl
    have HL := Lib.hid hl
    have A3 := Lib.hid a3
    clear hl a3
    go_enter Try.func11, Try.ntmps11
    go_wp2_with fail
    refine HB.out.mono ?_
    rintro e w1 ⟨rfl, rfl⟩
    go_wp2_with fail
    refine HL.out.mono ?_
    rintro e w1 ⟨rfl, rfl⟩
    go_wp2
    go_ret2
    exact .inr ⟨H2.out (.inr (.inr (.inl A3.out))), rfl, rfl⟩
  rw [decide_eq_false a3] at hl
  have HL := Lib.hid hl
  have A3 := Lib.hid a3
  clear hl a3
  by_cases a4 : sq = 0
  · have e4 : (sq == 0) = true := by simpa using a4
    have A4 := Lib.hid a4
    clear a4
    go_enter Try.func11, Try.ntmps11
    go_wp2_with fail
    refine HB.out.mono ?_
    rintro e w1 ⟨rfl, rfl⟩
    go_wp2_with fail
    refine HL.out.mono ?_
    rintro e w1 ⟨rfl, rfl⟩
    go_wp2
    go_ret2
    exact .inr ⟨H2.out (.inr (.inr (.inr (.inl A4.out)))), rfl, rfl⟩
  have e4 : (sq == 0) = false := by simpa using a4
  by_cases a5 : (281474976710656 : Int) ≤ sq
  · have A4 := Lib.hid a4
    clear a4
    go_enter Try.func11, Try.ntmps11
    go_wp2_with fail
    refine HB.out.mono ?_
    rintro e w1 ⟨rfl, rfl⟩
    go_wp2_with fail
    refine HL.out.mono ?_
    rintro e w1 ⟨rfl, rfl⟩
    go_wp2
    go_ret2
    exact .inr ⟨H2.out (.inr (.inr (.inr (.inr (.inl a5))))), rfl, rfl⟩
  have b5 : decide ((281474976710656 : Int) ≤ sq) = false := decide_eq_false a5
  have A5 := Lib.hid a5
  clear a5
  by_cases a6 : nx = 0
  · have e6 : (nx != 0) = false := by simpa using a6
    have A6 := Lib.hid a6
    have A4 := Lib.hid a4
    clear a6 a4
    go_enter Try.func11, Try.ntmps11
    go_wp2_with fail
    refine HB.out.mono ?_
    rintro e w1 ⟨rfl, rfl⟩
    go_wp2_with fail
    refine HL.out.mono ?_
    rintro e w1 ⟨rfl, rfl⟩
    go_wp2
    go_ret2
    have := A4.out
    have := A5.out
    exact .inl ⟨H1.out (by omega) (by omega) A3.out (by omega) (by omega) (.inl A6.out), rfl, rfl⟩
  · have e6 : (nx != 0) = true := by simpa using a6
    have A6 := Lib.hid a6
    have A4 := Lib.hid a4
    clear a6 a4
    cases sg
    · go_enter Try.func11, Try.ntmps11
      go_wp2_with fail
      refine HB.out.mono ?_
      rintro e w1 ⟨rfl, rfl⟩
      go_wp2_with fail
      refine HL.out.mono ?_
      rintro e w1 ⟨rfl, rfl⟩
      go_wp2_with fail
      refine HS.out.mono ?_
      rintro e w1 ⟨rfl, rfl⟩
      go_wp2
      go_ret2
      exact .inr ⟨H2.out (.inr (.inr (.inr (.inr (.inr ⟨A6.out, trivial⟩))))), rfl, rfl⟩
    · go_enter Try.func11, Try.ntmps11
      go_wp2_with fail
      refine HB.out.mono ?_
      rintro e w1 ⟨rfl, rfl⟩
      go_wp2_with fail
      refine HL.out.mono ?_
      rintro e w1 ⟨rfl, rfl⟩
      go_wp2_with fail
      refine HS.out.mono ?_
      rintro e w1 ⟨rfl, rfl⟩
      go_wp2
      go_ret2
      have := A4.out
      have := A5.out
      exact .inl ⟨H1.out (by omega) (by omega) A3.out (by omega) (by omega) (.inr trivial), rfl, rfl⟩

theorem beg_post {w w' : World} {d nb : Nat} {p : Int} {sq : Nat} {nx : Int} {e : Ending}
    (h : (beginB nb p sq nx = true ∧ e = .returned (.tuple #[.pointer (some ⟨w.heap.size, 0, none⟩), .int .i64 0]) ∧ w' = w.alloc (.cells #[.pointer (some ⟨d, 0, none⟩), .int .i64 p, .int .u64 sq, .int .i64 nx] 95)) ∨ (beginB nb p sq nx = false ∧ e = .returned (.tuple #[.pointer none, .int .i64 151]) ∧ w' = w)) : BegPost w d nb p sq nx e w' := by
  rcases h with ⟨h1, h2, rfl⟩ | ⟨h1, h2, h3⟩
  · refine .inl ⟨h1, h2, ?_, (Below.refl _ _).alloc (Nat.le_refl _) _, by simp⟩
    obtain ⟨e1, e2, e3⟩ := beginL_vals h1
    unfold Lg lgC
    rw [e1, e2, e3]
    exact heap_alloc_new w _
  · exact .inr ⟨h1, h2, h3⟩
theorem begin_any {w : World} {F : Nat → Prop} {d : Nat} {s : DS} (h : Dsk w F d s) (hn : s.now.length ≤ 4096) (p : Int) (sq : Nat) (nx : Int) (hp : -9223372036854775808 ≤ p ∧ p ≤ 9223372036854775807) (hs : sq < 18446744073709551616) (hx : -9223372036854775808 ≤ nx ∧ nx ≤ 9223372036854775807) :
    Calls Try.prog 11 #[.pointer (some ⟨d, 0, none⟩), .int .i64 p, .int .u64 sq, .int .i64 nx] w (BegPost w d s.now.length p sq nx) := by
  refine (begin_core d s.now.length p sq nx w (by omega) hp (by omega) (blocks_dsk h) (segB s.now.length nx) (isSeg_any h hn nx hx) (fun b => beginB s.now.length p sq nx = b) ?_ ?_).mono fun e w' h => beg_post h
  · intro h1 h2 h3 h4 h5 h6
    exact beginB_iff.2 ⟨h1, h2, h3, by omega, by omega, h6⟩
  · intro hh
    cases hb : beginB s.now.length p sq nx with
    | false => rfl
    | true =>
      obtain ⟨h1, h2, h3, h4, h5, h6⟩ := beginB_iff.1 hb
      rcases hh with hh | hh | hh | hh | hh | ⟨hh, hg⟩
      · omega
      · omega
      · exact absurd hh h3
      · omega
      · omega
      · rcases h6 with h6 | h6
        · exact absurd h6 hh
        · rw [hg] at h6
          cases h6
end Go.Proofs.Ytjmfeoenbncibaa
namespace Go.Proofs.Ytjmfeoenbncibaa
open Go.RowKit Go.Nau Go.Shelf
attribute [local go_sem] Oper.semAt_some

theorem rseg_any (n nb : Int) (h0 : 0 ≤ nb) (h1 : nb ≤ 4096) (hi : -9223372036854775808 ≤ n ∧ n ≤ 9223372036854775807) (w : World) :
    Calls Try.prog 60 #[.int .i64 n, .int .i64 nb] w fun e w' => e = .returned (.bool (segB nb.toNat n)) ∧ w = w' := by
  have hs : ∀ b, (decide (n ≥ 1) && decide (n < nb / 16)) = b → segB nb.toNat n = b := by
    rintro b rfl
    unfold segB
    have : (((nb.toNat / 16 : Nat)) : Int) = nb / 16 := by omega
    rw [this]
    rfl
  by_cases g0 : 1 ≤ n
  · have HS := Lib.hid (hs (decide (n < nb / 16)) (by simp [g0]))
    clear hs
    go_enter Try.func60, Try.ntmps60
    go_wp2
    go_ret
    exact ⟨by rw [HS.out]; rfl, rfl⟩
  · have HS := Lib.hid (hs false (by simp [g0]))
    clear hs
    go_enter Try.func60, Try.ntmps60
    go_wp2
    go_ret
    exact ⟨by rw [HS.out]; rfl, rfl⟩

theorem rlroom_any {w : World} {g d : Nat} {l : LS} (h : RLg w g d l) : Calls Try.prog 31 #[.pointer (some ⟨g, 0, none⟩)] w fun e w' => e = .returned (.int .i64 ((15 - l.pos % 16 : Nat) : Int)) ∧ w = w' := by
  have c1 := blk_cell h 1
  simp [lgC] at c1
  have hr := rroom_any (l.pos : Int) w
  have e : roomI (l.pos : Int) = ((15 - l.pos % 16 : Nat) : Int) := by
    unfold roomI
    rw [if_neg (by omega)]
    omega
  rw [e] at hr
  have HR := Lib.hid hr
  clear hr e
  go_enter Try.func31, Try.ntmps31
  go_wp2_with fail
  refine HR.out.mono ?_
  rintro e w1 ⟨rfl, rfl⟩
  go_wp2
  go_ret
  exact ⟨rfl, rfl⟩

theorem rdsk_len {w : World} {G : Nat → Prop} {r : Nat} {s : DS} (h : RDsk w G r s) : ∃ bb bc, w.cell? ⟨r, 0, none⟩ = some (.slice (some ⟨bb, 0, none⟩) s.safe.length bc) := by
  obtain ⟨bb, bc, L, h, _⟩ := h
  have := blk_cell h 0
  simp [rcells] at this
  exact ⟨bb, bc, this⟩

theorem rsetnext_any {w : World} {G : Nat → Prop} {g d : Nat} {s : DS} {l : LS} (hd : RDsk w G d s) (h : RLg w g d l) (hn : s.safe.length ≤ 4096) (n : Int) (hi : -9223372036854775808 ≤ n ∧ n ≤ 9223372036854775807) :
    Calls Try.prog 61 #[.pointer (some ⟨g, 0, none⟩), .int .i64 n] w fun e w' => e = .returned (.int .i64 (snE s.safe.length n)) ∧ RLg w' g d (snL s.safe.length l n) ∧ Fr (· = g) w w' := by
  have hseg := rseg_any n (s.safe.length : Int) (by omega) (by omega) hi w
  rw [Int.toNat_natCast] at hseg
  obtain ⟨bb, bc, k0⟩ := rdsk_len hd
  have c0 := blk_cell h 0
  have c3 := blk_cell h 3
  have z3 := blk_frozen h 3
  simp [lgC] at c0 c3
  cases hs : segB s.safe.length n with
  | false =>
    rw [hs] at hseg
    have e1 : snE s.safe.length n = 2 := by unfold snE; rw [hs]; rfl
    have e2 : snL s.safe.length l n = l := by unfold snL; rw [hs]; rfl
    rw [e1, e2]
    have HS := Lib.hid hseg
    have H := Lib.hid h
    clear hs hseg e1 e2 h hd
    go_enter Try.func61, Try.ntmps61
    go_wp2_with fail
    refine HS.out.mono ?_
    rintro e w1 ⟨rfl, rfl⟩
    go_wp2
    go_ret
    exact ⟨rfl, H.out, Fr.refl _ _⟩
  | true =>
    rw [hs] at hseg
    have e1 : snE s.safe.length n = 0 := by unfold snE; rw [hs]; rfl
    have e2 : snL s.safe.length l n = { l with next := n.toNat } := by unfold snL; rw [hs]; rfl
    have e3 := (segB_toNat hs).2
    rw [e1, e2]
    have HS := Lib.hid hseg
    have H := Lib.hid h
    have H3 := Lib.hid e3
    clear hs hseg e1 e2 h hd e3
    go_enter Try.func61, Try.ntmps61
    go_wp2_with fail
    refine HS.out.mono ?_
    rintro e w1 ⟨rfl, rfl⟩
    go_wp2
    go_ret
    refine ⟨rfl, ?_, Fr.set1 _ _ _ _⟩
    show (World.setCell w ⟨g, 3, none⟩ (.int .i64 n)).heap[g]? = _
    rw [blk_set H.out 3 _]
    unfold lgC
    dsimp only
    rw [H3.out]
    rfl

def RBegPost (w : World) (d nb : Nat) (p : Int) (sq : Nat) (nx : Int) (e : Ending) (w' : World) : Prop :=
  (beginB nb p sq nx = true ∧ e = .returned (.tuple #[.pointer (some ⟨w.heap.size, 0, none⟩), .int .i64 0]) ∧ RLg w' w.heap.size d (beginL p sq nx) ∧ Below w.heap.size w w' ∧ w'.heap.size = w.heap.size + 1) ∨
  (beginB nb p sq nx = false ∧ e = .returned (.tuple #[.pointer none, .int .i64 151]) ∧ w' = w)

set_option maxHeartbeats 1000000 in
set_option maxRecDepth 100000 in
theorem rbegin_core (d nb bb bc : Nat) (p : Int) (sq : Int) (nx : Int) (w : World) (hn : (nb : Int) ≤ 4096) (hp : -9223372036854775808 ≤ p ∧ p ≤ 9223372036854775807) (h0 : 0 ≤ sq)
    (hc : w.cell? ⟨d, 0, none⟩ = some (.slice (some ⟨bb, 0, none⟩) nb bc)) (sg : Bool)
    (hS : Calls Try.prog 60 #[.int .i64 nx, .int .i64 nb] w fun e w' => e = .returned (.bool sg) ∧ w = w') (P : Bool → Prop)
    (hP1 : 16 ≤ p → p < nb → p % 16 ≠ 15 → 0 < sq → sq < 281474976710656 → (nx = 0 ∨ sg = true) → P true) (hP2 : p < 16 ∨ nb ≤ p ∨ p % 16 = 15 ∨ sq = 0 ∨ 281474976710656 ≤ sq ∨ (nx ≠ 0 ∧ sg = false) → P false) :
    Calls Try.prog 29 #[.pointer (some ⟨d, 0, none⟩), .int .i64 p, .int .u64 sq, .int .i64 nx] w fun e w' => 
      (P true ∧ e = .returned (.tuple #[.pointer (some ⟨w.heap.size, 0, none⟩), .int .i64 0]) ∧ w' = w.alloc (.cells #[.pointer (some ⟨d, 0, none⟩), .int .i64 p, .int .u64 sq, .int .i64 nx] 53)) ∨ (P false ∧ e = .returned (.tuple #[.pointer none, .int .i64 151]) ∧ w' = w) := by
  have HS := Lib.hid hS
  have H1 := Lib.hid hP1
  have H2 := Lib.hid hP2
  clear hS hP1 hP2
  by_cases a1 : p < 16
  · go_enter Try.func29, Try.ntmps29
    go_wp2
    go_ret2
    exact .inr ⟨H2.out (.inl a1), rfl, rfl⟩
  by_cases a2 : (nb : Int) ≤ p
  · go_enter Try.func29, Try.ntmps29
    go_wp2
    go_ret2
    exact .inr ⟨H2.out (.inr (.inl a2)), rfl, rfl⟩
  by_cases a3 : p % 16 = 15
  · have e3 : (p % 16 == 15) = true := by simpa using a3
    have A3 := Lib.hid a3
    clear a3
    go_enter Try.func29, Try.ntmps29
    go_wp2
    go_ret2
    exact .inr ⟨H2.out (.inr (.inr (.inl A3.out))), rfl, rfl⟩
  have e3 : (p % 16 == 15) = false := by simpa using a3
  have A3 := Lib.hid a3
  clear a3
  by_cases a4 : sq < 1
  · go_enter Try.func29, Try.ntmps29
    go_wp2
    go_ret2
    exact .inr ⟨H2.out (.inr (.inr (.inr (.inl (by omega))))), rfl, rfl⟩
  by_cases a5 : (281474976710656 : Int) ≤ sq
  · go_enter Try.func29, Try.ntmps29
    go_wp2
    go_ret2
    exact .inr ⟨H2.out (.inr (.inr (.inr (.inr (.inl a5))))), rfl, rfl⟩
  have b5 : decide ((281474976710656 : Int) ≤ sq) = false := decide_eq_false a5
  have A5 := Lib.hid a5
  clear a5
  by_cases a6 : nx = 0
  · have e6 : (nx != 0) = false := by simpa using a6
    have A6 := Lib.hid a6
    clear a6
    go_enter Try.func29, Try.ntmps29
    go_wp2
    go_ret2
    have := A5.out
    exact .inl ⟨H1.out (by omega) (by omega) A3.out (by omega) (by omega) (.inl A6.out), rfl, rfl⟩
  · have e6 : (nx != 0) = true := by simpa using a6
    have A6 := Lib.hid a6
    clear a6
    cases sg
    · go_enter Try.func29, Try.ntmps29
      go_wp2_with fail
      refine HS.out.mono ?_
      rintro e w1 ⟨rfl, rfl⟩
      go_wp2
      go_ret2
      exact .inr ⟨H2.out (.inr (.inr (.inr (.inr (.inr ⟨A6.out, trivial⟩))))), rfl, rfl⟩
    · go_enter Try.func29, Try.ntmps29
      go_wp2_with fail
      refine HS.out.mono ?_
      rintro e w1 ⟨rfl, rfl⟩
      go_wp2
      go_ret2
      have := A5.out
      exact .inl ⟨H1.out (by omega) (by omega) A3.out (by omega) (by omega) (.inr trivial), rfl, rfl⟩

theorem rbeg_post {w w' : World} {d nb : Nat} {p : Int} {sq : Nat} {nx : Int} {e : Ending}
    (h : (beginB nb p sq nx = true ∧ e = .returned (.tuple #[.pointer (some ⟨w.heap.size, 0, none⟩), .int .i64 0]) ∧ w' = w.alloc (.cells #[.pointer (some ⟨d, 0, none⟩), .int .i64 p, .int .u64 sq, .int .i64 nx] 53)) ∨ (beginB nb p sq nx = false ∧ e = .returned (.tuple #[.pointer none, .int .i64 151]) ∧ w' = w)) : RBegPost w d nb p sq nx e w' := by
  rcases h with ⟨h1, h2, rfl⟩ | ⟨h1, h2, h3⟩
  · refine .inl ⟨h1, h2, ?_, (Below.refl _ _).alloc (Nat.le_refl _) _, by simp⟩
    obtain ⟨e1, e2, e3⟩ := beginL_vals h1
    unfold RLg lgC
    rw [e1, e2, e3]
    exact heap_alloc_new w _
  · exact .inr ⟨h1, h2, h3⟩
theorem rbegin_any {w : World} {G : Nat → Prop} {d : Nat} {s : DS} (h : RDsk w G d s) (hn : s.safe.length ≤ 4096) (p : Int) (sq : Nat) (nx : Int) (hp : -9223372036854775808 ≤ p ∧ p ≤ 9223372036854775807) (hs : sq < 18446744073709551616) (hx : -9223372036854775808 ≤ nx ∧ nx ≤ 9223372036854775807) :
    Calls Try.prog 29 #[.pointer (some ⟨d, 0, none⟩), .int .i64 p, .int .u64 sq, .int .i64 nx] w (RBegPost w d s.safe.length p sq nx) := by
  obtain ⟨bb, bc, k0⟩ := rdsk_len h
  have hseg := rseg_any nx (s.safe.length : Int) (by omega) (by omega) hx w
  rw [Int.toNat_natCast] at hseg
  refine (rbegin_core d s.safe.length bb bc p sq nx w (by omega) hp (by omega) k0 (segB s.safe.length nx) hseg (fun b => beginB s.safe.length p sq nx = b) ?_ ?_).mono fun e w' h => rbeg_post h
  · intro h1 h2 h3 h4 h5 h6
    exact beginB_iff.2 ⟨h1, h2, h3, by omega, by omega, h6⟩
  · intro hh
    cases hb : beginB s.safe.length p sq nx with
    | false => rfl
    | true =>
      obtain ⟨h1, h2, h3, h4, h5, h6⟩ := beginB_iff.1 hb
      rcases hh with hh | hh | hh | hh | hh | ⟨hh, hg⟩
      · omega
      · omega
      · exact absurd hh h3
      · omega
      · omega
      · rcases h6 with h6 | h6
        · exact absurd h6 hh
        · rw [hg] at h6
          cases h6
end Go.Proofs.Ytjmfeoenbncibaa

/- Directories: the reference's List, Same (of like lists); the law DirsNames walked. -/
import Derived.Test.YtliioeihbbhiiaaEs
namespace Go.Proofs.Ytliioeihbbhiiaa
open Go.RowKit Go.Nau Go.Shelf
attribute [local go_sem] Oper.semAt_some

theorem sortN_length (l : List Nm) : (sortN l).length = l.length := (sortN_perm l).length_eq
theorem rlist_any (s : ByteArray) (hs : s.size ≤ 9223372036854775807) (w : World) : Calls Try.prog 21 #[.string s] w (LPost w s) := by
  have HR := Lib.hid (fun W => rread_any s hs W)
  cases hok : rdOk s
  · have hE : readE s = 110 := by unfold readE; rw [hok]; rfl
    have hN : namesL s = [] := by unfold namesL readL; rw [hok]; rfl
    have e0 : sortN [] = [] := by unfold sortN; simp
    unfold LPost
    rw [hE, hN, e0]
    unfold RRPost at HR
    rw [hok] at HR
    clear hE hN e0 hok
    go_enter Try.func21, Try.ntmps21
    go_wp2_with fail
    refine (HR.out _).mono ?_
    rintro e w1 ⟨v, rfl, _, hb1⟩
    go_wp2_with fail
    go_ret2
    exact ⟨.slice none 0 0, rfl, ⟨rfl, .inl ⟨rfl, rfl⟩⟩, hb1⟩
  · have hE : readE s = 0 := by unfold readE; rw [hok]; rfl
    unfold LPost
    rw [hE]
    unfold RRPost at HR
    rw [hok] at HR
    have hll := namesL_le s
    have hso := fun (A : Option Addr) (c : Nat) (W : World) h => rsorted_any (namesL s) A c W h (by omega) (names_dist s) (fun x hx => nameB_le (namesL_wf hx).1)
    have HS := Lib.hid hso
    clear hso hE hok
    generalize hln : sortN (namesL s) = ln at *
    clear hln
    generalize namesL s = l at *
    go_enter Try.func21, Try.ntmps21
    go_wp2_with fail
    refine (HR.out _).mono ?_
    rintro e w1 ⟨v, rfl, hown, hb1⟩
    obtain ⟨A, c, rfl, hc, hrd⟩ := Rd.of_own2 hown
    have HC := Lib.hid (HS.out A c w1 (hrd.mono (fun k hk => hk.2)))
    clear hown hrd HS
    go_wp2_with fail
    refine HC.out.mono ?_
    rintro e w2 ⟨v2, rfl, hown2, hb2⟩
    have hb3 := hb1.trans (hb2.mono hb1.size)
    have HO := Lib.hid (own_base hown2 hb1.size)
    clear hown2
    go_wp2_with fail
    go_ret2
    exact ⟨v2, rfl, HO.out, hb3⟩

set_option maxHeartbeats 1000000 in
theorem rsame_any (l : List Nm) (A B : Option Addr) (c d : Nat) (w : World) (hra : Rd (· < w.heap.size) w 2 A l.length (nmC l)) (hrb : Rd (· < w.heap.size) w 2 B l.length (nmC l)) (hl : l.length ≤ 1000000) :
    Calls Try.prog 25 #[.slice A l.length c, .slice B l.length d] w fun e w' => e = .returned (.bool true) ∧ Below w.heap.size w w' := by
  have RA := Lib.hid hra
  have RB := Lib.hid hrb
  clear hra hrb
  have hli : (l.length : Int) ≤ 1000000 := by omega
  go_enter Try.func25, Try.ntmps25
  go_wp2_with fail
  go_loopg [5] l.length (fun k i wr => ∃ q : Nat, k = l.length - q ∧ i = .int .i64 q ∧ q ≤ l.length ∧ ∃ n, wr = w.drewN n)
  case atStart => exact ⟨0, rfl, rfl, Nat.zero_le _, 0, rfl⟩
  case round =>
    obtain ⟨q, rfl, rfl, hq, n, rfl⟩ := hrel
    by_cases hlt : q < l.length
    · have hqi : (q : Int) < (l.length : Int) := by omega
      obtain ⟨x, hx⟩ : ∃ x, l[q]? = some x := ⟨_, List.getElem?_eq_getElem hlt⟩
      obtain ⟨ad, rfl, _, e0, e1⟩ := nm_cells RA.out q x hx hlt
      obtain ⟨bd, rfl, _, g0, g1⟩ := nm_cells RB.out q x hx hlt
      obtain ⟨nm, ino⟩ := x
      dsimp only at e0 e1 g0 g1
      clear hx
      go_wp2_with fail
      refine wp_region_quiet_lit (by kernel_rfl) (by kernel_rfl) ?_
      repeat (go_big_quiet_step (fail))
      refine wpQuiet_nil ?_
      rintro w' ⟨nq, rfl⟩
      go_simp
      go_wp2_with fail
      go_roundg (l.length - (q + 1))
      case measure => omega
      case rel => exact ⟨q + 1, rfl, by simp, by omega, n + nq, by simp⟩
    · obtain rfl : q = l.length := by omega
      go_wp2_with fail
      go_ret
      exact ⟨rfl, below_drewN (Below.refl _ _) n⟩

set_option maxHeartbeats 4000000 in
set_option maxRecDepth 100000 in
theorem names_law (name s : ByteArray) (hs : s.size ≤ maxLen) (hn : name.size ≤ maxLen) (w : World) :
    Calls Try.prog 5 #[.string name, .string s] w fun e w' => e = .returned (.bool true) ∧ Below w.heap.size w w' := by
  have hz := cutS_size s
  have HC := Lib.hid (fun W => cut_any s hs W)
  generalize cutS s = t at *
  have ht : t.size ≤ 9223372036854775807 := by omega
  have g1 := fun W => dlist_any t ht W
  have g2 := fun W => rlist_any t ht W
  have g3 := fun W => isname_any name W
  have g4 := fun W => risname_any name hn W
  have g5 := fun W => right_any t ht W
  have g6 := fun W => rright_any t ht W
  have hll := namesL_le t
  have hsl := sortN_length (namesL t)
  unfold LPost at g1 g2
  rw [← hsl] at g1 g2 hll
  clear hsl hz ht hs hn
  generalize sortN (namesL t) = l at *
  generalize readE t = re at *
  generalize nameB name = nb at *
  generalize rdOk t = ok at *
  have hsm := fun (A B : Option Addr) (c d : Nat) (W : World) h1 h2 => rsame_any l A B c d W h1 h2 (by omega)
  have G1 := Lib.hid g1
  have G2 := Lib.hid g2
  have G3 := Lib.hid g3
  have G4 := Lib.hid g4
  have G5 := Lib.hid g5
  have G6 := Lib.hid g6
  have HSM := Lib.hid hsm
  clear g1 g2 g3 g4 g5 g6 hsm hll
  go_enter Try.func5, Try.ntmps5
  go_wp2_with fail
  refine (shown_any _).mono ?_
  rintro e w1 ⟨rfl, b⟩
  go_wp2_with fail
  refine (HC.out _).mono ?_
  rintro e w2 ⟨rfl, rfl⟩
  go_wp2_with fail
  refine (G1.out _).mono ?_
  rintro e w2 ⟨v1, rfl, o1, b1⟩
  replace b := b.trans (b1.mono b.size)
  obtain ⟨A1, c1, rfl, _, r1⟩ := Rd.of_own2 o1
  have R1 := Lib.hid r1
  clear o1 r1
  go_wp2_with fail
  refine (G2.out _).mono ?_
  rintro e w3 ⟨v2, rfl, o2, b2⟩
  replace b := b.trans (b2.mono b.size)
  obtain ⟨A2, c2, rfl, _, r2⟩ := Rd.of_own2 o2
  have hr1 := R1.out.kept (Fr.of_below b2) (fun k hk => by omega)
  have hsz := b2.size
  have hr1' := hr1.mono (T' := (· < w3.heap.size)) (fun k hk => by omega)
  have hr2' := r2.mono (T' := (· < w3.heap.size)) (fun k hk => hk.2)
  have R1' := Lib.hid hr1'
  have R2' := Lib.hid hr2'
  clear R1 o2 r2 hr1 hr1' hr2' hsz b1 b2
  go_wp2_with fail
  refine (G3.out _).mono ?_
  rintro e w4 ⟨rfl, rfl⟩
  go_wp2_with fail
  refine (G4.out _).mono ?_
  rintro e w4 ⟨rfl, rfl⟩
  go_wp2_with fail
  refine (G5.out _).mono ?_
  rintro e w4 ⟨rfl, b2⟩
  replace b := b.trans (b2.mono b.size)
  have hsz := b2.size
  have hr1 := (R1'.out.kept (Fr.of_below b2) (fun k hk => by omega)).mono (T' := (· < w4.heap.size)) (fun k hk => by omega)
  have hr2 := (R2'.out.kept (Fr.of_below b2) (fun k hk => by omega)).mono (T' := (· < w4.heap.size)) (fun k hk => by omega)
  have R1 := Lib.hid hr1
  have R2 := Lib.hid hr2
  clear R1' R2' hr1 hr2 hsz b2
  go_wp2_with fail
  refine (G6.out _).mono ?_
  rintro e w5 ⟨rfl, b2⟩
  replace b := b.trans (b2.mono b.size)
  have hsz := b2.size
  have hr1 := (R1.out.kept (Fr.of_below b2) (fun k hk => by omega)).mono (T' := (· < w5.heap.size)) (fun k hk => by omega)
  have hr2 := (R2.out.kept (Fr.of_below b2) (fun k hk => by omega)).mono (T' := (· < w5.heap.size)) (fun k hk => by omega)
  have HS := Lib.hid (HSM.out _ _ c1 c2 _ hr1 hr2)
  clear R1 R2 hr1 hr2 hsz b2 HSM
  go_wp2_with fail
  refine HS.out.mono ?_
  rintro e w6 ⟨rfl, b2⟩
  replace b := b.trans (b2.mono b.size)
  clear b2 HS
  go_wp2_with fail
  go_ret
  exact ⟨by simp, b⟩
end Go.Proofs.Ytliioeihbbhiiaa

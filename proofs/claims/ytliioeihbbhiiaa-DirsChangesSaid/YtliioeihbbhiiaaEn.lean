/- The law DirsChanges walked. -/
import Derived.Test.YtliioeihbbhiiaaEm
namespace Go.Proofs.Ytliioeihbbhiiaa
open Go.RowKit Go.Nau Go.Shelf
attribute [local go_sem] Oper.semAt_some

set_option maxHeartbeats 4000000 in
set_option maxRecDepth 100000 in
theorem changes_law (s name : ByteArray) (n : Int) (hs : s.size ≤ maxLen) (hn : name.size ≤ maxLen) (h0 : 0 ≤ n) (h1 : n ≤ 4294967295) (w : World) :
    Calls Try.prog 3 #[.string s, .string name, .int .u32 n] w fun e w' => e = .returned (.bool true) ∧ Below w.heap.size w w' := by
  obtain ⟨ino, rfl⟩ := Int.eq_ofNat_of_zero_le h0
  have hi : ino < 4294967296 := by omega
  have hz := cutS_size s
  have hnm : name.size ≤ 9223372036854775807 := hn
  have hc := fun W => cut_any s hs W
  generalize cutS s = t at *
  have ht : t.size ≤ 9223372036854775807 := by omega
  have g1 := fun W => dfind_any t name ht W
  have g2 := fun W => rfind_any t name ht hnm W
  have g3 := fun W => add_any t name ino ht hi W
  have g4 := fun W => radd_any t name ino ht hnm hi W
  have g5 := fun W => drop_any t name ht W
  have g6 := fun W => rdrop_any t name ht hnm W
  have g7 := fun W => set_any t name ino ht hi W
  have g8 := fun W => rset_any t name ino ht hnm hi W
  rw [drop_eq] at g6
  rw [set_eq] at g8
  generalize (findD t name).ino = fi at *
  generalize findE t name = fe at *
  generalize addS t name ino = aS at *
  generalize addE t name ino = ae at *
  generalize dropS t name = ds at *
  generalize setS t name ino = ss at *
  generalize setE t name ino = se at *
  have HC := Lib.hid hc
  have G1 := Lib.hid g1
  have G2 := Lib.hid g2
  have G3 := Lib.hid g3
  have G4 := Lib.hid g4
  have G5 := Lib.hid g5
  have G6 := Lib.hid g6
  have G7 := Lib.hid g7
  have G8 := Lib.hid g8
  clear hc g1 g2 g3 g4 g5 g6 g7 g8 hs hn h0 h1 hz hnm ht hi
  go_enter Try.func3, Try.ntmps3
  go_wp2_with fail
  refine (shown_any _).mono ?_
  rintro e w1 ⟨rfl, b⟩
  go_wp2_with fail
  refine (HC.out _).mono ?_
  rintro e w2 ⟨rfl, rfl⟩
  go_wp2_with fail
  refine (G1.out _).mono ?_
  rintro e w2 ⟨rfl, b2⟩
  replace b := b.trans (b2.mono b.size)
  clear b2
  go_wp2_with fail
  refine (G2.out _).mono ?_
  rintro e w3 ⟨rfl, b2⟩
  replace b := b.trans (b2.mono b.size)
  clear b2
  go_wp2_with fail
  refine (G3.out _).mono ?_
  rintro e w4 ⟨rfl, b2⟩
  replace b := b.trans (b2.mono b.size)
  clear b2
  go_wp2_with fail
  refine (G4.out _).mono ?_
  rintro e w5 ⟨rfl, b2⟩
  replace b := b.trans (b2.mono b.size)
  clear b2
  go_wp2_with fail
  refine (G5.out _).mono ?_
  rintro e w6 ⟨rfl, b2⟩
  replace b := b.trans (b2.mono b.size)
  clear b2
  go_wp2_with fail
  refine (G6.out _).mono ?_
  rintro e w7 ⟨rfl, b2⟩
  replace b := b.trans (b2.mono b.size)
  clear b2
  go_wp2_with fail
  refine (G7.out _).mono ?_
  rintro e w8 ⟨rfl, b2⟩
  replace b := b.trans (b2.mono b.size)
  clear b2
  go_wp2_with fail
  refine (G8.out _).mono ?_
  rintro e w9 ⟨rfl, b2⟩
  replace b := b.trans (b2.mono b.size)
  clear b2
  go_wp2_with fail
  go_ret
  exact ⟨by simp, b⟩
end Go.Proofs.Ytliioeihbbhiiaa

/- Paths: Under, both; the law PathUnder walked: over the given program. -/
import Derived.Test.YtliioeihbbhiiaaDoorHm
namespace Go.Proofs.YtliioeihbbhiiaaDoor
open Go.RowKit Go.Nau Go.Shelf
attribute [local go_sem] Oper.semAt_some

def udTxt (d : List ByteArray) (t : ByteArray) : ByteArray := if t.size = 0 then ⟨#[]⟩ else if Lib.hasPrefix t.data.toList [47] then t else if joinE d = 0 then joinS d ++ ⟨#[47]⟩ ++ t else ⟨#[]⟩
def undL (d : List ByteArray) (t : ByteArray) : List ByteArray := splitL (udTxt d t)
def undE (d : List ByteArray) (t : ByteArray) : Int := splitE (udTxt d t)
theorem split_empty : splitL ⟨#[]⟩ = [] ∧ splitE ⟨#[]⟩ = 120 := by constructor <;> rfl
theorem LstOut.bad {W W' : World} {L : List ByteArray} {E : Int} (hL : L = []) (hE : E = 120) (hb : Below W.heap.size W W') : LstOut L E W (.returned (.tuple #[.slice none 0 0, .int .i64 120])) W' := by
  subst hL hE
  exact ⟨none, 0, rfl, Nat.le_refl _, by simp [maxLen], Rd.nil _ _ _ _, hb⟩
theorem joinS_size (l : List ByteArray) : (joinS l).size ≤ 1000 := by
  unfold joinS
  split
  · rename_i h
    unfold joinOk at h
    simp only [Bool.and_eq_true, decide_eq_true_eq] at h
    exact h.2.2
  · exact Nat.zero_le _
theorem joinE_cases (l : List ByteArray) : joinE l = 0 ∨ joinE l = 120 := by unfold joinE; split <;> simp

/-- What Under does, of the calls that it makes. -/
structure UCalls (fs fj : Nat) (d : List ByteArray) (A : Option Addr) (c : Nat) (w : World) : Prop where
  split : ∀ (s : ByteArray) (W : World), s.size ≤ 9223372036854775807 → Calls Tryd.prog fs #[.string s] W (LstOut (splitL s) (splitE s) W)
  join : Calls Tryd.prog fj #[.slice A d.length c] w fun e w' => e = .returned (.tuple #[.string (joinS d), .int .i64 (joinE d)]) ∧ Below w.heap.size w w'

theorem isEmpty_size (t : ByteArray) : t.toList.isEmpty = decide (t.size = 0) := by
  rw [ByteArray.toList_eq, ← dat_length]
  cases t.data.toList <;> simp
set_option maxHeartbeats 4000000 in
set_option maxRecDepth 100000 in
theorem under_any (d : List ByteArray) (A : Option Addr) (c : Nat) (t : ByteArray) (w : World) (ht : t.size ≤ 9000000) (hU : UCalls 11 13 d A c w) :
    Calls Tryd.prog 15 #[.slice A d.length c, .string t] w (LstOut (undL d t) (undE d t) w) := by
  obtain ⟨hsp, hj⟩ := hU
  have hsp' := fun s W h => hsp s W h
  have h0e : t.toList.isEmpty = decide (t.size = 0) := isEmpty_size t
  by_cases h0 : t.size = 0
  · rw [decide_eq_true h0] at h0e
    have hu : udTxt d t = ⟨#[]⟩ := by unfold udTxt; rw [if_pos h0]
    have hp : ∀ W', Below w.heap.size w W' → LstOut (undL d t) (undE d t) w (.returned (.tuple #[.slice none 0 0, .int .i64 120])) W' := fun W' hb => LstOut.bad (by unfold undL; rw [hu]; exact split_empty.1) (by unfold undE; rw [hu]; exact split_empty.2) hb
    have HP := Lib.hid hp
    clear hp hu hsp hsp' hj h0 ht
    go_enter Tryd.func15, Tryd.ntmps15
    go_wp2_with fail
    try go_ret2
    exact HP.out _ (Below.refl _ w)
  rw [decide_eq_false h0] at h0e
  have hpos : 0 < t.size := by omega
  have hpx := pfx_first t hpos
  by_cases h47 : t[0] = 47
  · have hb0 : ((t[0].toNat : Int) == 47) = true := by rw [h47]; rfl
    have hu : udTxt d t = t := by
      unfold udTxt
      rw [if_neg h0, hpx, show (t[0] == 47) = true by simpa using h47]
      rfl
    have hL : undL d t = splitL t := by unfold undL; rw [hu]
    have hE : undE d t = splitE t := by unfold undE; rw [hu]
    have hc := hsp t w (by omega)
    rw [hL, hE]
    have HC := Lib.hid hc
    clear hu hL hE hc hsp hsp' hj ht hpx h47
    go_enter Tryd.func15, Tryd.ntmps15
    go_wp2_with fail
    refine HC.out.mono ?_
    rintro e w1 ⟨A1, c1, rfl, k1, k2, k3, k4⟩
    have HF := Lib.hid (show LstOut (splitL t) (splitE t) w (.returned (.tuple #[.slice A1 (splitL t).length c1, .int .i64 (splitE t)])) w1 from ⟨A1, c1, rfl, k1, k2, k3, k4⟩)
    clear k1 k2 k3 k4 HC
    go_wp2_with fail
    try go_ret2
    exact HF.out
  have hb0 : ((t[0].toNat : Int) == 47) = false := by
    simp only [beq_eq_false_iff_ne, ne_eq]
    intro e
    exact h47 (UInt8.toNat_inj.1 (by simpa using Int.ofNat_inj.1 e))
  have hu : udTxt d t = if joinE d = 0 then joinS d ++ ⟨#[47]⟩ ++ t else ⟨#[]⟩ := by
    unfold udTxt
    rw [if_neg h0, hpx, show (t[0] == 47) = false by simpa using h47]
    rfl
  rcases joinE_cases d with hj0 | hj0
  · rw [if_pos hj0] at hu
    have hL : undL d t = splitL (joinS d ++ ⟨#[47]⟩ ++ t) := by unfold undL; rw [hu]
    have hE : undE d t = splitE (joinS d ++ ⟨#[47]⟩ ++ t) := by unfold undE; rw [hu]
    have hjs := joinS_size d
    have hc : ∀ W, Calls Tryd.prog 11 #[.string (joinS d ++ ⟨#[47]⟩ ++ t)] W (LstOut (splitL (joinS d ++ ⟨#[47]⟩ ++ t)) (splitE (joinS d ++ ⟨#[47]⟩ ++ t)) W) := fun W => hsp _ W (by
      rw [ByteArray.size_append, ByteArray.size_append]
      have : (⟨#[47]⟩ : ByteArray).size = 1 := rfl
      omega)
    rw [hL, hE]
    rw [hj0] at hj
    have HC := Lib.hid hc
    have HJ := Lib.hid hj
    generalize joinS d = S at *
    generalize splitL (S ++ ⟨#[47]⟩ ++ t) = L at *
    generalize splitE (S ++ ⟨#[47]⟩ ++ t) = E at *
    clear hu hL hE hc hsp hsp' hj hpx h47 hj0
    go_enter Tryd.func15, Tryd.ntmps15
    go_wp2_with fail
    refine HJ.out.mono ?_
    rintro e w1 ⟨rfl, b1⟩
    go_wp2_with fail
    refine (HC.out _).mono ?_
    rintro e w2 ⟨A1, c1, rfl, k1, k2, k3, k4⟩
    have HF := Lib.hid (show LstOut L E w (.returned (.tuple #[.slice A1 L.length c1, .int .i64 E])) w2 from ⟨A1, c1, rfl, k1, k2, k3, b1.trans (k4.mono b1.size)⟩)
    clear k1 k2 k3 k4 HC HJ b1
    go_wp2_with fail
    try go_ret2
    exact HF.out
  · rw [if_neg (by rw [hj0]; decide)] at hu
    have hp : ∀ W', Below w.heap.size w W' → LstOut (undL d t) (undE d t) w (.returned (.tuple #[.slice none 0 0, .int .i64 120])) W' := fun W' hb => LstOut.bad (by unfold undL; rw [hu]; exact split_empty.1) (by unfold undE; rw [hu]; exact split_empty.2) hb
    have HP := Lib.hid hp
    rw [hj0] at hj
    have HJ := Lib.hid hj
    clear hu hp hsp hsp' hj hpx h47 hj0 ht
    go_enter Tryd.func15, Tryd.ntmps15
    go_wp2_with fail
    refine HJ.out.mono ?_
    rintro e w1 ⟨rfl, b1⟩
    go_wp2_with fail
    try go_ret2
    exact HP.out _ b1
set_option maxHeartbeats 4000000 in
set_option maxRecDepth 100000 in
theorem runder_any (d : List ByteArray) (A : Option Addr) (c : Nat) (t : ByteArray) (w : World) (ht : t.size ≤ 9000000) (hU : UCalls 12 14 d A c w) :
    Calls Tryd.prog 16 #[.slice A d.length c, .string t] w (LstOut (undL d t) (undE d t) w) := by
  obtain ⟨hsp, hj⟩ := hU
  have hsp' := fun s W h => hsp s W h
  have h0e : t.toList.isEmpty = decide (t.size = 0) := isEmpty_size t
  by_cases h0 : t.size = 0
  · rw [decide_eq_true h0] at h0e
    have hu : udTxt d t = ⟨#[]⟩ := by unfold udTxt; rw [if_pos h0]
    have hp : ∀ W', Below w.heap.size w W' → LstOut (undL d t) (undE d t) w (.returned (.tuple #[.slice none 0 0, .int .i64 120])) W' := fun W' hb => LstOut.bad (by unfold undL; rw [hu]; exact split_empty.1) (by unfold undE; rw [hu]; exact split_empty.2) hb
    have HP := Lib.hid hp
    clear hp hu hsp hsp' hj h0 ht
    go_enter Tryd.func16, Tryd.ntmps16
    go_wp2_with fail
    try go_ret2
    exact HP.out _ (Below.refl _ w)
  rw [decide_eq_false h0] at h0e
  have hpos : 0 < t.size := by omega
  have hpx := pfx_first t hpos
  by_cases h47 : t[0] = 47
  · have hb0 : ((t[0].toNat : Int) == 47) = true := by rw [h47]; rfl
    have hu : udTxt d t = t := by
      unfold udTxt
      rw [if_neg h0, hpx, show (t[0] == 47) = true by simpa using h47]
      rfl
    have hL : undL d t = splitL t := by unfold undL; rw [hu]
    have hE : undE d t = splitE t := by unfold undE; rw [hu]
    have hc := hsp t w (by omega)
    rw [hL, hE]
    have HC := Lib.hid hc
    clear hu hL hE hc hsp hsp' hj ht hpx h47
    go_enter Tryd.func16, Tryd.ntmps16
    go_wp2_with fail
    refine HC.out.mono ?_
    rintro e w1 ⟨A1, c1, rfl, k1, k2, k3, k4⟩
    have HF := Lib.hid (show LstOut (splitL t) (splitE t) w (.returned (.tuple #[.slice A1 (splitL t).length c1, .int .i64 (splitE t)])) w1 from ⟨A1, c1, rfl, k1, k2, k3, k4⟩)
    clear k1 k2 k3 k4 HC
    go_wp2_with fail
    try go_ret2
    exact HF.out
  have hb0 : ((t[0].toNat : Int) == 47) = false := by
    simp only [beq_eq_false_iff_ne, ne_eq]
    intro e
    exact h47 (UInt8.toNat_inj.1 (by simpa using Int.ofNat_inj.1 e))
  have hu : udTxt d t = if joinE d = 0 then joinS d ++ ⟨#[47]⟩ ++ t else ⟨#[]⟩ := by
    unfold udTxt
    rw [if_neg h0, hpx, show (t[0] == 47) = false by simpa using h47]
    rfl
  rcases joinE_cases d with hj0 | hj0
  · rw [if_pos hj0] at hu
    have hL : undL d t = splitL (joinS d ++ ⟨#[47]⟩ ++ t) := by unfold undL; rw [hu]
    have hE : undE d t = splitE (joinS d ++ ⟨#[47]⟩ ++ t) := by unfold undE; rw [hu]
    have hjs := joinS_size d
    have hc : ∀ W, Calls Tryd.prog 12 #[.string (joinS d ++ ⟨#[47]⟩ ++ t)] W (LstOut (splitL (joinS d ++ ⟨#[47]⟩ ++ t)) (splitE (joinS d ++ ⟨#[47]⟩ ++ t)) W) := fun W => hsp _ W (by
      rw [ByteArray.size_append, ByteArray.size_append]
      have : (⟨#[47]⟩ : ByteArray).size = 1 := rfl
      omega)
    rw [hL, hE]
    rw [hj0] at hj
    have HC := Lib.hid hc
    have HJ := Lib.hid hj
    generalize joinS d = S at *
    generalize splitL (S ++ ⟨#[47]⟩ ++ t) = L at *
    generalize splitE (S ++ ⟨#[47]⟩ ++ t) = E at *
    clear hu hL hE hc hsp hsp' hj hpx h47 hj0
    go_enter Tryd.func16, Tryd.ntmps16
    go_wp2_with fail
    refine HJ.out.mono ?_
    rintro e w1 ⟨rfl, b1⟩
    go_wp2_with fail
    refine (HC.out _).mono ?_
    rintro e w2 ⟨A1, c1, rfl, k1, k2, k3, k4⟩
    have HF := Lib.hid (show LstOut L E w (.returned (.tuple #[.slice A1 L.length c1, .int .i64 E])) w2 from ⟨A1, c1, rfl, k1, k2, k3, b1.trans (k4.mono b1.size)⟩)
    clear k1 k2 k3 k4 HC HJ b1
    go_wp2_with fail
    try go_ret2
    exact HF.out
  · rw [if_neg (by rw [hj0]; decide)] at hu
    have hp : ∀ W', Below w.heap.size w W' → LstOut (undL d t) (undE d t) w (.returned (.tuple #[.slice none 0 0, .int .i64 120])) W' := fun W' hb => LstOut.bad (by unfold undL; rw [hu]; exact split_empty.1) (by unfold undE; rw [hu]; exact split_empty.2) hb
    have HP := Lib.hid hp
    rw [hj0] at hj
    have HJ := Lib.hid hj
    clear hu hp hsp hsp' hj hpx h47 hj0 ht
    go_enter Tryd.func16, Tryd.ntmps16
    go_wp2_with fail
    refine HJ.out.mono ?_
    rintro e w1 ⟨rfl, b1⟩
    go_wp2_with fail
    try go_ret2
    exact HP.out _ b1
end Go.Proofs.YtliioeihbbhiiaaDoor

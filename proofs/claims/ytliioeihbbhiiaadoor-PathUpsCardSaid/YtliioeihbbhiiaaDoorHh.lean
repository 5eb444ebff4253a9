/- Paths: path.Join: contract over the given program. -/
import Derived.Test.YtliioeihbbhiiaaDoorHe
namespace Go.Proofs.YtliioeihbbhiiaaDoor
open Go.RowKit Go.Nau Go.Shelf
attribute [local go_sem] Oper.semAt_some

def flatB (l : List ByteArray) : List UInt8 := l.flatMap fun p => 47 :: p.data.toList
def joinB (l : List ByteArray) : ByteArray := if l = [] then ⟨#[47]⟩ else ⟨(flatB l).toArray⟩
def joinOk (l : List ByteArray) : Bool := decide (l.length ≤ 40) && (l.all nameB && decide ((joinB l).size ≤ 1000))
def joinS (l : List ByteArray) : ByteArray := if joinOk l then joinB l else ⟨#[]⟩
def joinE (l : List ByteArray) : Int := if joinOk l then 0 else 120
theorem nameB_len {x : ByteArray} (h : nameB x = true) : x.data.toList.length ≤ 59 := by
  unfold nameB at h
  simp only [Bool.and_eq_true, decide_eq_true_eq] at h
  have := h.2.1
  simpa using this
theorem flatB_length : ∀ {l : List ByteArray}, l.all nameB = true → (flatB l).length ≤ l.length * 60
  | [], _ => by simp [flatB]
  | x :: l, h => by
    simp only [List.all_cons, Bool.and_eq_true] at h
    have h1 := nameB_len h.1
    have h2 := flatB_length h.2
    unfold flatB at *
    simp only [List.flatMap_cons, List.length_append, List.length_cons] at *
    omega
theorem join_flat (x : ByteArray) (l : List ByteArray) : 47 :: Lib.join ((x :: l).map (·.data.toList)) [47] = flatB (x :: l) := by
  rw [List.map_cons, Lib.join_cons]
  unfold Lib.joinTail flatB
  rw [List.flatMap_cons, List.map_map, List.flatMap_def]
  rfl
theorem joinB_eq (l : List ByteArray) : joinB l = ⟨#[47]⟩ ++ ⟨(Lib.join (l.map (·.data.toList)) [47]).toArray⟩ := by
  unfold joinB
  cases l with
  | nil => rfl
  | cons x l =>
    rw [if_neg (by simp), ← join_flat]
    apply ByteArray.ext
    apply Array.toList_inj.mp
    rw [ByteArray.data_append, Array.toList_append]
    rfl
theorem joinOk_pair {l : List ByteArray} (h : joinOk l = false) : joinS l = ⟨#[]⟩ ∧ joinE l = 120 := by unfold joinS joinE; rw [h]; exact ⟨rfl, rfl⟩
theorem joinOk_good {l : List ByteArray} (h : joinOk l = true) : joinS l = joinB l ∧ joinE l = 0 := by unfold joinS joinE; rw [h]; exact ⟨rfl, rfl⟩

/-- What strings.Join answers at parts that are names. -/
theorem sjoin_any (l : List ByteArray) (A : Option Addr) (c : Nat) (w : World) (hra : Rd (· < w.heap.size) w 1 A l.length (strs l)) (hc : l.length ≤ c) (hl : l.length ≤ 40) (hn : l.all nameB = true) :
    ∃ t, joinB l = ⟨#[47]⟩ ++ t ∧ t.size ≤ 2400 ∧ Calls Tryd.prog 23 #[.slice A l.length c, .string ⟨#[47]⟩] w fun e w' => e = .returned (.string t) ∧ Below w.heap.size w w' := by
  refine ⟨_, joinB_eq l, ?_, ?_⟩
  · have h1 := flatB_length hn
    cases l with
    | nil => decide
    | cons x l =>
      rw [← join_flat] at h1
      simp only [List.length_cons] at h1 hl
      show (List.toArray _).size ≤ _
      rw [List.size_toArray]
      omega
  · cases l with
    | nil => exact (Tryd.strings_Join_none A c _ w).mono (fun e w' h => ⟨h.1, h.2 ▸ Below.refl _ _⟩)
    | cons x l =>
      obtain ⟨ad, rfl, hb, hcell⟩ := hra.2 (by simp)
      have h0 := hcell 0 (.string x) rfl
      have hsp : ad.spot = none := by
        rw [show ad.add 0 = ad by unfold Addr.add; simp] at h0
        unfold World.cell? at h0
        split at h0
        · split at h0
          · cases h0
          · rename_i h; simpa using h
        · cases h0
      obtain ⟨bk, o, sp⟩ := ad
      dsimp only at hsp hb
      subst hsp
      refine Tryd.strings_Join bk o c (x :: l) ⟨#[47]⟩ w (fun j y hy => ?_) hb (by omega) hc ?_
      · have := hcell j (.string y) (by unfold strs; rw [List.getElem?_map, hy]; rfl)
        have ha : (⟨bk, o, none⟩ : Addr).add j = ⟨bk, o + j, none⟩ := by unfold Addr.add; split <;> simp_all
        rwa [ha] at this
      · have h1 := flatB_length hn
        rw [← join_flat] at h1
        simp only [List.length_cons] at h1 hl
        show (Lib.join _ [47]).length ≤ _
        omega

set_option maxHeartbeats 1000000 in
set_option maxRecDepth 100000 in
theorem join_any (l : List ByteArray) (A : Option Addr) (c : Nat) (w : World) (hra : Rd (· < w.heap.size) w 1 A l.length (strs l)) (hc : l.length ≤ c) (hm : l.length ≤ maxLen) :
    Calls Tryd.prog 13 #[.slice A l.length c] w fun e w' => e = .returned (.tuple #[.string (joinS l), .int .i64 (joinE l)]) ∧ Below w.heap.size w w' := by
  by_cases hle : l.length ≤ 40
  case neg =>
    have hle' : 40 < (l.length : Int) := by omega
    have ho : joinOk l = false := by unfold joinOk; simp [hle]
    rw [(joinOk_pair ho).1, (joinOk_pair ho).2]
    clear hle ho hra hc hm
    go_enter Tryd.func13, Tryd.ntmps13
    go_wp2_with fail
    go_ret2
    exact ⟨rfl, Below.refl _ _⟩
  have hle' : ¬ 40 < (l.length : Int) := by omega
  have RA := Lib.hid hra
  have HL := Lib.hid hle
  have HC := Lib.hid hc
  clear hra hm hle hc
  obtain ⟨S, hS⟩ : ∃ S, S = joinS l := ⟨_, rfl⟩
  obtain ⟨E, hE⟩ : ∃ E, E = joinE l := ⟨_, rfl⟩
  rw [← hS, ← hE]
  have HSE := Lib.hid (show S = joinS l ∧ E = joinE l from ⟨hS, hE⟩)
  clear hS hE
  go_enter Tryd.func13, Tryd.ntmps13
  go_wp2_with fail
  go_loopg [12] l.length (fun k i wr => ∃ q : Nat, k = l.length - q ∧ i = .int .i64 q ∧ q ≤ l.length ∧ (l.take q).all nameB = true ∧ wr = w)
  case atStart => exact ⟨0, rfl, rfl, Nat.zero_le _, rfl, rfl⟩
  case round =>
    obtain ⟨q, rfl, rfl, hq, hR, rfl⟩ := hrel
    have HR := Lib.hid hR
    clear hR
    by_cases hlt : q < l.length
    · have hqi : (q : Int) < (l.length : Int) := by omega
      obtain ⟨x, hx⟩ : ∃ x, l[q]? = some x := ⟨_, List.getElem?_eq_getElem hlt⟩
      obtain ⟨ad, rfl, _, e0⟩ := str_cell RA.out q x hx hlt
      have hnx := isname_any x wr
      have hall : (l.take (q + 1)).all nameB = nameB x := by rw [List.take_add_one, hx, List.all_append, HR.out]; simp
      have hq40 : q < 40 := by have := HL.out; omega
      clear hx
      cases hn : nameB x
      · rw [hn] at hnx hall
        have HN := Lib.hid hnx
        have ho : joinOk l = false := by
          unfold joinOk
          have : l.all nameB = false := by
            rw [← List.take_append_drop (q + 1) l, List.all_append, hall]; rfl
          rw [this]; simp
        have h2 := HSE.out
        rw [(joinOk_pair ho).1, (joinOk_pair ho).2] at h2
        obtain ⟨rfl, rfl⟩ := h2
        clear hnx hall hn ho HSE HL
        go_wp2_with fail
        refine HN.out.mono ?_
        rintro e w2 ⟨rfl, rfl⟩
        go_wp2_with fail
        go_ret2
        exact ⟨rfl, Below.refl _ _⟩
      · rw [hn] at hnx hall
        have HN := Lib.hid hnx
        have HALL := Lib.hid hall
        clear hnx hall hn HL
        go_wp2_with fail
        refine HN.out.mono ?_
        rintro e w2 ⟨rfl, rfl⟩
        go_wp2_with fail
        go_roundg (l.length - (q + 1))
        case measure => omega
        case rel => exact ⟨q + 1, rfl, by simp, by omega, HALL.out, rfl⟩
    · obtain rfl : q = l.length := by omega
      have hall := HR.out
      rw [List.take_length] at hall
      obtain ⟨t, hj, hts, hcall⟩ := sjoin_any l A c wr RA.out HC.out HL.out hall
      have HJ := Lib.hid hcall
      have hok : joinOk l = decide (1 + t.size ≤ 1000) := by
        unfold joinOk
        rw [hall, decide_eq_true HL.out, hj, ByteArray.size_append]
        rfl
      by_cases hz : 1 + t.size ≤ 1000
      · have hz' : ¬ 1000 < 1 + (t.size : Int) := by omega
        rw [decide_eq_true hz] at hok
        have h2 := HSE.out
        rw [(joinOk_good hok).1, (joinOk_good hok).2, hj] at h2
        obtain ⟨rfl, rfl⟩ := h2
        clear hok hcall hall hj hz HL HR
        go_wp2_with fail
        refine HJ.out.mono ?_
        rintro e w2 ⟨rfl, b⟩
        go_wp2_with fail
        go_ret2
        exact ⟨rfl, b⟩
      · have hz' : 1000 < 1 + (t.size : Int) := by omega
        rw [decide_eq_false hz] at hok
        have h2 := HSE.out
        rw [(joinOk_pair hok).1, (joinOk_pair hok).2] at h2
        obtain ⟨rfl, rfl⟩ := h2
        clear hok hcall hall hj hz HL HR
        go_wp2_with fail
        refine HJ.out.mono ?_
        rintro e w2 ⟨rfl, b⟩
        go_wp2_with fail
        go_ret2
        exact ⟨rfl, b⟩
end Go.Proofs.YtliioeihbbhiiaaDoor

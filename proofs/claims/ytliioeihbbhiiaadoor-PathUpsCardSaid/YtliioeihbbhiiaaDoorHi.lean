/- Paths: the reference's Join: over the given program. -/
import Derived.Test.YtliioeihbbhiiaaDoorHh
import Derived.Test.YtliioeihbbhiiaaDoorEb
namespace Go.Proofs.YtliioeihbbhiiaaDoor
open Go.RowKit Go.Nau Go.Shelf
attribute [local go_sem] Oper.semAt_some

def flatS (l : List ByteArray) : ByteArray := ⟨(flatB l).toArray⟩
theorem flatS_size (l : List ByteArray) : (flatS l).size = (flatB l).length := by
  show (List.toArray _).size = _
  rw [List.size_toArray]
theorem flatS_snoc (l : List ByteArray) (x : ByteArray) : flatS (l ++ [x]) = flatS l ++ ⟨#[47]⟩ ++ x := by
  apply ByteArray.ext
  apply Array.toList_inj.mp
  rw [ByteArray.data_append, Array.toList_append, ByteArray.data_append, Array.toList_append]
  unfold flatS flatB
  simp

set_option maxHeartbeats 1000000 in
set_option maxRecDepth 100000 in
theorem rjoin_any (l : List ByteArray) (A : Option Addr) (c : Nat) (w : World) (hra : Rd (· < w.heap.size) w 1 A l.length (strs l)) (hm : l.length ≤ maxLen) (hwf : ∀ x ∈ l, x.size ≤ maxLen) :
    Calls Tryd.prog 14 #[.slice A l.length c] w fun e w' => e = .returned (.tuple #[.string (joinS l), .int .i64 (joinE l)]) ∧ w' = w := by
  by_cases hle : l.length ≤ 40
  case neg =>
    have hle' : 40 < (l.length : Int) := by omega
    have ho : joinOk l = false := by unfold joinOk; simp [hle]
    rw [(joinOk_pair ho).1, (joinOk_pair ho).2]
    clear hle ho hra hm hwf
    go_enter Tryd.func14, Tryd.ntmps14
    go_wp2_with fail
    go_ret2
    exact ⟨rfl, rfl⟩
  have hle' : ¬ 40 < (l.length : Int) := by omega
  have RA := Lib.hid hra
  have HL := Lib.hid hle
  have HWF := Lib.hid hwf
  clear hra hm hle hwf
  obtain ⟨S, hS⟩ : ∃ S, S = joinS l := ⟨_, rfl⟩
  obtain ⟨E, hE⟩ : ∃ E, E = joinE l := ⟨_, rfl⟩
  rw [← hS, ← hE]
  have HSE := Lib.hid (show S = joinS l ∧ E = joinE l from ⟨hS, hE⟩)
  clear hS hE
  go_enter Tryd.func14, Tryd.ntmps14
  go_wp2_with fail
  go_loopg [4, 5] l.length (fun k s i wr => ∃ q : Nat, k = l.length - q ∧ i = .int .i64 q ∧ s = .string (flatS (l.take q)) ∧ q ≤ l.length ∧ (l.take q).all nameB = true ∧ wr = w)
  case atStart => exact ⟨0, rfl, rfl, rfl, Nat.zero_le _, rfl, rfl⟩
  case round =>
    obtain ⟨q, rfl, rfl, rfl, hq, hR, rfl⟩ := hrel
    have HR := Lib.hid hR
    have hsz : (flatS (l.take q)).size ≤ 2400 := by
      rw [flatS_size]
      have h1 := flatB_length hR
      have h2 := HL.out
      rw [List.length_take] at h1
      omega
    clear hR
    by_cases hlt : q < l.length
    · have hqi : (q : Int) < (l.length : Int) := by omega
      obtain ⟨x, hx⟩ : ∃ x, l[q]? = some x := ⟨_, List.getElem?_eq_getElem hlt⟩
      obtain ⟨ad, rfl, _, e0⟩ := str_cell RA.out q x hx hlt
      have hnx := risname_any x (HWF.out x (List.mem_of_getElem? hx)) wr
      have htk : l.take (q + 1) = l.take q ++ [x] := by rw [List.take_add_one, hx]; rfl
      have hall : (l.take (q + 1)).all nameB = nameB x := by rw [htk, List.all_append, HR.out]; simp
      have hfl : flatS (l.take (q + 1)) = flatS (l.take q) ++ ⟨#[47]⟩ ++ x := by rw [htk, flatS_snoc]
      have hq40 : q < 40 := by have := HL.out; omega
      clear hx htk
      cases hn : nameB x
      · rw [hn] at hnx hall
        have HN := Lib.hid hnx
        have ho : joinOk l = false := by
          unfold joinOk
          have : l.all nameB = false := by
            rw [← List.take_append_drop (q + 1) l, List.all_append, hall]; rfl
          rw [this]; simp
        have h2 := HSE.out
        rw [(joinOk_pair ho).1, (joinOk_pair ho).2] at h2
        obtain ⟨rfl, rfl⟩ := h2
        clear hnx hall hn ho HSE HL hfl
        go_wp2_with fail
        refine HN.out.mono ?_
        rintro e w2 ⟨rfl, rfl⟩
        go_wp2_with fail
        go_ret2
        exact ⟨rfl, rfl⟩
      · have hxs : x.size ≤ 59 := by
          have := nameB_len hn
          simpa using this
        rw [hn] at hnx hall
        have HN := Lib.hid hnx
        have HALL := Lib.hid hall
        have HFL := Lib.hid hfl
        clear hnx hall hn HL hfl
        go_wp2_with fail
        refine HN.out.mono ?_
        rintro e w2 ⟨rfl, rfl⟩
        go_wp2_with fail
        go_roundg (l.length - (q + 1))
        case measure => omega
        case rel => exact ⟨q + 1, rfl, by simp, by rw [HFL.out], by omega, HALL.out, rfl⟩
    · obtain rfl : q = l.length := by omega
      have hall := HR.out
      rw [List.take_length] at hall hsz ⊢
      obtain ⟨t, ht⟩ : ∃ t, t = flatS l := ⟨_, rfl⟩
      rw [← ht] at hsz ⊢
      by_cases hl0 : l = []
      · subst hl0
        have h2 := HSE.out
        have hok : joinOk [] = true := by decide
        rw [(joinOk_good hok).1, (joinOk_good hok).2] at h2
        obtain ⟨rfl, rfl⟩ := h2
        have ht0 : t = ⟨#[]⟩ := by rw [ht]; rfl
        subst ht0
        clear hall HR HL hok ht hsz
        go_wp2_with fail
        go_ret2
        exact ⟨rfl, rfl⟩
      · have hj : joinB l = t := by rw [ht]; unfold joinB; rw [if_neg hl0]; rfl
        have hne : t.toList.isEmpty = false := by
          rw [ht, ByteArray.toList_eq]
          cases l with
          | nil => exact absurd rfl hl0
          | cons x l => rfl
        have hok : joinOk l = decide (t.size ≤ 1000) := by
          unfold joinOk
          rw [hall, decide_eq_true HL.out, hj]
          rfl
        by_cases hz : t.size ≤ 1000
        · have hz' : ¬ 1000 < (t.size : Int) := by omega
          rw [decide_eq_true hz] at hok
          have h2 := HSE.out
          rw [(joinOk_good hok).1, (joinOk_good hok).2, hj] at h2
          obtain ⟨rfl, rfl⟩ := h2
          clear hok hall hj hz HL HR ht hl0
          go_wp2_with fail
          go_ret2
          exact ⟨rfl, rfl⟩
        · have hz' : 1000 < (t.size : Int) := by omega
          rw [decide_eq_false hz] at hok
          have h2 := HSE.out
          rw [(joinOk_pair hok).1, (joinOk_pair hok).2] at h2
          obtain ⟨rfl, rfl⟩ := h2
          clear hok hall hj hz HL HR ht hl0
          go_wp2_with fail
          go_ret2
          exact ⟨rfl, rfl⟩
end Go.Proofs.YtliioeihbbhiiaaDoor

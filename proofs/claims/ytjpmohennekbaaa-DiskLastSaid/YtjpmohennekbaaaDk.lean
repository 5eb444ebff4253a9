/- The reference disk: Read, Image, and Same: contracts over the given program. -/
import Derived.Test.YtjpmohennekbaaaDj
import Derived.Deep.RegionHeld3
namespace Go.Proofs.Ytjpmohennekbaaa
open Go.RowKit Go.Nau Go.Shelf
attribute [local go_sem] Oper.semAt_some

theorem settledL_none : ∀ (l : List (Nat × ByteArray)) (b : List ByteArray) (k : Nat), (∀ x ∈ l, x.1 ≠ k) → (settledL b l)[k]? = b[k]?
  | [], _, _, _ => rfl
  | x :: l, b, k, h => by
    show (settledL (b.set x.1 x.2) l)[k]? = _
    rw [settledL_none l _ k (fun y hy => h y (List.mem_cons_of_mem _ hy)), List.getElem?_set_ne (h x List.mem_cons_self)]
theorem settledL_append (b : List ByteArray) (l m : List (Nat × ByteArray)) : settledL b (l ++ m) = settledL (settledL b l) m := by simp [settledL]
theorem settledL_last (b : List ByteArray) (l : List (Nat × ByteArray)) (q k : Nat) (y : ByteArray) (hq : l[q]? = some (k, y)) (hk : k < b.length) (h : ∀ j x, q < j → l[j]? = some x → x.1 ≠ k) : (settledL b l)[k]? = some y := by
  have hl : q < l.length := (List.getElem?_eq_some_iff.1 hq).1
  have e : l = l.take (q + 1) ++ l.drop (q + 1) := (List.take_append_drop _ _).symm
  rw [e, settledL_append, settledL_none]
  · rw [List.take_add_one, hq, show (some (k, y)).toList = [(k, y)] from rfl, settledL_snoc]
    rw [List.getElem?_set_self (by rw [settledL_length]; exact hk)]
  · intro x hx
    obtain ⟨j, hj⟩ := List.mem_iff_getElem?.1 hx
    rw [List.getElem?_drop] at hj
    exact h _ x (by omega) hj

section
variable {w : World} {G : Nat → Prop} {r : Nat} {s : DS}

set_option maxHeartbeats 400000 in
theorem rread_bad (h : RDsk w G r s) (k : Int) (hk : k < 0 ∨ (s.safe.length : Int) ≤ k) : Calls Try.prog 56 #[.pointer (some ⟨r, 0, none⟩), .int .i64 k] w fun e w' => e = .returned (.tuple #[.string ⟨#[]⟩, .int .i64 41]) ∧ w = w' := by
  obtain ⟨bb, bc, L, hd, _⟩ := h
  have c0 := blk_cell hd 0
  simp [rcells] at c0
  rcases hk with hk | hk
  · go_enter Try.func56, Try.ntmps56
    go_wp2_with fail
    go_ret2
    exact ⟨rfl, rfl⟩
  · have hk0 : ¬ k < 0 := by omega
    go_enter Try.func56, Try.ntmps56
    go_wp2_with fail
    go_ret2
    exact ⟨rfl, rfl⟩

def RdRel (w0 : World) (l : List (Nat × ByteArray)) (at_ : Nat) (k : Nat) (i : Value) (wr : World) : Prop :=
  wr = w0 ∧ ∃ q : Nat, q = k ∧ i = .int .i64 ((q : Int) - 1) ∧ q ≤ l.length ∧ ∀ j x, q ≤ j → l[j]? = some x → x.1 ≠ at_

set_option maxHeartbeats 1000000 in
set_option maxRecDepth 100000 in
theorem rread_ok (h : RDsk w G r s) (at_ : Nat) (x : ByteArray) (hx : (settledL s.safe s.loose)[at_]? = some x) (hll : s.loose.length ≤ 1073741824) :
    Calls Try.prog 56 #[.pointer (some ⟨r, 0, none⟩), .int .i64 at_] w fun e w' => e = .returned (.tuple #[.string x, .int .i64 0]) ∧ w = w' := by
  obtain ⟨bb, bc, L, hd, o1, o2, _⟩ := h
  have c0 := blk_cell hd 0
  have c1 := blk_cell hd 1
  simp [rcells] at c0 c1
  have hat : at_ < s.safe.length := by have := (List.getElem?_eq_some_iff.1 hx).1; rwa [settledL_length] at this
  have hati : (at_ : Int) < (s.safe.length : Int) := by omega
  have hlli : (s.loose.length : Int) ≤ 1073741824 := by omega
  obtain ⟨A, c, rfl, _, _, hrd⟩ := Rd.of_own o2
  obtain ⟨y, hy⟩ : ∃ y, s.safe[at_]? = some y := ⟨_, List.getElem?_eq_getElem hat⟩
  obtain ⟨m0, _⟩ := own_at o1 (strs_at hy)
  clear o1 o2 hd
  go_enter Try.func56, Try.ntmps56
  go_wp2_with fail
  go_loopg [6] s.loose.length (RdRel w s.loose at_)
  case atStart =>
    refine ⟨rfl, _, rfl, rfl, Nat.le_refl _, fun j x hj hx => ?_⟩
    have := (List.getElem?_eq_some_iff.1 hx).1
    omega
  case round =>
    obtain ⟨rfl, q, rfl, rfl, hq, hnone⟩ := hrel
    by_cases hq0 : 0 < q
    · have hqi : (0 : Int) ≤ (q : Int) - 1 := by omega
      have hqi2 : (q : Int) - 1 < (s.loose.length : Int) := by omega
      obtain ⟨p, rfl⟩ : ∃ p, q = p + 1 := ⟨q - 1, by omega⟩
      obtain ⟨ad, rfl, _, hcell⟩ := hrd.2 (by omega)
      obtain ⟨z, hz⟩ : ∃ z, s.loose[p]? = some z := ⟨_, List.getElem?_eq_getElem (by omega)⟩
      obtain ⟨g0, g1⟩ := wcells_get _ _ _ hz
      have e0 := hcell _ _ g0
      have e1 := hcell _ _ g1
      rw [← Go.Nau.add_add] at e1
      have e1' : wr.cell? ⟨(ad.add (p * 2)).block, (ad.add (p * 2)).off + 1, none⟩ = some (.string z.2) := e1
      have ep : ((p + 1 : Nat) : Int) - 1 = (p : Int) := by omega
      rw [ep] at hqi hqi2
      rw [ep]
      by_cases hza : z.1 = at_
      · have hxz : x = z.2 := by
          have := settledL_last s.safe s.loose p at_ z.2 (by rw [hz, ← hza]) hat (fun j y hj hy => hnone j y (by omega) hy)
          rw [hx] at this
          injection this
        have hzi : ((z.1 : Int) == (at_ : Int)) = true := by simp; omega
        have HX := Lib.hid hxz
        clear hxz hza hnone hcell g0 g1 hx e1 ep hz
        go_wp2_with fail
        go_ret2
        exact ⟨by rw [HX.out]; rfl, rfl⟩
      · have hzi : ((z.1 : Int) == (at_ : Int)) = false := by simp; omega
        have hnew : ∀ j y, p ≤ j → s.loose[j]? = some y → y.1 ≠ at_ := by
          intro j y hj hy
          rcases Nat.lt_or_ge p j with h | h
          · exact hnone j y (by omega) hy
          · obtain rfl : j = p := by omega
            rw [hz] at hy
            injection hy with hy
            rw [← hy]
            exact hza
        have HN := Lib.hid hnew
        clear hza hnone hcell g0 g1 hx e1 ep hz hnew
        go_wp2_with fail
        go_roundg p
        case measure => omega
        case rel => exact ⟨rfl, p, rfl, rfl, by omega, HN.out⟩
    · obtain rfl : q = 0 := by omega
      have hxy : x = y := by
        have := settledL_none s.loose s.safe at_ (fun z hz => by obtain ⟨j, hj⟩ := List.mem_iff_getElem?.1 hz; exact hnone j z (Nat.zero_le _) hj)
        rw [hx, hy] at this
        injection this
      have HX := Lib.hid hxy
      clear hxy hnone hx hy
      go_wp2_with fail
      go_ret2
      exact ⟨by rw [HX.out]; rfl, rfl⟩
end

def SameRel (w0 : World) (n : Nat) (k : Nat) (i : Value) (wr : World) : Prop :=
  ∃ q nq : Nat, k = n - q ∧ i = .int .i64 q ∧ q ≤ n ∧ wr = w0.drewN nq

set_option maxHeartbeats 1000000 in
set_option maxRecDepth 100000 in
theorem same_any (T T' : Nat → Prop) (A A' : Option Addr) (n c c' : Nat) (xs : List ByteArray) (w : World) (hr : Rd T w 1 A n (strs xs)) (hr' : Rd T' w 1 A' n (strs xs)) (hn : n ≤ 1073741824) :
    Calls Try.prog 18 #[.slice A n c, .slice A' n c'] w fun e w' => e = .returned (.bool true) ∧ ∃ q, w' = w.drewN q := by
  have hni : (n : Int) ≤ 1073741824 := by omega
  have hxl : xs.length = n := by have := hr.1; simpa using this
  have HR := Lib.hid hr
  have HR' := Lib.hid hr'
  clear hr hr'
  go_enter Try.func18, Try.ntmps18
  go_wp2_with fail
  go_loopg [5] n (SameRel w n)
  case atStart => exact ⟨0, 0, rfl, rfl, Nat.zero_le _, rfl⟩
  case round =>
    obtain ⟨q, nq, rfl, rfl, hq, rfl⟩ := hrel
    by_cases hlt : q < n
    · have hlti : (q : Int) < (n : Int) := by omega
      obtain ⟨ad, rfl, _, hcell⟩ := HR.out.2 (by omega)
      obtain ⟨ad', rfl, _, hcell'⟩ := HR'.out.2 (by omega)
      obtain ⟨x, hx⟩ : ∃ x, xs[q]? = some x := ⟨_, List.getElem?_eq_getElem (by omega)⟩
      have e0 := hcell _ _ (strs_at hx)
      have e0' := hcell' _ _ (strs_at hx)
      clear hcell hcell' hx
      go_wp2_with fail
      go_quiet (fail)
      rename_i nq2
      go_wp2_with fail
      go_roundg (n - (q + 1))
      case measure => omega
      case rel => exact ⟨q + 1, _, rfl, by simp, by omega, rfl⟩
    · obtain rfl : q = n := by omega
      go_wp2_with fail
      go_ret
      exact ⟨rfl, _, rfl⟩
end Go.Proofs.Ytjpmohennekbaaa

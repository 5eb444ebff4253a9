/- Arguments opened: slices of whole numbers, of texts, of pairs of whole numbers read as lists. Of no program. -/
import Derived.ProofKit
import Derived.SliceStrings
import Derived.Deep.Strs
import Derived.Deep.SlicePairs
import Derived.Test.YtliioeihbbhiiaaDoorF
namespace Go.Nau
open Go.RowKit Go.WideShapes Go.ChangeShapes Go.Deep

section
variable {H : Type} {enc : TypeId × Value → H} {P : Program} {w : World}
theorem opn_ints {t e : TypeId} {k : IntKind} {v : Value} {d : DataW H} {p : List MemPlace} {r : Reach} {b0 : Nat} (ht : P.underlying t = some (.slice e)) (he : P.underlying e = some (.int k)) (hc : P.cellsOf e = 1)
    (hv : Value.okWide P w r b0 t v) (h : DataW.Trod enc P w 0 (fun _ => true) true t v d p) :
    ∃ (A : Option Addr) (n c : Nat) (l : List Int), v = .slice A n c ∧ n ≤ c ∧ c ≤ maxLen ∧ l.length = n ∧ Rd (· < w.heap.size) w 1 A n (l.map (.int k)) ∧ (A = none → n = 0 ∧ c = 0) ∧ ∀ x ∈ l, (Lit.int k x).wf = true := by
  obtain ⟨A, n, c, rfl⟩ := okWide_slice ht hv
  obtain ⟨fuel, hf⟩ := h
  rcases open_ints ht he hc hf with ⟨h1, _⟩ | ⟨a, len, cap, zs, h1, _, hl, hm, hz, _, hcell, hwf⟩
  · simp only [Value.cells, List.cons.injEq, Value.slice.injEq, and_true] at h1
    obtain ⟨rfl, rfl, rfl⟩ := h1
    exact ⟨none, 0, 0, [], rfl, Nat.le_refl _, by simp [maxLen], rfl, Rd.nil .., fun _ => ⟨rfl, rfl⟩, by simp⟩
  · simp only [Value.cells, List.cons.injEq, Value.slice.injEq, and_true] at h1
    obtain ⟨rfl, rfl, rfl⟩ := h1
    have hzc : zs.length = c := by simpa using hz
    refine ⟨some a, n, c, zs.take n, rfl, hl, hm, by simp; omega, ⟨by simp; omega, fun hn => ⟨a, rfl, ?_, ?_⟩⟩, (fun h => by cases h), fun x hx => hwf x (List.mem_of_mem_take hx)⟩
    · have := cell_lt (hcell 0 (by omega))
      rwa [Go.Nau.add_block] at this
    · intro j u hu
      simp only [List.map_take, List.getElem?_take] at hu
      split at hu
      · rename_i hj
        rw [List.getElem?_map, List.getElem?_eq_getElem (by omega)] at hu
        simp only [Option.map_some, Option.some.injEq] at hu
        rw [hcell j (by omega), ← hu]
        simp [List.getD, List.getElem?_eq_getElem (show j < zs.length by omega)]
      · cases hu

theorem opn_strs {t e : TypeId} {v : Value} {d : DataW H} {p : List MemPlace} {r : Reach} {b0 : Nat} (ht : P.underlying t = some (.slice e)) (he : P.underlying e = some .string) (hc : P.cellsOf e = 1)
    (hv : Value.okWide P w r b0 t v) (h : DataW.Trod enc P w 0 (fun _ => true) true t v d p) :
    ∃ (A : Option Addr) (n c : Nat) (l : List ByteArray), v = .slice A n c ∧ n ≤ c ∧ c ≤ maxLen ∧ l.length = n ∧ Rd (· < w.heap.size) w 1 A n (l.map .string) ∧ (A = none → n = 0 ∧ c = 0) ∧ ∀ s ∈ l, s.size ≤ maxLen := by
  obtain ⟨A, n, c, rfl⟩ := okWide_slice ht hv
  obtain ⟨fuel, hf⟩ := h
  rcases open_strings ht he hc hf with ⟨h1, _⟩ | ⟨a, len, cap, zs, h1, _, hl, hm, hz, _, hcell, hwf⟩
  · simp only [Value.cells, List.cons.injEq, Value.slice.injEq, and_true] at h1
    obtain ⟨rfl, rfl, rfl⟩ := h1
    exact ⟨none, 0, 0, [], rfl, Nat.le_refl _, by simp [maxLen], rfl, Rd.nil .., fun _ => ⟨rfl, rfl⟩, by simp⟩
  · simp only [Value.cells, List.cons.injEq, Value.slice.injEq, and_true] at h1
    obtain ⟨rfl, rfl, rfl⟩ := h1
    have hzc : zs.length = c := by simpa using hz
    refine ⟨some a, n, c, zs.take n, rfl, hl, hm, by simp; omega, ⟨by simp; omega, fun hn => ⟨a, rfl, ?_, ?_⟩⟩, (fun h => by cases h), fun x hx => hwf x (List.mem_of_mem_take hx)⟩
    · have := cell_lt (hcell 0 (by omega))
      rwa [Go.Nau.add_block] at this
    · intro j u hu
      simp only [List.map_take, List.getElem?_take] at hu
      split at hu
      · rename_i hj
        rw [List.getElem?_map, List.getElem?_eq_getElem (by omega)] at hu
        simp only [Option.map_some, Option.some.injEq] at hu
        rw [hcell j (by omega), ← hu]
        simp [List.getD, List.getElem?_eq_getElem (show j < zs.length by omega)]
      · cases hu

/-- Cells of a list of pairs of whole numbers. -/
def pairs (k0 k1 : IntKind) (l : List (Int × Int)) : List Value := l.flatMap fun x => [.int k0 x.1, .int k1 x.2]
theorem pairs_length (k0 k1 : IntKind) (l : List (Int × Int)) : (pairs k0 k1 l).length = l.length * 2 := by
  unfold pairs
  induction l with
  | nil => rfl
  | cons x l ih => simp only [List.flatMap_cons, List.length_append, ih, List.length_cons, List.length_nil]; omega
theorem pairs_get (k0 k1 : IntKind) (l : List (Int × Int)) (i : Nat) (x : Int × Int) (h : l[i]? = some x) : (pairs k0 k1 l)[i * 2]? = some (.int k0 x.1) ∧ (pairs k0 k1 l)[i * 2 + 1]? = some (.int k1 x.2) := by
  induction l generalizing i with
  | nil => simp at h
  | cons y l ih =>
    cases i with
    | zero =>
      simp at h
      subst h
      simp [pairs]
    | succ i =>
      simp only [List.getElem?_cons_succ] at h
      obtain ⟨h1, h2⟩ := ih i h
      have e1 : (i + 1) * 2 = i * 2 + 1 + 1 := by omega
      simp only [pairs, List.flatMap_cons, List.cons_append, List.nil_append] at h1 h2 ⊢
      rw [e1]
      simp only [List.getElem?_cons_succ]
      exact ⟨h1, h2⟩

theorem opn_pairs {t e : TypeId} {f0 f1 : Field} {k0 k1 : IntKind} {v : Value} {d : DataW H} {p : List MemPlace} {r : Reach} {b0 : Nat} (ht : P.underlying t = some (.slice e)) (he : P.underlying e = some (.struct #[f0, f1]))
    (ce : P.cellsOf e = 2) (o0 : f0.offset = 0) (o1 : f1.offset = 1) (c0 : P.cellsOf f0.type = 1) (c1 : P.cellsOf f1.type = 1) (u0 : P.underlying f0.type = some (.int k0)) (u1 : P.underlying f1.type = some (.int k1))
    (hv : Value.okWide P w r b0 t v) (h : DataW.Trod enc P w 0 (fun _ => true) true t v d p) :
    ∃ (A : Option Addr) (n c : Nat) (l : List (Int × Int)), v = .slice A n c ∧ n ≤ c ∧ c ≤ maxLen ∧ l.length = n ∧ Rd (· < w.heap.size) w 2 A n (pairs k0 k1 l) ∧ (A = none → n = 0 ∧ c = 0) ∧ ∀ x ∈ l, (Lit.int k0 x.1).wf = true ∧ (Lit.int k1 x.2).wf = true := by
  obtain ⟨A, n, c, rfl⟩ := okWide_slice ht hv
  obtain ⟨fuel, hf⟩ := h
  rcases open_slice_pairs ht he ce o0 o1 c0 c1 hf with ⟨h1, _⟩ | ⟨a, len, cap, m, n', V0, V1, D0, D1, P0, P1, h1, _, hl, hm, hmm, _, hx⟩
  · simp only [Value.cells, List.cons.injEq, Value.slice.injEq, and_true] at h1
    obtain ⟨rfl, rfl, rfl⟩ := h1
    exact ⟨none, 0, 0, [], rfl, Nat.le_refl _, by simp [maxLen], rfl, Rd.nil .., fun _ => ⟨rfl, rfl⟩, by simp⟩
  · simp only [Value.cells, List.cons.injEq, Value.slice.injEq, and_true] at h1
    obtain ⟨rfl, rfl, rfl⟩ := h1
    have hmc : m = c := by simpa using hmm
    subst hmc
    have each : ∀ i, i < n → ∃ x : Int × Int, w.cell? (a.add (i * 2)) = some (.int k0 x.1) ∧ w.cell? (a.add (i * 2 + 1)) = some (.int k1 x.2) ∧ (Lit.int k0 x.1).wf = true ∧ (Lit.int k1 x.2).wf = true := by
      intro i hi
      obtain ⟨h1, h2, h3, h4⟩ := hx i (by omega)
      obtain ⟨x0, e0, _, wf0⟩ := DataW.trod_int u0 h3
      obtain ⟨x1, e1, _, wf1⟩ := DataW.trod_int u1 h4
      simp only [List.cons.injEq, and_true] at e0 e1
      exact ⟨(x0, x1), by rw [h1, e0], by rw [h2, e1], wf0, wf1⟩
    obtain ⟨q, hq⟩ := choose_lt each
    refine ⟨some a, n, m, (List.range n).map q, rfl, hl, hm, by simp, ⟨by rw [pairs_length]; simp, fun hn => ⟨a, rfl, ?_, ?_⟩⟩, (fun h => by cases h), ?_⟩
    · have := cell_lt (hq 0 (by omega)).1
      rwa [Go.Nau.add_block] at this
    · intro j u hu
      have hj : j < n * 2 := by
        have := (List.getElem?_eq_some_iff.1 hu).1
        rw [pairs_length] at this
        simpa using this
      have hget : ((List.range n).map q)[j / 2]? = some (q (j / 2)) := by
        rw [List.getElem?_map, List.getElem?_range (by omega)]
        rfl
      obtain ⟨g0, g1⟩ := pairs_get k0 k1 _ _ _ hget
      obtain ⟨c0, c1, _, _⟩ := hq (j / 2) (by omega)
      rcases Nat.mod_two_eq_zero_or_one j with h0 | h0
      · have e : j / 2 * 2 = j := by omega
        rw [e] at g0 c0
        rw [hu] at g0
        rw [c0, g0]
      · have e : j / 2 * 2 + 1 = j := by omega
        rw [e] at g1 c1
        rw [hu] at g1
        rw [c1, g1]
    · intro x hx
      obtain ⟨i, hi, rfl⟩ := List.mem_map.1 hx
      exact (hq i (List.mem_range.1 hi)).2.2
end
theorem wf_i64 {x : Int} (h : (Lit.int .i64 x).wf = true) : -9223372036854775808 ≤ x ∧ x ≤ 9223372036854775807 := by
  simp only [Lit.wf, Bool.and_eq_true, decide_eq_true_eq] at h
  exact h
theorem wf_u32 {x : Int} (h : (Lit.int .u32 x).wf = true) : 0 ≤ x ∧ x ≤ 4294967295 := by
  simp only [Lit.wf, Bool.and_eq_true, decide_eq_true_eq] at h
  exact h
theorem wf_u64 {x : Int} (h : (Lit.int .u64 x).wf = true) : 0 ≤ x ∧ x ≤ 18446744073709551615 := by
  simp only [Lit.wf, Bool.and_eq_true, decide_eq_true_eq] at h
  exact h
end Go.Nau

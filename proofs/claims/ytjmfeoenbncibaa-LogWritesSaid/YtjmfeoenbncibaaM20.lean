/- Texts of this proof, joined: O P Dr. They hold under no condition beyond what each theorem states. -/
import Derived.ProofKit
import Derived.SliceStrings
import Derived.Deep.Strs
import Derived.Deep.SlicePairs
import Derived.Test.YtjmfeoenbncibaaM02
import Derived.Lib.SmallJoins
import Derived.Deep.Slices
import Derived.Deep.Fields
import Derived.ChangeSame
import Derived.Test.YtjmfeoenbncibaaM19
namespace Go.Nau
open Go.RowKit Go.WideShapes Go.ChangeShapes Go.Deep

section
variable {H : Type} {enc : TypeId × Value → H} {P : Program} {w : World}
theorem opn_ints {t e : TypeId} {k : IntKind} {v : Value} {d : DataW H} {p : List MemPlace} {r : Reach} {b0 : Nat} (ht : P.underlying t = some (.slice e)) (he : P.underlying e = some (.int k)) (hc : P.cellsOf e = 1)
    (hv : Value.okWide P w r b0 t v) (h : DataW.Trod enc P w 0 (fun _ => true) true t v d p) :
    ∃ (A : Option Addr) (n c : Nat) (l : List Int), v = .slice A n c ∧ n ≤ c ∧ c ≤ maxLen ∧ l.length = n ∧ Rd (· < w.heap.size) w 1 A n (l.map (.int k)) ∧ (A = none → n = 0 ∧ c = 0) ∧ ∀ x ∈ l, (Lit.int k x).wf = true := by
  obtain ⟨A, n, c, rfl⟩ := okWide_slice ht hv
  obtain ⟨fuel, hf⟩ := h
  rcases open_ints ht he hc hf with ⟨h1, _⟩ | ⟨a, len, cap, zs, h1, _, hl, hm, hz, _, hcell, hwf⟩
  · simp only [Value.cells, List.cons.injEq, Value.slice.injEq, and_true] at h1
    obtain ⟨rfl, rfl, rfl⟩ := h1
    exact ⟨none, 0, 0, [], rfl, Nat.le_refl _, by simp [maxLen], rfl, Rd.nil .., fun _ => ⟨rfl, rfl⟩, by simp⟩
  · simp only [Value.cells, List.cons.injEq, Value.slice.injEq, and_true] at h1
    obtain ⟨rfl, rfl, rfl⟩ := h1
    have hzc : zs.length = c := by simpa using hz
    refine ⟨some a, n, c, zs.take n, rfl, hl, hm, by simp; omega, ⟨by simp; omega, fun hn => ⟨a, rfl, ?_, ?_⟩⟩, (fun h => by cases h), fun x hx => hwf x (List.mem_of_mem_take hx)⟩
    · have := cell_lt (hcell 0 (by omega))
      rwa [Go.Nau.add_block] at this
    · intro j u hu
      simp only [List.map_take, List.getElem?_take] at hu
      split at hu
      · rename_i hj
        rw [List.getElem?_map, List.getElem?_eq_getElem (by omega)] at hu
        simp only [Option.map_some, Option.some.injEq] at hu
        rw [hcell j (by omega), ← hu]
        simp [List.getD, List.getElem?_eq_getElem (show j < zs.length by omega)]
      · cases hu

theorem opn_strs {t e : TypeId} {v : Value} {d : DataW H} {p : List MemPlace} {r : Reach} {b0 : Nat} (ht : P.underlying t = some (.slice e)) (he : P.underlying e = some .string) (hc : P.cellsOf e = 1)
    (hv : Value.okWide P w r b0 t v) (h : DataW.Trod enc P w 0 (fun _ => true) true t v d p) :
    ∃ (A : Option Addr) (n c : Nat) (l : List ByteArray), v = .slice A n c ∧ n ≤ c ∧ c ≤ maxLen ∧ l.length = n ∧ Rd (· < w.heap.size) w 1 A n (l.map .string) ∧ (A = none → n = 0 ∧ c = 0) ∧ ∀ s ∈ l, s.size ≤ maxLen := by
  obtain ⟨A, n, c, rfl⟩ := okWide_slice ht hv
  obtain ⟨fuel, hf⟩ := h
  rcases open_strings ht he hc hf with ⟨h1, _⟩ | ⟨a, len, cap, zs, h1, _, hl, hm, hz, _, hcell, hwf⟩
  · simp only [Value.cells, List.cons.injEq, Value.slice.injEq, and_true] at h1
    obtain ⟨rfl, rfl, rfl⟩ := h1
    exact ⟨none, 0, 0, [], rfl, Nat.le_refl _, by simp [maxLen], rfl, Rd.nil .., fun _ => ⟨rfl, rfl⟩, by simp⟩
  · simp only [Value.cells, List.cons.injEq, Value.slice.injEq, and_true] at h1
    obtain ⟨rfl, rfl, rfl⟩ := h1
    have hzc : zs.length = c := by simpa using hz
    refine ⟨some a, n, c, zs.take n, rfl, hl, hm, by simp; omega, ⟨by simp; omega, fun hn => ⟨a, rfl, ?_, ?_⟩⟩, (fun h => by cases h), fun x hx => hwf x (List.mem_of_mem_take hx)⟩
    · have := cell_lt (hcell 0 (by omega))
      rwa [Go.Nau.add_block] at this
    · intro j u hu
      simp only [List.map_take, List.getElem?_take] at hu
      split at hu
      · rename_i hj
        rw [List.getElem?_map, List.getElem?_eq_getElem (by omega)] at hu
        simp only [Option.map_some, Option.some.injEq] at hu
        rw [hcell j (by omega), ← hu]
        simp [List.getD, List.getElem?_eq_getElem (show j < zs.length by omega)]
      · cases hu

/-- Cells of a list of pairs of whole numbers. -/
def pairs (k0 k1 : IntKind) (l : List (Int × Int)) : List Value := l.flatMap fun x => [.int k0 x.1, .int k1 x.2]
theorem pairs_length (k0 k1 : IntKind) (l : List (Int × Int)) : (pairs k0 k1 l).length = l.length * 2 := by
  unfold pairs
  induction l with
  | nil => rfl
  | cons x l ih => simp only [List.flatMap_cons, List.length_append, ih, List.length_cons, List.length_nil]; omega
theorem pairs_get (k0 k1 : IntKind) (l : List (Int × Int)) (i : Nat) (x : Int × Int) (h : l[i]? = some x) : (pairs k0 k1 l)[i * 2]? = some (.int k0 x.1) ∧ (pairs k0 k1 l)[i * 2 + 1]? = some (.int k1 x.2) := by
  induction l generalizing i with
  | nil => simp at h
  | cons y l ih =>
    cases i with
    | zero =>
      simp at h
      subst h
      simp [pairs]
    | succ i =>
      simp only [List.getElem?_cons_succ] at h
      obtain ⟨h1, h2⟩ := ih i h
      have e1 : (i + 1) * 2 = i * 2 + 1 + 1 := by omega
      simp only [pairs, List.flatMap_cons, List.cons_append, List.nil_append] at h1 h2 ⊢
      rw [e1]
      simp only [List.getElem?_cons_succ]
      exact ⟨h1, h2⟩

theorem opn_pairs {t e : TypeId} {f0 f1 : Field} {k0 k1 : IntKind} {v : Value} {d : DataW H} {p : List MemPlace} {r : Reach} {b0 : Nat} (ht : P.underlying t = some (.slice e)) (he : P.underlying e = some (.struct #[f0, f1]))
    (ce : P.cellsOf e = 2) (o0 : f0.offset = 0) (o1 : f1.offset = 1) (c0 : P.cellsOf f0.type = 1) (c1 : P.cellsOf f1.type = 1) (u0 : P.underlying f0.type = some (.int k0)) (u1 : P.underlying f1.type = some (.int k1))
    (hv : Value.okWide P w r b0 t v) (h : DataW.Trod enc P w 0 (fun _ => true) true t v d p) :
    ∃ (A : Option Addr) (n c : Nat) (l : List (Int × Int)), v = .slice A n c ∧ n ≤ c ∧ c ≤ maxLen ∧ l.length = n ∧ Rd (· < w.heap.size) w 2 A n (pairs k0 k1 l) ∧ (A = none → n = 0 ∧ c = 0) ∧ ∀ x ∈ l, (Lit.int k0 x.1).wf = true ∧ (Lit.int k1 x.2).wf = true := by
  obtain ⟨A, n, c, rfl⟩ := okWide_slice ht hv
  obtain ⟨fuel, hf⟩ := h
  rcases open_slice_pairs ht he ce o0 o1 c0 c1 hf with ⟨h1, _⟩ | ⟨a, len, cap, m, n', V0, V1, D0, D1, P0, P1, h1, _, hl, hm, hmm, _, hx⟩
  · simp only [Value.cells, List.cons.injEq, Value.slice.injEq, and_true] at h1
    obtain ⟨rfl, rfl, rfl⟩ := h1
    exact ⟨none, 0, 0, [], rfl, Nat.le_refl _, by simp [maxLen], rfl, Rd.nil .., fun _ => ⟨rfl, rfl⟩, by simp⟩
  · simp only [Value.cells, List.cons.injEq, Value.slice.injEq, and_true] at h1
    obtain ⟨rfl, rfl, rfl⟩ := h1
    have hmc : m = c := by simpa using hmm
    subst hmc
    have each : ∀ i, i < n → ∃ x : Int × Int, w.cell? (a.add (i * 2)) = some (.int k0 x.1) ∧ w.cell? (a.add (i * 2 + 1)) = some (.int k1 x.2) ∧ (Lit.int k0 x.1).wf = true ∧ (Lit.int k1 x.2).wf = true := by
      intro i hi
      obtain ⟨h1, h2, h3, h4⟩ := hx i (by omega)
      obtain ⟨x0, e0, _, wf0⟩ := DataW.trod_int u0 h3
      obtain ⟨x1, e1, _, wf1⟩ := DataW.trod_int u1 h4
      simp only [List.cons.injEq, and_true] at e0 e1
      exact ⟨(x0, x1), by rw [h1, e0], by rw [h2, e1], wf0, wf1⟩
    obtain ⟨q, hq⟩ := choose_lt each
    refine ⟨some a, n, m, (List.range n).map q, rfl, hl, hm, by simp, ⟨by rw [pairs_length]; simp, fun hn => ⟨a, rfl, ?_, ?_⟩⟩, (fun h => by cases h), ?_⟩
    · have := cell_lt (hq 0 (by omega)).1
      rwa [Go.Nau.add_block] at this
    · intro j u hu
      have hj : j < n * 2 := by
        have := (List.getElem?_eq_some_iff.1 hu).1
        rw [pairs_length] at this
        simpa using this
      have hget : ((List.range n).map q)[j / 2]? = some (q (j / 2)) := by
        rw [List.getElem?_map, List.getElem?_range (by omega)]
        rfl
      obtain ⟨g0, g1⟩ := pairs_get k0 k1 _ _ _ hget
      obtain ⟨c0, c1, _, _⟩ := hq (j / 2) (by omega)
      rcases Nat.mod_two_eq_zero_or_one j with h0 | h0
      · have e : j / 2 * 2 = j := by omega
        rw [e] at g0 c0
        rw [hu] at g0
        rw [c0, g0]
      · have e : j / 2 * 2 + 1 = j := by omega
        rw [e] at g1 c1
        rw [hu] at g1
        rw [c1, g1]
    · intro x hx
      obtain ⟨i, hi, rfl⟩ := List.mem_map.1 hx
      exact (hq i (List.mem_range.1 hi)).2.2
end
theorem wf_i64 {x : Int} (h : (Lit.int .i64 x).wf = true) : -9223372036854775808 ≤ x ∧ x ≤ 9223372036854775807 := by
  simp only [Lit.wf, Bool.and_eq_true, decide_eq_true_eq] at h
  exact h
theorem wf_u32 {x : Int} (h : (Lit.int .u32 x).wf = true) : 0 ≤ x ∧ x ≤ 4294967295 := by
  simp only [Lit.wf, Bool.and_eq_true, decide_eq_true_eq] at h
  exact h
theorem wf_u64 {x : Int} (h : (Lit.int .u64 x).wf = true) : 0 ≤ x ∧ x ≤ 18446744073709551615 := by
  simp only [Lit.wf, Bool.and_eq_true, decide_eq_true_eq] at h
  exact h
end Go.Nau
namespace Go.Nau
open Go.RowKit Go.WideShapes Go.ChangeShapes Go.Deep Go.Joins

/-- A call of a disk: what it is, where, how many bytes, which; a crash's fate. -/
structure DOp where
  kind : Int
  place : Int
  n : Int
  c : Int
  keep : Int
  torn : Int
instance : Inhabited DOp := ⟨⟨0, 0, 0, 0, 0, 0⟩⟩

def ocells (x : DOp) : List Value := [.int .i64 x.kind, .int .i64 x.place, .int .i64 x.n, .int .u8 x.c, .int .u64 x.keep, .int .i64 x.torn]
def opsC (l : List DOp) : List Value := l.flatMap ocells
structure DOp.wf (x : DOp) : Prop where
  kind : -9223372036854775808 ≤ x.kind ∧ x.kind ≤ 9223372036854775807
  place : -9223372036854775808 ≤ x.place ∧ x.place ≤ 9223372036854775807
  n : -9223372036854775808 ≤ x.n ∧ x.n ≤ 9223372036854775807
  c : 0 ≤ x.c ∧ x.c ≤ 255
  keep : 0 ≤ x.keep ∧ x.keep ≤ 18446744073709551615
  torn : -9223372036854775808 ≤ x.torn ∧ x.torn ≤ 9223372036854775807

theorem wf_u8 {x : Int} (h : (Lit.int .u8 x).wf = true) : 0 ≤ x ∧ x ≤ 255 := by
  simp only [Lit.wf, Bool.and_eq_true, decide_eq_true_eq] at h
  exact h

theorem opsC_length (l : List DOp) : (opsC l).length = l.length * 6 := by
  unfold opsC
  induction l with
  | nil => rfl
  | cons x l ih => simp only [List.flatMap_cons, List.length_append, ih, List.length_cons, ocells, List.length_nil]; omega
theorem opsC_get : ∀ (l : List DOp) (i j : Nat) (x : DOp), l[i]? = some x → j < 6 → (opsC l)[i * 6 + j]? = (ocells x)[j]?
  | [], i, j, x, h, _ => by simp at h
  | y :: l, 0, j, x, h, hj => by
    simp at h
    subst h
    rw [show 0 * 6 + j = j by omega]
    show (ocells y ++ opsC l)[j]? = _
    rw [List.getElem?_append_left (by simp [ocells]; exact hj)]
  | y :: l, i + 1, j, x, h, hj => by
    simp only [List.getElem?_cons_succ] at h
    show (ocells y ++ opsC l)[(i + 1) * 6 + j]? = _
    rw [List.getElem?_append_right (by simp [ocells]; omega)]
    have : (i + 1) * 6 + j - (ocells y).length = i * 6 + j := by simp [ocells]; omega
    rw [this]
    exact opsC_get l i j x h hj

section
variable {H : Type} {enc : TypeId × Value → H} {P : Program} {w : World}
theorem opn_str {r : Reach} {b0 : Nat} {t : TypeId} {v : Value} {d : DataW H} {p : List MemPlace} (ht : P.underlying t = some .string) (hv : Value.okWide P w r b0 t v) (h : DataW.Trod enc P w 0 (fun _ => true) true t v d p) :
    ∃ s : ByteArray, v = .string s ∧ s.size ≤ maxLen := by
  obtain ⟨s, rfl⟩ := okWide_string ht hv
  obtain ⟨fuel, hf⟩ := h
  obtain ⟨s', h, _, hw⟩ := DataW.trod_string ht hf
  simp [Value.cells] at h
  subst h
  exact ⟨_, rfl, by simpa [Lit.wf] using hw⟩
theorem open_fate {r : Reach} {b0 : Nat} {t : TypeId} {f0 f1 : Field} {v : Value} {d : DataW H} {p : List MemPlace} (hs : P.underlying t = some (.struct #[f0, f1])) (hone : oneCellFields P #[f0, f1] = true) (hC : P.cellsOf t = 2)
    (u0 : P.underlying f0.type = some (.int .u64)) (u1 : P.underlying f1.type = some (.int .i64))
    (hv : Value.okWide P w r b0 t v) (h : DataW.Trod enc P w 0 (fun _ => true) true t v d p) :
    ∃ (x0 x1 : Int), v = .agg #[.int .u64 x0, .int .i64 x1] ∧ (Lit.int .u64 x0).wf = true ∧ (Lit.int .i64 x1).wf = true := by
  obtain ⟨v0, v1, y0, y1, n, rfl, _, _, h0, h1⟩ := open_agg2 hs hone hC hv h
  obtain ⟨x0, e0, _, wf0⟩ := DataW.trod_int u0 h0
  obtain ⟨x1, e1, _, wf1⟩ := DataW.trod_int u1 h1
  simp only [List.cons.injEq, and_true] at e0 e1
  exact ⟨x0, x1, by rw [e0, e1], wf0, wf1⟩

theorem opn_ops {t e g : TypeId} {f0 f1 f2 f3 f4 g0 g1 : Field} {v : Value} {d : DataW H} {p : List MemPlace} {r : Reach} {b0 : Nat} (ht : P.underlying t = some (.slice e)) (he : P.underlying e = some (.struct #[f0, f1, f2, f3, f4]))
    (hg : f4.type = g) (hge : P.underlying g = some (.struct #[g0, g1])) (ce : P.cellsOf e = 6)
    (hl : (f0.offset, f1.offset, f2.offset, f3.offset, f4.offset, g0.offset, g1.offset) = (0, 1, 2, 3, 4, 0, 1))
    (hc : (P.cellsOf f0.type, P.cellsOf f1.type, P.cellsOf f2.type, P.cellsOf f3.type, P.cellsOf f4.type, P.cellsOf g0.type, P.cellsOf g1.type) = (1, 1, 1, 1, 2, 1, 1))
    (u0 : P.underlying f0.type = some (.int .i64)) (u1 : P.underlying f1.type = some (.int .i64)) (u2 : P.underlying f2.type = some (.int .i64)) (u3 : P.underlying f3.type = some (.int .u8))
    (v0 : P.underlying g0.type = some (.int .u64)) (v1 : P.underlying g1.type = some (.int .i64))
    (hv : Value.okWide P w r b0 t v) (h : DataW.Trod enc P w 0 (fun _ => true) true t v d p) :
    ∃ (A : Option Addr) (n c : Nat) (l : List DOp), v = .slice A n c ∧ n ≤ c ∧ c ≤ maxLen ∧ l.length = n ∧ Rd (· < w.heap.size) w 6 A n (opsC l) ∧ (A = none → n = 0 ∧ c = 0) ∧ ∀ x ∈ l, x.wf := by
  obtain ⟨A, n, c, rfl⟩ := okWide_slice ht hv
  obtain ⟨fuel, hf⟩ := h
  simp only [Prod.mk.injEq] at hl hc
  obtain ⟨o0, o1, o2, o3, o4, q0, q1⟩ := hl
  obtain ⟨c0, c1, c2, c3, c4, k0, k1⟩ := hc
  rcases open_slice ht hf with ⟨h1, _⟩ | ⟨a, len, cap, m, n', D, Pl, h1, _, hl, hm, hmm, _, hx⟩
  · simp only [Value.cells, List.cons.injEq, Value.slice.injEq, and_true] at h1
    obtain ⟨rfl, rfl, rfl⟩ := h1
    exact ⟨none, 0, 0, [], rfl, Nat.le_refl _, by simp [maxLen], rfl, Rd.nil .., fun _ => ⟨rfl, rfl⟩, by simp⟩
  · simp only [Value.cells, List.cons.injEq, Value.slice.injEq, and_true] at h1
    obtain ⟨rfl, rfl, rfl⟩ := h1
    have hmc : m = c := by simpa using hmm
    subst hmc
    have each : ∀ i, i < n → ∃ x : DOp, (∀ j u, (ocells x)[j]? = some u → w.cell? (a.add (i * 6 + j)) = some u) ∧ x.wf := by
      intro i hi
      obtain ⟨cs', h1, h2⟩ := hx i (by omega)
      rw [ce] at h1
      obtain ⟨_, hlen, hcell⟩ := World.cells?_some h1
      obtain ⟨xs, kk, _, _, _, hxl, hfd⟩ := DataW.trod_struct he h2
      match xs, hxl, cs', hlen with
      | [y0, y1, y2, y3, y4], _, [z0, z1, z2, z3, z4, z5], _ =>
        have g0' := hfd 0 f0 rfl
        have g1' := hfd 1 f1 rfl
        have g2' := hfd 2 f2 rfl
        have g3' := hfd 3 f3 rfl
        have g4' := hfd 4 f4 rfl
        simp [o0, o1, o2, o3, o4, c0, c1, c2, c3, c4] at g0' g1' g2' g3' g4'
        obtain ⟨x0, e0, _, wf0⟩ := DataW.trod_int u0 g0'
        obtain ⟨x1, e1, _, wf1⟩ := DataW.trod_int u1 g1'
        obtain ⟨x2, e2, _, wf2⟩ := DataW.trod_int u2 g2'
        obtain ⟨x3, e3, _, wf3⟩ := DataW.trod_int u3 g3'
        rw [hg] at g4'
        obtain ⟨ys, kk', _, _, _, hyl, hgd⟩ := DataW.trod_struct hge g4'
        match ys, hyl with
        | [t0, t1], _ =>
          have r0 := hgd 0 _ rfl
          have r1 := hgd 1 _ rfl
          simp [q0, q1, k0, k1] at r0 r1
          obtain ⟨x4, e4, _, wf4⟩ := DataW.trod_int v0 r0
          obtain ⟨x5, e5, _, wf5⟩ := DataW.trod_int v1 r1
          simp only [List.cons.injEq, and_true] at e0 e1 e2 e3 e4 e5
          subst e0 e1 e2 e3 e4 e5
          refine ⟨⟨x0, x1, x2, x3, x4, x5⟩, fun j u hu => ?_, ⟨wf_i64 wf0, wf_i64 wf1, wf_i64 wf2, wf_u8 wf3, wf_u64 wf4, wf_i64 wf5⟩⟩
          have hj : j < 6 := by have := (List.getElem?_eq_some_iff.1 hu).1; simpa [ocells] using this
          have := hcell j (by omega)
          rw [Go.Nau.add_add] at this
          rw [this]
          exact hu
    obtain ⟨q, hq⟩ := choose_lt each
    refine ⟨some a, n, m, (List.range n).map q, rfl, hl, hm, by simp, ⟨by rw [opsC_length]; simp, fun hn => ⟨a, rfl, ?_, ?_⟩⟩, (fun h => by cases h), ?_⟩
    · have := cell_lt ((hq 0 (by omega)).1 0 _ rfl)
      rwa [Go.Nau.add_block] at this
    · intro j u hu
      have hj : j < n * 6 := by
        have := (List.getElem?_eq_some_iff.1 hu).1
        rw [opsC_length] at this
        simpa using this
      have hget : ((List.range n).map q)[j / 6]? = some (q (j / 6)) := by
        rw [List.getElem?_map, List.getElem?_range (by omega)]
        rfl
      have hg := opsC_get _ (j / 6) (j % 6) _ hget (by omega)
      have e : j / 6 * 6 + j % 6 = j := by omega
      rw [e] at hg
      rw [hu] at hg
      have := (hq (j / 6) (by omega)).1 (j % 6) u hg.symm
      rwa [e] at this
    · intro x hx
      obtain ⟨i, hi, rfl⟩ := List.mem_map.1 hx
      exact (hq i (List.mem_range.1 hi)).2
end

section
variable {H : Type} {enc : TypeId × Value → H} {P : Program} {w : World} {base : Nat} {spare : Nat → Bool} {held : Bool}
/-- Five arguments. -/
theorem trodAll_five {t t' t'' t3 t4 : TypeId} {args : Array Value} {ds : List (DataW H)} {ps : List MemPlace} (h : DataW.TrodAll enc P w base spare held [t, t', t'', t3, t4] args.toList ds ps) :
    ∃ v v' v'' v3 v4 d d' d'' d3 d4 p p' p'' p3 p4, args = #[v, v', v'', v3, v4] ∧ ds = [d, d', d'', d3, d4] ∧ ps = p ++ p' ++ p'' ++ p3 ++ p4 ∧ DataW.Trod enc P w base spare held t v d p ∧ DataW.Trod enc P w base spare held t' v' d' p' ∧ DataW.Trod enc P w base spare held t'' v'' d'' p'' ∧ DataW.Trod enc P w base spare held t3 v3 d3 p3 ∧ DataW.Trod enc P w base spare held t4 v4 d4 p4 := by
  obtain ⟨v, vs, d, ds', p, q, hargs, rfl, rfl, hd, hrest⟩ := trodAll_cons h
  obtain ⟨v', vs', d', ds2, p', q', rfl, rfl, rfl, hd', hrest'⟩ := trodAll_cons hrest
  obtain ⟨v'', vs2, d'', ds3, p'', q'', rfl, rfl, rfl, hd'', hrest2⟩ := trodAll_cons hrest'
  obtain ⟨v3, vs3, d3, ds4, p3, q3, rfl, rfl, rfl, hd3, hrest3⟩ := trodAll_cons hrest2
  obtain ⟨v4, vs4, d4, ds5, p4, q4, rfl, rfl, rfl, hd4, hrest4⟩ := trodAll_cons hrest3
  obtain ⟨rfl, rfl, rfl⟩ := trodAll_nil hrest4
  exact ⟨v, v', v'', v3, v4, d, d', d'', d3, d4, p, p', p'', p3, p4, by cases args; simp_all, rfl, by simp, hd, hd', hd'', hd3, hd4⟩
end
end Go.Nau
namespace Go.Proofs.Ytjmfeoenbncibaa
open Go.RowKit Go.Nau Go.Shelf
attribute [local go_sem] Oper.semAt_some

/-- What may be said of a disk that calls have made. -/
structure DInv (s : DS) : Prop where
  ok : DOk s
  set : s.now = settledL s.safe s.loose
  n0 : 0 < s.now.length
  n1 : s.now.length ≤ 4096

theorem DInv.gone {s : DS} (h : DInv s) (g : Bool) : DInv { s with gone := g } := ⟨⟨h.ok.len, h.ok.safe, h.ok.now, h.ok.loose⟩, h.set, h.n0, h.n1⟩
theorem DInv.cut {s : DS} (h : DInv s) (c : Int) (g : Bool) : DInv { s with cut := c, gone := g } := ⟨⟨h.ok.len, h.ok.safe, h.ok.now, h.ok.loose⟩, h.set, h.n0, h.n1⟩
theorem DInv.wrote {s : DS} (h : DInv s) (k : Nat) (hk : k < s.now.length) (x : ByteArray) (hx : x.size = 512) : DInv (wrote s k x) := by
  have hl : (Go.Proofs.Ytjmfeoenbncibaa.wrote s k x).now.length = s.now.length := List.length_set ..
  refine ⟨⟨by rw [hl]; exact h.ok.len, h.ok.safe, fun y hy => ?_, fun y hy => ?_⟩, ?_, by rw [hl]; exact h.n0, by rw [hl]; exact h.n1⟩
  · rcases List.mem_or_eq_of_mem_set hy with hy | hy
    · exact h.ok.now y hy
    · rw [hy, hx]
  · rw [hl]
    rcases List.mem_append.1 hy with hy | hy
    · exact h.ok.loose y hy
    · have : y = (k, x) := by simpa using hy
      rw [this]
      exact ⟨hk, hx⟩
  · show s.now.set k x = settledL s.safe (s.loose ++ [(k, x)])
    rw [settledL_snoc, ← h.set]
theorem DInv.flushed {s : DS} (h : DInv s) : DInv (flushed s) := ⟨⟨rfl, h.ok.now, h.ok.now, by intro x hx; simp [Go.Proofs.Ytjmfeoenbncibaa.flushed] at hx⟩, rfl, h.n0, h.n1⟩
theorem DInv.fresh {l : List ByteArray} (h : ∀ x ∈ l, x.size = 512) (h0 : 0 < l.length) (h1 : l.length ≤ 4096) : DInv (freshDS l) := ⟨⟨rfl, h, h, by intro x hx; simp [freshDS] at hx⟩, rfl, h0, h1⟩
theorem DInv.crashed {s : DS} (h : DInv s) (keep torn : Int) : DInv (freshDS (crashed s keep torn)) :=
  DInv.fresh (crashed_size s keep torn h.ok.safe (by rw [h.ok.len]; exact h.ok.loose)) (by rw [crashed_length, h.ok.len]; exact h.n0) (by rw [crashed_length, h.ok.len]; exact h.n1)
theorem rflushed_eq {s : DS} (h : DInv s) : rflushed s = flushed s := by
  unfold rflushed flushed
  rw [← h.set]

/-- What Write answers, and leaves. -/
def wres (s : DS) (p : Int) (x : ByteArray) : Int × DS :=
  if offB s = true then (43, { s with gone := true }) else if p < 0 ∨ (s.now.length : Int) ≤ p then (41, { s with gone := false }) else if x.size ≠ 512 then (42, { s with gone := false }) else (0, wrote s p.toNat x)
def fres (s : DS) : Int × DS := if offB s = true then (43, { s with gone := true }) else (0, flushed s)

theorem wres_inv {s : DS} (h : DInv s) (p : Int) (x : ByteArray) : DInv (wres s p x).2 ∧ (wres s p x).2.now.length = s.now.length ∧ (wres s p x).2.ops ≤ s.ops + 1 ∧ (wres s p x).2.loose.length ≤ s.loose.length + 1 := by
  unfold wres
  split
  · exact ⟨h.gone _, rfl, Nat.le_succ _, Nat.le_succ _⟩
  · split
    · exact ⟨h.gone _, rfl, Nat.le_succ _, Nat.le_succ _⟩
    · split
      · exact ⟨h.gone _, rfl, Nat.le_succ _, Nat.le_succ _⟩
      · rename_i h1 h2 h3
        exact ⟨h.wrote _ (by omega) x (by omega), List.length_set .., Nat.le_refl _, by simp [wrote]⟩
theorem fres_inv {s : DS} (h : DInv s) : DInv (fres s).2 ∧ (fres s).2.now.length = s.now.length ∧ (fres s).2.ops ≤ s.ops + 1 ∧ (fres s).2.loose.length ≤ s.loose.length + 1 := by
  unfold fres
  split
  · exact ⟨h.gone _, rfl, Nat.le_succ _, Nat.le_succ _⟩
  · exact ⟨h.flushed, rfl, Nat.le_refl _, by simp [flushed]⟩

section
variable {w : World} {F : Nat → Prop} {d : Nat} {s : DS}
theorem write_any (h : Dsk w F d s) (p : Int) (x : ByteArray) (hxm : x.size ≤ maxLen) (hops : s.ops ≤ 4611686018427387904) (hll : s.loose.length ≤ 1073741824) :
    Calls Try.prog 48 #[.pointer (some ⟨d, 0, none⟩), .int .i64 p, .string x] w fun e w' => e = .returned (.int .i64 (wres s p x).1) ∧ DPost w F d (wres s p x).2 w' := by
  unfold wres
  split
  · rename_i ho
    exact write_off h ho p x
  · rename_i ho
    have ho' : offB s = false := by simpa using ho
    split
    · rename_i hp
      exact write_bad h ho' p hp x
    · rename_i hp
      obtain ⟨k, rfl⟩ : ∃ k : Nat, p = k := ⟨p.toNat, by omega⟩
      split
      · rename_i hx
        exact write_len h ho' k (by omega) x hx hxm
      · rename_i hx
        have := write_ok h ho' k (by omega) x (by omega) hops hll
        simpa using this
theorem rwrite_any {G : Nat → Prop} {r : Nat} (h : RDsk w G r s) (hl : s.safe.length = s.now.length) (p : Int) (x : ByteArray) (hxm : x.size ≤ maxLen) (hops : s.ops ≤ 4611686018427387904) (hll : s.loose.length ≤ 1073741824) :
    Calls Try.prog 104 #[.pointer (some ⟨r, 0, none⟩), .int .i64 p, .string x] w fun e w' => e = .returned (.int .i64 (wres s p x).1) ∧ RPost w G r (wres s p x).2 w' := by
  unfold wres
  rw [← hl]
  split
  · rename_i ho
    exact rwrite_off h ho p x
  · rename_i ho
    have ho' : offB s = false := by simpa using ho
    split
    · rename_i hp
      exact rwrite_bad h ho' p hp x
    · rename_i hp
      obtain ⟨k, rfl⟩ : ∃ k : Nat, p = k := ⟨p.toNat, by omega⟩
      split
      · rename_i hx
        exact rwrite_len h ho' k (by omega) x hx hxm
      · rename_i hx
        have := rwrite_ok h ho' k (by omega) x (by omega) hops hll
        simpa using this
theorem flush_any (h : Dsk w F d s) (hops : s.ops ≤ 4611686018427387904) :
    Calls Try.prog 50 #[.pointer (some ⟨d, 0, none⟩)] w fun e w' => e = .returned (.int .i64 (fres s).1) ∧ DPost w F d (fres s).2 w' := by
  unfold fres
  split
  · rename_i ho
    exact flush_off h ho
  · rename_i ho
    exact flush_ok h (by simpa using ho) hops
theorem rflush_any {G : Nat → Prop} {r : Nat} (h : RDsk w G r s) (hi : DInv s) (hops : s.ops ≤ 4611686018427387904) (hll : s.loose.length ≤ 1073741824) :
    Calls Try.prog 105 #[.pointer (some ⟨r, 0, none⟩)] w fun e w' => e = .returned (.int .i64 (fres s).1) ∧ RPost w G r (fres s).2 w' := by
  unfold fres
  split
  · rename_i ho
    exact rflush_off h ho
  · rename_i ho
    rw [← rflushed_eq hi]
    exact rflush_ok h (by simpa using ho) (fun x hx => by rw [hi.ok.len]; exact (hi.ok.loose x hx).1) (by rw [hi.ok.len]; have := hi.n1; omega) hll hops
/-- What Read answers. -/
def rres (s : DS) (p : Int) : ByteArray × Int := if p < 0 ∨ (s.now.length : Int) ≤ p then (⟨#[]⟩, 41) else (s.now.getD p.toNat ⟨#[]⟩, 0)
theorem read_any (h : Dsk w F d s) (p : Int) : Calls Try.prog 92 #[.pointer (some ⟨d, 0, none⟩), .int .i64 p] w fun e w' => e = .returned (.tuple #[.string (rres s p).1, .int .i64 (rres s p).2]) ∧ w = w' := by
  unfold rres
  split
  · rename_i hp
    exact read_bad h p (by omega)
  · rename_i hp
    obtain ⟨k, rfl⟩ : ∃ k : Nat, p = k := ⟨p.toNat, by omega⟩
    exact read_ok h k _ (by simp [List.getD, List.getElem?_eq_getElem (show k < s.now.length by omega)])
theorem rread_any {G : Nat → Prop} {r : Nat} (h : RDsk w G r s) (hi : DInv s) (p : Int) (hll : s.loose.length ≤ 1073741824) : Calls Try.prog 81 #[.pointer (some ⟨r, 0, none⟩), .int .i64 p] w fun e w' => e = .returned (.tuple #[.string (rres s p).1, .int .i64 (rres s p).2]) ∧ w = w' := by
  unfold rres
  split
  · rename_i hp
    exact rread_bad h p (by rw [hi.ok.len]; omega)
  · rename_i hp
    obtain ⟨k, rfl⟩ : ∃ k : Nat, p = k := ⟨p.toNat, by omega⟩
    exact rread_ok h k _ (by rw [← hi.set]; simp [List.getD, List.getElem?_eq_getElem (show k < s.now.length by omega)]) hll
end

/-- Both disks lie there, apart from each other, above B. -/
def Both (B : Nat) (w : World) (F G : Nat → Prop) (d r : Nat) (s : DS) : Prop :=
  Dsk w F d s ∧ RDsk w G r s ∧ (∀ k, F k → ¬ G k) ∧ (∀ k, F k → B ≤ k ∧ k < w.heap.size) ∧ (∀ k, G k → B ≤ k ∧ k < w.heap.size)

section
variable {B : Nat} {w w1 w2 : World} {F G : Nat → Prop} {d r : Nat} {s s1 : DS}
theorem Both.kept {S : Nat → Prop} (h : Both B w F G d r s) (hf : Fr S w w1) (h1 : ∀ k, F k → ¬ S k) (h2 : ∀ k, G k → ¬ S k) : Both B w1 F G d r s :=
  ⟨h.1.kept hf h1, h.2.1.kept hf h2, h.2.2.1, fun k hk => ⟨(h.2.2.2.1 k hk).1, Nat.lt_of_lt_of_le (h.2.2.2.1 k hk).2 hf.size⟩, fun k hk => ⟨(h.2.2.2.2 k hk).1, Nat.lt_of_lt_of_le (h.2.2.2.2 k hk).2 hf.size⟩⟩
/-- Behind a call of the disk. -/
theorem Both.fst (h : Both B w F G d r s) (hB : B ≤ w.heap.size) (hd : DPost w F d s1 w1) : ∃ F1, Dsk w1 F1 d s1 ∧ RDsk w1 G r s ∧ (∀ k, F1 k → ¬ G k) ∧ (∀ k, F1 k → B ≤ k ∧ k < w1.heap.size) ∧ (∀ k, G k → B ≤ k ∧ k < w1.heap.size) ∧ Fr F w w1 := by
  obtain ⟨F', h1, h2, h3⟩ := hd
  obtain ⟨_, b2, b3, b4, b5⟩ := h
  have hs := h3.size
  refine ⟨fun k => F' k ∧ k < w1.heap.size, h1.monoF (fun k hk hF => ⟨hF, hk⟩), b2.kept h3 (fun k hk hF => b3 k hF hk), fun k hk hG => ?_, fun k hk => ⟨?_, hk.2⟩, fun k hk => ⟨(b5 k hk).1, Nat.lt_of_lt_of_le (b5 k hk).2 hs⟩, h3⟩
  · rcases h2 k hk.1 with h | h
    · exact b3 k h hG
    · have := (b5 k hG).2; omega
  · rcases h2 k hk.1 with h | h
    · exact (b4 k h).1
    · omega
/-- .. and of the other one. -/
theorem Both.snd {F1 : Nat → Prop} {s2 : DS} (hd : Dsk w1 F1 d s1) (h3 : ∀ k, F1 k → ¬ G k) (h4 : ∀ k, F1 k → B ≤ k ∧ k < w1.heap.size) (h5 : ∀ k, G k → B ≤ k ∧ k < w1.heap.size) (hB : B ≤ w1.heap.size) (hr : RPost w1 G r s2 w2) (he : s1 = s2) :
    ∃ G2, Both B w2 F1 G2 d r s2 ∧ Fr G w1 w2 := by
  subst he
  obtain ⟨G', r1, r2, r3⟩ := hr
  have hs := r3.size
  refine ⟨fun k => G' k ∧ k < w2.heap.size, ⟨hd.kept r3 h3, r1.monoF (fun k hk hF => ⟨hF, hk⟩), fun k hF hG => ?_, fun k hk => ⟨(h4 k hk).1, Nat.lt_of_lt_of_le (h4 k hk).2 hs⟩, fun k hk => ⟨?_, hk.2⟩⟩, r3⟩
  · rcases r2 k hG.1 with h | h
    · exact h3 k hF h
    · have := (h4 k hF).2; omega
  · rcases r2 k hk.1 with h | h
    · exact (h5 k h).1
    · omega
end
end Go.Proofs.Ytjmfeoenbncibaa

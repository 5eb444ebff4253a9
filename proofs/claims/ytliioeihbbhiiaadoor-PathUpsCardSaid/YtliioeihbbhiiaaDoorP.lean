/- Arguments opened: a struct of a u64 and an int by value, a slice of a disk's calls. Of no program. -/
import Derived.ProofKit
import Derived.Lib.SmallJoins
import Derived.Deep.Slices
import Derived.Deep.Fields
import Derived.ChangeSame
import Derived.Test.YtliioeihbbhiiaaDoorO
namespace Go.Nau
open Go.RowKit Go.WideShapes Go.ChangeShapes Go.Deep Go.Joins

/-- A call of a disk: what it is, where, how many bytes, which; a crash's fate. -/
structure DOp where
  kind : Int
  place : Int
  n : Int
  c : Int
  keep : Int
  torn : Int
instance : Inhabited DOp := ⟨⟨0, 0, 0, 0, 0, 0⟩⟩

def ocells (x : DOp) : List Value := [.int .i64 x.kind, .int .i64 x.place, .int .i64 x.n, .int .u8 x.c, .int .u64 x.keep, .int .i64 x.torn]
def opsC (l : List DOp) : List Value := l.flatMap ocells
structure DOp.wf (x : DOp) : Prop where
  kind : -9223372036854775808 ≤ x.kind ∧ x.kind ≤ 9223372036854775807
  place : -9223372036854775808 ≤ x.place ∧ x.place ≤ 9223372036854775807
  n : -9223372036854775808 ≤ x.n ∧ x.n ≤ 9223372036854775807
  c : 0 ≤ x.c ∧ x.c ≤ 255
  keep : 0 ≤ x.keep ∧ x.keep ≤ 18446744073709551615
  torn : -9223372036854775808 ≤ x.torn ∧ x.torn ≤ 9223372036854775807

theorem wf_u8 {x : Int} (h : (Lit.int .u8 x).wf = true) : 0 ≤ x ∧ x ≤ 255 := by
  simp only [Lit.wf, Bool.and_eq_true, decide_eq_true_eq] at h
  exact h

theorem opsC_length (l : List DOp) : (opsC l).length = l.length * 6 := by
  unfold opsC
  induction l with
  | nil => rfl
  | cons x l ih => simp only [List.flatMap_cons, List.length_append, ih, List.length_cons, ocells, List.length_nil]; omega
theorem opsC_get : ∀ (l : List DOp) (i j : Nat) (x : DOp), l[i]? = some x → j < 6 → (opsC l)[i * 6 + j]? = (ocells x)[j]?
  | [], i, j, x, h, _ => by simp at h
  | y :: l, 0, j, x, h, hj => by
    simp at h
    subst h
    rw [show 0 * 6 + j = j by omega]
    show (ocells y ++ opsC l)[j]? = _
    rw [List.getElem?_append_left (by simp [ocells]; exact hj)]
  | y :: l, i + 1, j, x, h, hj => by
    simp only [List.getElem?_cons_succ] at h
    show (ocells y ++ opsC l)[(i + 1) * 6 + j]? = _
    rw [List.getElem?_append_right (by simp [ocells]; omega)]
    have : (i + 1) * 6 + j - (ocells y).length = i * 6 + j := by simp [ocells]; omega
    rw [this]
    exact opsC_get l i j x h hj

section
variable {H : Type} {enc : TypeId × Value → H} {P : Program} {w : World}
theorem opn_str {r : Reach} {b0 : Nat} {t : TypeId} {v : Value} {d : DataW H} {p : List MemPlace} (ht : P.underlying t = some .string) (hv : Value.okWide P w r b0 t v) (h : DataW.Trod enc P w 0 (fun _ => true) true t v d p) :
    ∃ s : ByteArray, v = .string s ∧ s.size ≤ maxLen := by
  obtain ⟨s, rfl⟩ := okWide_string ht hv
  obtain ⟨fuel, hf⟩ := h
  obtain ⟨s', h, _, hw⟩ := DataW.trod_string ht hf
  simp [Value.cells] at h
  subst h
  exact ⟨_, rfl, by simpa [Lit.wf] using hw⟩
theorem open_fate {r : Reach} {b0 : Nat} {t : TypeId} {f0 f1 : Field} {v : Value} {d : DataW H} {p : List MemPlace} (hs : P.underlying t = some (.struct #[f0, f1])) (hone : oneCellFields P #[f0, f1] = true) (hC : P.cellsOf t = 2)
    (u0 : P.underlying f0.type = some (.int .u64)) (u1 : P.underlying f1.type = some (.int .i64))
    (hv : Value.okWide P w r b0 t v) (h : DataW.Trod enc P w 0 (fun _ => true) true t v d p) :
    ∃ (x0 x1 : Int), v = .agg #[.int .u64 x0, .int .i64 x1] ∧ (Lit.int .u64 x0).wf = true ∧ (Lit.int .i64 x1).wf = true := by
  obtain ⟨v0, v1, y0, y1, n, rfl, _, _, h0, h1⟩ := open_agg2 hs hone hC hv h
  obtain ⟨x0, e0, _, wf0⟩ := DataW.trod_int u0 h0
  obtain ⟨x1, e1, _, wf1⟩ := DataW.trod_int u1 h1
  simp only [List.cons.injEq, and_true] at e0 e1
  exact ⟨x0, x1, by rw [e0, e1], wf0, wf1⟩

theorem opn_ops {t e g : TypeId} {f0 f1 f2 f3 f4 g0 g1 : Field} {v : Value} {d : DataW H} {p : List MemPlace} {r : Reach} {b0 : Nat} (ht : P.underlying t = some (.slice e)) (he : P.underlying e = some (.struct #[f0, f1, f2, f3, f4]))
    (hg : f4.type = g) (hge : P.underlying g = some (.struct #[g0, g1])) (ce : P.cellsOf e = 6)
    (hl : (f0.offset, f1.offset, f2.offset, f3.offset, f4.offset, g0.offset, g1.offset) = (0, 1, 2, 3, 4, 0, 1))
    (hc : (P.cellsOf f0.type, P.cellsOf f1.type, P.cellsOf f2.type, P.cellsOf f3.type, P.cellsOf f4.type, P.cellsOf g0.type, P.cellsOf g1.type) = (1, 1, 1, 1, 2, 1, 1))
    (u0 : P.underlying f0.type = some (.int .i64)) (u1 : P.underlying f1.type = some (.int .i64)) (u2 : P.underlying f2.type = some (.int .i64)) (u3 : P.underlying f3.type = some (.int .u8))
    (v0 : P.underlying g0.type = some (.int .u64)) (v1 : P.underlying g1.type = some (.int .i64))
    (hv : Value.okWide P w r b0 t v) (h : DataW.Trod enc P w 0 (fun _ => true) true t v d p) :
    ∃ (A : Option Addr) (n c : Nat) (l : List DOp), v = .slice A n c ∧ n ≤ c ∧ c ≤ maxLen ∧ l.length = n ∧ Rd (· < w.heap.size) w 6 A n (opsC l) ∧ (A = none → n = 0 ∧ c = 0) ∧ ∀ x ∈ l, x.wf := by
  obtain ⟨A, n, c, rfl⟩ := okWide_slice ht hv
  obtain ⟨fuel, hf⟩ := h
  simp only [Prod.mk.injEq] at hl hc
  obtain ⟨o0, o1, o2, o3, o4, q0, q1⟩ := hl
  obtain ⟨c0, c1, c2, c3, c4, k0, k1⟩ := hc
  rcases open_slice ht hf with ⟨h1, _⟩ | ⟨a, len, cap, m, n', D, Pl, h1, _, hl, hm, hmm, _, hx⟩
  · simp only [Value.cells, List.cons.injEq, Value.slice.injEq, and_true] at h1
    obtain ⟨rfl, rfl, rfl⟩ := h1
    exact ⟨none, 0, 0, [], rfl, Nat.le_refl _, by simp [maxLen], rfl, Rd.nil .., fun _ => ⟨rfl, rfl⟩, by simp⟩
  · simp only [Value.cells, List.cons.injEq, Value.slice.injEq, and_true] at h1
    obtain ⟨rfl, rfl, rfl⟩ := h1
    have hmc : m = c := by simpa using hmm
    subst hmc
    have each : ∀ i, i < n → ∃ x : DOp, (∀ j u, (ocells x)[j]? = some u → w.cell? (a.add (i * 6 + j)) = some u) ∧ x.wf := by
      intro i hi
      obtain ⟨cs', h1, h2⟩ := hx i (by omega)
      rw [ce] at h1
      obtain ⟨_, hlen, hcell⟩ := World.cells?_some h1
      obtain ⟨xs, kk, _, _, _, hxl, hfd⟩ := DataW.trod_struct he h2
      match xs, hxl, cs', hlen with
      | [y0, y1, y2, y3, y4], _, [z0, z1, z2, z3, z4, z5], _ =>
        have g0' := hfd 0 f0 rfl
        have g1' := hfd 1 f1 rfl
        have g2' := hfd 2 f2 rfl
        have g3' := hfd 3 f3 rfl
        have g4' := hfd 4 f4 rfl
        simp [o0, o1, o2, o3, o4, c0, c1, c2, c3, c4] at g0' g1' g2' g3' g4'
        obtain ⟨x0, e0, _, wf0⟩ := DataW.trod_int u0 g0'
        obtain ⟨x1, e1, _, wf1⟩ := DataW.trod_int u1 g1'
        obtain ⟨x2, e2, _, wf2⟩ := DataW.trod_int u2 g2'
        obtain ⟨x3, e3, _, wf3⟩ := DataW.trod_int u3 g3'
        rw [hg] at g4'
        obtain ⟨ys, kk', _, _, _, hyl, hgd⟩ := DataW.trod_struct hge g4'
        match ys, hyl with
        | [t0, t1], _ =>
          have r0 := hgd 0 _ rfl
          have r1 := hgd 1 _ rfl
          simp [q0, q1, k0, k1] at r0 r1
          obtain ⟨x4, e4, _, wf4⟩ := DataW.trod_int v0 r0
          obtain ⟨x5, e5, _, wf5⟩ := DataW.trod_int v1 r1
          simp only [List.cons.injEq, and_true] at e0 e1 e2 e3 e4 e5
          subst e0 e1 e2 e3 e4 e5
          refine ⟨⟨x0, x1, x2, x3, x4, x5⟩, fun j u hu => ?_, ⟨wf_i64 wf0, wf_i64 wf1, wf_i64 wf2, wf_u8 wf3, wf_u64 wf4, wf_i64 wf5⟩⟩
          have hj : j < 6 := by have := (List.getElem?_eq_some_iff.1 hu).1; simpa [ocells] using this
          have := hcell j (by omega)
          rw [Go.Nau.add_add] at this
          rw [this]
          exact hu
    obtain ⟨q, hq⟩ := choose_lt each
    refine ⟨some a, n, m, (List.range n).map q, rfl, hl, hm, by simp, ⟨by rw [opsC_length]; simp, fun hn => ⟨a, rfl, ?_, ?_⟩⟩, (fun h => by cases h), ?_⟩
    · have := cell_lt ((hq 0 (by omega)).1 0 _ rfl)
      rwa [Go.Nau.add_block] at this
    · intro j u hu
      have hj : j < n * 6 := by
        have := (List.getElem?_eq_some_iff.1 hu).1
        rw [opsC_length] at this
        simpa using this
      have hget : ((List.range n).map q)[j / 6]? = some (q (j / 6)) := by
        rw [List.getElem?_map, List.getElem?_range (by omega)]
        rfl
      have hg := opsC_get _ (j / 6) (j % 6) _ hget (by omega)
      have e : j / 6 * 6 + j % 6 = j := by omega
      rw [e] at hg
      rw [hu] at hg
      have := (hq (j / 6) (by omega)).1 (j % 6) u hg.symm
      rwa [e] at this
    · intro x hx
      obtain ⟨i, hi, rfl⟩ := List.mem_map.1 hx
      exact (hq i (List.mem_range.1 hi)).2
end

section
variable {H : Type} {enc : TypeId × Value → H} {P : Program} {w : World} {base : Nat} {spare : Nat → Bool} {held : Bool}
/-- Five arguments. -/
theorem trodAll_five {t t' t'' t3 t4 : TypeId} {args : Array Value} {ds : List (DataW H)} {ps : List MemPlace} (h : DataW.TrodAll enc P w base spare held [t, t', t'', t3, t4] args.toList ds ps) :
    ∃ v v' v'' v3 v4 d d' d'' d3 d4 p p' p'' p3 p4, args = #[v, v', v'', v3, v4] ∧ ds = [d, d', d'', d3, d4] ∧ ps = p ++ p' ++ p'' ++ p3 ++ p4 ∧ DataW.Trod enc P w base spare held t v d p ∧ DataW.Trod enc P w base spare held t' v' d' p' ∧ DataW.Trod enc P w base spare held t'' v'' d'' p'' ∧ DataW.Trod enc P w base spare held t3 v3 d3 p3 ∧ DataW.Trod enc P w base spare held t4 v4 d4 p4 := by
  obtain ⟨v, vs, d, ds', p, q, hargs, rfl, rfl, hd, hrest⟩ := trodAll_cons h
  obtain ⟨v', vs', d', ds2, p', q', rfl, rfl, rfl, hd', hrest'⟩ := trodAll_cons hrest
  obtain ⟨v'', vs2, d'', ds3, p'', q'', rfl, rfl, rfl, hd'', hrest2⟩ := trodAll_cons hrest'
  obtain ⟨v3, vs3, d3, ds4, p3, q3, rfl, rfl, rfl, hd3, hrest3⟩ := trodAll_cons hrest2
  obtain ⟨v4, vs4, d4, ds5, p4, q4, rfl, rfl, rfl, hd4, hrest4⟩ := trodAll_cons hrest3
  obtain ⟨rfl, rfl, rfl⟩ := trodAll_nil hrest4
  exact ⟨v, v', v'', v3, v4, d, d', d'', d3, d4, p, p', p'', p3, p4, by cases args; simp_all, rfl, by simp, hd, hd', hd'', hd3, hd4⟩
end
end Go.Nau

/- Arguments opened: a record by value. -/
import Derived.Test.YtjpmohennekbaaaRq
import Derived.Test.YtjpmohennekbaaaP
namespace Go.Proofs.Ytjpmohennekbaaa
open Go.RowKit Go.WideShapes Go.ChangeShapes Go.Deep Go.Joins Go.Nau

instance : Inhabited Ent := ⟨⟨0, 0, 0, 0⟩⟩
section
variable {H : Type} {enc : TypeId × Value → H} {P : Program} {w : World}
theorem wf_nat {x n : Int} (h : 0 ≤ x ∧ x ≤ n) : ∃ k : Nat, x = (k : Int) ∧ (k : Int) ≤ n := ⟨x.toNat, by omega, by omega⟩
/-- A slice of entries. -/
theorem opn_ents {t e : TypeId} {f0 f1 f2 f3 : Field} {v : Value} {D : DataW H × List MemPlace} {n0 : Nat} (ht : P.underlying t = some (.slice e)) (he : P.underlying e = some (.struct #[f0, f1, f2, f3])) (ce : P.cellsOf e = 4)
    (hl : (f0.offset, f1.offset, f2.offset, f3.offset) = (0, 1, 2, 3)) (hc : (P.cellsOf f0.type, P.cellsOf f1.type, P.cellsOf f2.type, P.cellsOf f3.type) = (1, 1, 1, 1))
    (u0 : P.underlying f0.type = some (.int .i64)) (u1 : P.underlying f1.type = some (.int .u32)) (u2 : P.underlying f2.type = some (.int .u32)) (u3 : P.underlying f3.type = some (.int .u32))
    (hf : DataW.trod enc P w 0 (fun _ => true) true n0 t [v] = some D) :
    ∃ (A : Option Addr) (n c : Nat) (l : List Ent), v = .slice A n c ∧ n ≤ c ∧ c ≤ maxLen ∧ l.length = n ∧ Rd (· < w.heap.size) w 4 A n (entC l) ∧ ∀ x ∈ l, x.wf := by
  simp only [Prod.mk.injEq] at hl hc
  obtain ⟨o0, o1, o2, o3⟩ := hl
  obtain ⟨c0, c1, c2, c3⟩ := hc
  rcases open_slice ht hf with ⟨h1, _⟩ | ⟨a, len, cap, m, n', D', Pl, h1, _, hl, hm, hmm, _, hx⟩
  · simp only [List.cons.injEq, and_true] at h1
    subst h1
    exact ⟨none, 0, 0, [], rfl, Nat.le_refl _, by simp [maxLen], rfl, Rd.nil .., by simp⟩
  · simp only [List.cons.injEq, and_true] at h1
    subst h1
    have hmc : m = cap := by simpa using hmm
    subst hmc
    have each : ∀ i, i < len → ∃ x : Ent, (∀ j u, (entL x)[j]? = some u → w.cell? (a.add (i * 4 + j)) = some u) ∧ x.wf := by
      intro i hi
      obtain ⟨cs', h1, h2⟩ := hx i (by omega)
      rw [ce] at h1
      obtain ⟨_, hlen, hcell⟩ := World.cells?_some h1
      obtain ⟨xs, kk, _, _, _, hxl, hfd⟩ := DataW.trod_struct he h2
      match xs, hxl, cs', hlen with
      | [y0, y1, y2, y3], _, [z0, z1, z2, z3], _ =>
        have g0' := hfd 0 f0 rfl
        have g1' := hfd 1 f1 rfl
        have g2' := hfd 2 f2 rfl
        have g3' := hfd 3 f3 rfl
        simp [o0, o1, o2, o3, c0, c1, c2, c3] at g0' g1' g2' g3'
        obtain ⟨x0, e0, _, wf0⟩ := DataW.trod_int u0 g0'
        obtain ⟨x1, e1, _, wf1⟩ := DataW.trod_int u1 g1'
        obtain ⟨x2, e2, _, wf2⟩ := DataW.trod_int u2 g2'
        obtain ⟨x3, e3, _, wf3⟩ := DataW.trod_int u3 g3'
        simp only [List.cons.injEq, and_true] at e0 e1 e2 e3
        subst e0 e1 e2 e3
        obtain ⟨k1, rfl, b1⟩ := wf_nat (wf_u32 wf1)
        obtain ⟨k2, rfl, b2⟩ := wf_nat (wf_u32 wf2)
        obtain ⟨k3, rfl, b3⟩ := wf_nat (wf_u32 wf3)
        refine ⟨⟨x0, k1, k2, k3⟩, fun j u hu => ?_, ⟨wf_i64 wf0, by show k1 < _; omega, by show k2 < _; omega, by show k3 < _; omega⟩⟩
        have hj : j < 4 := by have := (List.getElem?_eq_some_iff.1 hu).1; simpa [entL] using this
        have := hcell j (by omega)
        rw [Go.Nau.add_add] at this
        rw [this]
        exact hu
    obtain ⟨q, hq⟩ := choose_lt each
    refine ⟨some a, len, m, (List.range len).map q, rfl, hl, hm, by simp, ⟨by rw [entC_length]; simp, fun hn => ⟨a, rfl, ?_, ?_⟩⟩, ?_⟩
    · have := cell_lt ((hq 0 (by omega)).1 0 _ rfl)
      rwa [Go.Nau.add_block] at this
    · intro j u hu
      have hj : j < len * 4 := by
        have := (List.getElem?_eq_some_iff.1 hu).1
        rw [entC_length] at this
        simpa using this
      have hget : ((List.range len).map q)[j / 4]? = some (q (j / 4)) := by
        rw [List.getElem?_map, List.getElem?_range (by omega)]
        rfl
      have hg := entC_get _ (j / 4) (j % 4) _ hget (by omega)
      have e : j / 4 * 4 + j % 4 = j := by omega
      rw [e] at hg
      rw [hu] at hg
      have := (hq (j / 4) (by omega)).1 (j % 4) u hg.symm
      rwa [e] at this
    · intro x hx
      obtain ⟨i, hi, rfl⟩ := List.mem_map.1 hx
      exact (hq i (List.mem_range.1 hi)).2

/-- A record by value. -/
theorem opn_recG {t e : TypeId} {f0 f1 f2 f3 f4 f5 g0 g1 g2 g3 : Field} {r : Reach} {b0 : Nat} {v : Value} {d : DataW H} {p : List MemPlace} (hs : P.underlying t = some (.struct #[f0, f1, f2, f3, f4, f5])) (hC : P.cellsOf t = 6)
    (ho : (f0.offset, f1.offset, f2.offset, f3.offset, f4.offset, f5.offset) = (0, 1, 2, 3, 4, 5)) (hc : (P.cellsOf f0.type, P.cellsOf f1.type, P.cellsOf f2.type, P.cellsOf f3.type, P.cellsOf f4.type, P.cellsOf f5.type) = (1, 1, 1, 1, 1, 1))
    (u0 : P.underlying f0.type = some (.int .u64)) (u1 : P.underlying f1.type = some (.int .u64)) (u2 : P.underlying f2.type = some .bool) (u3 : P.underlying f3.type = some .bool) (u4 : P.underlying f4.type = some (.int .i64)) (u5 : P.underlying f5.type = some (.slice e))
    (he : P.underlying e = some (.struct #[g0, g1, g2, g3])) (ce : P.cellsOf e = 4)
    (hl : (g0.offset, g1.offset, g2.offset, g3.offset) = (0, 1, 2, 3)) (hgc : (P.cellsOf g0.type, P.cellsOf g1.type, P.cellsOf g2.type, P.cellsOf g3.type) = (1, 1, 1, 1))
    (v0 : P.underlying g0.type = some (.int .i64)) (v1 : P.underlying g1.type = some (.int .u32)) (v2 : P.underlying g2.type = some (.int .u32)) (v3 : P.underlying g3.type = some (.int .u32))
    (hv : Value.okWide P w r b0 t v) (h : DataW.Trod enc P w 0 (fun _ => true) true t v d p) :
    ∃ (x : Rec) (A : Option Addr) (c : Nat), v = recV x A c ∧ Rd (· < w.heap.size) w 4 A x.l.length (entC x.l) ∧ x.wf := by
  obtain ⟨cs, rfl, hsz⟩ := okWide_struct hs hv
  obtain ⟨l⟩ := cs
  simp only [Prod.mk.injEq] at ho hc
  obtain ⟨o0, o1, o2, o3, o4, o5⟩ := ho
  obtain ⟨c0, c1, c2, c3, c4, c5⟩ := hc
  match l, hsz.trans hC with
  | [z0, z1, z2, z3, z4, z5], _ =>
    obtain ⟨fuel, hf⟩ := h
    obtain ⟨xs, n, _, hx, _, hlen, hg⟩ := DataW.trod_struct hs hf
    match xs, hlen with
    | [y0, y1, y2, y3, y4, y5], _ =>
      have q0 := hg 0 f0 rfl
      have q1 := hg 1 f1 rfl
      have q2 := hg 2 f2 rfl
      have q3 := hg 3 f3 rfl
      have q4 := hg 4 f4 rfl
      have q5 := hg 5 f5 rfl
      simp [Value.cells, o0, o1, o2, o3, o4, o5, c0, c1, c2, c3, c4, c5] at q0 q1 q2 q3 q4 q5
      obtain ⟨x0, e0, _, wf0⟩ := DataW.trod_int u0 q0
      obtain ⟨x1, e1, _, wf1⟩ := DataW.trod_int u1 q1
      obtain ⟨x2, e2, _⟩ := DataW.trod_bool u2 q2
      obtain ⟨x3, e3, _⟩ := DataW.trod_bool u3 q3
      obtain ⟨x4, e4, _, wf4⟩ := DataW.trod_int u4 q4
      obtain ⟨A, m, c, L, e5, hmc, hcm, hlm, hrd, hwf⟩ := opn_ents u5 he ce hl hgc v0 v1 v2 v3 q5
      simp only [List.cons.injEq, and_true] at e0 e1 e2 e3 e4
      subst e0 e1 e2 e3 e4 e5 hlm
      obtain ⟨k0, rfl, b0⟩ := wf_nat (wf_u64 wf0)
      obtain ⟨k1, rfl, b1⟩ := wf_nat (wf_u64 wf1)
      exact ⟨⟨k0, k1, x2, x3, x4, L⟩, A, c, rfl, hrd, ⟨by show k0 < _; omega, by show k1 < _; omega, wf_i64 wf4, Nat.le_trans hmc hcm, hwf⟩⟩
end
set_option maxRecDepth 100000 in
theorem opn_rec {H : Type} {enc : TypeId × Value → H} {w : World} {r : Reach} {b0 : Nat} {v : Value} {d : DataW H} {p : List MemPlace} (hv : Value.okWide Try.prog w r b0 63 v) (h : DataW.Trod enc Try.prog w 0 (fun _ => true) true 63 v d p) :
    ∃ (x : Rec) (A : Option Addr) (c : Nat), v = recV x A c ∧ Rd (· < w.heap.size) w 4 A x.l.length (entC x.l) ∧ x.wf :=
  opn_recG Try.underlying63 (by kernel_rfl) rfl (by kernel_rfl) Try.underlying35 Try.underlying35 Try.underlying4 Try.underlying4 Try.underlying3 Try.underlying61 Try.underlying105 (by kernel_rfl) rfl (by kernel_rfl)
    Try.underlying3 Try.underlying103 Try.underlying103 Try.underlying103 hv h
end Go.Proofs.Ytjpmohennekbaaa

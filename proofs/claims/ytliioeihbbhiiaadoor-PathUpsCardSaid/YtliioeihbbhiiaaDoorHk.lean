/- Paths: a region that draws its order over two chains; append(append(make(..), l...), x) in each order. -/
import Derived.Test.YtliioeihbbhiiaaDoorHj
import Derived.Test.YtliioeihbbhiiaaDoorV
import Derived.Test.YtliioeihbbhiiaaDoorHf
namespace Go.Nau
open Go.RowKit
section
variable {P : Program} {ops : Array Oper} {S : World → Prop} {Q : Exit → Act → World → Prop} {E : List Nat}

def heldEB (md : Region.Mode) (ops : Array Oper) (ts E : List Nat) (f : Nat) : Bool :=
  Region.noSelect ops && decide (ts.length + f = ops.size) && floatB md ops ts (Array.replicate ops.size false) && ts.all (fun i => !E.contains i && E.all (fun e => dependsB md ops ops.size i e))

/-- A region that draws its order: ts are taken first; the rest order by order. -/
theorem wp_region_heldE {id : Nat} {a : Act} {w : World} {l : List Oper} (S : World → Prop) (ts E : List Nat) (f : Nat) (Lf : Array Bool) (hm : P.follows .mixedOrders = true) (hB : heldEB .any l.toArray ts E f = true) (hLf : setAll (Array.replicate l.toArray.size false) ts = Lf)
    (hQ : ∀ c (a a' : Act) w, a.defers = a'.defers → Q (.panic c) a w → Q (.panic c) a' w) (hS : S (w.drewN 1))
    (h : heldQ P l.toArray S (fun a' => wpAnyE P .any l.toArray Q S E f Lf a' (w.drewN 1)) ts a) : (Code.region id l.toArray true).wp P Q a w := by
  refine wp_region_any hm (wpAny_of_E (S := S) (E := E) _ _ _ _ ?_)
  simp only [heldEB, Bool.and_eq_true, decide_eq_true_eq] at hB
  obtain ⟨⟨⟨hsel, hlen⟩, hfl⟩, hdep⟩ := hB
  have cl0 : Closed .any l.toArray (Array.replicate l.toArray.size false) := fun j oj _ hl => by rw [getD_replicate_false] at hl; cases hl
  have H := wpAnyE_of_held (P := P) (md := .any) (Q := Q) (E := E) (d := l.toArray.size) (f := f) (w := w.drewN 1) (Lf := Lf) hsel hQ hS (K := fun a' => wpAnyE P .any l.toArray Q S E f Lf a' (w.drewN 1)) (fun a' hq => hq) ts (Array.replicate l.toArray.size false) a hLf hfl hdep cl0 h
  rw [hlen] at H
  exact H

theorem wpOp_val {i : Nat} {o : Oper} {a : Act} {w w' : World} {v : Value} {K : Act → World → Prop} (ho : ops[i]? = some o) (hg : o.guard = none) (hr : (execOp a.eval o).run P w = .ok (.value v) w') (h : K (a.put o.dst v) w') : wpOp P ops Q i K a w := by
  unfold wpOp
  rw [ho]
  show if Region.wanted o _ then _ else _
  rw [if_pos (by simp [Region.wanted, hg])]
  left
  unfold Oper.wp
  rw [hr]
  exact h
theorem wpAnyE_val2 {i j f : Nat} {oi oj : Oper} {listed : Array Bool} {a : Act} {w wi wj : World} {vi vj : Value} (hr : Region.ready .any ops listed = [i, j]) (hEi : E.contains i = false) (hEj : E.contains j = false) (hi : ops[i]? = some oi) (hj : ops[j]? = some oj) (gi : oi.guard = none) (gj : oj.guard = none)
    (ri : (execOp a.eval oi).run P w = .ok (.value vi) wi) (rj : (execOp a.eval oj).run P w = .ok (.value vj) wj) (si : S wi) (sj : S wj)
    (h1 : wpAnyE P .any ops Q S E f (listed.setIfInBounds i true) (a.put oi.dst vi) wi) (h2 : wpAnyE P .any ops Q S E f (listed.setIfInBounds j true) (a.put oj.dst vj) wj) : wpAnyE P .any ops Q S E (f + 1) listed a w := by
  unfold wpAnyE
  rw [hr]
  refine ⟨fun h => (by cases h), fun k hk => ?_⟩
  rcases List.mem_cons.1 hk with rfl | hk
  · exact ⟨fun h => (by rw [hEi] at h; cases h), fun _ => wpOp_val hi gi ri ⟨si, h1⟩⟩
  · obtain rfl := List.mem_singleton.1 hk
    exact ⟨fun h => (by rw [hEj] at h; cases h), fun _ => wpOp_val hj gj rj ⟨sj, h2⟩⟩
theorem wpAnyE_val1 {i f : Nat} {oi : Oper} {listed : Array Bool} {a : Act} {w wi : World} {vi : Value} (hr : Region.ready .any ops listed = [i]) (hEi : E.contains i = false) (hi : ops[i]? = some oi) (gi : oi.guard = none)
    (ri : (execOp a.eval oi).run P w = .ok (.value vi) wi) (si : S wi)
    (h1 : wpAnyE P .any ops Q S E f (listed.setIfInBounds i true) (a.put oi.dst vi) wi) : wpAnyE P .any ops Q S E (f + 1) listed a w := by
  unfold wpAnyE
  rw [hr]
  refine ⟨fun h => (by cases h), fun k hk => ?_⟩
  obtain rfl := List.mem_singleton.1 hk
  exact ⟨fun h => (by rw [hEi] at h; cases h), fun _ => wpOp_val hi gi ri ⟨si, h1⟩⟩
end
end Go.Nau
namespace Go.Proofs.YtliioeihbbhiiaaDoor
open Go.RowKit Go.Nau Go.Shelf

/-- What a copy with one more is. -/
def CpyOut (wr : World) (l : List ByteArray) (v : Value) (W : World) : Prop :=
  ∃ A c, v = .slice A l.length c ∧ l.length ≤ c ∧ c ≤ maxLen ∧ Rd (· < W.heap.size) W 1 A l.length (strs l) ∧ Below wr.heap.size wr W
section
variable {wr : World} {A : Option Addr} {c : Nat} {l : List ByteArray} (x : ByteArray)

theorem cpy_mk (V : World) (n : Nat) (hn : n ≤ 1000000) (hb : Below wr.heap.size wr V) : ∃ v V3, (Instr.makeSlice 22 (.int .i64 0) (.int .i64 (n : Int))).run Tryd.prog V = .ok v V3 ∧ V3.ownsRow wr.heap.size 9 1 v 0 [] ∧ Fr (fun _ => False) V V3 ∧ Below wr.heap.size wr V3 ∧ v = .slice (some ⟨V.heap.size, 0, none⟩) 0 n := by
  have hinfo : (Tryd.prog.info? 9).map (fun i => (i.zero, i.size, i.bytes)) = some (some (.string ⟨#[]⟩), 1, 16) := by kernel_rfl
  obtain ⟨i0, hi0, hz0, hz1, hz2⟩ := info_parts hinfo
  obtain ⟨w', h1, h2, h3⟩ := run_make_own (P := Tryd.prog) (w := V) wr.heap.size 22 9 i0 _ 1 Tryd.underlying22 hi0 hz0 hz1 .i64 .i64 n (by rw [hz2]; omega) (by unfold maxLen; omega) hb.size
  have f : Fr (fun _ => False) V w' := (Fr.of_grown h3).mono (fun k e => by cases e)
  exact ⟨_, _, h1, h2, f, hb.trans (f.below hb.size (fun _ e => e.elim)), rfl⟩
theorem cpy_ap (V : World) (v : Value) (k : Nat) (xs : List ByteArray) (hk : xs.length = k) (hown : V.ownsRow wr.heap.size 9 1 v k (strs xs)) (hb : Below wr.heap.size wr V) (B : Option Addr) (m d : Nat) (ys : List ByteArray) (hr : Rd (fun _ => True) V 1 B m (strs ys)) (hk2 : k + m ≤ 1000000) :
    ∃ v' V', (Builtin.append_ #[22, 22] 22 #[v, .slice B m d]).run Tryd.prog V = .ok v' V' ∧ V'.ownsRow wr.heap.size 9 1 v' (k + m) (strs (xs ++ ys)) ∧ Fr (fun j => some j = v.ownBlock) V V' ∧ Below wr.heap.size wr V' := by
  have hinfo : (Tryd.prog.info? 9).map (fun i => (i.zero, i.size, i.bytes)) = some (some (.string ⟨#[]⟩), 1, 16) := by kernel_rfl
  obtain ⟨i0, hi0, hz0, hz1, hz2⟩ := info_parts hinfo
  obtain ⟨v', V', h1, h2, h3, _⟩ := run_append_rd (P := Tryd.prog) V wr.heap.size 22 22 9 i0 _ 1 16 Tryd.underlying22 hi0 hz0 hz1 hz2 rfl (by decide) v k (strs xs) hown (fun _ => True) B m d (strs ys) hr
    (by intro u hu; unfold strs at hu; obtain ⟨y, _, rfl⟩ := List.mem_map.1 hu; rfl) (by unfold maxLen; omega) (by omega) hb.size
  have f : Fr (fun j => some j = v.ownBlock) V V' := Fr.of_grown h3
  refine ⟨v', V', h1, by unfold strs at *; rw [List.map_append]; exact h2, f, hb.trans (f.below hb.size (fun j e => (hown.lt j e.symm).1))⟩
theorem rd_one (V : World) : Rd (fun _ => True) (V.alloc (.cells #[.string x] 9)) 1 (some ⟨V.heap.size, 0, none⟩) 1 (strs [x]) := by
  refine ⟨rfl, fun _ => ⟨_, rfl, trivial, fun j u hu => ?_⟩⟩
  have hn := heap_alloc_new V (.cells #[.string x] 9)
  have ha : (⟨V.heap.size, 0, none⟩ : Addr).add j = ⟨V.heap.size, j, none⟩ := by unfold Addr.add; split <;> simp_all
  rw [ha, blk_cell hn j]
  simpa [strs] using hu
theorem cpy_end {V : World} {v : Value} {k : Nat} {xs : List ByteArray} (h : V.ownsRow wr.heap.size 9 1 v k (strs xs)) (hk : xs.length = k) (hb : Below wr.heap.size wr V) : CpyOut wr xs v V := by
  obtain ⟨A, c, rfl, h1, h2, hrd⟩ := Go.Nau.Rd.of_own h
  subst hk
  exact ⟨A, c, rfl, h1, h2, hrd.inb.mono (fun k h => h.2), hb⟩

noncomputable abbrev runMk (n : Nat) (V : World) := (Instr.makeSlice 22 (.int .i64 0) (.int .i64 ((n : Int) + 1))).run Tryd.prog V
noncomputable abbrev runAp (v u : Value) (V : World) := (Builtin.append_ #[22, 22] 22 #[v, u]).run Tryd.prog V

/-- The three orders. -/
theorem cpy_orders (hr : Rd (· < wr.heap.size) wr 1 A l.length (strs l)) (hl : l.length ≤ 10000) (V : World) (hV : Below wr.heap.size wr V) :
    (∃ v3 V3 v5 V5 v7 V7 v5' V5' v7' V7', runMk l.length V = .ok v3 V3 ∧ runAp v3 (.slice A l.length c) V3 = .ok v5 V5 ∧ runAp v5 (.slice (some ⟨V5.heap.size, 0, none⟩) 1 1) (V5.alloc (.cells #[.string x] 9)) = .ok v7 V7 ∧
      runAp v3 (.slice A l.length c) (V3.alloc (.cells #[.string x] 9)) = .ok v5' V5' ∧ runAp v5' (.slice (some ⟨V3.heap.size, 0, none⟩) 1 1) V5' = .ok v7' V7' ∧
      Below wr.heap.size wr V3 ∧ Below wr.heap.size wr V5 ∧ Below wr.heap.size wr V5' ∧ CpyOut wr (l ++ [x]) v7 V7 ∧ CpyOut wr (l ++ [x]) v7' V7') ∧
    (∃ v3 V3 v5 V5 v7 V7, runMk l.length (V.alloc (.cells #[.string x] 9)) = .ok v3 V3 ∧ runAp v3 (.slice A l.length c) V3 = .ok v5 V5 ∧ runAp v5 (.slice (some ⟨V.heap.size, 0, none⟩) 1 1) V5 = .ok v7 V7 ∧
      Below wr.heap.size wr V3 ∧ Below wr.heap.size wr V5 ∧ CpyOut wr (l ++ [x]) v7 V7) := by
  have rdl : ∀ W, Below wr.heap.size wr W → Rd (fun _ => True) W 1 A l.length (strs l) := fun W h => (rd_on hr h).mono (fun _ _ => trivial)
  have al : ∀ W, Below wr.heap.size wr W → Below wr.heap.size wr (W.alloc (.cells #[.string x] 9)) := fun W h => h.alloc h.size _
  have fa : ∀ W : World, Fr (fun _ => False) W (W.alloc (.cells #[.string x] 9)) := fun W => (Fr.refl _ W).alloc _
  have hc : ((l.length : Int) + 1) = ((l.length + 1 : Nat) : Int) := by omega
  unfold runMk
  rw [hc]
  refine ⟨?_, ?_⟩
  · obtain ⟨v3, V3, r3, o3, f3, b3, e3⟩ := cpy_mk V (l.length + 1) (by omega) hV
    obtain ⟨v5, V5, r5, o5, f5, b5⟩ := cpy_ap V3 v3 0 [] rfl o3 b3 A l.length c l (rdl _ b3) (by omega)
    obtain ⟨v7, V7, r7, o7, f7, b7⟩ := cpy_ap (V5.alloc (.cells #[.string x] 9)) v5 (0 + l.length) ([] ++ l) (by simp) (Fr.own o5 (fa V5) (fun _ _ => id)) (al _ b5) _ 1 1 [x] (rd_one x V5) (by omega)
    obtain ⟨v5', V5', r5', o5', f5', b5'⟩ := cpy_ap (V3.alloc (.cells #[.string x] 9)) v3 0 [] rfl (Fr.own o3 (fa V3) (fun _ _ => id)) (al _ b3) A l.length c l (rdl _ (al _ b3)) (by omega)
    have hx : Rd (fun _ => True) V5' 1 (some ⟨V3.heap.size, 0, none⟩) 1 (strs [x]) := by
      have h0 := rd_one x V3
      refine ⟨rfl, fun hn => ?_⟩
      obtain ⟨ad, he, _, hcell⟩ := h0.2 hn
      cases he
      refine ⟨_, rfl, trivial, fun j u hu => f5'.cell ?_ (hcell j u hu)⟩
      rw [add_block]
      intro e
      exact Nat.lt_irrefl _ (o3.lt _ e.symm).2
    obtain ⟨v7', V7', r7', o7', f7', b7'⟩ := cpy_ap V5' v5' (0 + l.length) ([] ++ l) (by simp) o5' b5' _ 1 1 [x] hx (by omega)
    exact ⟨v3, V3, v5, V5, v7, V7, v5', V5', v7', V7', r3, r5, r7, r5', r7', b3, b5, b5', cpy_end o7 (by simp) b7, cpy_end o7' (by simp) b7'⟩
  · obtain ⟨v3, V3, r3, o3, f3, b3, e3⟩ := cpy_mk (V.alloc (.cells #[.string x] 9)) (l.length + 1) (by omega) (al _ hV)
    obtain ⟨v5, V5, r5, o5, f5, b5⟩ := cpy_ap V3 v3 0 [] rfl o3 b3 A l.length c l (rdl _ b3) (by omega)
    have hx : Rd (fun _ => True) V5 1 (some ⟨V.heap.size, 0, none⟩) 1 (strs [x]) := by
      have h0 := rd_one x V
      refine ⟨rfl, fun hn => ?_⟩
      obtain ⟨ad, he, _, hcell⟩ := h0.2 hn
      cases he
      refine ⟨_, rfl, trivial, fun j u hu => f5.cell ?_ (f3.cell id (hcell j u hu))⟩
      rw [add_block]
      intro e
      rw [e3] at e
      simp [Value.ownBlock] at e
    obtain ⟨v7, V7, r7, o7, f7, b7⟩ := cpy_ap V5 v5 (0 + l.length) ([] ++ l) (by simp) o5 b5 _ 1 1 [x] hx (by omega)
    exact ⟨v3, V3, v5, V5, v7, V7, r3, r5, r7, b3, b5, cpy_end o7 (by simp) b7⟩
end
end Go.Proofs.YtliioeihbbhiiaaDoor

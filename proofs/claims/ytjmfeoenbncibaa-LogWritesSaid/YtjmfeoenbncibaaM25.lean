/- Texts of this proof, joined: Lj Y. They hold under no condition beyond what each theorem states. -/
import Derived.Test.YtjmfeoenbncibaaM24
import Derived.Test.YtjmfeoenbncibaaM14
namespace Go.Proofs.Ytjmfeoenbncibaa
open Go.RowKit Go.Nau Go.Shelf
attribute [local go_sem] Oper.semAt_some

/-- A found record, where its lists lie. -/
structure FV where
  f : Fnd
  A : Option Addr
  c : Nat
  B : Option Addr
  c2 : Nat
def fvC (x : FV) : List Value := (fndV x.f x.A x.c x.B x.c2).toList
def fvsC (l : List FV) : List Value := l.flatMap fvC
theorem fvsC_snoc (l : List FV) (x : FV) : fvsC (l ++ [x]) = fvsC l ++ fvC x := by simp [fvsC]
theorem fvC_length (x : FV) : (fvC x).length = 8 := rfl
theorem fvsC_length (l : List FV) : (fvsC l).length = l.length * 8 := by
  unfold fvsC
  induction l with
  | nil => rfl
  | cons x l ih => simp only [List.flatMap_cons, List.length_append, ih, List.length_cons, fvC_length]; omega
def FIn (T : Nat → Prop) (w : World) (x : FV) : Prop :=
  x.f.r.l.length ≤ x.c ∧ x.f.c.length ≤ x.c2 ∧ Rd T w 4 x.A x.f.r.l.length (entC x.f.r.l) ∧ Rd T w 1 x.B x.f.c.length (strs x.f.c)
theorem FIn.kept {T S : Nat → Prop} {w w' : World} {x : FV} (h : FIn T w x) (hf : Fr S w w') (hs : ∀ k, T k → ¬ S k) : FIn T w' x := ⟨h.1, h.2.1, h.2.2.1.kept hf hs, h.2.2.2.kept hf hs⟩
theorem FIn.mono {T T' : Nat → Prop} {w : World} {x : FV} (h : FIn T w x) (hT : ∀ k, T k → T' k) : FIn T' w x := ⟨h.1, h.2.1, h.2.2.1.mono hT, h.2.2.2.mono hT⟩

/-- A row of found records, its block and their lists from base on. -/
def FRow (w : World) (base : Nat) (v : Value) (fs : List Fnd) : Prop :=
  ∃ xs : List FV, xs.map FV.f = fs ∧ w.ownsRow base 81 8 v fs.length (fvsC xs) ∧ ∀ x ∈ xs, FIn (fun k => base ≤ k ∧ k < w.heap.size ∧ v.ownBlock ≠ some k) w x
theorem FRow.kept {S : Nat → Prop} {w w' : World} {base : Nat} {v : Value} {fs : List Fnd} (h : FRow w base v fs) (hf : Fr S w w') (hs : ∀ k, base ≤ k → ¬ S k) : FRow w' base v fs := by
  obtain ⟨xs, h1, h2, h3⟩ := h
  refine ⟨xs, h1, Fr.own h2 hf (fun k hk => hs k (h2.lt k hk).1), fun x hx => ?_⟩
  refine ((h3 x hx).kept hf (fun k hk => hs k hk.1)).mono (fun k hk => ⟨hk.1, Nat.lt_of_lt_of_le hk.2.1 hf.size, hk.2.2⟩)
theorem FRow.nil (w : World) (base : Nat) : FRow w base (.slice none 0 0) [] := ⟨[], rfl, ⟨rfl, .inl ⟨rfl, rfl⟩⟩, by simp⟩
theorem fin_snoc {W W1 w3 : World} {base : Nat} {v v' : Value} {xs : List FV} {x : FV} {S : Nat → Prop} (hin : ∀ x ∈ xs, FIn (fun k => base ≤ k ∧ k < W.heap.size ∧ v.ownBlock ≠ some k) W x) (hf : Fr S W W1) (hS : ∀ k, base ≤ k → ¬ S k)
    (hx : FIn (fun k => W.heap.size ≤ k ∧ k < W1.heap.size) W1 x) (hg : W1.grownBy w3 v.ownBlock) (hat : v'.ownBlock = v.ownBlock ∨ v'.ownBlock = some W1.heap.size) (hlt : ∀ k, v.ownBlock = some k → k < W.heap.size) (hb : base ≤ W.heap.size) :
    ∀ y ∈ xs ++ [x], FIn (fun k => base ≤ k ∧ k < w3.heap.size ∧ v'.ownBlock ≠ some k) w3 y := by
  have hs1 := hf.size
  have hs3 := hg.size
  have tr : ∀ y, FIn (fun k => base ≤ k ∧ k < W1.heap.size ∧ v.ownBlock ≠ some k) W1 y → FIn (fun k => base ≤ k ∧ k < w3.heap.size ∧ v'.ownBlock ≠ some k) w3 y := by
    intro y hy
    refine (hy.kept (Fr.of_grown hg) (fun k hk e => hk.2.2 e.symm)).mono (fun k hk => ⟨hk.1, by omega, ?_⟩)
    rcases hat with h | h
    · rw [h]; exact hk.2.2
    · rw [h]
      intro e
      injection e with e
      omega
  intro y hy
  rcases List.mem_append.1 hy with hy | hy
  · refine tr y (((hin y hy).kept hf (fun k hk => hS k hk.1)).mono (fun k hk => ⟨hk.1, by omega, hk.2.2⟩))
  · rw [List.mem_singleton.1 hy]
    refine tr x (hx.mono (fun k hk => ⟨by omega, hk.2, fun e => ?_⟩))
    have := hlt k e
    omega

theorem infoF : (Try.prog.info? 81).map (fun i => (i.zero, i.size, i.bytes)) = some (some (.agg zeroF), 8, 88) := by kernel_rfl
theorem rd_new8 (W : World) (x : FV) : Rd (fun _ => True) (W.alloc (.cells (fndV x.f x.A x.c x.B x.c2) 81)) 8 (some ⟨W.heap.size, 0, none⟩) 1 (fvC x) := by
  refine ⟨rfl, fun _ => ⟨_, rfl, trivial, fun j u hu => ?_⟩⟩
  have hn := heap_alloc_new W (.cells (fndV x.f x.A x.c x.B x.c2) 81)
  have ha : (⟨W.heap.size, 0, none⟩ : Addr).add j = ⟨W.heap.size, j, none⟩ := by unfold Addr.add; split <;> simp_all
  rw [ha, cell_of_row _ W.heap.size j _ _ _ hn]
  unfold fvC at hu
  rw [← hu]
  simp
theorem fvC_one (x : FV) : ∀ u ∈ fvC x, u.oneCell' = true := by
  intro u hu
  simp [fvC, fndV, fndC] at hu
  rcases hu with rfl | rfl | rfl | rfl | rfl | rfl | rfl | rfl <;> rfl
end Go.Proofs.Ytjmfeoenbncibaa
namespace Go.Nau
open Go.RowKit
section
variable {P : Program} {ops : Array Oper} {S : World → Prop} {Q : Exit → Act → World → Prop} {E : List Nat}

def heldEB' (md : Region.Mode) (ops : Array Oper) (ts E : List Nat) (f : Nat) : Bool :=
  Region.noSelect ops && decide (ts.length + f = ops.size) && floatB md ops ts (Array.replicate ops.size false) && ts.all (fun i => !E.contains i && E.all (fun e => dependsB md ops ops.size i e))

/-- A region that draws its order: ts are taken first; the rest order by order. -/
theorem wp_region_heldE' {id : Nat} {a : Act} {w : World} {l : List Oper} (S : World → Prop) (ts E : List Nat) (f : Nat) (Lf : Array Bool) (hm : P.follows .mixedOrders = true) (hB : heldEB' .any l.toArray ts E f = true) (hLf : setAll (Array.replicate l.toArray.size false) ts = Lf)
    (hQ : ∀ c (a a' : Act) w, a.defers = a'.defers → Q (.panic c) a w → Q (.panic c) a' w) (hS : S (w.drewN 1))
    (h : heldQ P l.toArray S (fun a' => wpAnyE P .any l.toArray Q S E f Lf a' (w.drewN 1)) ts a) : (Code.region id l.toArray true).wp P Q a w := by
  refine wp_region_any hm (wpAny_of_E (S := S) (E := E) _ _ _ _ ?_)
  simp only [heldEB', Bool.and_eq_true, decide_eq_true_eq] at hB
  obtain ⟨⟨⟨hsel, hlen⟩, hfl⟩, hdep⟩ := hB
  have cl0 : Closed .any l.toArray (Array.replicate l.toArray.size false) := fun j oj _ hl => by rw [getD_replicate_false] at hl; cases hl
  have H := wpAnyE_of_held (P := P) (md := .any) (Q := Q) (E := E) (d := l.toArray.size) (f := f) (w := w.drewN 1) (Lf := Lf) hsel hQ hS (K := fun a' => wpAnyE P .any l.toArray Q S E f Lf a' (w.drewN 1)) (fun a' hq => hq) ts (Array.replicate l.toArray.size false) a hLf hfl hdep cl0 h
  rw [hlen] at H
  exact H

theorem heldQ_mono {K K' : Act → Prop} (h : ∀ a, K a → K' a) : ∀ (ks : List Nat) (a : Act), heldQ P ops S K ks a → heldQ P ops S K' ks a
  | [], a, hq => h a hq
  | k :: ks, a, hq => by
    unfold heldQ at hq ⊢
    split at hq
    · rename_i o ho
      obtain ⟨v, hy, h'⟩ := hq
      exact ⟨v, hy, heldQ_mono h ks _ h'⟩
    · exact hq.elim

def closedB (md : Region.Mode) (ops : Array Oper) (listed : Array Bool) : Bool := (List.range ops.size).all fun j => match ops[j]? with
  | some o => !(listed.getD j false) || o.after.all fun e => !(Region.binds md e) || listed.getD e.on false
  | none => true
theorem closed_of_B {md : Region.Mode} {listed : Array Bool} (h : closedB md ops listed = true) : Closed md ops listed := by
  intro j oj hj hl e he hb
  unfold closedB at h
  rw [List.all_eq_true] at h
  have hjs : j < ops.size := (Array.getElem?_eq_some_iff.1 hj).1
  have := h j (List.mem_range.2 hjs)
  rw [hj] at this
  simp only [hl, Bool.not_true, Bool.false_or] at this
  rw [Array.all_eq_true'] at this
  have := this e he
  simpa [hb] using this

/-- Pure operations first, then a forced row. -/
theorem wpAny_held_row {es js : List Nat} {listed Lf : Array Bool} {a : Act} {w : World} (hsel : Region.noSelect ops = true) (hQ : ∀ c (a a' : Act) w, a.defers = a'.defers → Q (.panic c) a w → Q (.panic c) a' w) (hc : closedB .any ops listed = true)
    (hLf : setAll listed es = Lf) (hfl : floatB .any ops es listed = true) (hrow : rowB .any ops js Lf = true) (h : heldQ P ops (fun _ => True) (fun a' => wpList P ops Q (opsAt ops js) a' w) es a) : wpAny P .any ops Q (es.length + js.length) listed a w := by
  refine wpAny_of_E (S := fun _ => True) (E := []) _ _ _ _ ?_
  refine wpAnyE_of_held (d := 0) hsel hQ trivial (K := fun a' => wpList P ops Q (opsAt ops js) a' w) (fun a' hq => ?_) es listed a hLf hfl (by simp) (closed_of_B hc) h
  have key : ∀ (n : Nat) (L : Array Bool) (a : Act) (w : World), wpAny P .any ops Q n L a w → wpAnyE P .any ops Q (fun _ => True) [] n L a w := by
    intro n
    induction n with
    | zero => exact fun L a w h => h
    | succ n ih => exact fun L a w h => ⟨h.1, fun i hi => ⟨fun he => by simp at he, fun _ => wpOp_mono (fun a' w' h' => ⟨trivial, ih _ _ _ h'⟩) (h.2 i hi)⟩⟩
  exact key _ _ _ _ (wpAny_of_row js Lf a' w hrow hq)

/-- One operation, by its place. -/
def wpAt (P : Program) (ops : Array Oper) (Q : Exit → Act → World → Prop) (i : Nat) (K : Act → World → Prop) (a : Act) (w : World) : Prop := match ops[i]? with
  | some o => o.guard = none ∧ Oper.wp P o a w K Q
  | none => False
theorem wpOp_of_at {i : Nat} {K : Act → World → Prop} {a : Act} {w : World} (h : wpAt P ops Q i K a w) : wpOp P ops Q i K a w := by
  unfold wpAt at h
  unfold wpOp
  split at h
  · rename_i o ho
    simp only [ho]
    rw [if_pos (by simp [Region.wanted, h.1])]
    exact .inl h.2
  · exact h.elim
theorem wpAt_mono {i : Nat} {K K' : Act → World → Prop} {a : Act} {w : World} (hK : ∀ a w, K a w → K' a w) (h : wpAt P ops Q i K a w) : wpAt P ops Q i K' a w := by
  unfold wpAt at h ⊢
  split at h
  · exact ⟨h.1, Oper.wp_mono hK h.2⟩
  · exact h.elim

theorem wpAt_step {i : Nat} {o : Oper} {K : Act → World → Prop} {a : Act} {w : World} (ho : ops[i]? = some o) (hg : o.guard = none) (h : ∀ K' : Act → World → Prop, (∀ a' w', K a' w' → K' a' w') → Oper.wp P o a w K' Q) : wpAt P ops Q i K a w := by
  unfold wpAt
  rw [ho]
  exact ⟨hg, h K (fun _ _ h => h)⟩

/-- What the kernel looks at. -/
def callboxB (ops : Array Oper) (ts es js : List Nat) (c al : Nat) (Lf L1 L2 L3 L4 L5 : Array Bool) : Bool :=
  heldEB' .any ops ts (c :: es ++ js) (2 + es.length + js.length) && decide (setAll (Array.replicate ops.size false) ts = Lf) && decide (Region.ready .any ops Lf = [c, al]) && !((c :: es ++ js).contains al) &&
  decide (Lf.setIfInBounds c true = L1) && closedB .any ops L1 && decide (setAll L1 es = L2) && floatB .any ops es L1 && rowB .any ops (al :: js) L2 &&
  decide (Lf.setIfInBounds al true = L3) && decide (Region.ready .any ops L3 = [c]) && decide (L3.setIfInBounds c true = L4) && closedB .any ops L4 && decide (setAll L4 es = L5) && floatB .any ops es L4 && rowB .any ops js L5

theorem wp_callbox {id : Nat} {a : Act} {w : World} {l : List Oper} (S : World → Prop) (ts es js : List Nat) (c al : Nat) (Lf L1 L2 L3 L4 L5 : Array Bool) (hm : P.follows .mixedOrders = true) (hB : callboxB l.toArray ts es js c al Lf L1 L2 L3 L4 L5 = true)
    (hQ : ∀ c (a a' : Act) w, a.defers = a'.defers → Q (.panic c) a w → Q (.panic c) a' w) (hS : S (w.drewN 1))
    (h : heldQ P l.toArray S (fun a' =>
      wpAt P l.toArray Q c (fun a1 w1 => heldQ P l.toArray (fun _ => True) (fun a2 => wpList P l.toArray Q (opsAt l.toArray (al :: js)) a2 w1) es a1) a' (w.drewN 1) ∧
      wpAt P l.toArray Q al (fun a1 w1 => S w1 ∧ wpAt P l.toArray Q c (fun a2 w2 => heldQ P l.toArray (fun _ => True) (fun a3 => wpList P l.toArray Q (opsAt l.toArray js) a3 w2) es a2) a1 w1) a' (w.drewN 1)) ts a) :
    (Code.region id l.toArray true).wp P Q a w := by
  simp only [callboxB, Bool.and_eq_true, decide_eq_true_eq, Bool.not_eq_true'] at hB
  obtain ⟨⟨⟨⟨⟨⟨⟨⟨⟨⟨⟨⟨⟨⟨⟨h1, h2⟩, h3⟩, h4⟩, h5⟩, h6⟩, h7⟩, h8⟩, h9⟩, h10⟩, h11⟩, h12⟩, h13⟩, h14⟩, h15⟩, h16⟩ := hB
  have hsel : Region.noSelect l.toArray = true := by
    simp only [heldEB', Bool.and_eq_true] at h1
    exact h1.1.1.1
  refine wp_region_heldE' S ts (c :: es ++ js) (2 + es.length + js.length) Lf hm h1 h2 hQ hS (heldQ_mono (fun a' hh => ?_) ts a h)
  obtain ⟨hA, hL⟩ := hh
  rw [show 2 + es.length + js.length = (1 + es.length + js.length) + 1 by omega]
  refine ⟨fun e => (by rw [h3] at e; cases e), fun i hi => ?_⟩
  rw [h3] at hi
  have hcE : (c :: es ++ js).contains c = true := by simp
  rcases List.mem_cons.1 hi with rfl | hi
  · refine ⟨fun _ => ?_, fun e => (by rw [hcE] at e; cases e)⟩
    refine wpOp_of_at (wpAt_mono (fun a1 w1 hk => ?_) hA)
    rw [h5, show 1 + es.length + js.length = es.length + (al :: js).length by simp only [List.length_cons]; omega]
    exact wpAny_held_row hsel hQ h6 h7 h8 h9 hk
  · obtain rfl := List.mem_singleton.1 hi
    refine ⟨fun e => (by rw [h4] at e; cases e), fun _ => ?_⟩
    refine wpOp_of_at (wpAt_mono (fun a1 w1 hk => ⟨hk.1, ?_⟩) hL)
    rw [h10, show 1 + es.length + js.length = (es.length + js.length) + 1 by omega]
    refine ⟨fun e => (by rw [h11] at e; cases e), fun k hk' => ?_⟩
    rw [h11] at hk'
    obtain rfl := List.mem_singleton.1 hk'
    refine ⟨fun _ => ?_, fun e => (by rw [hcE] at e; cases e)⟩
    refine wpOp_of_at (wpAt_mono (fun a2 w2 hk2 => ?_) hk.2)
    rw [h12]
    exact wpAny_held_row hsel hQ h13 h14 h15 h16 hk2
end
end Go.Nau

/- Directories as bytes: what is read of them, dirs.read: contract over the given program. -/
import Derived.Test.YtliioeihbbhiiaaEd
import Derived.Test.YtliioeihbbhiiaaW
import Derived.OwnWalkIn
namespace Go.Proofs.Ytliioeihbbhiiaa
open Go.RowKit Go.Nau Go.Shelf
attribute [local go_sem] Oper.semAt_some

def deL (x : De) : List Value := [.string x.name, .int .u32 x.ino, .int .i64 x.fr, .int .i64 x.en]
def deC (l : List De) : List Value := l.flatMap deL
theorem deC_snoc (l : List De) (x : De) : deC (l ++ [x]) = deC l ++ deL x := by simp [deC]
theorem deC_length (l : List De) : (deC l).length = l.length * 4 := by
  unfold deC
  induction l with
  | nil => rfl
  | cons x l ih => simp only [List.flatMap_cons, List.length_append, ih, List.length_cons, deL, List.length_nil]; omega

def freshB : List ByteArray → List ByteArray → Bool
  | _, [] => true
  | met, x :: r => !memB x met && freshB (x :: met) r
/-- Are a directory's bytes entries, each of another name? -/
def rdOk (s : ByteArray) : Bool := decide (s.size ≤ 20000) && ((seqOf s).all (·.2) && freshB [] ((seqOf s).map (·.1.name)))
def readL (s : ByteArray) : List De := if rdOk s then (seqOf s).map (·.1) else []
def readE (s : ByteArray) : Int := if rdOk s then 0 else 110

theorem freshB_append : ∀ (met a b : List ByteArray), freshB met (a ++ b) = (freshB met a && freshB (a.reverse ++ met) b)
  | _, [], _ => by simp [freshB]
  | met, x :: a, b => by
    simp only [List.cons_append, freshB, List.reverse_cons, List.append_assoc, List.nil_append]
    rw [freshB_append (x :: met) a b, Bool.and_assoc]

def RdPost (w : World) (s : ByteArray) (e : Ending) (w' : World) : Prop :=
  ∃ A c, e = .returned (.tuple #[.slice A (readL s).length c, .int .i64 (readE s)]) ∧ (readL s).length ≤ c ∧ Rd (fun k => w.heap.size ≤ k ∧ k < w'.heap.size) w' 4 A (readL s).length (deC (readL s)) ∧ Below w.heap.size w w'

theorem fr_noncells {A B : World} {base : Nat} {row : Option Nat} (hg : A.grownBy B row) (hr : ∀ r, row = some r → base ≤ r ∧ ∃ o : Obj, A.heap[r]? = some o ∧ o.isCells = false) : Fr (fun k => base ≤ k ∧ ∃ o : Obj, A.heap[k]? = some o ∧ o.isCells = false) A B :=
  (Fr.of_grown hg).mono (fun k e => hr k e.symm)
theorem own_noncells {A B : World} {base b0 : Nat} {e : TypeId} {size : Nat} {v : Value} {n : Nat} {xs : List Value} (h : A.ownsRow base e size v n xs) (hf : Fr (fun k => b0 ≤ k ∧ ∃ o : Obj, A.heap[k]? = some o ∧ o.isCells = false) A B) : B.ownsRow base e size v n xs := by
  refine Fr.own h hf ?_
  rintro k hk ⟨_, o, ho, hc⟩
  rcases h.2 with ⟨rfl, _⟩ | ⟨g, cap, cur, rfl, _, hh, _⟩
  · cases hk
  · simp [Value.ownBlock] at hk
    subst hk
    rw [hh] at ho
    injection ho with ho
    subst ho
    cases hc
theorem own_cells {w : World} {base : Nat} {e : TypeId} {size n : Nat} {v : Value} {xs : List Value} (h : w.ownsRow base e size v n xs) {k : Nat} (hk : some k = v.ownBlock) : ∃ cs t fz, w.heap[k]? = some (Obj.cells cs t fz) := by
  rcases h.2 with ⟨rfl, _⟩ | ⟨g, cap, cur, rfl, _, hh, _⟩
  · cases hk
  · simp [Value.ownBlock] at hk
    subst hk
    exact ⟨_, _, _, hh⟩
theorem Rd.of_own2 {w : World} {base : Nat} {e : TypeId} {size n : Nat} {v : Value} {xs : List Value} (h : w.ownsRow base e size v n xs) : ∃ A c, v = .slice A n c ∧ n ≤ c ∧ Rd (fun k => base ≤ k ∧ k < w.heap.size) w size A n xs := by
  obtain ⟨A, c, rfl, h1, _, hrd⟩ := Go.Nau.Rd.of_own h
  refine ⟨A, c, rfl, h1, hrd.1, fun hn => ?_⟩
  obtain ⟨ad, rfl, hb, hc⟩ := hrd.2 hn
  rcases h.2 with ⟨h0, _⟩ | ⟨g, cap, cur, hv, _, hh, _⟩
  · cases h0
  · simp only [Value.slice.injEq, Option.some.injEq, true_and] at hv
    obtain ⟨rfl, _⟩ := hv
    exact ⟨_, rfl, ⟨hb, (Array.getElem?_eq_some_iff.1 hh).1⟩, hc⟩
theorem rd_notAt {T : Nat → Prop} {w : World} {size n D : Nat} {A : Option Addr} {xs : List Value} {x : Option (List Deferred)} (h : Rd T w size A n xs) (hs : 0 < size) (hD : w.heap[D]? = some (.deferred x)) : Rd (fun k => T k ∧ k ≠ D) w size A n xs := by
  refine ⟨h.1, fun hn => ?_⟩
  obtain ⟨ad, e, hb, hc⟩ := h.2 hn
  refine ⟨ad, e, ⟨hb, fun e2 => ?_⟩, hc⟩
  have hl : 0 < xs.length := by rw [h.1]; exact Nat.mul_pos hn hs
  have := hc 0 _ (List.getElem?_eq_getElem hl)
  rw [show ad.add 0 = ad by unfold Addr.add; simp] at this
  simp [World.cell?, e2, hD] at this
theorem rd_de (W : World) (x : De) : ∀ j u, (deL x)[j]? = some u → (W.alloc (.cells #[.string x.name, .int .u32 x.ino, .int .i64 x.fr, .int .i64 x.en] 43)).cell? ((⟨W.heap.size, 0, none⟩ : Addr).add j) = some u := by
  intro j u hu
  have hn := heap_alloc_new W (.cells #[.string x.name, .int .u32 x.ino, .int .i64 x.fr, .int .i64 x.en] 43)
  have ha : (⟨W.heap.size, 0, none⟩ : Addr).add j = ⟨W.heap.size, j, none⟩ := by unfold Addr.add; split <;> simp_all
  rw [ha, cell_of_row _ W.heap.size j _ _ _ hn]
  simpa [deL] using hu

/-- What dirs.read keeps while it reads. -/
structure RIn (w : World) (pre : List De) (W : World) : Prop where
  own : ∃ v, W.heap[w.heap.size]? = some (.cells #[v] 50 (0, 0)) ∧ W.ownsRow (w.heap.size + 5) 43 4 v pre.length (deC pre)
  mp : W.heap[w.heap.size + 1 + 1]? = some (.cells #[.map (some (w.heap.size + 1))] 67 (0, 0))
  gd : W.heap[w.heap.size + 1 + 1 + 1]? = some (.cells #[.bool true] 4 (0, 0))
  st : MSet Try.prog 9 4 W (w.heap.size + 1) pre.length (pre.map (·.name)).reverse
  bel : Below w.heap.size w W
/-- .. when it has met what may not be. -/
structure RX (w W : World) : Prop where
  gd : W.heap[w.heap.size + 1 + 1 + 1]? = some (.cells #[.bool false] 4 (0, 0))
  bel : Below w.heap.size w W

theorem noncells_no {A : World} {k b0 : Nat} {cs : Array Value} {t : TypeId} {fz : Nat × Nat} (hk : A.heap[k]? = some (Obj.cells cs t fz)) : ¬ (b0 ≤ k ∧ ∃ o : Obj, A.heap[k]? = some o ∧ o.isCells = false) := by
  rintro ⟨_, o, ho, hc⟩
  rw [hk] at ho
  injection ho with ho
  subst ho
  cases hc
section
variable {w A B : World} {pre : List De}
theorem RIn.noncells (h : RIn w pre A) (hf : Fr (fun k => w.heap.size + 5 ≤ k ∧ ∃ o : Obj, A.heap[k]? = some o ∧ o.isCells = false) A B) : RIn w pre B := by
  obtain ⟨v, h1, h2⟩ := h.own
  exact ⟨⟨v, hf.get (noncells_no h1) h1, own_noncells h2 hf⟩, hf.get (noncells_no h.mp) h.mp, hf.get (noncells_no h.gd) h.gd, h.st.fr hf (by omega), h.bel.trans (hf.below h.bel.size (fun k hk => by omega))⟩
theorem RIn.alloc (h : RIn w pre A) (o : Obj) : RIn w pre (A.alloc o) := by
  have hf : Fr (fun k => w.heap.size + 5 ≤ k ∧ ∃ o : Obj, A.heap[k]? = some o ∧ o.isCells = false) A (A.alloc o) := (Fr.refl _ A).alloc o
  exact h.noncells hf
theorem RX.noncells (h : RX w A) (hf : Fr (fun k => w.heap.size + 5 ≤ k ∧ ∃ o : Obj, A.heap[k]? = some o ∧ o.isCells = false) A B) : RX w B :=
  ⟨hf.get (noncells_no h.gd) h.gd, h.bel.trans (hf.below h.bel.size (fun k hk => by omega))⟩
end

theorem RIn.grow {w W w1 w2 : World} {pre : List De} {A A2 : Option Addr} {c c2 : Nat} {x : De} {o : Obj} (h : RIn w pre W) (hown : W.ownsRow (w.heap.size + 5) 43 4 (.slice A pre.length c) pre.length (deC pre))
    (hm : MSet Try.prog 9 4 w1 (w.heap.size + 1) (pre.length + 1) (x.name :: (pre.map (·.name)).reverse)) (hg1 : W.grownBy w1 (some (w.heap.size + 1)))
    (hg : (w1.alloc o).grownBy w2 (Value.slice A pre.length c).ownBlock) (h2 : w2.ownsRow (w.heap.size + 5) 43 4 (.slice A2 (pre.length + 1) c2) (pre.length + 1) (deC pre ++ deL x))
    (hr : W.heap[w.heap.size]? = some (.cells #[.slice A pre.length c] 50 (0, 0))) :
    KeepsFrom (w.heap.size + 5) W (w2.setCell ⟨w.heap.size, 0, none⟩ (.slice A2 (pre.length + 1) c2)) ∧ KeepE (w.heap.size + 1 + 1 + 1 + 1) W (w2.setCell ⟨w.heap.size, 0, none⟩ (.slice A2 (pre.length + 1) c2)) ∧
    RIn w (pre ++ [x]) (w2.setCell ⟨w.heap.size, 0, none⟩ (.slice A2 (pre.length + 1) c2)) := by
  have hlt := fun k hk => hown.lt k hk
  have f1 : Fr (fun k => some k = some (w.heap.size + 1)) W w1 := Fr.of_grown hg1
  have f2 : Fr (fun k => some k = (Value.slice A pre.length c).ownBlock) w1 w2 := ((Fr.refl _ w1).alloc o).trans (Fr.of_grown hg)
  have fr : Fr (fun k => k = w.heap.size ∨ k = w.heap.size + 1 ∨ some k = (Value.slice A pre.length c).ownBlock) W (w2.setCell ⟨w.heap.size, 0, none⟩ (.slice A2 (pre.length + 1) c2)) :=
    ((f1.mono (fun _ e => .inr (.inl (by injection e)))).trans (f2.mono (fun _ e => .inr (.inr e)))).trans ((Fr.set1 _ _ _ _).mono (fun _ => .inl))
  have hge : ∀ k, some k = (Value.slice A pre.length c).ownBlock → w.heap.size + 5 ≤ k := fun k e => (hlt k e.symm).1
  refine ⟨⟨fr.size, fun k o' hB hk ho => fr.get ?_ hk⟩, fr.mono ?_, ⟨_, blk_set ((f2.get (fun e => by have := hge _ e; omega) (f1.get (fun e => by injection e with e; omega) hr))) 0 _, ?_⟩, fr.get ?_ h.mp, fr.get ?_ h.gd, ?_, h.bel.trans (fr.below h.bel.size ?_)⟩
  · rintro (e | e | e)
    · omega
    · omega
    · obtain ⟨cs, t, fz, hc⟩ := own_cells hown e
      rw [hk] at hc
      injection hc with hc
      subst hc
      cases ho
  · rintro k (e | e | e) <;> intro e2
    · omega
    · omega
    · have := hge _ e
      omega
  · rw [deC_snoc, List.length_append]
    refine Fr.own h2 (Fr.set1 _ _ _ _) (fun k hk e => ?_)
    have := (h2.lt k hk).1
    omega
  · rintro (e | e | e)
    · omega
    · omega
    · have := hge _ e
      omega
  · rintro (e | e | e)
    · omega
    · omega
    · have := hge _ e
      omega
  · have := (hm.fr f2 (fun e => by have := hge _ e; omega)).fr (Fr.set1 w2 w.heap.size 0 (.slice A2 (pre.length + 1) c2)) (by omega)
    simpa using this
  · rintro k (e | e | e)
    · omega
    · omega
    · have := hge _ e
      omega

def okB (pre : List Dx) : Bool := pre.all (fun x => x.1.2) && freshB [] (pre.map (·.1.1.name))
def RdI (w : World) (n : Nat) (pre : List Dx) (W : World) : Prop := (okB pre = true ∧ pre.length ≤ n) ∧ RIn w (pre.map (·.1.1)) W
def RdX (w : World) (c : Code) (pre : List Dx) (W : World) : Prop := (c = .exit 0 ∧ okB pre = false) ∧ RX w W
theorem RdI.own {w : World} {n : Nat} : OwnFrom (w.heap.size + 5) (RdI w n) := by
  intro pre A B row hs hg hr
  exact ⟨hs.1, hs.2.noncells (fr_noncells hg hr)⟩
theorem RdX.own {w : World} {c : Code} : OwnFrom (w.heap.size + 5) (RdX w c) := by
  intro pre A B row hs hg hr
  exact ⟨hs.1, hs.2.noncells (fr_noncells hg hr)⟩
theorem okB_snoc (pre : List Dx) (x : Dx) (h : okB pre = true) : okB (pre ++ [x]) = (x.1.2 && !memB x.1.1.name ((pre.map (·.1.1)).map (·.name)).reverse) := by
  unfold okB at *
  simp only [Bool.and_eq_true] at h
  rw [List.all_append, List.map_append, freshB_append, h.1, h.2]
  simp [freshB, List.map_map, Function.comp_def]
theorem RX.of {w W : World} (hb : Below w.heap.size w W) (hg : W.heap[w.heap.size + 1 + 1 + 1]? = some (.cells #[.bool true] 4 (0, 0))) :
    RX w (W.setCell ⟨w.heap.size + 1 + 1 + 1, 0, none⟩ (.bool false)) ∧ KeepsFrom (w.heap.size + 5) W (W.setCell ⟨w.heap.size + 1 + 1 + 1, 0, none⟩ (.bool false)) := by
  have fr := Fr.set1 W (w.heap.size + 1 + 1 + 1) 0 (.bool false)
  exact ⟨⟨blk_set hg 0 _, hb.trans (fr.below hb.size (fun k hk => by omega))⟩, fr.size, fun k o' hB hk _ => fr.get (by omega) hk⟩

theorem infoDe : (Try.prog.info? 43).map (fun i => (i.zero, i.size, i.bytes)) = some (some (.agg #[.string ⟨#[]⟩, .int .u32 0, .int .i64 0, .int .i64 0]), 4, 40) := by kernel_rfl
theorem zeroBool (w : World) : (zeroValue 4).run Try.prog w = .ok (.bool false) w := by simp [Try.zeroValue4]

set_option maxHeartbeats 4000000 in
set_option maxRecDepth 100000 in
theorem read_any (s : ByteArray) (hs : s.size ≤ 9223372036854775807) (w : World) : Calls Try.prog 30 #[.string s] w (RdPost w s) := by
  obtain ⟨i0, hi0, hz0, hz1, hz2⟩ := info_parts infoDe
  by_cases h5 : s.size ≤ 20000
  case neg =>
    clear hi0 hz0 hz1 hz2
    have h5' : 20000 < (s.size : Int) := by omega
    have ho : rdOk s = false := by unfold rdOk; simp [h5]
    have HO := Lib.hid ho
    clear ho h5
    go_enter Try.func30, Try.ntmps30
    go_wp2_with fail
    try go_step3
    go_wp2_with fail
    rw [Exit.noGoto_ret]
    go_ret2
    unfold RdPost readL readE
    rw [HO.out]
    exact ⟨none, 0, rfl, Nat.le_refl _, Rd.nil _ _ _ _, Below.refl _ w⟩
  have h5' : (s.size : Int) ≤ 20000 := by omega
  have hmm := @run_makeMap Try.prog
  refine (callsIn_wide (n := 7)).1 (callsIn_of_wp_marks Try.func30 rfl trivial ?_ rfl)
  simp only [Try.ntmps30, List.size_toArray, List.length_nil, List.length_cons, Nat.reduceSub, Nat.reduceAdd, Array.replicate_succ, Array.replicate_zero, List.push_toArray, List.append_toArray, List.nil_append, List.cons_append]
  refine wpIn_wide.2 ?_
  go_wp2_with fail
  try go_step3
  go_wp2_with fail
  refine wp_label ?_
  go_wp2_with fail
  refine (dentries_any s _).mono ?_
  rintro e w1 ⟨rfl, hw1⟩
  simp only [World.size_alloc] at hw1 ⊢
  have f1 : ∀ (W : World) o, Fr (fun _ => False) W (W.alloc o) := fun W o => (Fr.refl _ W).alloc o
  have hsz : w1.heap.size = w.heap.size + 5 := by rw [hw1]; simp
  have hI0 : RIn w [] w1 := by
    rw [hw1]
    have e0 := heap_alloc_new w (.cells #[.slice none 0 0] 50)
    have e1 := MSet.made (P := Try.prog) (k := 9) (e := 4) (w.alloc (.cells #[.slice none 0 0] 50))
    have e2 := heap_alloc_new ((w.alloc (.cells #[.slice none 0 0] 50)).alloc (.map #[] 0)) (.cells #[.map (some (w.heap.size + 1))] 67)
    have e3 := heap_alloc_new (((w.alloc (.cells #[.slice none 0 0] 50)).alloc (.map #[] 0)).alloc (.cells #[.map (some (w.heap.size + 1))] 67)) (.cells #[.bool true] 4)
    simp only [World.size_alloc] at e1 e2 e3
    refine ⟨⟨.slice none 0 0, (f1 _ _).get id ((f1 _ _).get id ((f1 _ _).get id ((f1 _ _).get id e0))), ⟨rfl, .inl ⟨rfl, rfl⟩⟩⟩, (f1 _ _).get id ((f1 _ _).get id e2), (f1 _ _).get id e3, ((e1.fr (f1 _ _) id).fr (f1 _ _) id).fr (f1 _ _) id, ?_⟩
    exact ((((Below.refl _ w).alloc (Nat.le_refl _) _).alloc (by simp) _).alloc (by simp; omega) _ |>.alloc (by simp; omega) _).alloc (by simp; omega) _
  have hB0 : w1.heap[w.heap.size + 1 + 1 + 1 + 1]? = some (.cells #[.string s] 9 (0, 0)) := by
    rw [hw1]
    have := heap_alloc_new ((((w.alloc (.cells #[.slice none 0 0] 50)).alloc (.map #[] 0)).alloc (.cells #[.map (some (w.heap.size + 1))] 67)).alloc (.cells #[.bool true] 4)) (.cells #[.string s] 9)
    simp only [World.size_alloc] at this
    exact this
  clear hw1 hmm
  go_wp2_with fail
  rename_i K hK0
  have tgood : ∀ (D : Nat) (W : World), w.heap.size + 5 ≤ D → rdOk s = true → RIn w ((seqOf s).map (·.1)) W → W.heap[D]? = some (.deferred (some [])) → K { tmps := #[.string s, undef, .slice none 0 0, .int .i64 0, .pointer (some ⟨w.heap.size, 0, none⟩), .pointer (some ⟨w.heap.size + 1 + 1, 0, none⟩), .pointer (some ⟨w.heap.size + 1 + 1 + 1, 0, none⟩), undef, undef, .string s, .int .i64 s.size, .bool (decide (20000 < (s.size : Int))), .map (some (w.heap.size + 1)), .string s, .func (.func 55) #[] #[.pointer (some ⟨w.heap.size + 1 + 1 + 1 + 1, 0, none⟩)], undef, undef, undef, undef, undef, undef, undef, undef, undef, undef, undef, undef, undef, undef, undef, undef, undef, undef, undef, undef, undef, undef], defers := [{ target := .collected D, args := #[] }] } W := by
    intro D W hD hok hI hK
    refine hK0 _ _ ?_
    clear hK0
    obtain ⟨v, hR, hown⟩ := hI.own
    obtain ⟨A, c, rfl, hc, hrd⟩ := Rd.of_own2 hown
    have r0 := blk_cell hR 0
    have g0 := blk_cell hI.gd 0
    simp at r0 g0
    have hbe := hI.bel
    have HO := Lib.hid hok
    have HRD := Lib.hid hrd
    have HC := Lib.hid hc
    clear hI hR hok hown hrd hc hB0 hI0
    go_wp2_with fail
    rw [Exit.noGoto_ret]
    refine ⟨by simp, .inl ⟨_, _, rfl, run_takeDeferred hK, ?_⟩⟩
    have hf : Fr (fun k => k = D) W (W.putObj D (.deferred none)) := (Fr.of_grown (grownBy_putObj' W D _)).mono (fun k e => Option.some.inj e)
    refine ⟨_, results_tmp2 rfl _ _ _, ?_⟩
    have hL : readL s = (seqOf s).map (·.1) := by unfold readL; rw [HO.out]; rfl
    have hE : readE s = 0 := by unfold readE; rw [HO.out]; rfl
    refine ⟨A, c, by rw [hL, hE, List.length_map]; rfl, by rw [hL]; exact HC.out, ?_, hbe.trans (hf.below hbe.size (fun k e => by omega))⟩
    rw [hL]
    refine ((rd_notAt HRD.out (by omega) hK).kept hf (fun k hk e => hk.2 e)).mono (fun k hk => ⟨by omega, ?_⟩)
    have := hf.size
    omega
  have tbad : ∀ (D : Nat) (W : World), w.heap.size + 5 ≤ D → rdOk s = false → RX w W → W.heap[D]? = some (.deferred (some [])) → K { tmps := #[.string s, undef, .slice none 0 0, .int .i64 0, .pointer (some ⟨w.heap.size, 0, none⟩), .pointer (some ⟨w.heap.size + 1 + 1, 0, none⟩), .pointer (some ⟨w.heap.size + 1 + 1 + 1, 0, none⟩), undef, undef, .string s, .int .i64 s.size, .bool (decide (20000 < (s.size : Int))), .map (some (w.heap.size + 1)), .string s, .func (.func 55) #[] #[.pointer (some ⟨w.heap.size + 1 + 1 + 1 + 1, 0, none⟩)], undef, undef, undef, undef, undef, undef, undef, undef, undef, undef, undef, undef, undef, undef, undef, undef, undef, undef, undef, undef, undef, undef], defers := [{ target := .collected D, args := #[] }] } W := by
    intro D W hD hok hI hK
    refine hK0 _ _ ?_
    clear hK0
    have g0 := blk_cell hI.gd 0
    simp at g0
    have hbe := hI.bel
    have HO := Lib.hid hok
    clear hI hok hB0 hI0
    go_wp2_with fail
    refine ⟨by simp, .inl ⟨_, _, rfl, run_takeDeferred hK, ?_⟩⟩
    have hf : Fr (fun k => k = D) W (W.putObj D (.deferred none)) := (Fr.of_grown (grownBy_putObj' W D _)).mono (fun k e => Option.some.inj e)
    refine ⟨_, results_tmp2 rfl _ _ _, ?_⟩
    have hL : readL s = [] := by unfold readL; rw [HO.out]; rfl
    have hE : readE s = 110 := by unfold readE; rw [HO.out]; rfl
    refine ⟨none, 0, by rw [hL, hE]; rfl, by rw [hL]; exact Nat.le_refl _, by rw [hL]; exact Rd.nil _ _ _ _, hbe.trans (hf.below hbe.size (fun k e => by omega))⟩
  clear hK0
  have hul := zeroBool
  have hu67 := Try.underlying67
  refine wpIn_wide.1 (wpIn_rangeFunc_ownH (n := 6) rfl (by omega) (gf := 55) (lb := #[.pointer (some ⟨w.heap.size + 1 + 1 + 1 + 1, 0, none⟩)]) rfl trivial (enters_of Try.func55 (by kernel_rfl) rfl)
    (dentries_stops 5 (by omega) (w.heap.size + 1 + 1 + 1 + 1) s (by omega) w1 hB0)
    (fun h k => Fr.trans h k) (fun W l o o' hl h _ _ => (Fr.of_grown (grownBy_putObj' W l o')).mono (fun k e => by injection e with e; omega)) (Below.refl _ _) (fun _ => rfl)
    (RdI w (s.size + 1)) (RdX w) (by rw [hsz]; exact RdI.own) (fun c => by rw [hsz]; exact RdX.own)
    ⟨⟨rfl, Nat.zero_le _⟩, hI0⟩
    (fun x a' W => ∃ Bx, W.heap[Bx]? = some (.cells #[.string x.1.1.name, .int .u32 x.1.1.ino, .int .i64 x.1.1.fr, .int .i64 x.1.1.en] 43 (0, 0)) ∧ a' = { tmps := #[.string s, undef, .slice none 0 0, .int .i64 0, .pointer (some ⟨w.heap.size, 0, none⟩), .pointer (some ⟨w.heap.size + 1 + 1, 0, none⟩), .pointer (some ⟨w.heap.size + 1 + 1 + 1, 0, none⟩), .pointer (some ⟨Bx, 0, none⟩), .bool x.1.2, .string s, .int .i64 s.size, .bool (decide (20000 < (s.size : Int))), .map (some (w.heap.size + 1)), .string s, .func (.func 55) #[] #[.pointer (some ⟨w.heap.size + 1 + 1 + 1 + 1, 0, none⟩)], .agg #[.string x.1.1.name, .int .u32 x.1.1.ino, .int .i64 x.1.1.fr, .int .i64 x.1.1.en], .bool x.1.2, undef, undef, undef, undef, undef, undef, undef, undef, undef, undef, undef, undef, undef, undef, undef, undef, undef, undef, undef, undef], defers := [] })
    (fun x a' _ X Y row hs hg hr => by
      obtain ⟨Bx, h3, h4⟩ := hs
      refine ⟨Bx, ?_, h4⟩
      rw [hg.block Bx (Array.getElem?_eq_some_iff.1 h3).1 (fun e => ?_)]
      · exact h3
      · obtain ⟨_, o, ho, hc⟩ := hr Bx e.symm
        rw [h3] at ho
        cases ho
        cases hc)
    ?assign ?body ?done ?stop)
  case assign =>
    rintro l pre x W K hI hK
    obtain ⟨i1, i2⟩ := hI
    dsimp only [encD]
    have hWs := i2.mp
    gi_wp2
    refine hK _ _ ((KeepsOthers.alloc _ _).from _) ((Fr.refl _ W).alloc _) ⟨i1, i2.alloc _⟩ ⟨W.heap.size, heap_alloc_new W _, rfl⟩
  case body =>
    rintro l pre x a' W hlW ⟨r, hrr⟩ hI ⟨Bx, bX, rfl⟩ hlt
    obtain ⟨⟨i1, i4⟩, i2⟩ := hI
    obtain ⟨pl, hpl⟩ : ∃ pl, pl = pre.map (·.1.1) := ⟨_, rfl⟩
    have hpll : pl.length = pre.length := by rw [hpl, List.length_map]
    have hsnoc := okB_snoc pre x i1
    rw [← hpl] at i2 hsnoc
    obtain ⟨v, hR, hown⟩ := i2.own
    have hsW := i2.bel.size
    have r0 := blk_cell hR 0
    have z0 := blk_frozen hR 0
    have m0 := blk_cell i2.mp 0
    have g0 := blk_cell i2.gd 0
    have gz := blk_frozen i2.gd 0
    have x0 := blk_cell bX 0
    have x1 := blk_cell bX 1
    have x2 := blk_cell bX 2
    have x3 := blk_cell bX 3
    simp at r0 m0 g0 x0 x1 x2 x3
    obtain ⟨A, c, rfl, hc, _⟩ := Rd.of_own2 hown
    obtain ⟨b1, b2⟩ := RX.of i2.bel i2.gd
    have B1 := Lib.hid b1
    have B2 := Lib.hid b2
    have HSN := Lib.hid hsnoc
    clear b1 b2 hsnoc
    by_cases hok : x.1.2 = true
    · have hnm := x.2 hok
      rw [hok]
      have hlk := i2.st.lookup (t := 67) Try.underlying9 Try.underlying4 Try.underlying67 (zeroBool W) x.1.1.name (by unfold maxLen; omega)
      cases hmem : memB x.1.1.name (pl.map (·.name)).reverse
      · rw [hmem] at hlk
        obtain ⟨wu, hup, hst, hgu⟩ := i2.st.update (t := 67) Try.underlying9 Try.underlying4 Try.underlying67 (by unfold maxLen; omega) x.1.1.name (by unfold maxLen; omega)
        have fu : Fr (fun k => some k = some (w.heap.size + 1)) W wu := Fr.of_grown hgu
        obtain ⟨mes, mcl, hmb⟩ := i2.st.isMapBlock
        have hRu := fu.get (fun e => by injection e with e; omega) hR
        have bXu := fu.get (fun e => by
          injection e with e
          rw [e] at bX
          rw [bX] at hmb
          cases hmb) bX
        have hownu := Fr.own hown fu (fun k hk e => by
          injection e with e
          have := (hown.lt k hk).1
          omega)
        have r0u := blk_cell hRu 0
        have z0u := blk_frozen hRu 0
        have x0u := blk_cell bXu 0
        have x1u := blk_cell bXu 1
        have x2u := blk_cell bXu 2
        have x3u := blk_cell bXu 3
        simp at r0u x0u x1u x2u x3u
        have hwu : w.heap.size + 5 ≤ wu.heap.size := by
          have h1 := fu.size
          have h2 := (Array.getElem?_eq_some_iff.1 hrr).1
          omega
        have hkk : okB (pre ++ [x]) = true := by rw [HSN.out, hok, hmem]; rfl
        have HO := Lib.hid hownu
        have HOW := Lib.hid hown
        have HRW := Lib.hid hR
        have HR := Lib.hid hRu
        have HI2 := Lib.hid i2
        have HST := Lib.hid hst
        have HGU := Lib.hid hgu
        have HKK := Lib.hid hkk
        have hrdx := rd_de wu x.1.1
        have HX := Lib.hid hrdx
        have hn1 : pl.length ≤ 20001 := by omega
        have HPL := Lib.hid hpl
        have HI4 := Lib.hid i4
        have HLT := Lib.hid hlt
        clear hpl hpll i4 hlt hownu hown hR hRu i2 hst hgu hrdx bX bXu hc hmb fu hI0 hB0 i1 hkk hmem hok
        gi_wp2_with (gi_at_builtin; refine wpListIn_append_own _ rfl (.tmp 30) (.tmp 32) 50 rfl (w.heap.size + 5) 43 i0 _ 4 40 Try.underlying50 hi0 hz0 hz1 hz2 rfl (by decide) _ pl.length (deC pl) rfl (HO.out.alloc _) ⟨wu.heap.size, 0, none⟩ 1 1 (deL x.1.1) rfl rfl HX.out (by simp [deL, Value.oneCell']) (by unfold maxLen; omega) (by omega) (by simp; omega) ?_; intro v2 w2 hown2 hg2 hat2; obtain ⟨A2, c2, rfl, hc2, _⟩ := Rd.of_own2 hown2; have r02 := (Fr.of_grown hg2).get (fun e => by have := (HO.out.lt _ e.symm).1; omega) ((Fr.alloc (Fr.refl (fun _ => False) wu) _).get id HR.out); have q02 := blk_cell r02 0; have z02 := blk_frozen r02 0; simp at q02)
        obtain ⟨g1, g2, g3⟩ := RIn.grow HI2.out HOW.out HST.out HGU.out hg2 hown2 HRW.out
        refine ⟨g1, g2, ⟨HKK.out, ?_⟩, ?_⟩
        · have := HLT.out
          simp only [List.length_append, List.length_cons, List.length_nil]
          omega
        · rw [List.map_append, ← HPL.out]
          exact g3
      · rw [hmem] at hlk
        have hkk : okB (pre ++ [x]) = false := by rw [HSN.out, hok, hmem]; rfl
        clear hmem hI0 hB0 hown hR
        gi_wp2
        exact ⟨B2.out, ⟨rfl, hkk⟩, B1.out⟩
    · replace hok : x.1.2 = false := by simpa using hok
      have hkk : okB (pre ++ [x]) = false := by rw [HSN.out, hok]; rfl
      rw [hok]
      clear hI0 hB0 hown hR
      gi_wp2
      exact ⟨B2.out, ⟨rfl, hkk⟩, B1.out⟩
  case done =>
    rintro D xs W hD hxs hI hK
    obtain ⟨⟨i1, i4⟩, i2⟩ := hI
    simp only [Exit.inBlock, Exit.then]
    have hok : rdOk s = true := by
      unfold rdOk okB at *
      rw [← hxs]
      simp only [Bool.and_eq_true] at i1 ⊢
      exact ⟨by simpa using h5, by simpa using i1.1, by simpa [List.map_map, Function.comp_def] using i1.2⟩
    refine tgood D W (by omega) hok ?_ hK
    rw [← hxs, List.map_map]
    exact i2
  case stop =>
    rintro D c pre W hD hpre hI hK
    obtain ⟨⟨rfl, i1⟩, i2⟩ := hI
    have hok : rdOk s = false := by
      obtain ⟨t, ht⟩ := hpre
      have : rdOk s = (decide (s.size ≤ 20000) && (((pre.all (fun x => x.1.2)) && t.all (·.2)) && (freshB [] (pre.map (·.1.1.name)) && freshB ((pre.map (·.1.1.name)).reverse ++ []) (t.map (·.1.name))))) := by
        unfold rdOk
        rw [← ht, List.all_append, List.map_append, freshB_append]
        simp [List.all_map, List.map_map, Function.comp_def]
      rw [this]
      unfold okB at i1
      cases h1 : pre.all (fun x => x.1.2)
      · simp
      · rw [h1] at i1
        simp only [Bool.true_and] at i1
        rw [i1]
        simp
    have hgo := tbad D W (by omega) hok i2 hK
    clear tgood tbad
    refine wpIn_exit ?_
    show K _ _
    exact hgo
end Go.Proofs.Ytliioeihbbhiiaa

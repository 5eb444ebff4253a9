/- Directories: names compared, names sorted: contracts over the given program. -/
import Derived.Test.YtliioeihbbhiiaaEm
namespace Go.Proofs.Ytliioeihbbhiiaa
open Go.RowKit Go.Nau Go.Shelf
attribute [local go_sem] Oper.semAt_some

def cmpI (a b : ByteArray) : Int := if Op.bytesLess a.toList b.toList then -1 else if a.toList == b.toList then 0 else 1
theorem isnan_any (s : ByteArray) (w : World) : Calls Try.prog 46 #[.string s] w fun e w' => e = .returned (.bool false) ∧ w = w' := by
  go_enter Try.func46, Try.ntmps46
  go_wp2_with fail
  go_ret
  exact ⟨by simp, rfl⟩

theorem compare_any (a b : ByteArray) (w : World) : Calls Try.prog 33 #[.string a, .string b] w fun e w' => e = .returned (.int .i64 (cmpI a b)) ∧ w = w' := by
  unfold cmpI
  cases h1 : Op.bytesLess a.toList b.toList
  · cases h2 : (a.toList == b.toList)
    all_goals
      go_enter Try.func33, Try.ntmps33
      go_wp2_with fail
      refine (isnan_any _ _).mono ?_
      rintro e w1 ⟨rfl, hw1⟩
      rw [← hw1]
      clear hw1 w1
      go_wp2_with fail
      refine (isnan_any _ _).mono ?_
      rintro e w1 ⟨rfl, hw1⟩
      rw [← hw1]
      clear hw1 w1
      go_wp2_with fail
      go_ret
      exact ⟨rfl, rfl⟩
  · go_enter Try.func33, Try.ntmps33
    go_wp2_with fail
    refine (isnan_any _ _).mono ?_
    rintro e w1 ⟨rfl, hw1⟩
    rw [← hw1]
    clear hw1 w1
    go_wp2_with fail
    refine (isnan_any _ _).mono ?_
    rintro e w1 ⟨rfl, hw1⟩
    rw [← hw1]
    clear hw1 w1
    go_wp2_with fail
    go_ret
    exact ⟨rfl, rfl⟩

theorem listcmp_any (x y : Nm) (w : World) : Calls Try.prog 32 #[.agg #[.string x.name, .int .u32 x.ino], .agg #[.string y.name, .int .u32 y.ino]] w fun e w' =>
    e = .returned (.int .i64 (cmpI x.name y.name)) ∧ w' = Go.Sort.grow w #[.cells #[.string x.name, .int .u32 x.ino] 40, .cells #[.string y.name, .int .u32 y.ino] 40] := by
  have hg : (w.alloc (.cells #[.string x.name, .int .u32 x.ino] 40)).alloc (.cells #[.string y.name, .int .u32 y.ino] 40) = Go.Sort.grow w #[.cells #[.string x.name, .int .u32 x.ino] 40, .cells #[.string y.name, .int .u32 y.ino] 40] := by
    rw [Go.Sort.alloc_eq_grow, Go.Sort.alloc_eq_grow, Go.Sort.grow_grow]
    rfl
  have HG := Lib.hid hg
  clear hg
  have HC := Lib.hid (fun W => compare_any x.name y.name W)
  generalize cmpI x.name y.name = c at *
  go_enter Try.func32, Try.ntmps32
  go_wp2_with fail
  refine (HC.out _).mono ?_
  rintro e w1 ⟨rfl, hw1⟩
  rw [← hw1]
  clear hw1 w1
  go_wp2_with fail
  go_ret
  exact ⟨rfl, HG.out⟩

/-! ### the order of names -/
def ltN (x y : Nm) : Bool := Op.bytesLess x.name.toList y.name.toList
theorem ltN_iff {x y : Nm} : ltN x y = true ↔ x.name.toList < y.name.toList := by
  unfold ltN
  rw [Go.Proofs.bytesLess_eq, decide_eq_true_eq]
theorem ltN_not {x y : Nm} : ltN x y = false ↔ y.name.toList ≤ x.name.toList := by
  rw [← Bool.not_eq_true, ltN_iff, List.not_lt]
theorem swoN : Go.Sort.SWO ltN where
  irrefl x := by rw [ltN_not]; exact List.le_refl _
  trans x y z h1 h2 := by rw [ltN_iff] at *; exact List.lt_trans h1 h2
  ntrans x y z h1 h2 := by rw [ltN_not] at *; exact List.le_trans h2 h1
theorem ltOf_cmp : Go.Proofs.ltOf (fun x y : Nm => cmpI x.name y.name) = ltN := by
  funext x y
  unfold Go.Proofs.ltOf ltN cmpI
  rw [Bool.eq_iff_iff, decide_eq_true_eq]
  by_cases h : Op.bytesLess x.name.toList y.name.toList = true
  · simp only [if_pos h]
    exact ⟨fun _ => h, fun _ => by decide⟩
  · simp only [if_neg h]
    refine ⟨fun e => ?_, fun e => absurd e h⟩
    split at e <;> omega
theorem name_of_toList {a b : ByteArray} (h : a.toList = b.toList) : a = b := eqB_iff.1 (by unfold eqB; rw [h]; simp)
def sortN (l : List Nm) : List Nm := l.mergeSort fun x y => !ltN y x
/-- No name twice. -/
def DistN (l : List Nm) : Prop := ∀ x ∈ l, ∀ y ∈ l, x.name = y.name → x = y
theorem sortN_sorted (l : List Nm) : (sortN l).Pairwise (fun x y => (!ltN y x) = true) := by
  refine List.pairwise_mergeSort (le := fun x y => !ltN y x) ?_ ?_ l
  · intro x y z h1 h2
    simp only [Bool.not_eq_true', ltN_not] at *
    exact List.le_trans h1 h2
  · intro x y
    cases h : ltN y x
    · rfl
    · have h1 := ltN_iff.1 h
      have h2 : ltN x y = false := ltN_not.2 (Std.le_of_lt h1)
      rw [h2]
      rfl
theorem sortN_perm (l : List Nm) : (sortN l).Perm l := List.mergeSort_perm _ _
theorem sortN_unique {l l' : List Nm} (hd : DistN l) (hp : l'.Perm l) (hs : l'.Pairwise (fun x y => (!ltN y x) = true)) : l' = sortN l := by
  refine List.Perm.eq_of_pairwise (le := fun x y => (!ltN y x) = true) ?_ hs (sortN_sorted l) (hp.trans (sortN_perm l).symm)
  intro a b ha hb h1 h2
  simp only [Bool.not_eq_true', ltN_not] at h1 h2
  exact hd a (hp.subset ha) b ((sortN_perm l).subset hb) (name_of_toList (List.le_antisymm h1 h2))
theorem freshB_nodup : ∀ (met l : List ByteArray), freshB met l = true → l.Nodup ∧ ∀ x ∈ l, x ∉ met
  | _, [], _ => ⟨List.nodup_nil, by simp⟩
  | met, a :: l, h => by
    simp only [freshB, Bool.and_eq_true, Bool.not_eq_true'] at h
    obtain ⟨h1, h2⟩ := freshB_nodup (a :: met) l h.2
    have h3 : a ∉ met := fun c => by
      have := memB_iff.2 c
      rw [h.1] at this
      cases this
    refine ⟨List.nodup_cons.2 ⟨fun c => h2 a c (List.mem_cons_self), h1⟩, fun x hx => ?_⟩
    rcases List.mem_cons.1 hx with rfl | hx
    · exact h3
    · exact fun c => h2 x hx (List.mem_cons_of_mem _ c)
theorem distN_of : ∀ (l : List Nm), (l.map (·.name)).Nodup → DistN l
  | [], _ => fun x hx => by simp at hx
  | a :: l, h => by
    simp only [List.map_cons, List.nodup_cons, List.mem_map, not_exists, not_and] at h
    intro x hx y hy e
    rcases List.mem_cons.1 hx with hx | hx <;> rcases List.mem_cons.1 hy with hy | hy
    · rw [hx, hy]
    · rw [hx] at e
      exact absurd e.symm (h.1 y hy)
    · rw [hy] at e
      exact absurd e (h.1 x hx)
    · exact distN_of l h.2 x hx y hy e
theorem GoodL.dist {l : List Nm} (g : GoodL l) : DistN l := distN_of l (freshB_nodup [] _ g.fresh).1

/-! ### a row of names in the sort's words -/
theorem flat_toList (d : Array Nm) : (Go.Sort.flatK nmL 2 d).toList = nmC d.toList := by
  apply List.ext_getElem?
  intro t
  by_cases ht : t < d.size * 2
  · have h1 : t / 2 < d.size := by omega
    have hx : d.toList[t / 2]? = some d[t / 2]! := by
      rw [Array.getElem?_toList, getElem!_pos d _ h1, Array.getElem?_eq_getElem h1]
    have h2 := nmC_get d.toList (t / 2) (t % 2) _ hx (by omega)
    rw [show t / 2 * 2 + t % 2 = t by omega] at h2
    rw [h2, Array.getElem?_toList]
    have h3 : t < (Go.Sort.flatK nmL 2 d).size := by simpa using ht
    rw [Array.getElem?_eq_getElem h3]
    have h4 := Go.Sort.get_flatK nmL 2 d t ht
    rw [getElem!_pos (Go.Sort.flatK nmL 2 d) t h3] at h4
    rw [h4]
    have h5 : t % 2 < (nmL d[t / 2]!).length := by simp [nmL]; omega
    rw [getElem!_pos (nmL d[t / 2]!) (t % 2) h5, List.getElem?_eq_getElem h5]
  · rw [List.getElem?_eq_none (by simp; omega), List.getElem?_eq_none (by rw [nmC_length, Array.length_toList]; omega)]
theorem sort_heap (w : World) (g m : Nat) (d : Array Nm) (os : Array Obj) (k : Nat) (hk : k < w.heap.size) :
    (Go.Proofs.sortWorldK nmL 2 w g 0 m d os).heap[k]? = if g = k then (w.heap[k]?).map (Go.Sort.onCells (Go.Sort.putCells id 0 (Go.Sort.flatK nmL 2 d))) else w.heap[k]? := by
  unfold Go.Proofs.sortWorldK Go.Sort.grow Go.Sort.putRowK Go.Sort.putRow Go.Sort.mapBlock Go.Sort.ahead
  rw [Array.getElem?_append_left (by simpa using hk), Array.getElem?_modify]
theorem sort_fr (w : World) (g m : Nat) (d : Array Nm) (os : Array Obj) : Fr (· = g) w (Go.Proofs.sortWorldK nmL 2 w g 0 m d os) :=
  ⟨rfl, rfl, rfl, by unfold Go.Proofs.sortWorldK Go.Sort.grow Go.Sort.putRowK Go.Sort.putRow Go.Sort.mapBlock Go.Sort.ahead; simp, fun k hk hg => by rw [sort_heap w g m d os k hk, if_neg (fun e => hg e.symm)]⟩
theorem sort_own {w : World} {base g n c m : Nat} {l : List Nm} {d : Array Nm} {os : Array Obj} (h : w.ownsRow base 40 2 (.slice (some ⟨g, 0, none⟩) n c) n (nmC l)) (hn : 0 < n) (hd : d.size = n) :
    (Go.Proofs.sortWorldK nmL 2 w g 0 m d os).ownsRow base 40 2 (.slice (some ⟨g, 0, none⟩) n c) n (nmC d.toList) := by
  obtain ⟨g', cap, cur, hv, hb, hh, hnc, hcm, hsz, ht⟩ := own_form h hn
  simp only [Value.slice.injEq, Option.some.injEq, Addr.mk.injEq, and_true, true_and] at hv
  obtain ⟨rfl, rfl⟩ := hv
  have hlt := (Array.getElem?_eq_some_iff.1 hh).1
  refine ⟨by rw [nmC_length, Array.length_toList, hd], .inr ⟨g, c, Go.Sort.putCells id 0 (Go.Sort.flatK nmL 2 d) cur, rfl, hb, ?_, hnc, hcm, ?_, ?_⟩⟩
  · rw [sort_heap w g m d os g hlt, if_pos rfl, hh]
    rfl
  · simp [Go.Sort.putCells, hsz]
  · rw [← flat_toList]
    apply List.ext_getElem?
    intro t
    have hfs : (Go.Sort.flatK nmL 2 d).size = n * 2 := by simp [hd]
    by_cases ht2 : t < n * 2
    · rw [List.getElem?_take_of_lt ht2, Array.getElem?_toList, Array.getElem?_toList]
      have hc : n * 2 ≤ c * 2 := Nat.mul_le_mul_right _ hnc
      have h1 : t < cur.size := by omega
      have h2 : t < (Go.Sort.flatK nmL 2 d).size := by omega
      simp only [Go.Sort.putCells, Array.getElem?_mapIdx, Array.getElem?_eq_getElem h1, Option.map_some, Nat.zero_add, Nat.sub_zero]
      rw [if_pos ⟨Nat.zero_le _, h2⟩, Array.getElem?_eq_getElem h2]
      show some ((Go.Sort.flatK nmL 2 d)[t]!) = _
      rw [getElem!_pos (Go.Sort.flatK nmL 2 d) t h2]
    · rw [List.getElem?_eq_none (by simp; omega), List.getElem?_eq_none (by simp; omega)]
theorem sort_holds {w : World} {base g n c : Nat} {l : List Nm} (h : w.ownsRow base 40 2 (.slice (some ⟨g, 0, none⟩) n c) n (nmC l)) (hn : 0 < n) (hl : l.length = n) : Go.Sort.HoldsK nmL 2 w g 0 l.toArray := by
  obtain ⟨g', cap, cur, hv, hb, hh, hnc, hcm, hsz, ht⟩ := own_form h hn
  simp only [Value.slice.injEq, Option.some.injEq, Addr.mk.injEq, and_true, true_and] at hv
  obtain ⟨rfl, rfl⟩ := hv
  intro j hj
  rw [Go.Sort.size_flatK] at hj
  have hj' : j < l.toArray.size * 2 := hj
  simp only [List.size_toArray, hl] at hj'
  have h2 : j < (Go.Sort.flatK nmL 2 l.toArray).size := by simp; omega
  refine ⟨?_, blk_frozen hh _⟩
  rw [Nat.zero_add, cell_of_row _ _ _ _ _ _ hh]
  have e1 := congrArg (fun L => L[j]?) ht
  simp only [List.getElem?_take_of_lt hj', Array.getElem?_toList] at e1
  rw [e1]
  have e2 := congrArg (fun L => L[j]?) (flat_toList l.toArray)
  simp only [Array.getElem?_toList] at e2
  rw [← e2, Array.getElem?_eq_getElem h2]
  show _ = some ((Go.Sort.flatK nmL 2 l.toArray)[j]!)
  rw [getElem!_pos (Go.Sort.flatK nmL 2 l.toArray) j h2]
end Go.Proofs.Ytliioeihbbhiiaa

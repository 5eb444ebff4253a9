/- Directories: dirs.find, the search by a name: contracts over the given program. -/
import Derived.Test.YtliioeihbbhiiaaEe
namespace Go.Proofs.Ytliioeihbbhiiaa
open Go.RowKit Go.Nau Go.Shelf
attribute [local go_sem] Oper.semAt_some

def eqB (a b : ByteArray) : Bool := a.toList == b.toList
theorem eqB_iff {a b : ByteArray} : eqB a b = true ↔ a = b := by
  unfold eqB
  rw [ByteArray.toList_eq, ByteArray.toList_eq]
  simp only [beq_iff_eq]
  exact ⟨fun e => ByteArray.ext (Array.toList_inj.mp e), fun e => by rw [e]⟩
def toNm (x : De) : Nm := ⟨x.name, x.ino⟩
def namesL (s : ByteArray) : List Nm := (readL s).map toNm
def idxN (l : List Nm) (name : ByteArray) : Nat := l.findIdx fun x => eqB x.name name
def idxI (l : List Nm) (name : ByteArray) : Int := if idxN l name < l.length then idxN l name else -1
theorem idxN_le (l : List Nm) (name : ByteArray) : idxN l name ≤ l.length := List.findIdx_le_length
theorem idxN_hit {l : List Nm} {name : ByteArray} {q : Nat} {x : Nm} (hx : l[q]? = some x) (h : eqB x.name name = true) (hb : ∀ j y, j < q → l[j]? = some y → eqB y.name name = false) : idxN l name = q := by
  obtain ⟨hq, e⟩ := List.getElem?_eq_some_iff.1 hx
  unfold idxN
  rw [List.findIdx_eq hq]
  refine ⟨by rw [e]; exact h, fun j hj => hb j _ hj (List.getElem?_eq_getElem (by omega))⟩
theorem idxN_miss {l : List Nm} {name : ByteArray} (hb : ∀ (j : Nat) y, j < l.length → l[j]? = some y → eqB y.name name = false) : idxN l name = l.length := by
  unfold idxN
  rw [List.findIdx_eq_length]
  intro x hx
  obtain ⟨j, hj, e⟩ := List.getElem_of_mem hx
  exact hb j x hj (by rw [List.getElem?_eq_getElem hj, e])
theorem idxI_hit {l : List Nm} {name : ByteArray} {q : Nat} {x : Nm} (hx : l[q]? = some x) (h : eqB x.name name = true) (hb : ∀ j y, j < q → l[j]? = some y → eqB y.name name = false) : idxI l name = q := by
  have e := idxN_hit hx h hb
  have := (List.getElem?_eq_some_iff.1 hx).1
  unfold idxI
  rw [e, if_pos this]
theorem idxI_miss {l : List Nm} {name : ByteArray} (hb : ∀ (j : Nat) y, j < l.length → l[j]? = some y → eqB y.name name = false) : idxI l name = -1 := by
  have e := idxN_miss hb
  unfold idxI
  rw [e, if_neg (by omega)]

/-- Among the first q names there is none such. -/
def Miss (l : List Nm) (name : ByteArray) (q : Nat) : Prop := ∀ (j : Nat) (y : Nm), j < q → l[j]? = some y → eqB y.name name = false
theorem Miss.snoc {l : List Nm} {name : ByteArray} {q : Nat} {x : Nm} (h : Miss l name q) (hx : l[q]? = some x) (hm : eqB x.name name = false) : Miss l name (q + 1) := by
  intro j y hj hy
  by_cases e : j = q
  · subst e
    rw [hx] at hy
    injection hy with hy
    subst hy
    exact hm
  · exact h j y (by omega) hy

theorem deC_get : ∀ (l : List De) (i j : Nat) (x : De), l[i]? = some x → j < 4 → (deC l)[i * 4 + j]? = (deL x)[j]?
  | [], i, j, x, h, _ => by simp at h
  | y :: l, 0, j, x, h, hj => by
    simp at h
    subst h
    rw [show 0 * 4 + j = j by omega]
    show (deL y ++ deC l)[j]? = _
    rw [List.getElem?_append_left (by simp [deL]; exact hj)]
  | y :: l, i + 1, j, x, h, hj => by
    simp only [List.getElem?_cons_succ] at h
    show (deL y ++ deC l)[(i + 1) * 4 + j]? = _
    rw [List.getElem?_append_right (by simp [deL]; omega)]
    have : (i + 1) * 4 + j - (deL y).length = i * 4 + j := by simp [deL]; omega
    rw [this]
    exact deC_get l i j x h hj
theorem de_cells {T : Nat → Prop} {w : World} {A : Option Addr} {n : Nat} {l : List De} (hr : Rd T w 4 A n (deC l)) (q : Nat) (x : De) (hx : l[q]? = some x) (hq : q < n) :
    ∃ ad, A = some ad ∧ T ad.block ∧ w.cell? (ad.add (q * 4)) = some (.string x.name) ∧ w.cell? ⟨(ad.add (q * 4)).block, (ad.add (q * 4)).off + 1, none⟩ = some (.int .u32 x.ino) ∧
      w.cell? ⟨(ad.add (q * 4)).block, (ad.add (q * 4)).off + 2, none⟩ = some (.int .i64 x.fr) ∧ w.cell? ⟨(ad.add (q * 4)).block, (ad.add (q * 4)).off + 3, none⟩ = some (.int .i64 x.en) := by
  obtain ⟨ad, rfl, hb, hc⟩ := hr.2 (by omega)
  have h : ∀ j, j < 4 → w.cell? ((ad.add (q * 4)).add j) = (deL x)[j]? := by
    intro j hj
    have hg := deC_get l q j x hx hj
    have hj' : j < (deL x).length := by simpa [deL] using hj
    rw [List.getElem?_eq_getElem hj'] at hg ⊢
    rw [Go.Nau.add_add]
    exact hc _ _ hg
  exact ⟨ad, rfl, hb, h 0 (by omega), h 1 (by omega), h 2 (by omega), h 3 (by omega)⟩

theorem find1_any (x : De) (name : ByteArray) (Bn : Nat) (W : World) (h : W.cell? ⟨Bn, 0, none⟩ = some (.string name)) :
    Calls Try.prog 38 #[.agg #[.string x.name, .int .u32 x.ino, .int .i64 x.fr, .int .i64 x.en], .pointer (some ⟨Bn, 0, none⟩)] W fun e w' => e = .returned (.bool (eqB x.name name)) ∧ Below W.heap.size W w' := by
  have h2 : ∀ o, (W.alloc o).cell? ⟨Bn, 0, none⟩ = some (.string name) := fun o => ((Fr.refl (fun _ => False) W).alloc o).cell id h
  go_enter Try.func38, Try.ntmps38
  go_wp2
  go_ret
  exact ⟨rfl, (Below.refl _ W).alloc (Nat.le_refl _) _⟩

set_option maxHeartbeats 1000000 in
theorem indexfunc_any (l : List De) (A : Option Addr) (c : Nat) (name : ByteArray) (Bn : Nat) (w : World) (hr : Rd (· < w.heap.size) w 4 A l.length (deC l)) (hb : w.cell? ⟨Bn, 0, none⟩ = some (.string name)) (hl : l.length ≤ 1000000) :
    Calls Try.prog 37 #[.slice A l.length c, .func (.func 38) #[] #[.pointer (some ⟨Bn, 0, none⟩)]] w fun e w' =>
      e = .returned (.int .i64 (idxI (l.map toNm) name)) ∧ Below w.heap.size w w' := by
  have HR := Lib.hid hr
  have HB := Lib.hid hb
  have hbl := cell_lt hb
  clear hr hb
  have hli : (l.length : Int) ≤ 1000000 := by omega
  go_enter Try.func37, Try.ntmps37
  go_wp2_with fail
  go_loopg [5, 8] l.length (fun k _ i wr => ∃ q : Nat, k = l.length - q ∧ i = .int .i64 q ∧ q ≤ l.length ∧ Miss (l.map toNm) name q ∧ Below w.heap.size w wr)
  case atStart => exact ⟨0, rfl, rfl, Nat.zero_le _, fun j y hj => by omega, Below.refl _ _⟩
  case round =>
    obtain ⟨q, rfl, rfl, hq, HN, hbw⟩ := hrel
    by_cases hlt : q < l.length
    · have hqi : (q : Int) < (l.length : Int) := by omega
      obtain ⟨x, hx⟩ : ∃ x, l[q]? = some x := ⟨_, List.getElem?_eq_getElem hlt⟩
      obtain ⟨ad, rfl, hadb, e0, e1, e2, e3⟩ := de_cells (HR.out.kept (Fr.of_below hbw) (fun k hk => by omega)) q x hx hlt
      have hbn := (Fr.of_below hbw).cell (by show ¬ w.heap.size ≤ Bn; exact Nat.not_le.2 hbl) HB.out
      have hcall := find1_any x name Bn wr hbn
      have hxm : (l.map toNm)[q]? = some (toNm x) := by rw [List.getElem?_map, hx]; rfl
      have HXM := Lib.hid hxm
      have HC := Lib.hid hcall
      have HX := Lib.hid hx
      clear hcall hxm hx hbn
      cases hm : eqB x.name name
      · rw [hm] at HC
        have HN2 := HN.snoc HXM.out hm
        clear HN HXM HX
        go_wp2_with fail
        refine HC.out.mono ?_
        rintro e w1 ⟨rfl, hb1⟩
        have hbw2 := hbw.trans (hb1.mono hbw.size)
        clear HC e0 e1 e2 e3 hbw hb1
        go_wp2_with fail
        go_roundg (l.length - (q + 1))
        case measure => omega
        case rel => exact ⟨q + 1, rfl, by simp, by omega, HN2, hbw2⟩
      · rw [hm] at HC
        go_wp2_with fail
        refine HC.out.mono ?_
        rintro e w1 ⟨rfl, hb1⟩
        go_wp2_with fail
        go_ret
        exact ⟨by rw [idxI_hit HXM.out hm HN]; rfl, hbw.trans (hb1.mono hbw.size)⟩
    · obtain rfl : q = l.length := by omega
      have hmiss := idxI_miss (l := l.map toNm) (name := name) (fun j y hj hy => HN j y (by simpa using hj) hy)
      have HM := Lib.hid hmiss
      clear hmiss HN
      go_wp2_with fail
      go_ret
      exact ⟨by rw [HM.out]; rfl, hbw⟩

def zeroDe : De := ⟨⟨#[]⟩, 0, 0, 0⟩
def deV (x : De) : Value := .agg #[.string x.name, .int .u32 x.ino, .int .i64 x.fr, .int .i64 x.en]
/-- What dirs.find answers. -/
def findE (s name : ByteArray) : Int := if rdOk s then (if nameB name then (if idxN (namesL s) name < (namesL s).length then 0 else 112) else 111) else 110
def findD (s name : ByteArray) : De := if findE s name = 0 then (readL s)[idxN (namesL s) name]! else zeroDe
theorem namesL_length (s : ByteArray) : (namesL s).length = (readL s).length := by simp [namesL]
theorem readL_le (s : ByteArray) : (readL s).length ≤ 20001 := by
  unfold readL
  cases h : rdOk s
  · simp
  · simp only [if_true, List.length_map]
    unfold rdOk at h
    simp only [Bool.and_eq_true, decide_eq_true_eq] at h
    have := seqD_length s (s.size + 1) 0
    unfold seqOf
    omega

theorem load_de (a : Nat) (w : World) (v0 v1 v2 v3 : Value) (h : w.heap[a]? = some (.cells #[v0, v1, v2, v3] 43 (0, 0))) :
    (loadVar 43 ⟨a, 0, none⟩).run Try.prog w = .ok (.agg #[v0, v1, v2, v3]) w := by
  have q0 := blk_cell h 0
  have q1 := blk_cell h 1
  have q2 := blk_cell h 2
  have q3 := blk_cell h 3
  simp at q0 q1 q2 q3
  simp [loadVar, Try.isAgg43, Try.sizeOf43, go_sem, loadCells, q0, q1, q2, q3]
theorem res_de2 {fn : Func} {c u : Tmp} (h : fn.results = #[.cell c 43, .tmp u]) (tmps : Array Value) (w : World) {a : Nat} {v : Value} (ha : tmps.getD c undef = .pointer (some ⟨a, 0, none⟩))
    (hl : (loadVar 43 ⟨a, 0, none⟩).run Try.prog w = .ok v w) : (results fn tmps).run Try.prog w = .ok (.tuple #[v, tmps.getD u undef]) w := by
  rw [Array.getD_eq_getD_getElem?] at ha
  simp [results, h, ha, asAddr, hl]
theorem set_de {W : World} {b : Nat} {c0 c1 c2 c3 : Value} {t : TypeId} (h : W.heap[b]? = some (.cells #[c0, c1, c2, c3] t (0, 0))) (v0 v1 v2 v3 : Value) :
    ((((W.setCell ⟨b, 0, none⟩ v0).setCell ⟨b, 1, none⟩ v1).setCell ⟨b, 2, none⟩ v2).setCell ⟨b, 3, none⟩ v3).heap[b]? = some (.cells #[v0, v1, v2, v3] t (0, 0)) ∧
    Fr (· = b) W ((((W.setCell ⟨b, 0, none⟩ v0).setCell ⟨b, 1, none⟩ v1).setCell ⟨b, 2, none⟩ v2).setCell ⟨b, 3, none⟩ v3) := by
  refine ⟨?_, (((Fr.set1 _ _ _ _).trans (Fr.set1 _ _ _ _)).trans (Fr.set1 _ _ _ _)).trans (Fr.set1 _ _ _ _)⟩
  rw [blk_set (blk_set (blk_set (blk_set h 0 v0) 1 v1) 2 v2) 3 v3]
  rfl

set_option maxHeartbeats 2000000 in
set_option maxRecDepth 100000 in
theorem find_any (s name : ByteArray) (hs : s.size ≤ 9223372036854775807) (w : World) : Calls Try.prog 26 #[.string s, .string name] w fun e w' =>
    e = .returned (.tuple #[deV (findD s name), .int .i64 (findE s name)]) ∧ Below w.heap.size w w' := by
  have HR := Lib.hid (fun W => read_any s hs W)
  have HN := Lib.hid (fun W => isname_any name W)
  have hbx := (Fr.alloc (Fr.refl (fun _ => False) (w.alloc (.cells #[.string name] 9))) (.cells #[.string ⟨#[]⟩, .int .u32 0, .int .i64 0, .int .i64 0] 43)).get id (heap_alloc_new w (.cells #[.string name] 9))
  have hcx := heap_alloc_new (w.alloc (.cells #[.string name] 9)) (.cells #[.string ⟨#[]⟩, .int .u32 0, .int .i64 0, .int .i64 0] 43)
  simp only [World.size_alloc] at hcx
  have hbel : Below w.heap.size w ((w.alloc (.cells #[.string name] 9)).alloc (.cells #[.string ⟨#[]⟩, .int .u32 0, .int .i64 0, .int .i64 0] 43)) := ((Below.refl _ w).alloc (Nat.le_refl _) _).alloc (by simp) _
  have HL := Lib.hid hbel
  clear hbel
  go_enter Try.func26, Try.ntmps26
  go_wp2_with fail
  try go_step3
  go_wp2_with fail
  refine (HR.out _).mono ?_
  rintro e w1 ⟨A, c, rfl, hc, hrd, hb1⟩
  have hb2 : Below w.heap.size w w1 := HL.out.trans (hb1.mono (by simp; omega))
  have hbx1 := (hb1.block w.heap.size (by simp; omega)).trans hbx
  have hcx1 := (hb1.block (w.heap.size + 1) (by simp)).trans hcx
  have hsz1 : w.heap.size + 2 ≤ w1.heap.size := by have := hb1.size; simp at this; omega
  have n0 := blk_cell hbx1 0
  have p0 := blk_cell hcx1 0
  have p1 := blk_cell hcx1 1
  have p2 := blk_cell hcx1 2
  have p3 := blk_cell hcx1 3
  have z0 := blk_frozen hcx1 0
  have z1 := blk_frozen hcx1 1
  have z2 := blk_frozen hcx1 2
  have z3 := blk_frozen hcx1 3
  simp at n0 p0 p1 p2 p3
  have HCX := Lib.hid hcx1
  clear hbx hcx hbx1 hcx1 HR HL hb1
  have fin : ∀ (W : World) (v0 v1 v2 v3 : Value) (en : Int), W.heap[w.heap.size + 1]? = some (.cells #[.string ⟨#[]⟩, .int .u32 0, .int .i64 0, .int .i64 0] 43 (0, 0)) → Below w.heap.size w W → deV (findD s name) = .agg #[v0, v1, v2, v3] → findE s name = en → ∀ tmps : Array Value, tmps.getD 4 undef = .pointer (some ⟨w.heap.size + 1, 0, none⟩) → tmps.getD 5 undef = .int .i64 en →
      bodyPost Try.prog Try.f26 (fun e w' => e = .returned (.tuple #[deV (findD s name), .int .i64 (findE s name)]) ∧ Below w.heap.size w w') Exit.ret { tmps := tmps, defers := [] } ((((W.setCell ⟨w.heap.size + 1, 0, none⟩ v0).setCell ⟨w.heap.size + 1, 1, none⟩ v1).setCell ⟨w.heap.size + 1, 2, none⟩ v2).setCell ⟨w.heap.size + 1, 3, none⟩ v3) := by
    intro W v0 v1 v2 v3 en h1 h2 h3 h4 tmps t2 t3
    obtain ⟨s1, s2⟩ := set_de h1 v0 v1 v2 v3
    refine bodyPost_ret (res_de2 rfl _ _ t2 (load_de (w.heap.size + 1) _ v0 v1 v2 v3 s1)) rfl ?_
    rw [t3]
    exact ⟨by rw [h3, h4], h2.trans (s2.below h2.size (fun k hk => by omega))⟩
  have FIN := Lib.hid fin
  clear fin
  cases hok : rdOk s
  · have hE : readE s = 110 := by unfold readE; rw [hok]; rfl
    have hF : findE s name = 110 := by unfold findE; rw [hok]; rfl
    have hD : deV (findD s name) = .agg #[.string ⟨#[]⟩, .int .u32 0, .int .i64 0, .int .i64 0] := by unfold findD; rw [hF]; rfl
    rw [hE]
    have HF := Lib.hid hF
    have HD := Lib.hid hD
    clear hF hD hrd hok hE
    go_wp2_with fail
    exact FIN.out _ _ _ _ _ _ HCX.out hb2 HD.out HF.out _ rfl rfl
  have hE : readE s = 0 := by unfold readE; rw [hok]; rfl
  rw [hE]
  cases hnb : nameB name
  · have hF : findE s name = 111 := by unfold findE; rw [hok, hnb]; rfl
    have hD : deV (findD s name) = .agg #[.string ⟨#[]⟩, .int .u32 0, .int .i64 0, .int .i64 0] := by unfold findD; rw [hF]; rfl
    rw [hnb] at HN
    have HF := Lib.hid hF
    have HD := Lib.hid hD
    clear hF hD hrd hok hE
    go_wp2_with fail
    refine (HN.out _).mono ?_
    rintro e w2 ⟨rfl, hw2⟩
    rw [← hw2]
    clear hw2 w2
    go_wp2_with fail
    exact FIN.out _ _ _ _ _ _ HCX.out hb2 HD.out HF.out _ rfl rfl
  rw [hnb] at HN
  have hix := indexfunc_any (readL s) A c name w.heap.size w1 (hrd.mono (fun k hk => hk.2)) n0 (by have := readL_le s; omega)
  have hll := readL_le s
  have hnl := namesL_length s
  have hii : idxI ((readL s).map toNm) name = if idxN (namesL s) name < (namesL s).length then (idxN (namesL s) name : Int) else -1 := rfl
  by_cases hlt : idxN (namesL s) name < (namesL s).length
  · rw [if_pos hlt] at hii
    have hF : findE s name = 0 := by unfold findE; rw [hok, hnb, if_pos hlt]; rfl
    obtain ⟨x, hx⟩ : ∃ x, (readL s)[idxN (namesL s) name]? = some x := ⟨_, List.getElem?_eq_getElem (by omega)⟩
    have hD : findD s name = x := by
      unfold findD
      rw [hF, if_pos rfl, List.getElem!_eq_getElem?_getD, hx]
      rfl
    rw [hii] at hix
    generalize idxN (namesL s) name = q at *
    rw [hnl] at hlt
    obtain ⟨ad, rfl, hadb, e0, e1, e2, e3⟩ := de_cells hrd q x hx (by omega)
    have hqi : (q : Int) < ((readL s).length : Int) := by omega
    have hD2 : deV (findD s name) = .agg #[.string x.name, .int .u32 x.ino, .int .i64 x.fr, .int .i64 x.en] := by rw [hD]; rfl
    have HD := Lib.hid hD2
    clear hD2
    have HF := Lib.hid hF
    have HIX := Lib.hid hix
    have HADB := Lib.hid hadb
    clear hF hD hrd hok hE hii hix hx hnl hadb
    generalize (readL s).length = N at *
    go_wp2_with fail
    refine (HN.out _).mono ?_
    rintro e w2 ⟨rfl, hw2⟩
    rw [← hw2]
    clear hw2 w2
    go_wp2_with fail
    refine HIX.out.mono ?_
    rintro e w2 ⟨rfl, hb3⟩
    have f3 := Fr.of_below hb3
    have hsz3 := hb3.size
    have hlt3 : ∀ i, i < w1.heap.size → ¬ w1.heap.size ≤ i := fun i h => by omega
    have e0' := f3.cell (hlt3 _ (by rw [add_block]; exact HADB.out.2)) e0
    have e1' := f3.cell (hlt3 _ (by show (ad.add (q * 4)).block < _; rw [add_block]; exact HADB.out.2)) e1
    have e2' := f3.cell (hlt3 _ (by show (ad.add (q * 4)).block < _; rw [add_block]; exact HADB.out.2)) e2
    have e3' := f3.cell (hlt3 _ (by show (ad.add (q * 4)).block < _; rw [add_block]; exact HADB.out.2)) e3
    have hcx2 := f3.get (hlt3 _ (by omega)) HCX.out
    have y0 := blk_cell hcx2 0
    have y1 := blk_cell hcx2 1
    have y2 := blk_cell hcx2 2
    have y3 := blk_cell hcx2 3
    have yz0 := blk_frozen hcx2 0
    have yz1 := blk_frozen hcx2 1
    have yz2 := blk_frozen hcx2 2
    have yz3 := blk_frozen hcx2 3
    simp at y0 y1 y2 y3
    have HCX2 := Lib.hid hcx2
    have hb4 := hb2.trans (hb3.mono hb2.size)
    clear hcx2 f3 hlt3 hb3 e0 e1 e2 e3 HADB p0 p1 p2 p3 z0 z1 z2 z3 n0 HIX
    go_wp2_with fail
    exact FIN.out _ _ _ _ _ _ HCX2.out hb4 HD.out HF.out _ rfl rfl
  · rw [if_neg hlt] at hii
    have hF : findE s name = 112 := by unfold findE; rw [hok, hnb, if_neg hlt]; rfl
    have hD : deV (findD s name) = .agg #[.string ⟨#[]⟩, .int .u32 0, .int .i64 0, .int .i64 0] := by unfold findD; rw [hF]; rfl
    rw [hii] at hix
    have HF := Lib.hid hF
    have HD := Lib.hid hD
    have HIX := Lib.hid hix
    clear hF hD hrd hok hE hii hix hnl
    go_wp2_with fail
    refine (HN.out _).mono ?_
    rintro e w2 ⟨rfl, hw2⟩
    rw [← hw2]
    clear hw2 w2
    go_wp2_with fail
    refine HIX.out.mono ?_
    rintro e w2 ⟨rfl, hb3⟩
    have hcx2 := (hb3.block (w.heap.size + 1) (by omega)).trans HCX.out
    have y0 := blk_cell hcx2 0
    have y1 := blk_cell hcx2 1
    have y2 := blk_cell hcx2 2
    have y3 := blk_cell hcx2 3
    have yz0 := blk_frozen hcx2 0
    have yz1 := blk_frozen hcx2 1
    have yz2 := blk_frozen hcx2 2
    have yz3 := blk_frozen hcx2 3
    simp at y0 y1 y2 y3
    have HCX2 := Lib.hid hcx2
    have hb4 := hb2.trans (hb3.mono hb2.size)
    clear hcx2 hb3 p0 p1 p2 p3 z0 z1 z2 z3 n0 HIX
    go_wp2_with fail
    exact FIN.out _ _ _ _ _ _ HCX2.out hb4 HD.out HF.out _ rfl rfl
end Go.Proofs.Ytliioeihbbhiiaa

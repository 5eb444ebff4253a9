/- Directories: the reference's Add, Drop, Set: contracts over the given program. -/
import Derived.Test.YtliioeihbbhiiaaEi
namespace Go.Proofs.Ytliioeihbbhiiaa
open Go.RowKit Go.Nau Go.Shelf
attribute [local go_sem] Oper.semAt_some

theorem dirS_one (x : Nm) : dirS [x] = strL (oneL x) := by
  unfold dirS
  simp
theorem rd_nms (W : World) (x : Nm) : Rd (fun k => W.heap.size ≤ k ∧ k < W.heap.size + 1) (W.alloc (.cells #[.string x.name, .int .u32 x.ino] 40)) 2 (some ⟨W.heap.size, 0, none⟩) 1 (nmC [x]) :=
  ⟨rfl, fun _ => ⟨_, rfl, ⟨Nat.le_refl _, by simp⟩, fun j u hu => rd_nm W x j u (by simpa [nmC] using hu)⟩⟩

set_option maxHeartbeats 1000000 in
theorem radd_any (s name : ByteArray) (ino : Nat) (hs : s.size ≤ 9223372036854775807) (hn : name.size ≤ 9223372036854775807) (hi : ino < 4294967296) (w : World) : Calls Try.prog 14 #[.string s, .string name, .int .u32 ino] w fun e w' =>
    e = .returned (.tuple #[.string (addS s name ino), .int .i64 (addE s name ino)]) ∧ Below w.heap.size w w' := by
  have HR := Lib.hid (fun W => found_any s name hs hn W)
  unfold FPost at HR
  have hc := findE_cases s name
  have hsz := fun h => @findE_size s name h
  have hnm := fun h => nameB_le (@findE_name s name h)
  have ha : addE s name ino = if findE s name = 0 then 113 else if findE s name ≠ 112 then findE s name else if ino = 0 then 110 else if 20000 < s.size + (6 + name.size) then 114 else 0 := rfl
  have hb : addS s name ino = if addE s name ino = 0 then s ++ strL (oneL ⟨name, ino⟩) else ⟨#[]⟩ := rfl
  have bad : ∀ en : Int, addE s name ino = en → en ≠ 0 → addS s name ino = ⟨#[]⟩ := fun en h1 h2 => by rw [hb, h1, if_neg h2]
  by_cases h0 : findE s name = 0
  · have h1 : addE s name ino = 113 := by rw [ha, if_pos h0]
    rw [bad _ h1 (by decide), h1]
    rw [h0] at HR
    clear hc hsz hnm ha hb bad h0 h1
    go_enter Try.func14, Try.ntmps14
    go_wp2_with fail
    refine (HR.out _).mono ?_
    rintro e w1 ⟨v, rfl, _, hb1⟩
    go_wp2_with fail
    go_ret2
    exact ⟨rfl, hb1⟩
  by_cases h2 : findE s name = 112
  case neg =>
    have h1 : addE s name ino = findE s name := by rw [ha, if_neg h0, if_pos h2]
    rw [bad _ h1 h0, h1]
    have hen1 : (findE s name == 0) = false := by simpa using h0
    have hen2 : (findE s name == 112) = false := by simpa using h2
    clear hc hsz hnm ha hb bad h0 h1 h2
    generalize findE s name = en at *
    go_enter Try.func14, Try.ntmps14
    go_wp2_with fail
    refine (HR.out _).mono ?_
    rintro e w1 ⟨v, rfl, _, hb1⟩
    go_wp2_with fail
    go_ret2
    exact ⟨rfl, hb1⟩
  have hsz' := hsz (by rw [h2]; decide)
  have hnm' := hnm (.inr h2)
  rw [if_neg h0, if_neg (by rw [h2]; decide)] at ha
  rw [h2] at HR
  clear hc hsz hnm h0 h2
  by_cases hi0 : ino = 0
  · rw [if_pos hi0] at ha
    rw [bad _ ha (by decide), ha]
    subst hi0
    clear hb bad ha
    go_enter Try.func14, Try.ntmps14
    go_wp2_with fail
    refine (HR.out _).mono ?_
    rintro e w1 ⟨v, rfl, _, hb1⟩
    go_wp2_with fail
    go_ret2
    exact ⟨rfl, hb1⟩
  rw [if_neg hi0] at ha
  have hii : ((ino : Int) == 0) = false := by simpa using hi0
  have hos : (strL (oneL ⟨name, ino⟩)).size = 6 + name.size := by rw [strL_size, oneL_length]
  have ho : ∀ W : World, Calls Try.prog 29 #[.slice (some ⟨W.heap.size, 0, none⟩) 1 1] (W.alloc (.cells #[.string name, .int .u32 ino] 40)) fun e w' => e = .returned (.string (strL (oneL ⟨name, ino⟩))) ∧ Below (W.heap.size + 1) (W.alloc (.cells #[.string name, .int .u32 ino] 40)) w' := fun W => by
    have := rbytes11_any [⟨name, ino⟩] (some ⟨W.heap.size, 0, none⟩) 1 (W.alloc (.cells #[.string name, .int .u32 ino] 40)) ((rd_nms W ⟨name, ino⟩).mono (fun k hk => by simp; omega)) (by simp [oneL_length]; omega) (by simp; omega) (by simp)
    rw [dirS_one] at this
    simpa using this
  have HO := Lib.hid ho
  clear ho
  by_cases hbig : 20000 < s.size + (6 + name.size)
  · rw [if_pos hbig] at ha
    rw [bad _ ha (by decide), ha]
    clear hb bad ha
    have hbi : (20000 : Int) < (s.size : Int) + ((6 : Int) + (name.size : Int)) := by omega
    have hz : ¬ 9223372036854775807 < s.size + (6 + name.size) := by omega
    clear hbig hi0
    generalize strL (oneL ⟨name, ino⟩) = o at *
    go_enter Try.func14, Try.ntmps14
    go_wp2_with fail
    refine (HR.out _).mono ?_
    rintro e w1 ⟨v, rfl, _, hb1⟩
    go_wp2_with fail
    refine (HO.out _).mono ?_
    rintro e w2 ⟨rfl, hb2⟩
    have hb3 := (hb1.alloc hb1.size (.cells #[.string name, .int .u32 ino] 40)).trans (hb2.mono (by have := hb1.size; omega))
    clear hb1 hb2
    go_wp2_with fail
    go_ret2
    exact ⟨rfl, hb3⟩
  · rw [if_neg hbig] at ha
    rw [ha, if_pos rfl] at hb
    rw [hb, ha]
    clear hb bad ha
    have hbi : (s.size : Int) + ((6 : Int) + (name.size : Int)) ≤ 20000 := by omega
    have hz : ¬ 9223372036854775807 < s.size + (6 + name.size) := by omega
    clear hbig hi0
    generalize strL (oneL ⟨name, ino⟩) = o at *
    go_enter Try.func14, Try.ntmps14
    go_wp2_with fail
    refine (HR.out _).mono ?_
    rintro e w1 ⟨v, rfl, _, hb1⟩
    go_wp2_with fail
    refine (HO.out _).mono ?_
    rintro e w2 ⟨rfl, hb2⟩
    have hb3 := (hb1.alloc hb1.size (.cells #[.string name, .int .u32 ino] 40)).trans (hb2.mono (by have := hb1.size; omega))
    clear hb1 hb2
    go_wp2_with fail
    go_ret2
    exact ⟨rfl, hb3⟩

/-! ### what the names of a directory are -/
theorem namesL_wf {s : ByteArray} {x : Nm} (h : x ∈ namesL s) : nameB x.name = true ∧ 0 < x.ino ∧ x.ino < 4294967296 := by
  unfold namesL at h
  obtain ⟨y, hy, rfl⟩ := List.mem_map.1 h
  have := mem_readL hy
  exact ⟨this.nm, this.ino, this.u32⟩
theorem seqD_flat {s : ByteArray} : ∀ (f p : Nat), p ≤ s.size → (∀ x ∈ seqD s f p, x.2 = true) → p + (((seqD s f p).map fun x => toNm x.1).flatMap oneL).length ≤ s.size
  | 0, p, hp, _ => by simpa [seqD] using hp
  | f + 1, p, hp, h => by
    unfold seqD at h ⊢
    split
    · rename_i hlt
      rw [if_pos hlt] at h
      split
      · rename_i hk
        rw [if_pos hk] at h
        obtain ⟨h1, h2⟩ := deOk_en hk
        have ih := seqD_flat f (deAt s p).en h2 (fun x hx => h x (List.mem_cons_of_mem _ hx))
        simp only [List.map_cons, List.flatMap_cons, List.length_append, oneL_length]
        have : (deAt s p).en = p + (6 + (toNm (deAt s p)).name.size) := by
          have h3 := hk
          unfold deOk at h3
          simp only [Bool.and_eq_true, decide_eq_true_eq] at h3
          have h4 := h3.2.1
          unfold ttN at h4
          split at h4
          · rename_i hb
            show ttE s (p + 4) = p + (6 + (ttS s (p + 4)).size)
            unfold ttE ttS
            rw [if_pos hb, if_pos hb, ByteArray.size_extract]
            unfold ttB at hb
            simp only [Bool.and_eq_true, decide_eq_true_eq] at hb
            omega
          · cases h4
        omega
      · rename_i hk
        rw [if_neg hk] at h
        have := h (deAt s p, false) (List.mem_singleton.2 rfl)
        cases this
    · simpa using hp
theorem names_flat (s : ByteArray) : ((namesL s).flatMap oneL).length ≤ 20000 := by
  unfold namesL readL
  cases hok : rdOk s
  · simp
  · unfold rdOk at hok
    simp only [Bool.and_eq_true, decide_eq_true_eq, List.all_eq_true] at hok
    have := seqD_flat (s := s) (s.size + 1) 0 (Nat.zero_le _) hok.2.1
    simp only [if_true, List.map_map]
    unfold seqOf
    have e : (toNm ∘ fun x : De × Bool => x.1) = fun x => toNm x.1 := rfl
    rw [e]
    omega

theorem nmC_set : ∀ (l : List Nm) (q : Nat) (x : Nm) (ino : Nat), l[q]? = some x → (nmC l).set (q * 2 + 1) (.int .u32 ino) = nmC (l.set q ⟨x.name, ino⟩)
  | [], q, x, ino, h => by simp at h
  | y :: l, 0, x, ino, h => by
    simp at h
    subst h
    rfl
  | y :: l, q + 1, x, ino, h => by
    simp only [List.getElem?_cons_succ] at h
    have ih := nmC_set l q x ino h
    have e : (q + 1) * 2 + 1 = (q * 2 + 1) + 1 + 1 := by omega
    rw [e]
    show Value.string y.name :: Value.int .u32 y.ino :: (nmC l).set (q * 2 + 1) (.int .u32 ino) = _
    rw [ih]
    rfl
theorem own_setIno {W : World} {base : Nat} {v : Value} {l : List Nm} {q : Nat} {x : Nm} (ino : Nat) (h : W.ownsRow base 40 2 v l.length (nmC l)) (hx : l[q]? = some x) :
    ∃ ad c, v = .slice (some ad) l.length c ∧ base ≤ ad.block ∧ ad.block < W.heap.size ∧ W.cell? ⟨(ad.add (q * 2)).block, (ad.add (q * 2)).off + 1, none⟩ = some (.int .u32 x.ino) ∧ W.frozen? ⟨(ad.add (q * 2)).block, (ad.add (q * 2)).off + 1, none⟩ = false ∧
      (W.setCell ⟨(ad.add (q * 2)).block, (ad.add (q * 2)).off + 1, none⟩ (.int .u32 ino)).ownsRow base 40 2 v l.length (nmC (l.set q ⟨x.name, ino⟩)) ∧ Fr (· = ad.block) W (W.setCell ⟨(ad.add (q * 2)).block, (ad.add (q * 2)).off + 1, none⟩ (.int .u32 ino)) := by
  have hq := (List.getElem?_eq_some_iff.1 hx).1
  obtain ⟨g, cap, cur, rfl, hg, hh, hn, hcm, hsz, ht⟩ := own_form h (by omega)
  have ha : (⟨((⟨g, 0, none⟩ : Addr).add (q * 2)).block, ((⟨g, 0, none⟩ : Addr).add (q * 2)).off + 1, none⟩ : Addr) = ⟨g, q * 2 + 1, none⟩ := by
    unfold Addr.add
    split
    · rename_i h0
      rw [h0]
    · simp
  refine ⟨⟨g, 0, none⟩, cap, rfl, hg, (Array.getElem?_eq_some_iff.1 hh).1, ?_, ?_, ?_, ?_⟩
  · rw [ha, cell_of_row _ _ _ _ _ _ hh]
    have e1 : (nmC l)[q * 2 + 1]? = some (.int .u32 x.ino) := nmC_get l q 1 x hx (by omega)
    rw [← ht, List.getElem?_take] at e1
    split at e1
    · rw [← Array.getElem?_toList]
      exact e1
    · cases e1
  · rw [ha]
    exact blk_frozen hh _
  · rw [ha]
    refine ⟨by rw [nmC_length, List.length_set], .inr ⟨g, cap, cur.setIfInBounds (q * 2 + 1) (.int .u32 ino), rfl, hg, blk_set hh _ _, hn, hcm, by simpa using hsz, ?_⟩⟩
    rw [Array.toList_setIfInBounds, List.take_set, ht]
    exact nmC_set l q x ino hx
  · rw [ha]
    exact Fr.set1 _ _ _ _

def rsetS (s name : ByteArray) (ino : Nat) : ByteArray := if setE s name ino = 0 then dirS ((namesL s).set (idxN (namesL s) name) ⟨(findD s name).name, ino⟩) else ⟨#[]⟩
def rdropS (s name : ByteArray) : ByteArray := if findE s name = 0 then dirS ((namesL s).eraseIdx (idxN (namesL s) name)) else ⟨#[]⟩
theorem flat_set (l : List Nm) (q : Nat) (x : Nm) (ino : Nat) (h : l[q]? = some x) : ((l.set q ⟨x.name, ino⟩).flatMap oneL).length = (l.flatMap oneL).length := by
  induction l generalizing q with
  | nil => simp at h
  | cons y l ih =>
    cases q with
    | zero =>
      simp at h
      subst h
      simp [oneL_length]
    | succ q =>
      simp only [List.getElem?_cons_succ] at h
      simp [ih q h]

set_option maxHeartbeats 1000000 in
theorem rset_any (s name : ByteArray) (ino : Nat) (hs : s.size ≤ 9223372036854775807) (hn : name.size ≤ 9223372036854775807) (hi : ino < 4294967296) (w : World) : Calls Try.prog 18 #[.string s, .string name, .int .u32 ino] w fun e w' =>
    e = .returned (.tuple #[.string (rsetS s name ino), .int .i64 (setE s name ino)]) ∧ Below w.heap.size w w' := by
  have HR := Lib.hid (fun W => found_any s name hs hn W)
  unfold FPost at HR
  have ha : setE s name ino = if findE s name = 0 then (if ino = 0 then 110 else 0) else findE s name := rfl
  have hd : rsetS s name ino = if setE s name ino = 0 then dirS ((namesL s).set (idxN (namesL s) name) ⟨(findD s name).name, ino⟩) else ⟨#[]⟩ := rfl
  by_cases h0 : findE s name = 0
  case neg =>
    rw [if_neg h0] at ha
    rw [ha, if_neg h0] at hd
    rw [hd, ha]
    have hen1 : (findE s name == 0) = false := by simpa using h0
    clear hd h0 ha
    generalize findE s name = en at *
    go_enter Try.func18, Try.ntmps18
    go_wp2_with fail
    refine (HR.out _).mono ?_
    rintro e w1 ⟨v, rfl, _, hb1⟩
    go_wp2_with fail
    go_ret2
    exact ⟨rfl, hb1⟩
  rw [if_pos h0] at ha
  by_cases hi0 : ino = 0
  · rw [if_pos hi0] at ha
    rw [ha] at hd
    rw [hd, ha]
    rw [h0] at HR
    subst hi0
    clear hd h0 ha
    go_enter Try.func18, Try.ntmps18
    go_wp2_with fail
    refine (HR.out _).mono ?_
    rintro e w1 ⟨v, rfl, _, hb1⟩
    go_wp2_with fail
    go_ret2
    exact ⟨rfl, hb1⟩
  rw [if_neg hi0] at ha
  have hii : ((ino : Int) == 0) = false := by simpa using hi0
  obtain ⟨q, hq, hqi, hx⟩ := findD_mem h0
  have hxn := names_get hx
  have hI : foundI s name = q := by unfold foundI; rw [if_pos h0, hqi]
  have hL : foundL s name = namesL s := by unfold foundL; rw [if_pos (.inl h0)]
  rw [← namesL_length] at hq
  have hll := namesL_le s
  have hfl := names_flat s
  have hwf := fun x h => @namesL_wf s x h
  rw [hI, hL, h0] at HR
  rw [ha, if_pos rfl, hqi] at hd
  rw [hd, ha]
  have htn : (findD s name).name = (toNm (findD s name)).name := rfl
  rw [htn]
  clear h0 hqi hx hI hL hd ha htn hi0
  generalize toNm (findD s name) = x at *
  generalize namesL s = l at *
  have hqi : (q : Int) < (l.length : Int) := by omega
  have hBy := fun (A : Option Addr) (c : Nat) (W : World) (hr : Rd (· < W.heap.size) W 2 A l.length (nmC (l.set q ⟨x.name, ino⟩))) => rbytes11_any (l.set q ⟨x.name, ino⟩) A c W (by rw [List.length_set]; exact hr) (by rw [flat_set l q x ino hxn]; omega) (fun y hy => by
    rcases List.mem_or_eq_of_mem_set hy with h | rfl
    · have := hwf y h
      have h2 := nameB_le this.1
      exact ⟨by omega, this.2.2⟩
    · have := hwf x (List.mem_of_getElem? hxn)
      have h2 := nameB_le this.1
      exact ⟨by show x.name.size ≤ 65535; omega, hi⟩) (by rw [List.length_set]; omega)
  rw [List.length_set] at hBy
  have HBY := Lib.hid hBy
  clear hBy hfl hwf
  generalize dirS (l.set q ⟨x.name, ino⟩) = d at *
  go_enter Try.func18, Try.ntmps18
  go_wp2_with fail
  refine (HR.out _).mono ?_
  rintro e w1 ⟨v, rfl, hown, hb1⟩
  obtain ⟨ad, c, rfl, hbg, hlt, e1, z1, hset, hfr⟩ := own_setIno ino hown hxn
  obtain ⟨A', c', hv', hc', hrd⟩ := Rd.of_own2 hset
  injection hv' with hA' _ hcc'
  subst hA' hcc'
  have HRD := Lib.hid hrd
  have hb2 := hb1.trans (hfr.below hb1.size (fun k hk => by omega))
  have HB2 := Lib.hid hb2
  clear hown HR hset hxn hrd hb2 hfr hb1
  go_wp2_with fail
  refine (HBY.out _ _ _ (HRD.out.mono (fun k hk => hk.2))).mono ?_
  rintro e w2 ⟨rfl, hb3⟩
  have hb4 := HB2.out.trans (hb3.mono HB2.out.size)
  clear hb3
  go_wp2_with fail
  go_ret2
  exact ⟨rfl, hb4⟩
end Go.Proofs.Ytliioeihbbhiiaa

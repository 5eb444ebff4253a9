/- Directories: what is found, added, dropped, set, said of names; the laws' example; the law DirsChanges walked. -/
import Derived.Test.YtliioeihbbhiiaaEl
namespace Go.Proofs.Ytliioeihbbhiiaa
open Go.RowKit Go.Nau Go.Shelf
attribute [local go_sem] Oper.semAt_some

theorem findE_ok {s name : ByteArray} (h : findE s name = 0) : rdOk s = true := by
  unfold findE at h
  split at h
  · assumption
  · cases h
theorem dirS_split {l : List Nm} (q : Nat) (x : Nm) (hx : l[q]? = some x) : l.flatMap oneL = (l.take q).flatMap oneL ++ (oneL x ++ (l.drop (q + 1)).flatMap oneL) := by
  have hq := (List.getElem?_eq_some_iff.1 hx).1
  have h1 : l = l.take q ++ l.drop q := (List.take_append_drop q l).symm
  have h2 : l.drop q = x :: l.drop (q + 1) := by
    rw [List.drop_eq_getElem_cons hq]
    have := List.getElem?_eq_getElem hq
    rw [hx] at this
    injection this with this
    rw [this]
  conv => lhs; rw [h1, h2]
  rw [List.flatMap_append, List.flatMap_cons]

section
variable {l : List Nm} (g : GoodL l) (name : ByteArray)
include g
theorem GoodL.findE : findE (dirS l) name = if nameB name then (if idxN l name < l.length then 0 else 112) else 111 := by
  unfold _root_.Go.Proofs.Ytliioeihbbhiiaa.findE
  rw [g.ok, g.names]
  rfl
theorem GoodL.hit {name : ByteArray} (h : _root_.Go.Proofs.Ytliioeihbbhiiaa.findE (dirS l) name = 0) : nameB name = true ∧ ∃ x, l[idxN l name]? = some x ∧ x.name = name ∧
    findD (dirS l) name = ⟨x.name, x.ino, ((l.take (idxN l name)).flatMap oneL).length, ((l.take (idxN l name)).flatMap oneL).length + (6 + x.name.size)⟩ := by
  have hn := findE_name (.inl h)
  rw [g.findE, if_pos hn] at h
  split at h
  · rename_i hlt
    have hx : l[idxN l name]? = some l[idxN l name] := List.getElem?_eq_getElem hlt
    refine ⟨hn, _, hx, ?_, ?_⟩
    · have := List.findIdx_getElem (xs := l) (p := fun x : Nm => eqB x.name name) (w := hlt)
      exact eqB_iff.1 this
    · unfold findD
      rw [g.findE, if_pos hn, if_pos hlt, if_pos rfl, g.names, g.read, List.getElem!_eq_getElem?_getD, mkD_get l 0 _ _ hx]
      simp
  · cases h
theorem GoodL.dropS (h : _root_.Go.Proofs.Ytliioeihbbhiiaa.findE (dirS l) name = 0) : dropS (dirS l) name = dirS (l.eraseIdx (idxN l name)) := by
  obtain ⟨_, x, hx, _, hD⟩ := g.hit h
  unfold _root_.Go.Proofs.Ytliioeihbbhiiaa.dropS
  rw [if_pos h, hD]
  have hs := dirS_split _ x hx
  apply ByteArray.ext
  apply Array.toList_inj.mp
  rw [ByteArray.data_append, Array.toList_append, extract_list, extract_list, dirS_list, dirS_list, List.eraseIdx_eq_take_drop_succ, List.flatMap_append, hs]
  dsimp only
  rw [List.drop_zero, Nat.sub_zero, List.take_left']
  · congr 1
    rw [← List.drop_drop, List.drop_left', List.drop_left']
    · apply List.take_of_length_le
      rw [dirS_size, hs]
      simp only [List.length_append, oneL_length]
      omega
    · rw [oneL_length]
    · rfl
  · rfl
theorem GoodL.setS (ino : Nat) (h : _root_.Go.Proofs.Ytliioeihbbhiiaa.findE (dirS l) name = 0) (hi : ino ≠ 0) : setS (dirS l) name ino = dirS (l.set (idxN l name) ⟨name, ino⟩) := by
  obtain ⟨_, x, hx, hxn, hD⟩ := g.hit h
  unfold _root_.Go.Proofs.Ytliioeihbbhiiaa.setS _root_.Go.Proofs.Ytliioeihbbhiiaa.setE
  rw [if_pos h, if_neg hi, if_pos rfl, hD]
  have hs := dirS_split _ x hx
  have hq := (List.getElem?_eq_some_iff.1 hx).1
  have hs2 := dirS_split (l := l.set (idxN l name) ⟨name, ino⟩) (idxN l name) ⟨name, ino⟩ (by rw [List.getElem?_set_self hq])
  rw [List.take_set_of_le (Nat.le_refl _), List.drop_set_of_lt (by omega)] at hs2
  apply ByteArray.ext
  apply Array.toList_inj.mp
  rw [ByteArray.data_append, Array.toList_append, ByteArray.data_append, Array.toList_append, extract_list, extract_list, dirS_list, dirS_list, strL_toList, hs2, hs]
  dsimp only
  rw [List.drop_zero, Nat.sub_zero, List.take_left', List.append_assoc]
  · congr 2
    rw [← List.drop_drop, List.drop_left', List.drop_left']
    · apply List.take_of_length_le
      rw [dirS_size, hs]
      simp only [List.length_append, oneL_length]
      omega
    · rw [oneL_length]
    · rfl
  · rfl
end

theorem drop_eq (s name : ByteArray) : rdropS s name = dropS s name := by
  by_cases h : findE s name = 0
  · obtain ⟨g, hs⟩ := rdOk_good (findE_ok h)
    have e : rdropS s name = dirS ((namesL s).eraseIdx (idxN (namesL s) name)) := by unfold rdropS; rw [if_pos h]
    rw [e]
    rw [hs] at h
    rw [← g.dropS name h, ← hs]
  · unfold rdropS dropS
    rw [if_neg h, if_neg h]
theorem set_eq (s name : ByteArray) (ino : Nat) : rsetS s name ino = setS s name ino := by
  by_cases h : findE s name = 0
  · by_cases hi : ino = 0
    · unfold rsetS setS setE
      rw [if_pos h, if_pos hi]
      rfl
    · obtain ⟨g, hs⟩ := rdOk_good (findE_ok h)
      have h' := h
      rw [hs] at h'
      obtain ⟨_, x, _, hxn, hD⟩ := g.hit h'
      have e : rsetS s name ino = dirS ((namesL s).set (idxN (namesL s) name) ⟨(findD s name).name, ino⟩) := by unfold rsetS setE; rw [if_pos h, if_neg hi, if_pos rfl]
      rw [e]
      have e2 : (findD s name).name = name := by
        rw [hs, hD]
        exact hxn
      rw [e2, ← g.setS name ino h' hi, ← hs]
  · unfold rsetS setS setE
    simp only [if_neg h]

/-! ### the laws' example -/
def ab : ByteArray := ⟨#[97, 98]⟩
theorem good_nil : GoodL [] := ⟨fun x h => by simp at h, rfl, by simp⟩
theorem good_one : GoodL [⟨ab, 7⟩] := ⟨fun x h => by
  rw [List.mem_singleton] at h
  subst h
  exact ⟨by kernel_rfl, by simp, by simp⟩, by kernel_rfl, of_decide_eq_true (by kernel_rfl)⟩
theorem nil_dirS : (⟨#[]⟩ : ByteArray) = dirS [] := rfl
theorem ab_dirS : dirS [⟨ab, 7⟩] = ⟨#[7, 0, 0, 0, 2, 0, 97, 98]⟩ := by kernel_rfl
theorem find_nil : findE ⟨#[]⟩ ab = 112 := by
  rw [nil_dirS, good_nil.findE]
  kernel_rfl
theorem find_ab : findE ⟨#[7, 0, 0, 0, 2, 0, 97, 98]⟩ ab = 0 := by
  rw [← ab_dirS, good_one.findE]
  kernel_rfl
theorem find_dot : findE ⟨#[7, 0, 0, 0, 2, 0, 97, 98]⟩ ⟨#[46]⟩ = 111 := by
  rw [← ab_dirS, good_one.findE]
  kernel_rfl
theorem findD_ab : (findD ⟨#[7, 0, 0, 0, 2, 0, 97, 98]⟩ ab).ino = 7 := by
  have h := find_ab
  rw [← ab_dirS] at h ⊢
  obtain ⟨_, x, hx, _, hD⟩ := good_one.hit h
  rw [hD]
  have : idxN [⟨ab, 7⟩] ab = 0 := by kernel_rfl
  rw [this] at hx
  simp at hx
  rw [← hx]
theorem add_nil : addE ⟨#[]⟩ ab 7 = 0 ∧ addS ⟨#[]⟩ ab 7 = ⟨#[7, 0, 0, 0, 2, 0, 97, 98]⟩ := by
  have e : addE ⟨#[]⟩ ab 7 = 0 := by
    unfold addE
    rw [find_nil]
    kernel_rfl
  refine ⟨e, ?_⟩
  unfold addS
  rw [if_pos e]
  kernel_rfl
theorem add_ab : addE ⟨#[7, 0, 0, 0, 2, 0, 97, 98]⟩ ab 8 = 113 := by
  unfold addE
  rw [if_pos find_ab]
theorem add_dot : addE ⟨#[7, 0, 0, 0, 2, 0, 97, 98]⟩ ⟨#[46]⟩ 8 = 111 := by
  unfold addE
  rw [find_dot]
  kernel_rfl

set_option maxHeartbeats 1000000 in
set_option maxRecDepth 100000 in
theorem shown_any (w : World) : Calls Try.prog 9 #[] w fun e w' => e = .returned (.bool true) ∧ Below w.heap.size w w' := by
  have h1 := fun W => add_any ⟨#[]⟩ ab 7 (by decide) (by decide) W
  have h2 := fun W => add_any ⟨#[7, 0, 0, 0, 2, 0, 97, 98]⟩ ab 8 (by decide) (by decide) W
  have h3 := fun W => add_any ⟨#[7, 0, 0, 0, 2, 0, 97, 98]⟩ ⟨#[46]⟩ 8 (by decide) (by decide) W
  have h4 := fun W => dfind_any ⟨#[7, 0, 0, 0, 2, 0, 97, 98]⟩ ab (by decide) W
  rw [add_nil.1, add_nil.2] at h1
  rw [add_ab] at h2
  rw [add_dot] at h3
  rw [find_ab, findD_ab] at h4
  generalize addS ⟨#[7, 0, 0, 0, 2, 0, 97, 98]⟩ ab 8 = a2 at *
  generalize addS ⟨#[7, 0, 0, 0, 2, 0, 97, 98]⟩ ⟨#[46]⟩ 8 = a3 at *
  unfold ab at *
  have e0 : (ByteArray.toList ⟨#[7, 0, 0, 0, 2, 0, 97, 98]⟩ == [7, 0, 0, 0, 2, 0, 97, 98]) = true := by kernel_rfl
  have H1 := Lib.hid h1
  have H2 := Lib.hid h2
  have H3 := Lib.hid h3
  have H4 := Lib.hid h4
  clear h1 h2 h3 h4
  go_enter Try.func9, Try.ntmps9
  go_wp2_with fail
  refine (H1.out _).mono ?_
  rintro e w1 ⟨rfl, hb1⟩
  go_wp2_with fail
  refine (H2.out _).mono ?_
  rintro e w2 ⟨rfl, hb2⟩
  go_wp2_with fail
  refine (H3.out _).mono ?_
  rintro e w3 ⟨rfl, hb3⟩
  go_wp2_with fail
  refine (H4.out _).mono ?_
  rintro e w4 ⟨rfl, hb4⟩
  go_wp2_with fail
  go_ret
  have b2 := hb1.trans (hb2.mono hb1.size)
  have b3 := b2.trans (hb3.mono b2.size)
  exact ⟨rfl, b3.trans (hb4.mono b3.size)⟩

def cutS (s : ByteArray) : ByteArray := s.extract 0 (min s.size 21000)
theorem cut_any (s : ByteArray) (hs : s.size ≤ maxLen) (w : World) : Calls Try.prog 10 #[.string s] w fun e w' => e = .returned (.string (cutS s)) ∧ w = w' := by
  have hz : s.size ≤ 9223372036854775807 := hs
  have hm : (min (s.size : Int) 21000).toNat = min s.size 21000 := by omega
  unfold cutS
  rw [← hm]
  have HM := Lib.hid hm
  clear hm hs
  rcases Nat.lt_or_ge s.size 21000 with h | h
  · have hi : (s.size : Int) < 21000 := by omega
    go_enter Try.func10, Try.ntmps10
    go_wp2_with fail
    go_ret
    exact ⟨rfl, rfl⟩
  · have hi : 21000 ≤ (s.size : Int) := by omega
    go_enter Try.func10, Try.ntmps10
    go_wp2_with fail
    go_ret
    exact ⟨rfl, rfl⟩
theorem cutS_size (s : ByteArray) : (cutS s).size ≤ 21000 := by
  unfold cutS
  rw [ByteArray.size_extract]
  omega
end Go.Proofs.Ytliioeihbbhiiaa

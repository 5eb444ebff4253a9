/- Directories: plain laws: bytes are their names' bytes, and names are read back. -/
import Derived.Test.YtliioeihbbhiiaaEk
namespace Go.Proofs.Ytliioeihbbhiiaa
open Go.RowKit Go.Nau Go.Shelf

theorem bytesL_cons (n k : Nat) : bytesL n (k + 1) = UInt8.ofNat n :: bytesL (n / 256) k := by
  unfold bytesL
  rw [List.range_succ_eq_map, List.map_cons, List.map_map, hi_zero]
  congr 1
  apply List.map_congr_left
  intro i _
  show UInt8.ofNat (hi n (i + 1)) = UInt8.ofNat (hi (n / 256) i)
  unfold hi
  rw [Nat.pow_succ, Nat.div_div_eq_div_mul, Nat.mul_comm (256 ^ i) 256]
theorem bytesL_takeL : ∀ l : List UInt8, bytesL (takeL l) l.length = l
  | [] => rfl
  | b :: l => by
    have hb := b.toNat_lt
    show bytesL (b.toNat + 256 * takeL l) (l.length + 1) = b :: l
    rw [bytesL_cons]
    have h1 : (b.toNat + 256 * takeL l) / 256 = takeL l := by omega
    have h2 : UInt8.ofNat (b.toNat + 256 * takeL l) = b := by
      apply UInt8.toNat_inj.1
      rw [UInt8.toNat_ofNat']
      omega
    rw [h1, h2, bytesL_takeL l]
theorem takeL_bytes : ∀ (k n : Nat), takeL (bytesL n k) = n % 256 ^ k
  | 0, n => by simp [bytesL, takeL, Nat.mod_one]
  | k + 1, n => by
    rw [bytesL_cons]
    show (UInt8.ofNat n).toNat + 256 * takeL (bytesL (n / 256) k) = _
    rw [takeL_bytes k, UInt8.toNat_ofNat']
    have h1 : 256 ^ (k + 1) = 256 * 256 ^ k := by rw [Nat.pow_succ, Nat.mul_comm]
    rw [h1, Nat.mod_mul]
theorem takeL_bytes_of {n k : Nat} (h : n < 256 ^ k) : takeL (bytesL n k) = n := by rw [takeL_bytes, Nat.mod_eq_of_lt h]

theorem data_length (s : ByteArray) : s.data.toList.length = s.size := Array.length_toList
theorem extract_list (s : ByteArray) (a b : Nat) : (s.extract a b).data.toList = (s.data.toList.drop a).take (b - a) := by
  rw [ByteArray.data_extract, Array.toList_extract, List.extract_eq_take_drop]
theorem strL_inj {a b : List UInt8} (h : strL a = strL b) : a = b := by
  have := congrArg (fun s : ByteArray => s.data.toList) h
  simpa [strL] using this
theorem strL_toList (l : List UInt8) : (strL l).data.toList = l := by simp [strL]

/-- What stands at a place where an entry is. -/
theorem de_bytes {s : ByteArray} {p : Nat} (h : deOk s p = true) : s.data.toList.drop p = oneL (toNm (deAt s p)) ++ s.data.toList.drop (deAt s p).en := by
  unfold deOk at h
  simp only [Bool.and_eq_true, decide_eq_true_eq] at h
  obtain ⟨h1, h2, h3, h4⟩ := h
  have hb : ttB s (p + 4) = true := by
    unfold ttN at h2
    split at h2
    · assumption
    · cases h2
  have hb' := hb
  unfold ttB at hb'
  simp only [Bool.and_eq_true, decide_eq_true_eq] at hb'
  obtain ⟨hb1, hb2⟩ := hb'
  have e1 : bytesL (takeN s p 4) 4 = (s.data.toList.drop p).take 4 := by
    have : takeN s p 4 = takeL (partS s p 4) := by unfold takeN; rw [if_pos (by omega)]
    rw [this]
    have hl := partS_length s p 4 (by omega)
    have := bytesL_takeL (partS s p 4)
    rw [hl] at this
    exact this
  have e2 : bytesL (takeN s (p + 4) 2) 2 = (s.data.toList.drop (p + 4)).take 2 := by
    have : takeN s (p + 4) 2 = takeL (partS s (p + 4) 2) := by unfold takeN; rw [if_pos hb1]
    rw [this]
    have hl := partS_length s (p + 4) 2 hb1
    have := bytesL_takeL (partS s (p + 4) 2)
    rw [hl] at this
    exact this
  have e3 : ttS s (p + 4) = s.extract (p + 4 + 2) (p + 4 + 2 + takeN s (p + 4) 2) := by unfold ttS; rw [if_pos hb]
  have e4 : ttE s (p + 4) = p + 4 + 2 + takeN s (p + 4) 2 := by unfold ttE; rw [if_pos hb]
  have e5 : (ttS s (p + 4)).size = takeN s (p + 4) 2 := by rw [e3, ByteArray.size_extract]; omega
  have e6 : (ttS s (p + 4)).data.toList = (s.data.toList.drop (p + 6)).take (takeN s (p + 4) 2) := by
    rw [e3, extract_list]
    congr 1
    omega
  show _ = (bytesL (takeN s p 4) 4 ++ (bytesL (ttS s (p + 4)).size 2 ++ (ttS s (p + 4)).data.toList)) ++ s.data.toList.drop (ttE s (p + 4))
  rw [e4, e5, e6, e1, e2]
  generalize takeN s (p + 4) 2 = n
  generalize s.data.toList = L
  have a1 : L.drop p = (L.drop p).take 4 ++ L.drop (p + 4) := by rw [← List.drop_drop, List.take_append_drop]
  have a2 : L.drop (p + 4) = (L.drop (p + 4)).take 2 ++ L.drop (p + 6) := by
    have := (List.take_append_drop 2 (L.drop (p + 4))).symm
    rwa [List.drop_drop] at this
  have a3 : L.drop (p + 6) = (L.drop (p + 6)).take n ++ L.drop (p + 4 + 2 + n) := by
    have := (List.take_append_drop n (L.drop (p + 6))).symm
    rwa [List.drop_drop] at this
  conv => lhs; rw [a1, a2, a3]
  simp only [List.append_assoc]

/-- .. and an entry is read back. -/
theorem de_of_bytes {s : ByteArray} {p : Nat} {x : Nm} {r : List UInt8} (h : s.data.toList.drop p = oneL x ++ r) (hn : nameB x.name = true) (h0 : 0 < x.ino) (h1 : x.ino < 4294967296) :
    deOk s p = true ∧ deAt s p = ⟨x.name, x.ino, p, p + (6 + x.name.size)⟩ := by
  have hn59 := nameB_le hn
  have hlen := congrArg List.length h
  rw [List.length_drop, List.length_append, oneL_length, data_length] at hlen
  have hp4 : partS s p 4 = bytesL x.ino 4 := by
    unfold partS
    rw [h]
    unfold oneL
    rw [List.append_assoc, List.take_append_of_le_length (by rw [bytesL_length]; omega)]
    exact List.take_of_length_le (by rw [bytesL_length]; omega)
  have hd4 : s.data.toList.drop (p + 4) = bytesL x.name.size 2 ++ (x.name.data.toList ++ r) := by
    rw [← List.drop_drop, h]
    unfold oneL
    rw [List.append_assoc, List.append_assoc, List.drop_append_of_le_length (by rw [bytesL_length]; omega)]
    rw [List.drop_of_length_le (by rw [bytesL_length]; omega)]
    rfl
  have hp2 : partS s (p + 4) 2 = bytesL x.name.size 2 := by
    unfold partS
    rw [hd4, List.take_append_of_le_length (by rw [bytesL_length]; omega)]
    exact List.take_of_length_le (by rw [bytesL_length]; omega)
  have hd6 : s.data.toList.drop (p + 6) = x.name.data.toList ++ r := by
    have : s.data.toList.drop (p + 6) = (s.data.toList.drop (p + 4)).drop 2 := by rw [List.drop_drop]
    rw [this, hd4, List.drop_append_of_le_length (by rw [bytesL_length]; omega)]
    rw [List.drop_of_length_le (by rw [bytesL_length]; omega)]
    rfl
  have t1 : takeN s p 4 = x.ino := by
    unfold takeN
    rw [if_pos (by omega), hp4]
    exact takeL_bytes_of (by omega)
  have t2 : takeN s (p + 4) 2 = x.name.size := by
    unfold takeN
    rw [if_pos (by omega), hp2]
    exact takeL_bytes_of (by omega)
  have hb : ttB s (p + 4) = true := by
    unfold ttB
    rw [t2]
    simp only [Bool.and_eq_true, decide_eq_true_eq]
    omega
  have t3 : ttS s (p + 4) = x.name := by
    unfold ttS
    rw [if_pos hb, t2]
    apply ByteArray.ext
    apply Array.toList_inj.mp
    rw [extract_list]
    have e : p + 4 + 2 + x.name.size - (p + 4 + 2) = x.name.data.toList.length := by rw [data_length]; omega
    rw [e]
    show ((s.data.toList.drop (p + 6)).take _) = _
    rw [hd6, List.take_left']
    rfl
  have t4 : ttE s (p + 4) = p + (6 + x.name.size) := by
    unfold ttE
    rw [if_pos hb, t2]
    omega
  have t5 : takeE s p 4 = 0 := by unfold takeE; rw [if_pos (by omega)]
  have t6 : ttN s (p + 4) = 0 := by unfold ttN; rw [if_pos hb]
  constructor
  · unfold deOk
    rw [t5, t6, t1, t3, hn]
    simp [h0]
  · unfold deAt
    rw [t1, t3, t4]

/-- Entries from a place on. -/
def mkD : Nat → List Nm → List De
  | _, [] => []
  | p, x :: l => ⟨x.name, x.ino, p, p + (6 + x.name.size)⟩ :: mkD (p + (6 + x.name.size)) l
theorem mkD_names : ∀ (p : Nat) (l : List Nm), (mkD p l).map toNm = l
  | _, [] => rfl
  | p, x :: l => by
    show toNm _ :: (mkD _ l).map toNm = x :: l
    rw [mkD_names _ l]
    rfl
theorem mkD_get : ∀ (l : List Nm) (p q : Nat) (x : Nm), l[q]? = some x → (mkD p l)[q]? = some ⟨x.name, x.ino, p + ((l.take q).flatMap oneL).length, p + ((l.take q).flatMap oneL).length + (6 + x.name.size)⟩
  | [], p, q, x, h => by simp at h
  | y :: l, p, 0, x, h => by
    simp at h
    subst h
    rfl
  | y :: l, p, q + 1, x, h => by
    simp only [List.getElem?_cons_succ] at h
    show (mkD _ l)[q]? = _
    rw [mkD_get l _ q x h]
    simp only [List.take_succ_cons, List.flatMap_cons, List.length_append, oneL_length]
    rw [show p + (6 + y.name.size) + ((l.take q).flatMap oneL).length = p + (6 + y.name.size + ((l.take q).flatMap oneL).length) by omega]
theorem seqD_chain {s : ByteArray} : ∀ (f p : Nat), s.size ≤ p + f → p ≤ s.size → (∀ x ∈ seqD s f p, x.2 = true) → s.data.toList.drop p = ((seqD s f p).map fun x => toNm x.1).flatMap oneL
  | 0, p, hf, hp, _ => by
    rw [List.drop_of_length_le (by rw [data_length]; omega)]
    rfl
  | f + 1, p, hf, hp, h => by
    unfold seqD at h ⊢
    split
    · rename_i hlt
      rw [if_pos hlt] at h
      split
      · rename_i hk
        rw [if_pos hk] at h
        obtain ⟨h1, h2⟩ := deOk_en hk
        have ih := seqD_chain f (deAt s p).en (by omega) h2 (fun x hx => h x (List.mem_cons_of_mem _ hx))
        rw [de_bytes hk, ih]
        rfl
      · rename_i hk
        rw [if_neg hk] at h
        have := h (deAt s p, false) (List.mem_singleton.2 rfl)
        cases this
    · rw [List.drop_of_length_le (by rw [data_length]; omega)]
      rfl
theorem seqD_of {s : ByteArray} : ∀ (f p : Nat) (l : List Nm), s.size ≤ p + f → s.data.toList.drop p = l.flatMap oneL → (∀ x ∈ l, nameB x.name = true ∧ 0 < x.ino ∧ x.ino < 4294967296) → seqD s f p = pairT (mkD p l)
  | 0, p, l, hf, h, hw => by
    have hl := congrArg List.length h
    rw [List.length_drop, data_length] at hl
    cases l with
    | nil => rfl
    | cons x l =>
      simp only [List.flatMap_cons, List.length_append, oneL_length] at hl
      omega
  | f + 1, p, [], hf, h, hw => by
    have hl := congrArg List.length h
    rw [List.length_drop, data_length] at hl
    unfold seqD
    rw [if_neg (by simp at hl; omega)]
    rfl
  | f + 1, p, x :: l, hf, h, hw => by
    have hl := congrArg List.length h
    rw [List.length_drop, data_length] at hl
    simp only [List.flatMap_cons, List.length_append, oneL_length] at hl
    have hwx := hw x (List.mem_cons_self)
    rw [List.flatMap_cons] at h
    obtain ⟨h1, h2⟩ := de_of_bytes h hwx.1 hwx.2.1 hwx.2.2
    have ih := seqD_of (s := s) f (p + (6 + x.name.size)) l (by omega) (by
      rw [← List.drop_drop, h, List.drop_append_of_le_length (by rw [oneL_length]; omega), List.drop_of_length_le (by rw [oneL_length]; omega)]
      rfl) (fun y hy => hw y (List.mem_cons_of_mem _ hy))
    unfold seqD
    rw [if_pos (show p < s.size by omega), if_pos h1, h2]
    show _ :: seqD s f (p + (6 + x.name.size)) = _
    rw [ih]
    rfl

/-- Names that may be a directory's. -/
structure GoodL (l : List Nm) : Prop where
  wf : ∀ x ∈ l, nameB x.name = true ∧ 0 < x.ino ∧ x.ino < 4294967296
  fresh : freshB [] (l.map (·.name)) = true
  size : (l.flatMap oneL).length ≤ 20000
theorem dirS_list (l : List Nm) : (dirS l).data.toList = l.flatMap oneL := strL_toList _
theorem dirS_size (l : List Nm) : (dirS l).size = (l.flatMap oneL).length := strL_size _
theorem GoodL.seq {l : List Nm} (h : GoodL l) : seqOf (dirS l) = pairT (mkD 0 l) :=
  seqD_of (s := dirS l) ((dirS l).size + 1) 0 l (by omega) (by rw [List.drop_zero]; exact dirS_list l) h.wf
theorem GoodL.ok {l : List Nm} (h : GoodL l) : rdOk (dirS l) = true := by
  unfold rdOk
  rw [h.seq, pairT_names]
  have e : (mkD 0 l).map (·.name) = l.map (·.name) := by
    have := congrArg (List.map (·.name)) (mkD_names 0 l)
    rwa [List.map_map] at this
  have e2 : (pairT (mkD 0 l)).all (·.2) = true := by simp [pairT]
  rw [e, h.fresh, dirS_size, e2]
  simp only [Bool.and_true, decide_eq_true_eq]
  exact h.size
theorem GoodL.read {l : List Nm} (h : GoodL l) : readL (dirS l) = mkD 0 l := by
  unfold readL
  rw [h.ok, if_pos rfl, h.seq]
  simp [pairT, Function.comp_def]
theorem GoodL.names {l : List Nm} (h : GoodL l) : namesL (dirS l) = l := by
  unfold namesL
  rw [h.read, mkD_names]
theorem rdOk_good {s : ByteArray} (h : rdOk s = true) : GoodL (namesL s) ∧ s = dirS (namesL s) := by
  have h' := h
  unfold rdOk at h'
  simp only [Bool.and_eq_true, decide_eq_true_eq, List.all_eq_true] at h'
  have hN : namesL s = (seqOf s).map fun x => toNm x.1 := by
    unfold namesL readL
    rw [h, if_pos rfl, List.map_map]
    rfl
  have hc := seqD_chain (s := s) (s.size + 1) 0 (by omega) (Nat.zero_le _) h'.2.1
  have e : s = dirS (namesL s) := by
    apply ByteArray.ext
    apply Array.toList_inj.mp
    rw [dirS_list, hN]
    exact hc
  refine ⟨⟨fun x hx => namesL_wf hx, ?_, ?_⟩, e⟩
  · rw [hN, List.map_map]
    exact h'.2.2
  · rw [← dirS_size, ← e]
    exact h'.1
end Go.Proofs.Ytliioeihbbhiiaa

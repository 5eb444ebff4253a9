/- Records and blocks as plain lists: what is encoded is decoded as it was; a record is no wrapped content. No program. -/
import Derived.Test.YtjpmohennekbaaaRp
namespace Go.Proofs.Ytjpmohennekbaaa
open Go.RowKit Go.Nau Go.Shelf

theorem takeL_bytes : ∀ (k n : Nat), takeL (bytesL n k) = n % 256 ^ k
  | 0, n => by simp [bytesL, takeL, Nat.mod_one]
  | k + 1, n => by
    rw [bytesL_snoc, takeL_snoc, takeL_bytes k n, bytesL_length]
    have h1 : (UInt8.ofNat (hi n k)).toNat = hi n k % 256 := by simp
    rw [h1]
    unfold hi
    rw [Nat.pow_succ, Nat.mod_mul, Nat.mul_comm]
theorem takeL_bytes_of {n k : Nat} (h : n < 256 ^ k) : takeL (bytesL n k) = n := by rw [takeL_bytes, Nat.mod_eq_of_lt h]

/-- What of a text is a list's, from a place on. -/
theorem takeN_list {s : ByteArray} {p k m : Nat} {l : List UInt8} (hm : s.data.toList.take m = l) (hs : s.size = 512) (hm5 : m ≤ 512) (hp : p + k ≤ m) : takeN s p k = takeL ((l.drop p).take k) := by
  unfold takeN
  rw [if_pos (by omega)]
  congr 1
  unfold partS
  rw [← hm, List.drop_take, List.take_take, Nat.min_eq_left (by omega)]

theorem drop_ents : ∀ (l : List Ent) (i : Nat) (x : Ent) (z : List UInt8), l[i]? = some x → ∃ t, (l.flatMap entBy ++ z).drop (13 * i) = entBy x ++ t
  | [], i, x, z, h => by simp at h
  | y :: l, 0, x, z, h => by
    simp at h
    subst h
    exact ⟨l.flatMap entBy ++ z, by simp⟩
  | y :: l, i + 1, x, z, h => by
    simp only [List.getElem?_cons_succ] at h
    obtain ⟨t, ht⟩ := drop_ents l i x z h
    refine ⟨t, ?_⟩
    rw [List.flatMap_cons, List.append_assoc, show 13 * (i + 1) = (entBy y).length + 13 * i by rw [entBy_length]; omega, ← List.drop_drop, List.drop_left]
    exact ht

theorem dropB (n k : Nat) (t : List UInt8) : (bytesL n k ++ t).drop k = t := by
  have := List.drop_left (l₁ := bytesL n k) (l₂ := t)
  rwa [bytesL_length] at this
theorem takeB (n k : Nat) (t : List UInt8) : (bytesL n k ++ t).take k = bytesL n k := by
  have := List.take_left (l₁ := bytesL n k) (l₂ := t)
  rwa [bytesL_length] at this
theorem dropB2 (n k m : Nat) (t : List UInt8) : (bytesL n k ++ t).drop (k + m) = t.drop m := by rw [← List.drop_drop, dropB]

theorem ent_take (x : Ent) (t : List UInt8) (hk : 0 ≤ x.kind ∧ x.kind < 256) (hw : x.wf) :
    (takeL ((entBy x ++ t).take 1) : Int) = x.kind ∧ takeL (((entBy x ++ t).drop 1).take 4) = x.file ∧ takeL (((entBy x ++ t).drop 5).take 4) = x.idx ∧ takeL (((entBy x ++ t).drop 9).take 4) = x.vbn := by
  have e : entBy x ++ t = bytesL x.kind.toNat 1 ++ (bytesL x.file 4 ++ (bytesL x.idx 4 ++ (bytesL x.vbn 4 ++ t))) := by simp only [entBy, List.append_assoc]
  rw [e]
  refine ⟨?_, ?_, ?_, ?_⟩
  · rw [takeB, takeL_bytes_of (by omega)]
    omega
  · rw [dropB, takeB, takeL_bytes_of (by have := hw.file; omega)]
  · rw [dropB2 _ 1 4, dropB, takeB, takeL_bytes_of (by have := hw.idx; omega)]
  · rw [dropB2 _ 1 8, dropB2 _ 4 4, dropB, takeB, takeL_bytes_of (by have := hw.vbn; omega)]

theorem head_take (r : Rec) (t : List UInt8) (h1 : r.seq < 281474976710656) (h2 : r.cp < 281474976710656) (h3 : 0 ≤ r.next ∧ r.next ≤ 255) (h4 : r.l.length ≤ 15) :
    takeL (((headBy r ++ t).drop 1).take 6) = r.seq ∧ takeL (((headBy r ++ t).drop 7).take 6) = r.cp ∧ takeL (((headBy r ++ t).drop 13).take 1) = flagN r ∧ (takeL (((headBy r ++ t).drop 14).take 2) : Int) = r.next ∧ takeL (((headBy r ++ t).drop 16).take 1) = r.l.length := by
  have hfl : flagN r < 256 := by unfold flagN; split <;> (try split) <;> omega
  have e : ∀ m, (headBy r ++ t).drop (1 + m) = (bytesL r.seq 6 ++ (bytesL r.cp 6 ++ (bytesL (flagN r) 1 ++ (bytesL r.next.toNat 2 ++ (bytesL r.l.length 1 ++ t))))).drop m := by
    intro m
    rw [← List.drop_drop]
    congr 1
  refine ⟨?_, ?_, ?_, ?_, ?_⟩
  · rw [show (1 : Nat) = 1 + 0 from rfl, e, List.drop_zero, takeB, takeL_bytes_of (by omega)]
  · rw [show (7 : Nat) = 1 + 6 from rfl, e, dropB, takeB, takeL_bytes_of (by omega)]
  · rw [show (13 : Nat) = 1 + (6 + 6) from rfl, e, dropB2, dropB, takeB, takeL_bytes_of (by omega)]
  · rw [show (14 : Nat) = 1 + (6 + (6 + 1)) from rfl, e, dropB2, dropB2, dropB, takeB, takeL_bytes_of (by omega)]
    omega
  · rw [show (16 : Nat) = 1 + (6 + (6 + (1 + 2))) from rfl, e, dropB2, dropB2, dropB2, dropB, takeB, takeL_bytes_of (by omega)]

/-- **A right record is read as it was, whatever the second sector is.** -/
theorem back {r : Rec} (hr : rightB r = true) (hwf : r.wf) {s : ByteArray} (hs : s.size = 512) (h : s.extract 0 256 = sec256 r) : decR s = r ∧ okDec s = true := by
  obtain ⟨f1, f2, f3, f4, f5, f6, f7, f8, f9, f10⟩ := right_facts hr
  have hl : s.data.toList.take 256 = secL r ++ List.replicate (256 - (secL r).length) 0 := by
    have := congrArg (fun x : ByteArray => x.data.toList) h
    simp only [Lib.extract_data] at this
    simp only [Nat.sub_zero, List.drop_zero] at this
    rw [this]
    simp [sec256, strL, zeroN]
  have hsl := secL_length r
  have tk := fun p k (hp : p + k ≤ 256) => takeN_list (p := p) (k := k) hl hs (by omega) hp
  have he : secL r ++ List.replicate (256 - (secL r).length) 0 = headBy r ++ (r.l.flatMap entBy ++ List.replicate (256 - (secL r).length) 0) := by simp only [secL, List.append_assoc]
  obtain ⟨t1, t2, t3, t4, t5⟩ := head_take r (r.l.flatMap entBy ++ List.replicate (256 - (secL r).length) 0) f2 f4 ⟨f5, f6⟩ f8
  rw [← he] at t1 t2 t3 t4 t5
  have hN : entN s = r.l.length := by unfold entN; rw [tk 16 1 (by omega), t5]
  have hents : entsL s = r.l := by
    apply List.ext_getElem?
    intro i
    by_cases hi : i < r.l.length
    · rw [entsL_get (by rw [hN]; exact hi)]
      obtain ⟨x, hx⟩ : ∃ x, r.l[i]? = some x := ⟨_, List.getElem?_eq_getElem hi⟩
      rw [hx]
      obtain ⟨t, ht⟩ := drop_ents r.l i x (List.replicate (256 - (secL r).length) 0) hx
      have hd : ∀ p, (secL r ++ List.replicate (256 - (secL r).length) 0).drop (17 + 13 * i + p) = (entBy x ++ t).drop p := by
        intro p
        rw [he, ← List.drop_drop, ← List.drop_drop, show (17 : Nat) = (headBy r).length by rw [headBy_length], List.drop_left, ht]
      have hk := elem_kind (f10 i x hx)
      obtain ⟨g1, g2, g3, g4⟩ := ent_take x t ⟨by omega, by omega⟩ (hwf.l x (List.mem_of_getElem? hx))
      congr 1
      obtain ⟨k, f, ix, v⟩ := x
      simp only [entAt, Ent.mk.injEq]
      refine ⟨?_, ?_, ?_, ?_⟩
      · rw [tk (17 + 13 * i) 1 (by omega), show 17 + 13 * i = 17 + 13 * i + 0 from rfl, hd 0, List.drop_zero]
        exact g1
      · rw [tk (17 + 13 * i + 1) 4 (by omega), hd 1]
        exact g2
      · rw [tk (17 + 13 * i + 5) 4 (by omega), hd 5]
        exact g3
      · rw [tk (17 + 13 * i + 9) 4 (by omega), hd 9]
        exact g4
    · rw [List.getElem?_eq_none (by rw [entsL_length, hN]; omega), List.getElem?_eq_none (by omega)]
  have hdec : decR s = r := by
    have e1 := tk 1 6 (by omega)
    have e2 := tk 7 6 (by omega)
    have e3 := tk 13 1 (by omega)
    have e4 := tk 14 2 (by omega)
    rw [t1] at e1
    rw [t2] at e2
    rw [t3] at e3
    unfold decR
    rw [hents, List.take_of_length_le (by omega), e1, e2, e3]
    obtain ⟨sq, cp, en, sy, nx, L⟩ := r
    simp only [Rec.mk.injEq, true_and, and_true]
    refine ⟨?_, ?_, ?_⟩
    · cases en <;> cases sy <;> first | rfl | exact absurd ⟨rfl, rfl⟩ f9
    · cases en <;> cases sy <;> first | rfl | exact absurd ⟨rfl, rfl⟩ f9
    · rw [e4]
      exact t4
  refine ⟨hdec, ?_⟩
  unfold okDec
  rw [hdec, hr, sec_of_enc r f8, h]
  simp [hs]
theorem back_enc {r : Rec} (hr : rightB r = true) (hwf : r.wf) : decR (encS r) = r ∧ okDec (encS r) = true :=
  back hr hwf (encS_size r (by have := (right_facts hr).2.2.2.2.2.2.2.1; omega)) (sec_of_enc r ((right_facts hr).2.2.2.2.2.2.2.1))
theorem enc_inj {a b : Rec} (ha : rightB a = true) (hb : rightB b = true) (wa : a.wf) (wb : b.wf) (h : encS a = encS b) : a = b := by
  have h1 := (back_enc ha wa).1
  have h2 := (back_enc hb wb).1
  rw [← h1, ← h2, h]

theorem okDec_first {s : ByteArray} (h : okDec s = true) : s.data.toList[0]? = some 82 := by
  unfold okDec at h
  simp only [Bool.and_eq_true, decide_eq_true_eq] at h
  obtain ⟨h5, hr, he⟩ := h
  have hl := (right_facts hr).2.2.2.2.2.2.2.1
  rw [sec_of_enc _ hl] at he
  have := congrArg (fun x : ByteArray => x.data.toList[0]?) he
  simp only [Lib.extract_data, Nat.sub_zero, List.drop_zero] at this
  rw [List.getElem?_take, if_pos (by omega)] at this
  rw [← this]
  simp [sec256, strL, secL, headBy]
theorem isWrap_first {s : ByteArray} (h : isWrap s = true) : s.data.toList[0]? = some 80 := by
  unfold isWrap at h
  simp only [Bool.and_eq_true, decide_eq_true_eq] at h
  have := congrArg (fun l : List UInt8 => l[0]?) h.2
  simp only [List.getElem?_take] at this
  simpa using this
theorem apart (s : ByteArray) : okDec s = true → isWrap s = true → False := by
  intro h1 h2
  have := (okDec_first h1).symm.trans (isWrap_first h2)
  simp at this
theorem wrapS_size {c : ByteArray} (h : c.size ≤ 508) : (wrapS c).size = 512 := by
  unfold wrapS
  rw [ByteArray.size_append, ByteArray.size_append, pMark_size, zeroN_size]
  omega
theorem wrapS_list (c : ByteArray) : (wrapS c).data.toList = [80, 0, 0, 0] ++ (c.data.toList ++ List.replicate (508 - c.size) 0) := by
  simp [wrapS, pMark, zeroN]
theorem isWrap_wrap {c : ByteArray} (h : c.size ≤ 508) : isWrap (wrapS c) = true := by
  unfold isWrap
  rw [wrapS_size h, wrapS_list]
  simp
theorem unw_wrap {c : ByteArray} (h : c.size ≤ 508) : unwO (wrapS c) = c ++ zeroN (508 - c.size) := by
  unfold unwO
  rw [isWrap_wrap h, if_pos rfl, wrapS_list]
  apply ByteArray.ext
  simp [zeroN]
end Go.Proofs.Ytjpmohennekbaaa

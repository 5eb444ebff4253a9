/- Paths: a slice that is appended to and cut again; path.Split: contract over the given program. -/
import Derived.Test.YtliioeihbbhiiaaDoorHb
import Derived.ArgAppend
import Derived.OwnWalkIn
namespace Go.Proofs.YtliioeihbbhiiaaDoor
open Go.RowKit Go.Nau Go.Shelf
attribute [local go_sem] Oper.semAt_some

def strs (l : List ByteArray) : List Value := l.map .string
theorem strs_length (l : List ByteArray) : (strs l).length = l.length := by simp [strs]
/-- A slice of texts that may be appended to: a row of the call's own, or one that is full. -/
def OutR (W : World) (base : Nat) (v : Value) (l : List ByteArray) : Prop :=
  W.ownsRow base 9 1 v l.length (strs l) ∨ ∃ ad, v = .slice (some ad) l.length l.length ∧ l.length ≤ maxLen ∧ base ≤ ad.block ∧ ad.block < W.heap.size ∧ ∀ (j : Nat) (u : Value), (strs l)[j]? = some u → W.cell? (ad.add j) = some u
theorem OutR.nil (W : World) (base : Nat) : OutR W base (.slice none 0 0) [] := .inl ⟨rfl, .inl ⟨rfl, rfl⟩⟩
theorem OutR.form {W : World} {base : Nat} {v : Value} {l : List ByteArray} (h : OutR W base v l) : ∃ A c, v = .slice A l.length c ∧ l.length ≤ c ∧ c ≤ maxLen ∧ Rd (fun k => base ≤ k ∧ k < W.heap.size) W 1 A l.length (strs l) := by
  rcases h with h | ⟨ad, rfl, hm, hb, hl, hc⟩
  · obtain ⟨A, c, rfl, h1, h2, hrd⟩ := Go.Nau.Rd.of_own h
    refine ⟨A, c, rfl, h1, h2, hrd.1, fun hn => ?_⟩
    obtain ⟨ad, rfl, hb, hc⟩ := hrd.2 hn
    refine ⟨ad, rfl, ⟨hb, ?_⟩, hc⟩
    have h0 : 0 < (strs l).length := by rw [strs_length]; exact hn
    have := cell_lt (hc 0 _ (List.getElem?_eq_getElem h0))
    rwa [add_block] at this
  · exact ⟨some ad, _, rfl, Nat.le_refl _, hm, by rw [strs_length]; omega, fun _ => ⟨ad, rfl, ⟨hb, hl⟩, hc⟩⟩
theorem OutR.fr {W W' : World} {base : Nat} {S : Nat → Prop} {v : Value} {l : List ByteArray} (h : OutR W base v l) (hf : Fr S W W') (hS : ∀ k, base ≤ k → k < W.heap.size → (∃ cs t fz, W.heap[k]? = some (Obj.cells cs t fz)) → ¬ S k) : OutR W' base v l := by
  rcases h with h | ⟨ad, rfl, hm, hb, hl, hc⟩
  · refine .inl (Fr.own h hf (fun k hk => ?_))
    have := h.lt k hk
    refine hS k this.1 this.2 ?_
    rcases h.2 with ⟨rfl, _⟩ | ⟨g, cap, cur, rfl, _, hh, _⟩
    · cases hk
    · simp [Value.ownBlock] at hk
      subst hk
      exact ⟨_, _, _, hh⟩
  · refine .inr ⟨ad, rfl, hm, hb, Nat.lt_of_lt_of_le hl hf.size, fun j u hu => ?_⟩
    have hcell := hc j u hu
    refine hf.cell ?_ hcell
    rw [add_block]
    refine hS _ hb hl ?_
    have hk : (ad.add j).block = ad.block := add_block _ _
    cases ho : W.heap[ad.block]? with
    | none => rw [Array.getElem?_eq_none_iff] at ho; omega
    | some o =>
      cases o with
      | cells cs t fz => exact ⟨_, _, _, rfl⟩
      | _ => simp [World.cell?, hk, ho] at hcell
/-- 'append(v, x)'. -/
theorem OutR.append {W : World} {base : Nat} {v : Value} {l : List ByteArray} (h : OutR W base v l) (hbase : base ≤ W.heap.size) (x : ByteArray) (a : Addr) (ha : W.cell? a = some (.string x)) (hl : l.length ≤ 1000000) :
    ∃ v' w', (Builtin.append_ #[22, 22] 22 #[v, .slice (some a) 1 1]).run Tryd.prog W = .ok v' w' ∧ OutR w' base v' (l ++ [x]) ∧ Fr (base ≤ ·) W w' ∧ (∃ A c, v' = .slice A (l.length + 1) c) := by
  have hinfo : (Tryd.prog.info? 9).map (fun i => (i.zero, i.size, i.bytes)) = some (some (.string ⟨#[]⟩), 1, 16) := by kernel_rfl
  obtain ⟨i0, hi0, hz0, hz1, hz2⟩ := info_parts hinfo
  have hsn : strs (l ++ [x]) = strs l ++ [.string x] := by simp [strs]
  have hnews : ∀ (j : Nat) (u : Value), ([Value.string x] : List Value)[j]? = some u → W.cell? (a.add j) = some u := by
    intro j u hu
    cases j with
    | zero =>
      simp at hu
      subst hu
      rw [show a.add 0 = a by unfold Addr.add; simp]
      exact ha
    | succ j => simp at hu
  rcases h with h | ⟨ad, rfl, hm, hb, hlt, hc⟩
  · obtain ⟨v', w', hrun, h2, h3, h4, h5⟩ := run_append_own_at (P := Tryd.prog) W base 22 22 9 i0 _ 1 16 Tryd.underlying22 hi0 hz0 hz1 hz2 rfl (by decide) v l.length (strs l) h a 1 1 [.string x] rfl hnews (by simp [Value.oneCell']) (by unfold maxLen; omega) (by omega) hbase
    refine ⟨v', w', hrun, .inl (by rw [hsn, List.length_append]; exact h2), (Fr.of_grown h3).mono (fun k e => (h.lt k e.symm).1), ?_⟩
    obtain ⟨A, c, rfl, _⟩ := Go.Nau.Rd.of_own h2
    exact ⟨A, c, rfl⟩
  · obtain ⟨v', w', hrun, h2, h3⟩ := run_append_arg_grows (P := Tryd.prog) (w := W) 22 22 9 i0 _ 1 16 Tryd.underlying22 hi0 hz0 hz1 hz2 rfl (by decide) ad l.length l.length (strs l) (by rw [strs_length]; omega) hc a 1 1 [.string x] rfl hnews (by omega) (by unfold maxLen; omega) (by omega)
    refine ⟨v', w', hrun, .inl (by rw [hsn, List.length_append]; exact own_base h2 hbase), (Fr.of_grown h3).mono (fun k e => by cases e), ?_⟩
    obtain ⟨A, c, rfl, _⟩ := Go.Nau.Rd.of_own h2
    exact ⟨A, c, rfl⟩
/-- 'v[:n-1:n-1]'. -/
theorem OutR.cut {W : World} {base : Nat} {A : Option Addr} {n c : Nat} {l : List ByteArray} (h : OutR W base (.slice A (n + 1) c) l) (hn : l.length = n + 1) : OutR W base (.slice A n n) l.dropLast := by
  obtain ⟨A', c', hv, hc, hm, hrd⟩ := h.form
  injection hv with hA _ hcc
  subst hA hcc
  obtain ⟨ad, rfl, ⟨hb, hlt⟩, hcell⟩ := hrd.2 (by omega)
  have hd : l.dropLast.length = n := by rw [List.length_dropLast]; omega
  refine .inr ⟨ad, by rw [hd], by rw [hd]; omega, hb, hlt, fun j u hu => hcell j u ?_⟩
  have hj : j < (strs l.dropLast).length := (List.getElem?_eq_some_iff.1 hu).1
  rw [strs_length, hd] at hj
  rw [← hu]
  unfold strs
  rw [List.getElem?_map, List.getElem?_map, List.getElem?_dropLast, if_pos (by omega)]

/-! ### the parts of a path, plain -/
def upB (p : ByteArray) : Bool := p.toList == [46, 46]
def stepP (out : List ByteArray) (p : ByteArray) : List ByteArray := if upB p then out.dropLast else out ++ [p]
def runP (l : List ByteArray) : List ByteArray := l.foldl stepP []
def goodP (l : List ByteArray) : Bool := l.all fun p => upB p || nameB p
def splOk (s : ByteArray) : Bool := decide (s.size ≤ 1000) && (Lib.hasPrefix s.data.toList [47] && (goodP (piecesL s) && decide ((runP (piecesL s)).length ≤ 40)))
def splitL (s : ByteArray) : List ByteArray := if splOk s then runP (piecesL s) else []
def splitE (s : ByteArray) : Int := if splOk s then 0 else 120
theorem runP_snoc (l : List ByteArray) (p : ByteArray) : runP (l ++ [p]) = stepP (runP l) p := by simp [runP]
theorem runP_le (l : List ByteArray) : (runP l).length ≤ l.length := by
  unfold runP
  have h : ∀ (l out : List ByteArray), (l.foldl stepP out).length ≤ out.length + l.length := by
    intro l
    induction l with
    | nil => intro out; simp
    | cons p l ih =>
      intro out
      have := ih (stepP out p)
      simp only [List.foldl_cons, List.length_cons]
      unfold stepP at this ⊢
      split at this
      · rename_i h; rw [if_pos h]; rw [List.length_dropLast] at this; omega
      · rename_i h; rw [if_neg h]; simp at this; omega
  have := h l []
  simpa using this
theorem spl_length (l : List UInt8) : (spl l).length ≤ l.length + 1 := by
  induction l with
  | nil => simp [spl]
  | cons c r ih =>
    unfold spl
    split
    · simp; omega
    · split
      · rename_i h; rw [h] at ih; simp at ih ⊢; omega
      · simp
theorem piecesL_length (s : ByteArray) : (piecesL s).length ≤ s.size + 1 := by
  unfold piecesL
  refine Nat.le_trans (List.length_filter_le _ _) ?_
  unfold splB
  rw [List.length_map]
  have := spl_length s.data.toList
  rwa [dat_length] at this
end Go.Proofs.YtliioeihbbhiiaaDoor

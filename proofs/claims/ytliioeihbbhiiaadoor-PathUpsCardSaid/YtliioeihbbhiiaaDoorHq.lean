/- Paths: what was joined is split as it was; a path's parts joined are no longer than it: plain. -/
import Derived.Test.YtliioeihbbhiiaaDoorHp
import Derived.Test.YtliioeihbbhiiaaDoorHn
namespace Go.Proofs.YtliioeihbbhiiaaDoor
open Go.RowKit Go.Nau Go.Shelf

theorem nameB_clean {x : ByteArray} (h : nameB x = true) : (∀ c ∈ x.data.toList, c ≠ 47) ∧ keepB x = true ∧ upB x = false := by
  have hn := h
  unfold nameB at h
  simp only [Bool.and_eq_true, Bool.not_eq_true', decide_eq_true_eq] at h
  obtain ⟨h1, _, h3, h4, h5⟩ := h
  refine ⟨fun c hc => ?_, ?_, ?_⟩
  · unfold cleanL at h5
    have := List.all_eq_true.1 h5 c hc
    simp only [Bool.and_eq_true, Bool.not_eq_true'] at this
    simpa using this.2
  · unfold keepB
    rw [ByteArray.toList_eq, h3]
    have : (x.data.toList == []) = false := by
      cases hx : x.data.toList with
      | nil =>
        have := dat_length x
        rw [hx] at this
        simp at this
        omega
      | cons c r => rfl
    rw [this]
    rfl
  · unfold upB
    rw [ByteArray.toList_eq]
    exact h4

/-- The bytes of joined parts, cut again. -/
theorem spl_flat : ∀ {p : List ByteArray}, (∀ x ∈ p, ∀ c ∈ x.data.toList, c ≠ 47) → p ≠ [] → spl (flatB p) = [] :: p.map (·.data.toList)
  | [], _, h => absurd rfl h
  | [x], h, _ => by
    have e : flatB [x] = 47 :: x.data.toList := by simp [flatB]
    rw [e]
    conv => lhs; unfold spl
    rw [if_pos rfl, spl_all (h x (by simp))]
    rfl
  | x :: y :: r, h, _ => by
    have ih := spl_flat (p := y :: r) (fun z hz => h z (by simp only [List.mem_cons] at hz ⊢; exact .inr hz)) (by simp)
    have e : flatB (x :: y :: r) = 47 :: (x.data.toList ++ flatB (y :: r)) := by simp [flatB]
    obtain ⟨z, hz⟩ : ∃ z, flatB (y :: r) = 47 :: z := ⟨_, by simp only [flatB, List.flatMap_cons, List.cons_append]; rfl⟩
    rw [e, hz]
    rw [hz] at ih
    have e2 : spl (47 :: z) = [] :: spl z := by conv => lhs; unfold spl
                                                rw [if_pos rfl]
    rw [e2] at ih
    injection ih with _ ih
    conv => lhs; unfold spl
    rw [if_pos rfl, spl_app _ (h x (by simp)), ih]
    rfl
theorem map_txt (p : List ByteArray) : (p.map (·.data.toList)).map txt = p := by
  rw [List.map_map]
  conv => rhs; rw [← List.map_id p]
  exact List.map_congr_left (fun x _ => txt_of x)
theorem keep_nil : keepB (txt []) = false := by
  unfold keepB
  rw [ByteArray.toList_eq]
  rfl
theorem piecesL_join {p : List ByteArray} (h : p.all nameB = true) : piecesL (joinB p) = p := by
  have hall := List.all_eq_true.1 h
  have hf : p.filter keepB = p := List.filter_eq_self.2 (fun x hx => (nameB_clean (hall x hx)).2.1)
  unfold piecesL splB joinB
  by_cases h0 : p = []
  · subst h0
    rw [if_pos rfl]
    show (([[], []] : List (List UInt8)).map txt).filter keepB = []
    simp [keep_nil]
  · rw [if_neg h0]
    show ((spl (flatB p)).map txt).filter keepB = p
    rw [spl_flat (fun x hx => (nameB_clean (hall x hx)).1) h0, List.map_cons, map_txt, List.filter_cons, keep_nil]
    simpa using hf
theorem runP_names {p : List ByteArray} (h : p.all nameB = true) : runP p = p ∧ goodP p = true := by
  have hall := List.all_eq_true.1 h
  constructor
  · have : ∀ (l out : List ByteArray), (∀ x ∈ l, upB x = false) → l.foldl stepP out = out ++ l := by
      intro l
      induction l with
      | nil => intro out _; simp
      | cons x l ih =>
        intro out hx
        rw [List.foldl_cons, ih _ (fun y hy => hx y (by simp [hy]))]
        unfold stepP
        rw [hx x (by simp)]
        simp
    have := this p [] (fun x hx => (nameB_clean (hall x hx)).2.2)
    simpa [runP] using this
  · unfold goodP
    exact List.all_eq_true.2 (fun x hx => by rw [hall x hx]; simp)
theorem join_pfx (p : List ByteArray) : Lib.hasPrefix (joinB p).data.toList [47] = true := by
  unfold joinB
  split
  · rfl
  · rename_i h
    cases p with
    | nil => exact absurd rfl h
    | cons x r => simp [Lib.hasPrefix, flatB, List.isPrefixOf]
/-- What was joined is split as it was. -/
theorem join_split {p : List ByteArray} (h : joinE p = 0) : splitE (joinS p) = 0 ∧ splitL (joinS p) = p := by
  have hok : joinOk p = true := by
    unfold joinE at h
    split at h
    · assumption
    · cases h
  rw [(joinOk_good hok).1]
  unfold joinOk at hok
  simp only [Bool.and_eq_true, decide_eq_true_eq] at hok
  obtain ⟨h1, h2, h3⟩ := hok
  have hs : splOk (joinB p) = true := by
    unfold splOk
    rw [piecesL_join h2, (runP_names h2).1, (runP_names h2).2, join_pfx, decide_eq_true h1, decide_eq_true h3]
    rfl
  unfold splitE splitL
  rw [hs, piecesL_join h2, (runP_names h2).1]
  exact ⟨rfl, rfl⟩

/-- The room that parts take. -/
def wt (l : List (List UInt8)) : Nat := (l.map (fun x => x.length + 1)).sum
theorem wt_spl : ∀ l : List UInt8, wt (spl l) = l.length + 1
  | [] => rfl
  | c :: r => by
    have ih := wt_spl r
    unfold spl
    split
    · unfold wt at ih ⊢
      simp only [List.map_cons, List.sum_cons, List.length_nil, List.length_cons]
      omega
    · split
      · rename_i p ps hps
        rw [hps] at ih
        unfold wt at ih ⊢
        simp only [List.map_cons, List.sum_cons, List.length_cons] at ih ⊢
        omega
      · rename_i hps
        exact absurd hps (spl_ne r)
def wB (l : List ByteArray) : Nat := (l.map (fun x => x.data.toList.length + 1)).sum
theorem wB_flat (l : List ByteArray) : (flatB l).length = wB l := by
  unfold flatB wB
  induction l with
  | nil => rfl
  | cons x l ih => simp only [List.flatMap_cons, List.length_append, List.length_cons, List.map_cons, List.sum_cons, ih]
theorem wB_filter (l : List ByteArray) (f : ByteArray → Bool) : wB (l.filter f) ≤ wB l := by
  unfold wB
  induction l with
  | nil => simp
  | cons x l ih =>
    rw [List.filter_cons]
    split
    · simp only [List.map_cons, List.sum_cons]; omega
    · simp only [List.map_cons, List.sum_cons]; omega
theorem wB_append (l m : List ByteArray) : wB (l ++ m) = wB l + wB m := by simp [wB]
theorem wB_dropLast (l : List ByteArray) : wB l.dropLast ≤ wB l := by
  rcases List.eq_nil_or_concat l with rfl | ⟨m, x, rfl⟩
  · simp
  · rw [List.concat_eq_append, List.dropLast_concat, wB_append]; omega
theorem wB_run (l : List ByteArray) : wB (runP l) ≤ wB l := by
  have : ∀ (l out : List ByteArray), wB (l.foldl stepP out) ≤ wB out + wB l := by
    intro l
    induction l with
    | nil => intro out; simp [wB]
    | cons x l ih =>
      intro out
      rw [List.foldl_cons]
      refine Nat.le_trans (ih _) ?_
      unfold stepP
      split
      · have := wB_dropLast out
        unfold wB at *
        simp only [List.map_cons, List.sum_cons]; omega
      · rw [wB_append]
        unfold wB at *
        simp only [List.map_cons, List.sum_cons, List.map_nil, List.sum_nil]; omega
  have := this l []
  simpa [runP, wB] using this
theorem run_names {l : List ByteArray} (h : goodP l = true) : (runP l).all nameB = true := by
  have : ∀ (l out : List ByteArray), goodP l = true → out.all nameB = true → (l.foldl stepP out).all nameB = true := by
    intro l
    induction l with
    | nil => intro out _ h; exact h
    | cons x l ih =>
      intro out hg ho
      unfold goodP at hg
      rw [List.all_cons, Bool.and_eq_true] at hg
      rw [List.foldl_cons]
      refine ih _ hg.2 ?_
      unfold stepP
      split
      · exact List.all_eq_true.2 (fun y hy => List.all_eq_true.1 ho y (List.dropLast_subset _ hy))
      · rename_i hu
        rw [List.all_append, ho]
        have := hg.1
        rw [Bool.or_eq_true] at this
        rcases this with h1 | h1
        · exact absurd h1 hu
        · simp [h1]
  exact this l [] h rfl
/-- A path's parts joined. -/
theorem split_join {s : ByteArray} (h : splitE s = 0) : joinE (splitL s) = 0 ∧ (joinS (splitL s)).size ≤ max 1 s.size := by
  have hok : splOk s = true := by
    unfold splitE at h
    split at h
    · assumption
    · cases h
  have hL : splitL s = runP (piecesL s) := by unfold splitL; rw [hok]; rfl
  rw [hL]
  unfold splOk at hok
  simp only [Bool.and_eq_true, decide_eq_true_eq] at hok
  obtain ⟨h1, h2, h3, h4⟩ := hok
  have hw : wB (piecesL s) ≤ s.size := by
    cases hd : s.data.toList with
    | nil => rw [hd] at h2; simp [Lib.hasPrefix, List.isPrefixOf] at h2
    | cons c r =>
      rw [hd] at h2
      have hc : c = 47 := by
        simp [Lib.hasPrefix, List.isPrefixOf] at h2
        exact h2.symm
      subst hc
      have e : splB s = txt [] :: (spl r).map txt := by
        unfold splB
        rw [hd]
        conv => lhs; unfold spl
        rw [if_pos rfl]
        rfl
      have hz : s.size = r.length + 1 := by rw [← dat_length, hd]; rfl
      unfold piecesL
      rw [e, List.filter_cons, keep_nil]
      refine Nat.le_trans (wB_filter _ _) ?_
      have := wt_spl r
      have e2 : wB ((spl r).map txt) = wt (spl r) := by
        unfold wB wt
        rw [List.map_map]
        congr 1
      rw [e2, this, hz]
      exact Nat.le_refl _
  have hrun := wB_run (piecesL s)
  have hsz : (joinB (runP (piecesL s))).size ≤ max 1 s.size := by
    unfold joinB
    split
    · exact Nat.le_max_left _ _
    · show (flatB (runP (piecesL s))).toArray.size ≤ _
      rw [List.size_toArray, wB_flat]
      omega
  have hj : joinOk (runP (piecesL s)) = true := by
    unfold joinOk
    rw [decide_eq_true h4, run_names h3, decide_eq_true (by omega)]
    rfl
  rw [(joinOk_good hj).1, (joinOk_good hj).2]
  exact ⟨rfl, hsz⟩

theorem back_law (s : ByteArray) (A : Option Addr) (n c : Nat) (l : List ByteArray) (w : World) (hs : s.size ≤ maxLen) (hr : Rd (· < w.heap.size) w 1 A n (strs l)) (hl : l.length = n) (hn : n ≤ c) (hc : c ≤ maxLen) :
    Calls Tryd.prog 5 #[.slice A n c, .string s] w fun e w' => e = .returned (.bool true) ∧ Below w.heap.size w w' := by
  obtain ⟨m, ea, ka, ra⟩ := cut_ex (k := 50) hr hl
  obtain ⟨ms, es, es2, es3, es4, es5⟩ := cutB_ex s 2000 hs
  generalize l.take 50 = p at *
  unfold maxLen at hs hc
  have hpm : p.length ≤ maxLen := by unfold maxLen; omega
  obtain ⟨t, ht⟩ : ∃ t, t = s.extract 0 ms := ⟨_, rfl⟩
  have hML := joinL_len (splitL_len t)
  have hjs : ∀ q : List ByteArray, (joinS q).size ≤ 9223372036854775807 := fun q => by have := joinS_size q; omega
  have hse : ∀ q : ByteArray, splitE q = 0 ∨ splitE q = 120 := fun q => by unfold splitE; split <;> simp
  have hN : splitE t = 0 → splitL (joinS (splitL t)) = splitL t := fun h => (join_split (split_join h).1).2
  have hNL := joinL_len (splitL_len (joinS (splitL t)))
  refine back_core s t ms A n c m (splitL (joinS p)) (splitL t) (splitL (joinS (splitL t))) (joinS p) (joinS (splitL t)) (joinE p) (splitE (joinS p)) (splitE t) (joinE (splitL t)) (splitE (joinS (splitL t))) w ⟨by omega, by omega⟩ ⟨es2, by omega⟩ ⟨es3, by omega⟩ ht.symm ?_ ?_ (fun W => shown_any W)
    (fun W h => ?_) (fun W => split_out _ (hjs p) W) (fun W => split_out t (ht ▸ es4) W) (fun B d W h h2 => join_any (splitL t) B d W h h2 hML) (fun W => split_out _ (hjs _) W) (fun h B d W hb hr2 => ?_) (fun h A2 B c2 d W ha hb => ?_) (fun h A2 B c2 d W ha hb => ?_) (fun h A2 B c2 d W ha hb => ?_)
  · rcases joinE_cases p with h | h
    · exact .inr ⟨h, (join_split h).1⟩
    · exact .inl h
  · rcases hse t with h | h
    · have h1 := split_join h
      exact .inr ⟨h, h1.1, (join_split h1.1).1, by have := h1.2; omega⟩
    · exact .inl h
  · rw [← ka] at ra ⊢
    exact join_any p A c W (rd_on ra h) (by omega) hpm
  · rw [← ka] at ra ⊢
    have h1 := (join_split h).2
    rw [h1] at hr2 ⊢
    have := same_out p p hpm hpm B A d c W hr2 (rd_on ra hb)
    rwa [sameB_iff.2 rfl] at this
  · have := same_out _ _ hNL hML A2 B c2 d W ha hb
    rwa [sameB_iff.2 (hN h)] at this
  · have := within_any (splitL t) (splitL (joinS (splitL t))) B A2 d c2 W hb ha hML
    have e : wthB (splitL t) (splitL (joinS (splitL t))) = true := wthB_iff.2 (by rw [hN h]; exact List.prefix_rfl)
    rwa [e] at this
  · have := within_any (splitL (joinS (splitL t))) (splitL t) A2 B c2 d W ha hb hNL
    have e : wthB (splitL (joinS (splitL t))) (splitL t) = true := wthB_iff.2 (by rw [hN h]; exact List.prefix_rfl)
    rwa [e] at this
end Go.Proofs.YtliioeihbbhiiaaDoor

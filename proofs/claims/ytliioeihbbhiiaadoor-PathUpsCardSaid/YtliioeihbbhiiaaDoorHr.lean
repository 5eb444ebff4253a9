/- Paths: a name and the one up; parts joined behind each other: plain; the law PathUps walked. -/
import Derived.Test.YtliioeihbbhiiaaDoorHq
namespace Go.Proofs.YtliioeihbbhiiaaDoor
open Go.RowKit Go.Nau Go.Shelf
attribute [local go_sem] Oper.semAt_some

theorem splB_list (l : List UInt8) : splB ⟨l.toArray⟩ = (spl l).map txt := by unfold splB; simp
theorem pieces_slash (r : List UInt8) : piecesL ⟨(47 :: r).toArray⟩ = ((spl r).map txt).filter keepB := by
  unfold piecesL
  rw [splB_list]
  conv => lhs; unfold spl
  rw [if_pos rfl, List.map_cons, List.filter_cons, keep_nil]
  rfl
theorem keep_up : keepB (txt [46, 46]) = true ∧ upB (txt [46, 46]) = true := by
  unfold keepB upB
  rw [ByteArray.toList_eq]
  exact ⟨rfl, rfl⟩
/-- A name and the one up take each other back. -/
theorem ups_plain (name s : ByteArray) (hn : nameB name = true) (hs : s.size ≤ 500) :
    splitL (⟨#[47]⟩ ++ name ++ ⟨#[47, 46, 46, 47]⟩ ++ s) = splitL (⟨#[47]⟩ ++ s) ∧ splitE (⟨#[47]⟩ ++ name ++ ⟨#[47, 46, 46, 47]⟩ ++ s) = splitE (⟨#[47]⟩ ++ s) := by
  have hc := nameB_clean hn
  have hnl := nameB_len hn
  have e1 : (⟨#[47]⟩ ++ s : ByteArray) = ⟨(47 :: s.data.toList).toArray⟩ := by
    apply ByteArray.ext
    apply Array.toList_inj.mp
    rw [ByteArray.data_append, Array.toList_append]
    rfl
  have e2 : (⟨#[47]⟩ ++ name ++ ⟨#[47, 46, 46, 47]⟩ ++ s : ByteArray) = ⟨(47 :: (name.data.toList ++ 47 :: ([46, 46] ++ 47 :: s.data.toList))).toArray⟩ := by
    apply ByteArray.ext
    apply Array.toList_inj.mp
    rw [ByteArray.data_append, Array.toList_append, ByteArray.data_append, Array.toList_append, ByteArray.data_append, Array.toList_append]
    simp
  have p1 := pieces_slash s.data.toList
  have p2 := pieces_slash (name.data.toList ++ 47 :: ([46, 46] ++ 47 :: s.data.toList))
  rw [spl_app _ hc.1, spl_app _ (by decide), List.map_cons, List.map_cons, txt_of, List.filter_cons, hc.2.1, List.filter_cons, keep_up.1] at p2
  simp only [if_true] at p2
  rw [← p1, ← e1, ← e2] at p2
  have hr : runP (piecesL (⟨#[47]⟩ ++ name ++ ⟨#[47, 46, 46, 47]⟩ ++ s)) = runP (piecesL (⟨#[47]⟩ ++ s)) := by
    rw [p2]
    unfold runP
    rw [List.foldl_cons, List.foldl_cons]
    congr 1
    unfold stepP
    rw [hc.2.2, keep_up.2]
    rfl
  have hg : goodP (piecesL (⟨#[47]⟩ ++ name ++ ⟨#[47, 46, 46, 47]⟩ ++ s)) = goodP (piecesL (⟨#[47]⟩ ++ s)) := by
    rw [p2]
    unfold goodP
    rw [List.all_cons, List.all_cons, hn, keep_up.2]
    simp
  have hz1 : (⟨#[47]⟩ ++ s : ByteArray).size ≤ 1000 := by
    rw [ByteArray.size_append]
    have : (⟨#[47]⟩ : ByteArray).size = 1 := rfl
    omega
  have hz2 : (⟨#[47]⟩ ++ name ++ ⟨#[47, 46, 46, 47]⟩ ++ s : ByteArray).size ≤ 1000 := by
    rw [ByteArray.size_append, ByteArray.size_append, ByteArray.size_append]
    have h1 : (⟨#[47]⟩ : ByteArray).size = 1 := rfl
    have h2 : (⟨#[47, 46, 46, 47]⟩ : ByteArray).size = 4 := rfl
    rw [dat_length] at hnl
    omega
  have hp1 : Lib.hasPrefix (⟨#[47]⟩ ++ s : ByteArray).data.toList [47] = true := by rw [e1]; rfl
  have hp2 : Lib.hasPrefix (⟨#[47]⟩ ++ name ++ ⟨#[47, 46, 46, 47]⟩ ++ s : ByteArray).data.toList [47] = true := by rw [e2]; rfl
  have ho : splOk (⟨#[47]⟩ ++ name ++ ⟨#[47, 46, 46, 47]⟩ ++ s) = splOk (⟨#[47]⟩ ++ s) := by
    unfold splOk
    rw [hr, hg, hp1, hp2, decide_eq_true hz1, decide_eq_true hz2]
  unfold splitL splitE
  rw [ho, hr]
  exact ⟨rfl, rfl⟩
theorem join_one {name : ByteArray} (h : joinE [name] = 0) : nameB name = true := by
  unfold joinE at h
  split at h
  · rename_i hk
    unfold joinOk at hk
    simp only [Bool.and_eq_true, List.all_cons] at hk
    exact hk.2.1.1
  · cases h
/-- Parts joined behind each other. -/
theorem join_both {a b : List ByteArray} (ha : joinE a = 0) (hb : joinE b = 0) (h1 : a ≠ []) (h2 : b ≠ []) (hl : a.length + b.length ≤ 40) (hz : (joinS a).size + (joinS b).size ≤ 1000) : joinE (a ++ b) = 0 ∧ joinS (a ++ b) = joinS a ++ joinS b := by
  have hka : joinOk a = true := by unfold joinE at ha; split at ha; assumption; cases ha
  have hkb : joinOk b = true := by unfold joinE at hb; split at hb; assumption; cases hb
  rw [(joinOk_good hka).1, (joinOk_good hkb).1] at hz ⊢
  have e : joinB (a ++ b) = joinB a ++ joinB b := by
    unfold joinB
    rw [if_neg (by simp [h1]), if_neg h1, if_neg h2]
    apply ByteArray.ext
    apply Array.toList_inj.mp
    rw [ByteArray.data_append, Array.toList_append]
    simp [flatB]
  have hk : joinOk (a ++ b) = true := by
    unfold joinOk at hka hkb ⊢
    simp only [Bool.and_eq_true, decide_eq_true_eq] at hka hkb ⊢
    refine ⟨by rw [List.length_append]; exact hl, ?_, ?_⟩
    · rw [List.all_append, hka.2.1, hkb.2.1]; rfl
    · rw [e, ByteArray.size_append]; exact hz
  rw [(joinOk_good hk).1, (joinOk_good hk).2, e]
  exact ⟨rfl, rfl⟩
theorem both_in (a b : List ByteArray) : wthB a (a ++ b) = true := wthB_iff.2 (List.prefix_append a b)
theorem both_out {a b : List ByteArray} (h : b ≠ []) : wthB (a ++ b) a = false := wthB_len (by
  rw [List.length_append]
  have := List.length_pos_iff.2 h
  omega)
end Go.Proofs.YtliioeihbbhiiaaDoor

/- Paths: the law PathUps: over the given program. -/
import Derived.Test.YtliioeihbbhiiaaDoorHs
namespace Go.Proofs.YtliioeihbbhiiaaDoor
open Go.RowKit Go.Nau Go.Shelf

theorem rd_name (x : ByteArray) (V : World) : Rd (· < (V.alloc (.cells #[.string x] 9)).heap.size) (V.alloc (.cells #[.string x] 9)) 1 (some ⟨V.heap.size, 0, none⟩) 1 (strs [x]) := (rd_one x V).inb.mono (fun _ h => h.2)
theorem ups_law (name s : ByteArray) (A B : Option Addr) (na ca nb cb : Nat) (la lb : List ByteArray) (w : World) (hn : name.size ≤ maxLen) (hs : s.size ≤ maxLen) (hra : Rd (· < w.heap.size) w 1 A na (strs la)) (hrb : Rd (· < w.heap.size) w 1 B nb (strs lb))
    (hla : la.length = na) (hlb : lb.length = nb) (hna : na ≤ ca) (hnb : nb ≤ cb) (hca : ca ≤ maxLen) (hcb : cb ≤ maxLen) (hnz : name.size ≤ 9000000000000000000) :
    Calls Tryd.prog 6 #[.string name, .string s, .slice A na ca, .slice B nb cb] w fun e w' => e = .returned (.bool true) ∧ Below w.heap.size w w' := by
  obtain ⟨ma, ea, ka, ra⟩ := cut_ex (k := 20) hra hla
  obtain ⟨mb, eb, kb, rb⟩ := cut_ex (k := 20) hrb hlb
  obtain ⟨ms, es, es2, es3, es4, es5⟩ := cutB_ex s 500 hs
  generalize la.take 20 = a at *
  generalize lb.take 20 = b at *
  unfold maxLen at hs hca hcb
  have ham : a.length ≤ maxLen := by unfold maxLen; omega
  have hbm : b.length ≤ maxLen := by unfold maxLen; omega
  have habl : (a ++ b).length ≤ maxLen := by rw [List.length_append]; unfold maxLen; omega
  obtain ⟨t, ht⟩ : ∃ t, t = s.extract 0 ms := ⟨_, rfl⟩
  rw [← ht] at es4 es5
  have z1 : (⟨#[47]⟩ : ByteArray).size = 1 := rfl
  have z4 : (⟨#[47, 46, 46, 47]⟩ : ByteArray).size = 4 := rfl
  have hx := joinS_size a
  have hy := joinS_size b
  refine ups_core name s t ms A B na ca ma nb cb mb (a ++ b) (splitL (⟨#[47]⟩ ++ t)) (splitL (⟨#[47]⟩ ++ name ++ ⟨#[47, 46, 46, 47]⟩ ++ t)) (joinS [name]) (joinS a) (joinS b) (joinS (a ++ b)) (splitE (⟨#[47]⟩ ++ t)) (splitE (⟨#[47]⟩ ++ name ++ ⟨#[47, 46, 46, 47]⟩ ++ t)) (joinE [name]) (joinE a) (joinE b) (joinE (a ++ b)) w
    ⟨by omega, by omega, by omega, by omega⟩ ⟨es2, by omega, by omega⟩ ⟨es3, by omega, by omega, by omega, by omega⟩ ht.symm ⟨by omega, by omega, by omega⟩ ?_ ?_ (fun W => shown_any W)
    (fun W => split_out _ (by rw [ByteArray.size_append]; omega) W) (fun W => split_out _ (by rw [ByteArray.size_append, ByteArray.size_append, ByteArray.size_append]; omega) W) (fun W => ?_) (fun h P Q c d W hp hq => ?_) (fun W h => ?_) (fun W h => ?_) (fun W h => ?_) (fun P c W h h2 => join_any (a ++ b) P c W h h2 habl) (fun h P c W hb hp => ?_) (fun h P c W hb hp => ?_)
  · rcases joinE_cases [name] with h | h
    · have hnm := join_one h
      have h59 := nameB_len hnm
      rw [dat_length] at h59
      exact .inr ⟨h, (ups_plain name t hnm es5).2, by omega⟩
    · exact .inl h
  · rcases joinE_cases a with h | h
    · rcases joinE_cases b with k | k
      · by_cases m1 : ma = 0
        · exact .inr (.inr (.inl ⟨h, k, m1⟩))
        · by_cases m2 : mb = 0
          · exact .inr (.inr (.inr (.inl ⟨h, k, m1, m2⟩)))
          · by_cases hz : (joinS a).size + (joinS b).size ≤ 1000
            · have hab := join_both h k (by rintro rfl; exact m1 ka.symm) (by rintro rfl; exact m2 kb.symm) (by omega) hz
              exact .inr (.inr (.inr (.inr (.inr ⟨h, k, m1, m2, by omega, hab.1, hab.2⟩))))
            · exact .inr (.inr (.inr (.inr (.inl ⟨h, k, m1, m2, by omega⟩))))
      · exact .inr (.inl ⟨h, k⟩)
    · exact .inl h
  · have hal : Below W.heap.size W (W.alloc (.cells #[.string name] 9)) := (Below.refl _ W).alloc (Nat.le_refl _) _
    exact (join_any [name] (some ⟨W.heap.size, 0, none⟩) 1 _ (rd_name name W) (Nat.le_refl _) (by unfold maxLen; simp)).mono (fun e w' ⟨h1, h2⟩ => ⟨h1, hal.trans (h2.mono hal.size)⟩)
  · have hnm := join_one h
    have := same_out _ _ (joinL_len (splitL_len _)) (joinL_len (splitL_len _)) P Q c d W hp hq
    rwa [sameB_iff.2 (ups_plain name t hnm es5).1.symm] at this
  · rw [← ka] at ra ⊢
    exact join_any a A ca W (rd_on ra h) (by omega) ham
  · rw [← kb] at rb ⊢
    exact join_any b B cb W (rd_on rb h) (by omega) hbm
  · rw [← ka] at ra ⊢
    rw [← kb] at rb ⊢
    exact both_run A B ca cb a b W (rd_on ra h) (rd_on rb h) (by omega) (by omega)
  · rw [← ka] at ra ⊢
    have := within_any a (a ++ b) A P ca c W (rd_on ra hb) hp ham
    rwa [both_in] at this
  · rw [← ka] at ra ⊢
    have := within_any (a ++ b) a P A c ca W hp (rd_on ra hb) habl
    rwa [both_out (by rintro rfl; exact h kb.symm)] at this
end Go.Proofs.YtliioeihbbhiiaaDoor

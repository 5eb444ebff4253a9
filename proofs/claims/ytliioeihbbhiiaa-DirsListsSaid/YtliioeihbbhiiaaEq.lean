/- Directories: SortFunc at names, dirs.List: contracts over the given program. -/
import Derived.Test.YtliioeihbbhiiaaEp
namespace Go.Proofs.Ytliioeihbbhiiaa
open Go.RowKit Go.Nau Go.Shelf
attribute [local go_sem] Oper.semAt_some

theorem perm_of {d d' : Array Nm} (h : Go.Sort.PermIn 0 d.size d d') : d'.toList.Perm d.toList := by
  obtain ⟨hsz, _, hp⟩ := h
  have e1 : d'.extract 0 d.size = d' := by rw [← hsz]; exact Array.extract_size
  rw [e1, Array.extract_size] at hp
  exact hp
theorem sorted_of {d : Array Nm} {n : Nat} (h : Go.Sort.SortedIn ltN 0 n d) (hn : d.size = n) : d.toList.Pairwise (fun x y => (!ltN y x) = true) := by
  rw [List.pairwise_iff_getElem]
  intro i j hi hj hij
  rw [Array.length_toList] at hi hj
  have := h i j (Nat.zero_le _) hij (by omega)
  rw [getElem!_pos d j hj, getElem!_pos d i hi] at this
  rw [Array.getElem_toList, Array.getElem_toList, this]
  rfl

theorem sort_any (l : List Nm) (A : Option Addr) (c base : Nat) (w : World) (h : w.ownsRow base 40 2 (.slice A l.length c) l.length (nmC l)) (hd : DistN l) (hl : l.length ≤ 1000000) :
    Calls Try.prog 31 #[.slice A l.length c, .func (.func 32) #[] #[]] w fun e w' =>
      e = .returned (.tuple #[]) ∧ w'.ownsRow base 40 2 (.slice A l.length c) l.length (nmC (sortN l)) ∧ Fr (fun k => base ≤ k) w w' := by
  by_cases hn : 0 < l.length
  · obtain ⟨g, cap, cur, hv, hb, hh, hnc, hcm, hsz, ht⟩ := own_form h hn
    simp only [Value.slice.injEq, true_and] at hv
    obtain ⟨rfl, rfl⟩ := hv
    have hlt := (Array.getElem?_eq_some_iff.1 hh).1
    have hcmp : CmpLays Try.prog 32 #[] nmL 2 (fun x y : Nm => cmpI x.name y.name) g 0 l.toArray.size w := by
      intro m os dk _ x y
      refine (listcmp_any x y _).mono ?_
      rintro e w' ⟨rfl, rfl⟩
      exact ⟨rfl, 0, _, rfl⟩
    have hS := AnyQ.slices_SortFunc Try.sortL 2 (fun w => by simp [Try.sortL_ren, Try.isAgg40]) (fun w => by simp [Try.sortL_ren, Try.sizeOf40]) nmL (fun x => rfl) (fun x v hv => by simp [nmL] at hv; rcases hv with rfl | rfl <;> rfl) (fun x y : Nm => cmpI x.name y.name) (by rw [ltOf_cmp]; exact swoN) 32 #[] g 0 c l.toArray w
      (enters_of Try.func32 (by kernel_rfl) rfl) hcmp (sort_holds h hn rfl) hlt (by simp; omega)
    have hS' : Calls Try.prog 31 #[.slice (some ⟨g, 0, none⟩) l.length c, .func (.func 32) #[] #[]] w _ := hS
    refine hS'.mono ?_
    rintro e w' ⟨rfl, d', n, os, hp, hs, rfl⟩
    rw [ltOf_cmp] at hs
    have hsz' : d'.size = l.length := by rw [hp.1]; simp
    have hu := sortN_unique hd (by simpa using perm_of hp) (sorted_of hs (by rw [hp.1]))
    refine ⟨rfl, ?_, (sort_fr w g n d' os).mono (fun k e => by omega)⟩
    rw [← hu]
    exact sort_own h hn hsz'
  · have h0 : l = [] := List.eq_nil_of_length_eq_zero (by omega)
    subst h0
    have hS := AnyF.slices_SortFunc_none Try.sortL A c (.func (.func 32) #[] #[]) w
    have hS' : Calls Try.prog 31 #[.slice A 0 c, .func (.func 32) #[] #[]] w _ := hS
    refine hS'.mono ?_
    rintro e w' ⟨rfl, rfl⟩
    have e0 : sortN [] = [] := by unfold sortN; simp
    exact ⟨rfl, by rw [e0]; exact h, Fr.refl _ _⟩

def LPost (w : World) (s : ByteArray) (e : Ending) (w' : World) : Prop :=
  ∃ v, e = .returned (.tuple #[v, .int .i64 (readE s)]) ∧ w'.ownsRow w.heap.size 40 2 v (namesL s).length (nmC (sortN (namesL s))) ∧ Below w.heap.size w w'
theorem names_dist (s : ByteArray) : DistN (namesL s) := by
  cases h : rdOk s
  · unfold namesL readL
    rw [h]
    intro x hx
    simp at hx
  · exact (rdOk_good h).1.dist

def LRel (w1 : World) (l : List De) (k : Nat) (v i : Value) (wr : World) : Prop :=
  ∃ j : Nat, k = l.length - j ∧ i = .int .i64 j ∧ j ≤ l.length ∧ wr.ownsRow w1.heap.size 40 2 v j (nmC ((l.take j).map toNm)) ∧ Below w1.heap.size w1 wr

set_option maxHeartbeats 2000000 in
set_option maxRecDepth 100000 in
theorem dlist_any (s : ByteArray) (hs : s.size ≤ 9223372036854775807) (w : World) : Calls Try.prog 20 #[.string s] w (LPost w s) := by
  obtain ⟨i0, hi0, hz0, hz1, hz2⟩ := info_parts infoNm
  have HR := Lib.hid (fun W => read_any s hs W)
  have hll := readL_le s
  have hsort := fun (A : Option Addr) (c base : Nat) (W : World) (h : W.ownsRow base 40 2 (.slice A (namesL s).length c) (namesL s).length (nmC (namesL s))) => sort_any (namesL s) A c base W h (names_dist s) (by rw [namesL_length]; omega)
  have hnn : namesL s = (readL s).map toNm := rfl
  unfold LPost
  rw [namesL_length] at hsort ⊢
  rw [hnn] at hsort
  have HS := Lib.hid hsort
  generalize hln : sortN (namesL s) = ln at *
  rw [hnn] at hln
  rw [hln] at HS
  clear hsort hnn hln
  unfold RdPost at HR
  generalize readL s = l at *
  generalize readE s = re at *
  have hli : (l.length : Int) ≤ 20001 := by omega
  go_enter Try.func20, Try.ntmps20
  go_wp2_with fail
  refine (HR.out _).mono ?_
  rintro e w1 ⟨A, c, rfl, hc, hrd, hb1⟩
  have HRD := Lib.hid hrd
  clear hrd HR
  go_wp2_with fail
  go_loopg [6, 16] l.length (LRel w1 l)
  case atStart => exact ⟨0, rfl, rfl, Nat.zero_le _, ⟨rfl, .inl ⟨rfl, rfl⟩⟩, Below.refl _ _⟩
  case round =>
    obtain ⟨j, rfl, rfl, hj, hown, hbw⟩ := hrel
    have hws := hbw.size
    by_cases hlt : j < l.length
    · have hji : (j : Int) < (l.length : Int) := by omega
      obtain ⟨x, hx⟩ : ∃ x, l[j]? = some x := ⟨_, List.getElem?_eq_getElem hlt⟩
      obtain ⟨ad, rfl, hadb, e0, e1, e2, e3⟩ := de_cells (HRD.out.kept (Fr.of_below hbw) (fun k hk => by omega)) j x hx hlt
      have hsn : (l.take (j + 1)).map toNm = (l.take j).map toNm ++ [toNm x] := by rw [List.take_add_one, hx]; simp
      have HO := Lib.hid hown
      have HSN := Lib.hid hsn
      have HRX := Lib.hid (rd_nm (wr.alloc (.cells #[.string x.name, .int .u32 x.ino, .int .i64 x.fr, .int .i64 x.en] 43)) (toNm x))
      have ht : nmL (toNm x) = [.string x.name, .int .u32 x.ino] := rfl
      have ht2 : (toNm x).name = x.name := rfl
      have ht3 : (toNm x).ino = x.ino := rfl
      rw [ht, ht2, ht3] at HRX
      clear hown hsn hx ht ht2 ht3
      generalize hm : (l.take j).map toNm = m at *
      clear hm
      go_wp2_with (at_builtin; refine wpList_append_own _ rfl (.tmp 20) (.tmp 23) 34 rfl w1.heap.size 40 i0 _ 2 24 Try.underlying34 hi0 hz0 hz1 hz2 rfl (by decide) _ j (nmC m) rfl ((HO.out.alloc _).alloc _) ⟨wr.heap.size + 1, 0, none⟩ 1 1 [.string x.name, .int .u32 x.ino] rfl rfl (by simpa using HRX.out) (by simp [Value.oneCell']) (by unfold maxLen; omega) (by omega) (by simp; omega) ?_; intro v2 w2 hown2 hg2 hat2)
      have hs2 := (hg2.size)
      simp at hs2
      have hrel2 : w2.ownsRow w1.heap.size 40 2 v2 (j + 1) (nmC ((l.take (j + 1)).map toNm)) := by
        rw [HSN.out, nmC_snoc]
        exact hown2
      have hbw2 : Below w1.heap.size w1 w2 := hbw.trans ((((Fr.alloc (Fr.refl (fun k => w1.heap.size ≤ k) wr) _).alloc _).trans ((Fr.of_grown hg2).mono (fun k e => (HO.out.lt k e.symm).1))).below hws (fun k h => h))
      clear hown2 hg2 hat2 hbw
      go_roundg (l.length - (j + 1))
      case measure => omega
      case rel => exact ⟨j + 1, rfl, by simp, by omega, hrel2, hbw2⟩
    · obtain rfl : j = l.length := by omega
      rw [List.take_length] at hown
      obtain ⟨A', c', rfl, hc', hrd⟩ := Rd.of_own2 hown
      have HSS := Lib.hid (HS.out _ _ _ _ hown)
      have hb2 := hb1.trans (hbw.mono hb1.size)
      have hz1 := hb1.size
      clear hown hrd HRD HS
      go_wp2_with fail
      refine HSS.out.mono ?_
      rintro e w2 ⟨rfl, hown2, hf2⟩
      have hb4 := hb2.trans (hf2.below hb2.size (fun k hk => by omega))
      have HO2 := Lib.hid (own_base hown2 hz1)
      clear hown2 hf2
      go_wp2_with fail
      go_ret2
      exact ⟨_, rfl, HO2.out, hb4⟩
end Go.Proofs.Ytliioeihbbhiiaa

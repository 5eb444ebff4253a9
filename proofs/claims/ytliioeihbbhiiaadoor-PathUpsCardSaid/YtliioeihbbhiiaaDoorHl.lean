/- Paths: the reference's Split: over the given program. -/
import Derived.Test.YtliioeihbbhiiaaDoorHk
import Derived.Test.YtliioeihbbhiiaaDoorHg
import Derived.Great.BuildSlice
namespace Go.Proofs.YtliioeihbbhiiaaDoor
open Go.RowKit Go.Nau Go.Shelf
attribute [local go_sem] Oper.semAt_some

/-- What the reference's Split answers. -/
def RSPost (w : World) (s : ByteArray) (e : Ending) (w' : World) : Prop :=
  ∃ A c, e = .returned (.tuple #[.slice A (splitL s).length c, .int .i64 (splitE s)]) ∧ (splitL s).length ≤ c ∧ c ≤ maxLen ∧ Rd (· < w'.heap.size) w' 1 A (splitL s).length (strs (splitL s)) ∧ Below w.heap.size w w'
theorem RSPost.bad {w w' : World} {s : ByteArray} (ho : splOk s = false) (hb : Below w.heap.size w w') : RSPost w s (.returned (.tuple #[.slice none 0 0, .int .i64 120])) w' := by
  unfold RSPost splitL splitE
  rw [ho]
  exact ⟨none, 0, rfl, Nat.le_refl _, by simp [maxLen], Rd.nil _ _ _ _, hb⟩

theorem exec_append_run {P : Program} {w : World} {o : Oper} {a : Act} (s x : Operand) (t : TypeId) (ho : o.op = .call { callee := .builtin .append, args := #[s, x], argTypes := #[t, t] }) (ht : o.type = t) {v u : Value} (hs : a.eval s = v) (hx : a.eval x = u) {v' : Value} {w' : World}
    (hrun : (Builtin.append_ #[t, t] t #[v, u]).run P w = .ok v' w') : (execOp a.eval o).run P w = .ok (.value v') w' := by
  simp [execOp, ho, ht, resolve, invoke, builtin, hs, hx, hrun, Result.andThen]
theorem pfx_first (s : ByteArray) (h : 0 < s.size) : Lib.hasPrefix s.data.toList [47] = (s[0] == 47) := by
  have h1 : 0 < s.data.toList.length := by rw [dat_length]; exact h
  have h2 : s.data.toList = s[0] :: s.data.toList.drop 1 := by
    have := List.drop_eq_getElem_cons h1
    rw [List.drop_zero] at this
    exact this
  rw [h2]
  unfold Lib.hasPrefix
  simp only [List.isPrefixOf, Bool.and_true]
  exact Bool.beq_comm ..
theorem spl_mem_len : ∀ {l p : List UInt8}, p ∈ spl l → p.length ≤ l.length
  | [], p, h => by
    have : p = [] := by simpa [spl] using h
    rw [this]; simp
  | c :: r, p, h => by
    unfold spl at h
    split at h
    · rcases List.mem_cons.1 h with rfl | h
      · simp
      · have := spl_mem_len h
        simp only [List.length_cons]; omega
    · split at h
      · rename_i p1 ps hps
        rcases List.mem_cons.1 h with rfl | h
        · have := spl_mem_len (l := r) (p := p1) (by rw [hps]; simp)
          simp only [List.length_cons]; omega
        · have := spl_mem_len (l := r) (p := p) (by rw [hps]; simp [h])
          simp only [List.length_cons]; omega
      · have : p = [c] := by simpa using h
        rw [this]; simp
theorem splB_mem {s x : ByteArray} (h : x ∈ splB s) : x.size ≤ s.size := by
  obtain ⟨p, hp, rfl⟩ := List.mem_map.1 h
  have := spl_mem_len hp
  rw [dat_length] at this
  rw [txt_size]
  exact this
theorem runP_up {l : List ByteArray} {x : ByteArray} (h : upB x = true) : runP (l ++ [x]) = (runP l).dropLast := by rw [runP_snoc]; unfold stepP; rw [h]; rfl
theorem runP_down {l : List ByteArray} {x : ByteArray} (h : upB x = false) : runP (l ++ [x]) = runP l ++ [x] := by rw [runP_snoc]; unfold stepP; rw [h]; rfl
def fpre (l : List ByteArray) (q : Nat) : List ByteArray := (l.take q).filter keepB
theorem fpre_succ {l : List ByteArray} {q : Nat} {x : ByteArray} (hx : l[q]? = some x) : fpre l (q + 1) = fpre l q ++ (if keepB x then [x] else []) := by
  unfold fpre
  rw [List.take_add_one, hx, List.filter_append]
  cases h : keepB x <;> simp [h]
theorem fpre_prefix (l : List ByteArray) (q : Nat) : fpre l q <+: l.filter keepB := (List.take_prefix q l).filter _

def RsRel (w : World) (s : ByteArray) (Al : Option Addr) (l : List ByteArray) (k : Nat) (v i : Value) (wr : World) : Prop :=
  ∃ (q : Nat) (A : Option Addr) (c : Nat), k = l.length - q ∧ i = .int .i64 q ∧ v = .slice A (runP (fpre l q)).length c ∧ q ≤ l.length ∧ goodP (fpre l q) = true ∧ (runP (fpre l q)).length ≤ c ∧ c ≤ maxLen ∧
    Rd (· < wr.heap.size) wr 1 A (runP (fpre l q)).length (strs (runP (fpre l q))) ∧ Rd (· < wr.heap.size) wr 1 Al l.length (strs l) ∧ Below w.heap.size w wr

set_option maxHeartbeats 4000000 in
set_option maxRecDepth 100000 in
theorem rsplit_any (s : ByteArray) (hs : s.size ≤ 9223372036854775807) (w : World) : Calls Tryd.prog 12 #[.string s] w (RSPost w s) := by
  by_cases h5 : s.size ≤ 1000
  case neg =>
    have h5' : 1000 < (s.size : Int) := by omega
    have ho : splOk s = false := by unfold splOk; simp [h5]
    have HP := Lib.hid (fun W' hb => RSPost.bad (w := w) (w' := W') ho hb)
    clear ho h5
    go_enter Tryd.func12, Tryd.ntmps12
    go_wp2_with fail
    try go_step3
    go_wp2_with fail
    go_ret2
    exact HP.out _ (Below.refl _ w)
  have h5' : ¬ 1000 < (s.size : Int) := by omega
  by_cases h0 : s.size = 0
  · have ho : splOk s = false := by
      unfold splOk
      have e : s.data.toList = [] := by apply List.eq_nil_of_length_eq_zero; rw [dat_length]; exact h0
      rw [e]
      simp [Lib.hasPrefix]
    have hz : (s.size : Int) = 0 := by omega
    have HP := Lib.hid (fun W' hb => RSPost.bad (w := w) (w' := W') ho hb)
    clear ho h5
    go_enter Tryd.func12, Tryd.ntmps12
    go_wp2_with fail
    try go_step3
    go_wp2_with fail
    go_ret2
    exact HP.out _ (Below.refl _ w)
  have hpos : 0 < s.size := by omega
  have hz : ¬ (s.size : Int) = 0 := by omega
  have hpx := pfx_first s hpos
  by_cases h47 : s[0] = 47
  case neg =>
    have hb0 : ¬ (s[0].toNat : Int) = 47 := by
      intro e
      exact h47 (UInt8.toNat_inj.1 (by simpa using Int.ofNat_inj.1 e))
    have hbn : ((s[0].toNat : Int) != 47) = true := by simpa using hb0
    have ho : splOk s = false := by
      unfold splOk
      rw [hpx, show (s[0] == 47) = false by simpa using h47]
      simp
    have HP := Lib.hid (fun W' hb => RSPost.bad (w := w) (w' := W') ho hb)
    clear ho h5 hpx h47
    go_enter Tryd.func12, Tryd.ntmps12
    go_wp2_with fail
    try go_step3
    go_wp2_with fail
    go_ret2
    exact HP.out _ (Below.refl _ w)
  have hb0 : (s[0].toNat : Int) = 47 := by rw [h47]; rfl
  have hok0 : splOk s = (goodP (piecesL s) && decide ((runP (piecesL s)).length ≤ 40)) := by
    unfold splOk
    rw [hpx, show (s[0] == 47) = true by simpa using h47]
    simp [h5]
  have HOK := Lib.hid hok0
  have HP5 := Lib.hid h5
  clear hpx h47 hok0
  go_enter Tryd.func12, Tryd.ntmps12
  go_wp2_with fail
  try go_step3
  go_wp2_with fail
  refine (rpieces_any s (by have := HP5.out; omega) _).mono ?_
  rintro e w1 ⟨v, rfl, ho1, hb1⟩
  obtain ⟨Al, cl, rfl, hcl, hcm, hrl⟩ := ho1.form
  have hlen := splB_length s
  have hpl : piecesL s = (splB s).filter keepB := rfl
  have hpm : ∀ x ∈ splB s, x.size ≤ 9223372036854775807 := fun x hx => Nat.le_trans (splB_mem hx) hs
  rw [hpl] at HOK
  generalize splB s = l at *
  have HPL := Lib.hid hpl
  have HPM := Lib.hid hpm
  have HRL := Lib.hid (hrl.mono (T' := (· < w1.heap.size)) (fun k hk => hk.2))
  have HL := Lib.hid hlen
  have hli : (l.length : Int) ≤ 1001 := by have := HP5.out; omega
  clear ho1 hrl hlen hpl hpm hcl hcm h5
  have hst : RsRel w s Al l (l.length - 0) (.slice none 0 0) (.int .i64 0) w1 := ⟨0, none, 0, rfl, rfl, rfl, Nat.zero_le _, rfl, Nat.le_refl _, by simp [maxLen], Rd.nil _ _ _ _, HRL.out, hb1⟩
  have HST := Lib.hid hst
  clear hst
  go_wp2_with fail
  go_loopg [4, 6] l.length (RsRel w s Al l)
  case atStart => exact HST.out
  case round =>
    obtain ⟨q, A, c, rfl, rfl, rfl, hq, hg, hc, hcm, hrd, hrl, hb⟩ := hrel
    by_cases hlt : q < l.length
    · have hqi : (q : Int) < (l.length : Int) := by omega
      obtain ⟨x, hx⟩ : ∃ x, l[q]? = some x := ⟨_, List.getElem?_eq_getElem hlt⟩
      obtain ⟨ad, rfl, hadb, e0⟩ := str_cell hrl q x hx hlt
      have hf := fpre_succ hx
      have hxm := HPM.out x (List.mem_of_getElem? hx)
      have hlr : (runP (fpre l q)).length ≤ 1001 := by
        have h1 := runP_le (fpre l q)
        have h2 : (fpre l q).length ≤ l.length := Nat.le_trans (List.length_filter_le _ _) (by rw [List.length_take]; omega)
        omega
      clear hx
      cases hk : keepB x
      · have hfin : RsRel w s (some ad) l (l.length - (q + 1)) (.slice A (runP (fpre l q)).length c) (.int .i64 ((q + 1 : Nat) : Int)) wr := by
          rw [hk] at hf
          simp only [Bool.false_eq_true, if_false, List.append_nil] at hf
          exact ⟨q + 1, A, c, rfl, rfl, by rw [hf], by omega, by rw [hf]; exact hg, by rw [hf]; exact hc, hcm, by rw [hf]; exact hrd, hrl, hb⟩
        have HF := Lib.hid hfin
        unfold keepB at hk
        cases h1 : (x.toList == [])
        · have h2 : (x.toList == [46]) = true := by rw [h1] at hk; simpa using hk
          have h1' : x.toList.isEmpty = false := by simpa using h1
          clear hfin hk hf hg hc hcm hrd hrl hb hq hlr hxm
          go_wp2_with fail
          go_roundg (l.length - (q + 1))
          case measure => omega
          case rel => exact HF.out
        · have h1' : x.toList.isEmpty = true := by simpa using h1
          clear hfin hk hf hg hc hcm hrd hrl hb hq hlr hxm
          go_wp2_with fail
          go_roundg (l.length - (q + 1))
          case measure => omega
          case rel => exact HF.out
      · rw [hk] at hf
        simp only [if_true] at hf
        have hgs := goodP_snoc (fpre l q) x
        rw [← hf, hg, Bool.true_and] at hgs
        unfold keepB at hk
        simp only [Bool.and_eq_true, Bool.not_eq_true'] at hk
        obtain ⟨h1, h2⟩ := hk
        have h1' : x.toList.isEmpty = false := by simpa using h1
        cases hu : upB x
        · have hrs := runP_down (l := fpre l q) hu
          rw [← hf] at hrs
          have hux : (x.toList == [46, 46]) = false := hu
          have hnm := fun W => risname_any x hxm W
          rw [hu, Bool.false_or] at hgs
          cases hn : nameB x
          · rw [hn] at hgs hnm
            have ho : splOk s = false := by
              rw [HOK.out, goodP_prefix (fpre_prefix l (q + 1)) hgs]; rfl
            have HP := Lib.hid (fun W' hb => RSPost.bad (w := w) (w' := W') ho hb)
            have HN := Lib.hid hnm
            clear ho hnm hgs hrs hu hn hf hg hc hcm hrd hrl hq hlr hxm
            go_wp2_with fail
            refine (HN.out _).mono ?_
            rintro e w2 ⟨rfl, hw2⟩
            subst hw2
            go_wp2_with fail
            go_ret2
            exact HP.out _ hb
          · rw [hn] at hgs hnm
            have HN := Lib.hid hnm
            obtain ⟨n, hnn⟩ : ∃ n, n = (runP (fpre l q)).length := ⟨_, rfl⟩
            have hord := cpy_orders x (c := c) hrd (by omega)
            have hfin : ∀ v W, CpyOut wr (runP (fpre l q) ++ [x]) v W → RsRel w s (some ad) l (l.length - (q + 1)) v (.int .i64 ((q + 1 : Nat) : Int)) W := by
              rintro v W ⟨A2, c2, rfl, k1, k2, k3, k4⟩
              rw [← hrs] at k1 k3 ⊢
              exact ⟨q + 1, A2, c2, rfl, rfl, rfl, by omega, hgs, k1, k2, k3, rd_on hrl k4, hb.trans (k4.mono hb.size)⟩
            rw [← hnn] at hord hlr
            have HF := Lib.hid hfin
            have HORD := Lib.hid hord
            have hadl : ad.block < wr.heap.size := hadb
            rw [← hnn]
            clear hnm hgs hrs hu hn hf hg hc hcm hrd hrl hq hxm hord hfin hb hadb hnn
            go_wp2_with fail
            refine (HN.out _).mono ?_
            rintro e w2 ⟨rfl, hw2⟩
            subst hw2
            go_wp2_with fail
            have sS : ∀ V, Below wr.heap.size wr V → V.cell? (ad.add q) = some (.string x) := fun V h => (h.cell (p := ad.add q) (by rw [add_block]; exact hadl)).trans e0
            have bal : ∀ W, Below wr.heap.size wr W → Below wr.heap.size wr (W.alloc (.cells #[.string x] 9)) := fun W h => h.alloc h.size _
            have b0 : Below wr.heap.size wr (wr.drewN 1) := below_drew wr 1
            obtain ⟨⟨v3, V3, v5, V5, v7, V7, v5', V5', v7', V7', r3, r5, r7, r5', r7', b3, b5, b5', C7, C7'⟩, ⟨w3, W3, w5, W5, w7, W7, q3, q5, q7, d3, d5, D7⟩⟩ := HORD.out _ b0
            have F1 := Lib.hid (HF.out _ _ C7)
            have F2 := Lib.hid (HF.out _ _ C7')
            have F3 := Lib.hid (HF.out _ _ D7)
            have SS := Lib.hid sS
            have BAL := Lib.hid bal
            clear HORD HF C7 C7' D7 sS bal
            refine wp_region_heldE (fun V => V.cell? (ad.add q) = some (.string x)) [0, 1, 2, 4, 6, 7, 8, 9] [11, 12] 5 #[true, true, true, false, true, false, true, true, true, true, false, false, false] (by kernel_rfl) (by kernel_rfl) (by kernel_rfl) (fun _ _ _ _ e h => ⟨e ▸ h.1, h.2⟩) (SS.out _ b0) ?_
            iterate 8
              refine heldQ_step rfl (yieldsIf_of rfl (fun V hV => by go_simp; first | done | rfl)) (fun K' hK' => ?_)
              go_simp
              refine hK' _ ?_
              clear hK' K'
            unfold heldQ
            unfold runMk runAp at *
            have hwr : IntKind.i64.wrap ((n : Int) + 1) = (n : Int) + 1 := by rw [IntKind.wrap_i64] <;> omega
            refine wpAnyE_val2 (i := 3) (j := 10) (vi := v3) (wi := V3) (vj := .slice (some ⟨(wr.drewN 1).heap.size, 0, none⟩) 1 1) (wj := (wr.drewN 1).alloc (.cells #[.string x] 9)) (by kernel_rfl) rfl rfl rfl rfl rfl rfl ?_ ?_ (SS.out _ b3) (SS.out _ (BAL.out _ b0)) ?_ ?_
            · go_simp
            · go_simp
            · go_simp
              refine wpAnyE_val2 (i := 5) (j := 10) (vi := v5) (wi := V5) (vj := .slice (some ⟨V3.heap.size, 0, none⟩) 1 1) (wj := V3.alloc (.cells #[.string x] 9)) (by kernel_rfl) rfl rfl rfl rfl rfl rfl ?_ ?_ (SS.out _ b5) (SS.out _ (BAL.out _ b3)) ?_ ?_
              · exact exec_append_run (.tmp 62) (.tmp 63) 22 rfl rfl rfl rfl r5
              · go_simp
              · go_simp
                refine wpAnyE_val1 (i := 10) (vi := .slice (some ⟨V5.heap.size, 0, none⟩) 1 1) (wi := V5.alloc (.cells #[.string x] 9)) (by kernel_rfl) rfl rfl rfl ?_ (SS.out _ (BAL.out _ b5)) ?_
                · go_simp
                · go_simp
                  refine wpAnyE_of_row (js2 := [11, 12]) (by simp) (by rfl) [] _ _ _ rfl (by kernel_rfl) ?_
                  simp only [wpListS, opsAt, List.filterMap_cons, List.filterMap_nil, List.getElem?_toArray, List.getElem?_cons_succ, List.getElem?_cons_zero]
                  show wpList _ _ _ (_ :: _ :: []) _ _
                  go_wp2_with (at_builtin; refine wpList_append_run rfl (.tmp 64) (.tmp 69) 22 rfl _ _ rfl rfl _ _ r7 ?_)
                  go_roundg (l.length - (q + 1))
                  case measure => omega
                  case rel => exact F1.out
              · go_simp
                refine wpAnyE_val1 (i := 5) (vi := v5') (wi := V5') (by kernel_rfl) rfl rfl rfl ?_ (SS.out _ b5') ?_
                · exact exec_append_run (.tmp 62) (.tmp 63) 22 rfl rfl rfl rfl r5'
                · go_simp
                  refine wpAnyE_of_row (js2 := [11, 12]) (by simp) (by rfl) [] _ _ _ rfl (by kernel_rfl) ?_
                  simp only [wpListS, opsAt, List.filterMap_cons, List.filterMap_nil, List.getElem?_toArray, List.getElem?_cons_succ, List.getElem?_cons_zero]
                  show wpList _ _ _ (_ :: _ :: []) _ _
                  go_wp2_with (at_builtin; refine wpList_append_run rfl (.tmp 64) (.tmp 69) 22 rfl _ _ rfl rfl _ _ r7' ?_)
                  go_roundg (l.length - (q + 1))
                  case measure => omega
                  case rel => exact F2.out
            · go_simp
              refine wpAnyE_val1 (i := 3) (vi := w3) (wi := W3) (by kernel_rfl) rfl rfl rfl ?_ (SS.out _ d3) ?_
              · go_simp
              · go_simp
                refine wpAnyE_val1 (i := 5) (vi := w5) (wi := W5) (by kernel_rfl) rfl rfl rfl ?_ (SS.out _ d5) ?_
                · exact exec_append_run (.tmp 62) (.tmp 63) 22 rfl rfl rfl rfl q5
                · go_simp
                  refine wpAnyE_of_row (js2 := [11, 12]) (by simp) (by rfl) [] _ _ _ rfl (by kernel_rfl) ?_
                  simp only [wpListS, opsAt, List.filterMap_cons, List.filterMap_nil, List.getElem?_toArray, List.getElem?_cons_succ, List.getElem?_cons_zero]
                  show wpList _ _ _ (_ :: _ :: []) _ _
                  go_wp2_with (at_builtin; refine wpList_append_run rfl (.tmp 64) (.tmp 69) 22 rfl _ _ rfl rfl _ _ q7 ?_)
                  go_roundg (l.length - (q + 1))
                  case measure => omega
                  case rel => exact F3.out
        · have hrs := runP_up (l := fpre l q) hu
          rw [← hf] at hrs
          have hux : (x.toList == [46, 46]) = true := hu
          rw [hu, Bool.true_or] at hgs
          have hlast : (runP (fpre l q)).dropLast = (runP (fpre l q)).take ((runP (fpre l q)).length - 1) := List.dropLast_eq_take
          obtain ⟨n, hnn⟩ : ∃ n, n = (runP (fpre l q)).length := ⟨_, rfl⟩
          rw [← hnn] at hc hrd hlr hlast ⊢
          have hm : max 0 ((n : Int) - 1) = ((n - 1 : Nat) : Int) := by omega
          have hmc : n - 1 ≤ c := by omega
          have hln : (runP (fpre l (q + 1))).length = n - 1 := by rw [hrs, List.length_dropLast, hnn]
          have hfin : RsRel w s (some ad) l (l.length - (q + 1)) (.slice A (n - 1) c) (.int .i64 ((q + 1 : Nat) : Int)) wr := by
            refine ⟨q + 1, A, c, rfl, rfl, by rw [hln], by omega, hgs, by rw [hln]; exact hmc, hcm, ?_, hrl, hb⟩
            rw [hln, hrs, hlast]
            exact rd_cut hrd (by omega)
          have HF := Lib.hid hfin
          generalize n - 1 = m at *
          clear hfin hgs hrs hu hf hg hc hcm hrd hrl hq hxm hln hlast hb hnn
          go_wp2_with fail
          go_roundg (l.length - (q + 1))
          case measure => omega
          case rel => exact HF.out
    · obtain rfl : q = l.length := by omega
      have hfl : fpre l l.length = l.filter keepB := by unfold fpre; rw [List.take_length]
      rw [hfl] at hg hc hrd ⊢
      by_cases h40 : (runP (l.filter keepB)).length ≤ 40
      · have ho : splOk s = true := by rw [HOK.out, hg]; simpa using h40
        have hL : splitL s = runP (l.filter keepB) := by unfold splitL; rw [ho, HPL.out]; rfl
        have hE : splitE s = 0 := by unfold splitE; rw [ho]; rfl
        have hfin : RSPost w s (.returned (.tuple #[.slice A (runP (l.filter keepB)).length c, .int .i64 0])) wr := by
          unfold RSPost
          rw [hL, hE]
          exact ⟨A, c, rfl, hc, hcm, hrd, hb⟩
        have HF := Lib.hid hfin
        generalize (runP (l.filter keepB)).length = n at *
        have h40' : ¬ 40 < (n : Int) := by omega
        clear hfin ho hL hE hg hc hcm hrd hrl hb hq hfl HOK
        go_wp2_with fail
        go_ret2
        exact HF.out
      · have ho : splOk s = false := by rw [HOK.out, hg]; simpa using h40
        have HP := Lib.hid (RSPost.bad (w := w) (w' := wr) ho hb)
        generalize (runP (l.filter keepB)).length = n at *
        have h40' : 40 < (n : Int) := by omega
        clear ho hg hc hcm hrd hrl hb hq hfl HOK
        go_wp2_with fail
        go_ret2
        exact HP.out
end Go.Proofs.YtliioeihbbhiiaaDoor

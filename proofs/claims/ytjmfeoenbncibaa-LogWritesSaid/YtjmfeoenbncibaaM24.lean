/- Texts of this proof, joined: Lh Li. They hold under no condition beyond what each theorem states. -/
import Derived.Test.YtjmfeoenbncibaaM23
namespace Go.Proofs.Ytjmfeoenbncibaa
open Go.RowKit Go.Nau Go.Shelf
attribute [local go_sem] Oper.semAt_some

set_option maxHeartbeats 4000000 in
set_option maxRecDepth 100000 in
theorem rthere_core (d : Nat) (p sq rs rc nx er rm : Int) (re ry sg : Bool) (b : ByteArray) (n nb bb bc : Nat) (es : List Value) (blk cs : List ByteArray) (ue : Nat → Int) (w : World) (P : Bool → Prop)
    (h : w.cell? ⟨d, 0, none⟩ = some (.slice (some ⟨bb, 0, none⟩) nb bc)) (hlt : d < w.heap.size)
    (hp : 0 ≤ p ∧ p ≤ 4096) (hn : n ≤ 1000) (hcl : cs.length = n) (her : er = 0 ∨ er = 70)
    (hR : ∀ W, Below w.heap.size w W → Calls Try.prog 81 #[.pointer (some ⟨d, 0, none⟩), .int .i64 p] W fun e W' => e = .returned (.tuple #[.string b, .int .i64 0]) ∧ W = W')
    (hRs : n ≤ rm → ∀ (q : Nat) x, blk[q]? = some x → q < n → ∀ W, Below w.heap.size w W → Calls Try.prog 81 #[.pointer (some ⟨d, 0, none⟩), .int .i64 (p + 1 + (q : Int))] W fun e W' => e = .returned (.tuple #[.string x, .int .i64 0]) ∧ W = W')
    (hbl : blk.length = n)
    (hD : ∀ W, Calls Try.prog 82 #[.string b] W fun e W' => ∃ A c, e = .returned (.tuple #[.agg #[.int .u64 rs, .int .u64 rc, .bool re, .bool ry, .int .i64 nx, .slice A n c], .int .i64 er]) ∧ n ≤ c ∧ Rd (fun k => W.heap.size ≤ k ∧ k < W'.heap.size) W' 4 A n es ∧ Below W.heap.size W W')
    (hM : ∀ W, Calls Try.prog 64 #[.int .i64 p] W fun e W' => e = .returned (.int .i64 rm) ∧ W = W')
    (hG : ∀ W, Calls Try.prog 60 #[.int .i64 nx, .int .i64 nb] W fun e W' => e = .returned (.bool sg) ∧ W = W')
    (hU : ∀ (q : Nat) x y, blk[q]? = some x → cs[q]? = some y → q < n → ∀ W, Calls Try.prog 83 #[.string x] W fun e W' => e = .returned (.tuple #[.string y, .int .i64 (ue q)]) ∧ W = W')
    (hP1 : er = 0 → rs = sq → (n : Int) ≤ rm → sg = true → (∀ q, q < n → ue q = 0) → P true)
    (hP0 : er = 70 ∨ (er = 0 ∧ (rs ≠ sq ∨ rm < (n : Int) ∨ sg = false ∨ ∃ q, q < n ∧ ue q ≠ 0)) → P false) :
    Calls Try.prog 56 #[.pointer (some ⟨d, 0, none⟩), .int .i64 p, .int .u64 sq] w (ThOut w P p rs rc re ry nx n es cs) := by
  obtain ⟨hp0, hp1⟩ := hp
  have H := Lib.hid h
  have HR := Lib.hid hR
  have HRS := Lib.hid hRs
  have HD := Lib.hid hD
  have HM := Lib.hid hM
  have HG := Lib.hid hG
  have HU := Lib.hid hU
  have HP1 := Lib.hid hP1
  have HP0 := Lib.hid hP0
  have HCL := Lib.hid hcl
  have HBL := Lib.hid hbl
  have HER := Lib.hid her
  clear h hR hRs hD hM hG hU hP1 hP0 hcl hbl her
  obtain ⟨W0, hW0⟩ : ∃ W0, W0 = w.alloc (.cells zeroF 81) := ⟨_, rfl⟩
  have hb0 : Below w.heap.size w W0 := by rw [hW0]; exact (Below.refl _ _).alloc (Nat.le_refl _) _
  have hr0 : W0.heap[w.heap.size]? = some (.cells zeroF 81 (0, 0)) := by rw [hW0]; exact heap_alloc_new w _
  have CR := Lib.hid (HR.out W0 hb0)
  have HB0 := Lib.hid hb0
  have HR0 := Lib.hid hr0
  have hz0 : W0.heap.size = w.heap.size + 1 := by rw [hW0]; simp
  clear hb0 hr0
  go_enter Try.func56, Try.ntmps56
  go_wp2_with fail
  unfold zeroF at hW0
  rw [← hW0]
  clear hW0
  refine CR.out.mono ?_
  rintro e w0 ⟨rfl, rfl⟩
  go_wp2_with fail
  refine (HD.out _).mono ?_
  rintro e w1 ⟨A, c, rfl, hc, hrd, hb1⟩
  go_wp2_with fail
  have hb1' : Below w.heap.size w w1 := HB0.out.trans (hb1.mono (by omega))
  have hz1 : w.heap.size + 1 ≤ w1.heap.size := by have := hb1.size; omega
  have hg1 : w1.cell? ⟨d, 0, none⟩ = some (.slice (some ⟨bb, 0, none⟩) nb bc) := (hb1'.cell (p := ⟨d, 0, none⟩) hlt).trans H.out
  have hr1 : w1.heap[w.heap.size]? = some (.cells zeroF 81 (0, 0)) := (hb1.block _ (by omega)).trans HR0.out
  clear CR
  obtain ⟨W2, hW2⟩ : ∃ W2, W2 = w1.alloc (.cells #[.int .u64 rs, .int .u64 rc, .bool re, .bool ry, .int .i64 nx, .slice A n c] 79) := ⟨_, rfl⟩
  rw [← hW2]
  have hx2 : W2.heap[w1.heap.size]? = some (.cells #[.int .u64 rs, .int .u64 rc, .bool re, .bool ry, .int .i64 nx, .slice A n c] 79 (0, 0)) := by rw [hW2]; exact heap_alloc_new w1 _
  have hr2 : W2.heap[w.heap.size]? = some (.cells zeroF 81 (0, 0)) := by rw [hW2]; exact old_alloc hr1 _
  have g0 : W2.cell? ⟨d, 0, none⟩ = some (.slice (some ⟨bb, 0, none⟩) nb bc) := by rw [hW2]; exact old_cell hg1 _
  have hb2 : Below w.heap.size w W2 := by rw [hW2]; exact hb1'.alloc hb1'.size _
  have hz2 : W2.heap.size = w1.heap.size + 1 := by rw [hW2]; simp
  have hrd2 : Rd (fun k => w.heap.size < k ∧ k < W2.heap.size) W2 4 A n es := by
    rw [hW2]
    refine (Rd.kept hrd ((Fr.refl (fun _ => False) w1).alloc _) (fun _ _ => id)).mono (fun k hk => ?_)
    simp at hk ⊢
    omega
  have HZ2 := Lib.hid hz2
  clear hW2 hg1 hr1 hrd hb1 hb1'
  have HX2 := Lib.hid hx2
  have HR2 := Lib.hid hr2
  have HB2 := Lib.hid hb2
  have HRD2 := Lib.hid hrd2
  have x0 := blk_cell hx2 0
  have x1 := blk_cell hx2 1
  have x2 := blk_cell hx2 2
  have x3 := blk_cell hx2 3
  have x4 := blk_cell hx2 4
  have x5 := blk_cell hx2 5
  have p0 := blk_cell hr2 0
  have p1 := blk_cell hr2 1
  have p2 := blk_cell hr2 2
  have p3 := blk_cell hr2 3
  have p4 := blk_cell hr2 4
  have p5 := blk_cell hr2 5
  have p6 := blk_cell hr2 6
  have p7 := blk_cell hr2 7
  have pz0 := blk_frozen hr2 0
  have pz1 := blk_frozen hr2 1
  have pz2 := blk_frozen hr2 2
  have pz3 := blk_frozen hr2 3
  have pz4 := blk_frozen hr2 4
  have pz5 := blk_frozen hr2 5
  have pz6 := blk_frozen hr2 6
  have pz7 := blk_frozen hr2 7
  simp [zeroF] at x0 x1 x2 x3 x4 x5 p0 p1 p2 p3 p4 p5 p6 p7
  have cm : ∀ k, Calls Try.prog 64 #[.int .i64 p] (W2.drewN k) fun e W' => e = .returned (.int .i64 rm) ∧ ∃ n, W' = W2.drewN n := fun k => (HM.out (W2.drewN k)).mono fun e W' ⟨he, hw⟩ => ⟨he, k, hw.symm⟩
  have cg : ∀ k, Calls Try.prog 60 #[.int .i64 nx, .int .i64 nb] (W2.drewN k) fun e W' => e = .returned (.bool sg) ∧ ∃ n, W' = W2.drewN n := fun k => (HG.out (W2.drewN k)).mono fun e W' ⟨he, hw⟩ => ⟨he, k, hw.symm⟩
  have CM := Lib.hid cm
  have CG := Lib.hid cg
  have hno : P false → ∀ k, (loadVar 81 ⟨w.heap.size, 0, none⟩).run Try.prog (set0 (W2.drewN k) w.heap.size) = .ok (.agg zeroF) (set0 (W2.drewN k) w.heap.size) ∧ ThOut w P p rs rc re ry nx n es cs (.returned (.tuple #[.agg zeroF, .bool false])) (set0 (W2.drewN k) w.heap.size) :=
    fun hP k => th_no hP (below_drewN hb2 k) ((Fr.drewN (fun _ => False) _ _).get id hr2)
  have NO := Lib.hid hno
  clear cm cg hno hx2 hr2 hb2 hrd2
  rcases HER.out with rfl | rfl
  case inr =>
    have np := NO.out (HP0.out (.inl rfl))
    have NP := Lib.hid np
    clear np
    go_quiet (fail)
    go_wp2_with fail
    obtain ⟨hv1, hv2⟩ := NP.out nq
    refine bodyPost_ret (res_fnd2 rfl _ _ rfl hv1) rfl ?_
    exact hv2
  by_cases hsq : rs = sq
  case neg =>
    have hsq' : (rs != sq) = true := by simpa using hsq
    have np := NO.out (HP0.out (.inr ⟨rfl, .inl hsq⟩))
    have NP := Lib.hid np
    clear np
    go_quiet (fail)
    go_wp2_with fail
    obtain ⟨hv1, hv2⟩ := NP.out nq
    refine bodyPost_ret (res_fnd2 rfl _ _ rfl hv1) rfl ?_
    exact hv2
  subst hsq
  by_cases hrm : rm < (n : Int)
  case pos =>
    have np := NO.out (HP0.out (.inr ⟨rfl, .inr (.inl hrm)⟩))
    have NP := Lib.hid np
    clear np
    go_quiet (exact CM.out _)
    go_wp2_with fail
    obtain ⟨hv1, hv2⟩ := NP.out nq
    refine bodyPost_ret (res_fnd2 rfl _ _ rfl hv1) rfl ?_
    exact hv2
  have hrm' : (n : Int) ≤ rm := by omega
  have hrm2 : decide (rm < (n : Int)) = false := decide_eq_false hrm
  cases sg
  case false =>
    have np := NO.out (HP0.out (.inr ⟨rfl, .inr (.inr (.inl rfl))⟩))
    have NP := Lib.hid np
    clear np
    go_quiet (first | exact CM.out _ | exact CG.out _)
    go_wp2_with fail
    obtain ⟨hv1, hv2⟩ := NP.out nq
    refine bodyPost_ret (res_fnd2 rfl _ _ rfl hv1) rfl ?_
    exact hv2
  have hun : ∀ q, q < n → ¬ ue q = 0 → P false := fun q h1 h2 => HP0.out (.inr ⟨rfl, .inr (.inr (.inr ⟨q, h1, h2⟩))⟩)
  have hye : (∀ q, q < n → ue q = 0) → P true := fun h => HP1.out rfl rfl hrm' rfl h
  have UN := Lib.hid hun
  have YE := Lib.hid hye
  clear hun hye HP0 HP1
  go_quiet (first | exact CM.out _ | exact CG.out _)
  go_wp2_with fail
  have hfb : ((W2.drewN nq).alloc (.cells #[.int .i64 p, .int .u64 rs, .int .u64 rc, .bool re, .bool ry, .int .i64 nx, .slice A n c, .slice none 0 0] 81)).heap[(w1.heap.size + 1)]? = some (.cells (fndC p rs rc re ry nx A n c none 0 0) 81 (0, 0)) := by
    have := heap_alloc_new (W2.drewN nq) (.cells #[.int .i64 p, .int .u64 rs, .int .u64 rc, .bool re, .bool ry, .int .i64 nx, .slice A n c, .slice none 0 0] 81)
    rw [show (W2.drewN nq).heap.size = w1.heap.size + 1 from hz2] at this
    exact this
  have hbl3 : Below (w1.heap.size + 1) W2 ((W2.drewN nq).alloc (.cells #[.int .i64 p, .int .u64 rs, .int .u64 rc, .bool re, .bool ry, .int .i64 nx, .slice A n c, .slice none 0 0] 81)) :=
    ((below_drewN (Below.refl _ _) nq).alloc (by show _ ≤ W2.heap.size; omega) _)
  clear p0 p1 p2 p3 p4 p5 p6 p7 pz0 pz1 pz2 pz3 pz4 pz5 pz6 pz7 g0 x0 x1 x2 x3 x4 x5 CM CG
  have HRL0 : Hid (ThRel w (w1.heap.size + 1) n p rs rc re ry nx A c cs ue W2 n (.int .i64 0) ((W2.drewN nq).alloc (.cells #[.int .i64 p, .int .u64 rs, .int .u64 rc, .bool re, .bool ry, .int .i64 nx, .slice A n c, .slice none 0 0] 81))) :=
    Lib.hid ⟨0, none, 0, rfl, rfl, Nat.zero_le _, Nat.le_refl _, fun j hj => absurd hj (Nat.not_lt_zero j), hfb, ⟨by simp, .inl ⟨rfl, rfl⟩⟩, hbl3⟩
  clear hfb hbl3 hz2
  obtain ⟨i0, hi0, hiz0, hiz1, hiz2⟩ := info_parts infoS
  have hni : (n : Int) ≤ 1000 := by omega
  go_loopg [13] n (ThRel w (w1.heap.size + 1) n p rs rc re ry nx A c cs ue W2)
  case atStart => exact HRL0.out
  case round =>
    obtain ⟨q, B, c2, rfl, rfl, hq, hqc, hdn, hF, hown, hbw⟩ := hrel
    have DN := Lib.hid hdn
    clear hdn
    have hbw2 := HB2.out
    have hsz2 : w.heap.size ≤ w1.heap.size + 1 := by omega
    have hbq : Below w.heap.size w wr := hbw2.trans (hbw.mono hsz2)
    have hrq : wr.heap[w.heap.size]? = some (.cells zeroF 81 (0, 0)) := (hbw.block _ (by omega)).trans HR2.out
    have hxq : wr.heap[w1.heap.size]? = _ := (hbw.block _ (by omega)).trans HX2.out
    have x5 := blk_cell hxq 5
    have p0 := blk_cell hrq 0
    have p1 := blk_cell hrq 1
    have p2 := blk_cell hrq 2
    have p3 := blk_cell hrq 3
    have p4 := blk_cell hrq 4
    have p5 := blk_cell hrq 5
    have p6 := blk_cell hrq 6
    have p7 := blk_cell hrq 7
    have pz0 := blk_frozen hrq 0
    have pz1 := blk_frozen hrq 1
    have pz2 := blk_frozen hrq 2
    have pz3 := blk_frozen hrq 3
    have pz4 := blk_frozen hrq 4
    have pz5 := blk_frozen hrq 5
    have pz6 := blk_frozen hrq 6
    have pz7 := blk_frozen hrq 7
    have HF := Lib.hid hF
    have HO := Lib.hid hown
    have HBW := Lib.hid hbw
    have HBQ := Lib.hid hbq
    have HRQ := Lib.hid hrq
    have hwz : w1.heap.size + 1 ≤ wr.heap.size := by have := hbw.size; rw [HZ2.out] at this; exact this
    clear hrq hbw2 hbq hxq
    by_cases hgo : q < n
    · have hgi : (q : Int) < (n : Int) := by omega
      simp [zeroF] at x5 p0 p1 p2 p3 p4 p5 p6 p7
      have F7 := blk_cell hF 7
      have Z7 := blk_frozen hF 7
      simp [fndC] at F7
      obtain ⟨x, hx⟩ : ∃ x, blk[q]? = some x := ⟨_, List.getElem?_eq_getElem (by rw [HBL.out]; exact hgo)⟩
      obtain ⟨y, hy⟩ : ∃ y, cs[q]? = some y := ⟨_, List.getElem?_eq_getElem (by rw [HCL.out]; exact hgo)⟩
      have cr := HRS.out hrm' q x hx hgo wr HBQ.out
      have CR := Lib.hid cr
      have cu := HU.out q x y hx hy hgo
      have CU := Lib.hid cu
      have e1 : IntKind.i64.wrap (p + 1) = p + 1 := by rw [IntKind.wrap_i64]; omega
      have e2 : IntKind.i64.wrap (p + 1 + (q : Int)) = p + 1 + (q : Int) := by rw [IntKind.wrap_i64]; omega
      have htk : strs (cs.take (q + 1)) = strs (cs.take q) ++ [.string y] := by rw [List.take_add_one, hy]; simp [strs]
      have HTK := Lib.hid htk
      clear cr cu hF hown hbw hx hy htk
      go_wp2_with fail
      refine CR.out.mono ?_
      rintro e w3 ⟨rfl, rfl⟩
      go_wp2_with fail
      refine (CU.out _).mono ?_
      rintro e w4 ⟨rfl, rfl⟩
      by_cases hu : ue q = 0
      · have hu' : (ue q != 0) = false := by simpa using hu
        have HU0 := Lib.hid hu
        clear hu
        go_wp2_with (at_builtin; refine wpList_append_rd _ rfl (.tmp 88) (.tmp 90) 43 rfl ((w1.heap.size + 1) + 1) 9 i0 _ 1 16 Try.underlying43 hi0 hiz0 hiz1 hiz2 rfl (by decide) _ q (strs (cs.take q)) rfl (Fr.own HO.out ((Fr.refl (fun _ => False) wr).alloc _) (fun _ _ => id)) _ (some ⟨wr.heap.size, 0, none⟩) 1 1 [.string y] rfl (rd_new1 wr y) (by simp [Value.oneCell']) (by unfold maxLen; omega) (by omega) (by simp; omega) ?_; intro v3 w3 hown3 hg3 hat3; obtain ⟨B3, c3, rfl, hc3, _⟩ := Rd.of_own2 hown3; have hne : ∀ k, (Value.slice B q c2).ownBlock = some k → ¬ k = (w1.heap.size + 1) := fun k hk e => (by have := (HO.out.lt k hk).1; omega); have hF3 := (Fr.of_grown hg3).get (fun e => hne _ e.symm rfl) (old_alloc (w := wr) HF.out (.cells #[.string y] 9)); have f37 := blk_cell hF3 7; have fz7 := blk_frozen hF3 7; simp [fndC] at f37; have hf3 : Fr (fun k => (w1.heap.size + 1) ≤ k) wr w3 := ((Fr.refl _ wr).alloc _).grown hg3 (fun k hk h' => (by have := hne k hk; have := (HO.out.lt k hk).1; omega)); have HF3 := Lib.hid hF3; have HF4 := Lib.hid hf3; have HO3 := Lib.hid hown3; have HG3 := Lib.hid hg3; have HT3 := Lib.hid hat3; clear hF3 hf3 hown3 hg3 hat3 hne)
        go_roundg (n - (q + 1))
        case measure => omega
        case rel =>
          have hset := blk_set HF3.out 7 (.slice B3 (q + 1) c3)
          have hne3 : ∀ k, (Value.slice B3 (q + 1) c3).ownBlock = some k → k ≠ (w1.heap.size + 1) := fun k hk e => by have := (HO3.out.lt k hk).1; omega
          refine ⟨q + 1, B3, c3, rfl, by simp, by omega, hc3, fun j hj => ?_, hset, ?_, ?_⟩
          · by_cases hjq : j = q
            · rw [hjq]; exact HU0.out
            · exact DN.out j (by omega)
          · rw [HTK.out]
            exact Fr.own HO3.out (Fr.set1 w3 (w1.heap.size + 1) 7 _) hne3
          · exact HBW.out.trans ((Fr.setCell (p := ⟨(w1.heap.size + 1), 7, none⟩) HF4.out (fun _ => Nat.le_refl _) _).below hwz (fun k hk => hk))
      · have hu' : (ue q != 0) = true := by simpa using hu
        have NP := Lib.hid (UN.out q hgo hu)
        clear hu
        go_wp2_with fail
        obtain ⟨hv1, hv2⟩ := th_no (p := p) (rs := rs) (rc := rc) (nx := nx) (re := re) (ry := ry) (n := n) (es := es) (cs := cs) NP.out HBQ.out HRQ.out
        refine bodyPost_ret (res_fnd2 rfl _ _ rfl hv1) rfl ?_
        exact hv2
    · obtain rfl : q = n := by omega
      have F0 := blk_cell hF 0
      have F1 := blk_cell hF 1
      have F2 := blk_cell hF 2
      have F3 := blk_cell hF 3
      have F4 := blk_cell hF 4
      have F5 := blk_cell hF 5
      have F6 := blk_cell hF 6
      have F7 := blk_cell hF 7
      simp [fndC] at F0 F1 F2 F3 F4 F5 F6 F7
      simp [zeroF] at x5 p0 p1 p2 p3 p4 p5 p6 p7
      have hgi : ¬ (q : Int) < (q : Int) := by omega
      clear hF hown hbw
      go_wp2_with fail
      obtain ⟨s1, s2⟩ := set_fnd HRQ.out (.int .i64 p) (.int .u64 rs) (.int .u64 rc) (.bool re) (.bool ry) (.int .i64 nx) (.slice A q c) (.slice B q c2)
      have s3 := load_fnd _ _ _ _ _ _ _ _ _ _ s1
      refine bodyPost_ret (res_fnd2 rfl _ _ rfl s3) rfl ?_
      refine ⟨HBQ.out.trans (s2.below HBQ.out.size (fun k hk => by omega)), .inl ⟨YE.out DN.out, A, c, B, c2, rfl, hc, hqc, ?_, ?_⟩⟩
      · have r1 := HRD2.out.kept (Fr.of_below HBW.out) (fun k hk => by have := HZ2.out; omega)
        refine (r1.kept s2 (fun k hk e => by omega)).mono (fun k hk => ?_)
        have := HZ2.out
        exact ⟨by omega, Nat.lt_of_lt_of_le (by omega) s2.size⟩
      · obtain ⟨A', c', e', _, r2⟩ := Rd.of_own2 HO.out
        injection e' with e1 _ e3
        subst e1 e3
        rw [List.take_of_length_le (by rw [HCL.out]; exact Nat.le_refl _)] at r2
        refine (r2.kept s2 (fun k hk e => by omega)).mono (fun k hk => ?_)
        exact ⟨by omega, Nat.lt_of_lt_of_le (by omega) s2.size⟩
end Go.Proofs.Ytjmfeoenbncibaa
namespace Go.Proofs.Ytjmfeoenbncibaa
open Go.RowKit Go.Nau Go.Shelf
attribute [local go_sem] Oper.semAt_some

def fndV (f : Fnd) (A : Option Addr) (c : Nat) (B : Option Addr) (c2 : Nat) : Array Value := fndC f.pos f.r.seq f.r.cp f.r.ends f.r.sync f.r.next A f.r.l.length c B f.c.length c2
def ThPost (w : World) (now : List ByteArray) (l : LS) (e : Ending) (w' : World) : Prop :=
  Below w.heap.size w w' ∧ ((thereT now l = true ∧ ∃ A c B c2, e = .returned (.tuple #[.agg (fndV (fndAt now l) A c B c2), .bool true]) ∧ (fndAt now l).r.l.length ≤ c ∧ (fndAt now l).c.length ≤ c2 ∧
      Rd (fun k => w.heap.size ≤ k ∧ k < w'.heap.size) w' 4 A (fndAt now l).r.l.length (entC (fndAt now l).r.l) ∧ Rd (fun k => w.heap.size ≤ k ∧ k < w'.heap.size) w' 1 B (fndAt now l).c.length (strs (fndAt now l).c)) ∨
    (thereT now l = false ∧ e = .returned (.tuple #[.agg zeroF, .bool false])))

section
variable {now : List ByteArray} {l : LS}
theorem decO_len (s : ByteArray) : (decO s).l.length ≤ 16 := by
  unfold decO
  split
  · show ((entsL s).take 16).length ≤ 16
    rw [List.length_take]
    omega
  · exact Nat.zero_le _
theorem decE_or (s : ByteArray) : decE s = 0 ∨ decE s = 70 := by unfold decE; split <;> simp
theorem decE_ok {s : ByteArray} : decE s = 0 ↔ okDec s = true := by
  unfold decE
  split
  · rename_i h; simp [h]
  · rename_i h; simp [h]
theorem unwE_ok {s : ByteArray} : unwE s = 0 ↔ isWrap s = true := by
  unfold unwE
  split
  · rename_i h; simp [h]
  · rename_i h; simp [h]
theorem decO_ok {s : ByteArray} (h : okDec s = true) : decO s = decR s := by unfold decO; rw [if_pos h]
/-- The blocks behind a record, so many. -/
def blksTo (now : List ByteArray) (p n : Nat) : List ByteArray := (List.range n).map fun i => blkAt now (p + 1 + i)
theorem blksTo_get {now : List ByteArray} {p n q : Nat} {x : ByteArray} (h : (blksTo now p n)[q]? = some x) : q < n ∧ x = blkAt now (p + 1 + q) := by
  unfold blksTo at h
  rw [List.getElem?_map] at h
  rcases Nat.lt_or_ge q n with h1 | h1
  · rw [List.getElem?_range h1] at h
    simp at h
    exact ⟨h1, h.symm⟩
  · rw [List.getElem?_eq_none (by simpa using h1)] at h
    cases h
theorem contsTo_get {now : List ByteArray} {p n q : Nat} {x : ByteArray} (h : (contsTo now p n)[q]? = some x) : q < n ∧ x = unwO (blkAt now (p + 1 + q)) := by
  unfold contsTo at h
  rw [List.getElem?_map] at h
  rcases Nat.lt_or_ge q n with h1 | h1
  · rw [List.getElem?_range h1] at h
    simp at h
    exact ⟨h1, h.symm⟩
  · rw [List.getElem?_eq_none (by simpa using h1)] at h
    cases h
theorem room_in {nb p n : Nat} (h16 : nb % 16 = 0) (hp : p < nb) (hn : n ≤ 15 - p % 16) {q : Nat} (hq : q < n) : p + 1 + q < nb := by omega

/-- What the tests of a block come to. -/
theorem thereT_yes (h0 : l.seq < 281474976710656) (h1 : decE (blkAt now l.pos) = 0) (h2 : ((decO (blkAt now l.pos)).seq : Int) = (l.seq : Int)) (h3 : ((decO (blkAt now l.pos)).l.length : Int) ≤ ((15 - l.pos % 16 : Nat) : Int)) (h4 : segB now.length (decO (blkAt now l.pos)).next = true)
    (h5 : ∀ q, q < (decO (blkAt now l.pos)).l.length → unwE (blkAt now (l.pos + 1 + q)) = 0) : thereT now l = true := by
  have ho := decE_ok.1 h1
  rw [decO_ok ho] at h2 h3 h4 h5
  unfold thereT
  rw [Bool.and_eq_true]
  refine ⟨headT_iff.2 ⟨h0, ho, Int.ofNat.inj h2, by show (decR _).l.length ≤ _; omega, h4⟩, ?_⟩
  unfold contT
  rw [List.all_eq_true]
  intro q hq
  exact unwE_ok.1 (h5 q (List.mem_range.1 hq))
theorem thereT_no (h : 281474976710656 ≤ l.seq ∨ decE (blkAt now l.pos) = 70 ∨ (decE (blkAt now l.pos) = 0 ∧ (((decO (blkAt now l.pos)).seq : Int) ≠ (l.seq : Int) ∨ ((15 - l.pos % 16 : Nat) : Int) < ((decO (blkAt now l.pos)).l.length : Int) ∨ segB now.length (decO (blkAt now l.pos)).next = false ∨
    ∃ q, q < (decO (blkAt now l.pos)).l.length ∧ unwE (blkAt now (l.pos + 1 + q)) ≠ 0))) : thereT now l = false := by
  cases ht : thereT now l with
  | false => rfl
  | true =>
    obtain ⟨h0, h1, h2, h3, h4⟩ := headT_iff.1 (thereT_head ht)
    have ho := decO_ok h1
    have he := decE_ok.2 h1
    rcases h with h | h | ⟨_, h⟩
    · omega
    · rw [he] at h; cases h
    · rw [ho] at h
      rcases h with h | h | h | ⟨q, hq, h⟩
      · exact absurd (congrArg Int.ofNat h2) h
      · have : (decR (blkAt now l.pos)).l.length ≤ 15 - l.pos % 16 := h3
        omega
      · rw [show segB now.length (decR (blkAt now l.pos)).next = true from h4] at h
        cases h
      · have h6 : contT now l = true := by unfold thereT at ht; rw [Bool.and_eq_true] at ht; exact ht.2
        unfold contT at h6
        rw [List.all_eq_true] at h6
        exact absurd (unwE_ok.2 (h6 q (List.mem_range.2 hq))) h
theorem fndAt_yes (h : thereT now l = true) : (fndAt now l).r = decO (blkAt now l.pos) ∧ (fndAt now l).c = contsTo now l.pos (decO (blkAt now l.pos)).l.length := by
  have ho := decO_ok (headT_iff.1 (thereT_head h)).2.1
  rw [ho]
  exact ⟨rfl, rfl⟩
theorem th_post {w w' : World} {e : Ending} (h : ThOut w (fun b => thereT now l = b) l.pos (decO (blkAt now l.pos)).seq (decO (blkAt now l.pos)).cp (decO (blkAt now l.pos)).ends (decO (blkAt now l.pos)).sync (decO (blkAt now l.pos)).next (decO (blkAt now l.pos)).l.length
    (entC (decO (blkAt now l.pos)).l) (contsTo now l.pos (decO (blkAt now l.pos)).l.length) e w') : ThPost w now l e w' := by
  obtain ⟨hb, h | h⟩ := h
  · obtain ⟨ht, A, c, B, c2, he, h1, h2, h3, h4⟩ := h
    obtain ⟨e1, e2⟩ := fndAt_yes ht
    have e3 : (fndAt now l).c.length = (decO (blkAt now l.pos)).l.length := by rw [e2, contsTo_length]
    refine ⟨hb, .inl ⟨ht, A, c, B, c2, ?_, by rw [e1]; exact h1, by rw [e3]; exact h2, by rw [e1]; exact h3, by rw [e3, e2]; exact h4⟩⟩
    rw [he]
    unfold fndV
    rw [e3, e1]
    rfl
  · exact ⟨hb, .inr h⟩
end

section
variable {w : World} {d g : Nat} {s : DS} {l : LS}
theorem there_any {F : Nat → Prop} (hd : Dsk w F d s) (hF : ∀ k, F k → k < w.heap.size) (hi : DInv s) (hg : Lg w g d l) (lo : LOk s.now.length l) :
    Calls Try.prog 74 #[.pointer (some ⟨g, 0, none⟩)] w (ThPost w s.now l) := by
  have hgl := (Array.getElem?_eq_some_iff.1 hg).1
  have kd : ∀ W, Below w.heap.size w W → Dsk W F d s := fun W h => hd.kept (Fr.of_below h) (fun k hk h2 => by have := hF k hk; omega)
  have kg : ∀ W, Below w.heap.size w W → Lg W g d l := fun W h => (h.block g hgl).trans hg
  have h4 := lo.n256
  have hp := lo.hi
  have hbs : (blkAt s.now l.pos).size ≤ 9223372036854775807 := by
    have := hi.ok.now _ (List.mem_of_getElem? (blkAt_get lo.hi))
    omega
  refine (there_core g d l.pos l.seq l.next (decO (blkAt s.now l.pos)).seq (decO (blkAt s.now l.pos)).cp (decO (blkAt s.now l.pos)).next (decE (blkAt s.now l.pos)) ((15 - l.pos % 16 : Nat) : Int) (decO (blkAt s.now l.pos)).ends (decO (blkAt s.now l.pos)).sync
    (segB s.now.length (decO (blkAt s.now l.pos)).next) (blkAt s.now l.pos) (decO (blkAt s.now l.pos)).l.length (entC (decO (blkAt s.now l.pos)).l) (blksTo s.now l.pos (decO (blkAt s.now l.pos)).l.length) (contsTo s.now l.pos (decO (blkAt s.now l.pos)).l.length)
    (fun q => unwE (blkAt s.now (l.pos + 1 + q))) w (fun b => thereT s.now l = b) hg ⟨by omega, by omega⟩ (by have := decO_len (blkAt s.now l.pos); omega) (contsTo_length _ _ _) (decE_or _) ?_ ?_ (by simp [blksTo]) ?_ ?_ ?_ ?_ ?_ ?_).mono fun e w' h => th_post h
  · intro W hW
    exact read_ok (kd W hW) l.pos _ (blkAt_get lo.hi)
  · intro hr q x hx hq W hW
    obtain ⟨_, rfl⟩ := blksTo_get hx
    have := read_ok (kd W hW) (l.pos + 1 + q) _ (blkAt_get (room_in lo.n16 lo.hi (by omega) hq))
    rwa [show (((l.pos + 1 + q : Nat)) : Int) = (l.pos : Int) + 1 + (q : Int) by omega] at this
  · intro W
    exact decode_any (blkAt s.now l.pos) hbs W
  · intro W hW
    exact lroom_any (kg W hW)
  · intro W hW
    exact isSeg_any (kd W hW) h4 _ (by
      have hw : (decO (blkAt s.now l.pos)).wf := by
        unfold decO
        split
        · exact decR_wf _
        · exact ⟨by decide, by decide, by decide, by unfold maxLen; decide, by intro x hx; cases hx⟩
      exact hw.next)
  · intro q x y hx hy hq W
    obtain ⟨_, rfl⟩ := blksTo_get hx
    obtain ⟨_, rfl⟩ := contsTo_get hy
    exact unwrap_any _ W
  · intro h1 h2 h3 h5 h6
    by_cases hs : l.seq < 281474976710656
    · exact thereT_yes hs h1 h2 h3 h5 h6
    · exfalso
      have hok := decE_ok.1 h1
      have hr := okDec_rec hok
      rw [decO_ok hok] at h2
      have hn : numB (decR (blkAt s.now l.pos)).seq = true := by
        unfold rightB headB at hr
        simp only [Bool.and_eq_true] at hr
        exact hr.1.1
      unfold numB at hn
      simp at hn
      omega
  · intro h
    refine thereT_no ?_
    rcases h with h | h
    · exact .inl (by omega)
    · exact .inr h

theorem rthere_any {G : Nat → Prop} (hd : RDsk w G d s) (hG : ∀ k, G k → k < w.heap.size) (hi : DInv s) (hll : s.loose.length ≤ 1073741824) (lo : LOk s.now.length l) :
    Calls Try.prog 56 #[.pointer (some ⟨d, 0, none⟩), .int .i64 l.pos, .int .u64 l.seq] w (ThPost w s.now l) := by
  have kd : ∀ W, Below w.heap.size w W → RDsk W G d s := fun W h => hd.kept (Fr.of_below h) (fun k hk h2 => by have := hG k hk; omega)
  have h4 := lo.n256
  have hp := lo.hi
  have hbs : (blkAt s.now l.pos).size ≤ 9223372036854775807 := by
    have := hi.ok.now _ (List.mem_of_getElem? (blkAt_get lo.hi))
    omega
  obtain ⟨bb, bc, k0⟩ := rdsk_len hd
  rw [hi.ok.len] at k0
  have rd : ∀ (W : World) (k : Nat), Below w.heap.size w W → k < s.now.length → Calls Try.prog 81 #[.pointer (some ⟨d, 0, none⟩), .int .i64 (k : Int)] W fun e W' => e = .returned (.tuple #[.string (blkAt s.now k), .int .i64 0]) ∧ W = W' := by
    intro W k hW hk
    have := rread_any (kd W hW) hi (k : Int) hll
    have e : rres s (k : Int) = (blkAt s.now k, 0) := by
      unfold rres blkAt
      rw [if_neg (by omega), Int.toNat_natCast]
    rwa [e] at this
  have hwf : (decO (blkAt s.now l.pos)).wf := by
    unfold decO
    split
    · exact decR_wf _
    · exact ⟨by decide, by decide, by decide, by unfold maxLen; decide, by intro x hx; cases hx⟩
  refine (rthere_core d l.pos l.seq (decO (blkAt s.now l.pos)).seq (decO (blkAt s.now l.pos)).cp (decO (blkAt s.now l.pos)).next (decE (blkAt s.now l.pos)) ((15 - l.pos % 16 : Nat) : Int) (decO (blkAt s.now l.pos)).ends (decO (blkAt s.now l.pos)).sync
    (segB s.now.length (decO (blkAt s.now l.pos)).next) (blkAt s.now l.pos) (decO (blkAt s.now l.pos)).l.length s.now.length bb bc (entC (decO (blkAt s.now l.pos)).l) (blksTo s.now l.pos (decO (blkAt s.now l.pos)).l.length) (contsTo s.now l.pos (decO (blkAt s.now l.pos)).l.length)
    (fun q => unwE (blkAt s.now (l.pos + 1 + q))) w (fun b => thereT s.now l = b) k0 (cell_lt k0) ⟨by omega, by omega⟩ (by have := decO_len (blkAt s.now l.pos); omega) (contsTo_length _ _ _) (decE_or _) ?_ ?_ (by simp [blksTo]) ?_ ?_ ?_ ?_ ?_ ?_).mono fun e w' h => th_post h
  · intro W hW
    exact rd W l.pos hW lo.hi
  · intro hr q x hx hq W hW
    obtain ⟨_, rfl⟩ := blksTo_get hx
    have := rd W (l.pos + 1 + q) hW (room_in lo.n16 lo.hi (by omega) hq)
    rwa [show (((l.pos + 1 + q : Nat)) : Int) = (l.pos : Int) + 1 + (q : Int) by omega] at this
  · intro W
    exact rdecode_any (blkAt s.now l.pos) hbs W
  · intro W
    have := rroom_any (l.pos : Int) W
    rwa [show roomI (l.pos : Int) = ((15 - l.pos % 16 : Nat) : Int) by unfold roomI; rw [if_neg (by omega)]; omega] at this
  · intro W
    have := rseg_any (decO (blkAt s.now l.pos)).next (s.now.length : Int) (by omega) (by omega) hwf.next W
    rwa [Int.toNat_natCast] at this
  · intro q x y hx hy hq W
    obtain ⟨_, rfl⟩ := blksTo_get hx
    obtain ⟨_, rfl⟩ := contsTo_get hy
    exact runwrap_any _ W
  · intro h1 h2 h3 h5 h6
    by_cases hs : l.seq < 281474976710656
    · exact thereT_yes hs h1 h2 h3 h5 h6
    · exfalso
      have hok := decE_ok.1 h1
      have hr := okDec_rec hok
      rw [decO_ok hok] at h2
      have hn : numB (decR (blkAt s.now l.pos)).seq = true := by
        unfold rightB headB at hr
        simp only [Bool.and_eq_true] at hr
        exact hr.1.1
      unfold numB at hn
      simp at hn
      omega
  · intro h
    exact thereT_no (.inr h)
end
end Go.Proofs.Ytjmfeoenbncibaa

/- Texts of this proof, joined: Lg. They hold under no condition beyond what each theorem states. -/
import Derived.Test.YtjmfeoenbncibaaM22
namespace Go.Proofs.Ytjmfeoenbncibaa
open Go.RowKit Go.Nau Go.Shelf
attribute [local go_sem] Oper.semAt_some

def ThRel (w : World) (fb n : Nat) (p rs rc : Int) (re ry : Bool) (nx : Int) (A : Option Addr) (c : Nat) (cs : List ByteArray) (ue : Nat → Int) (B1 : World) (k : Nat) (i : Value) (wr : World) : Prop :=
  ∃ (q : Nat) (B : Option Addr) (c2 : Nat), k = n - q ∧ i = .int .i64 q ∧ q ≤ n ∧ q ≤ c2 ∧ (∀ j, j < q → ue j = 0) ∧ wr.heap[fb]? = some (.cells (fndC p rs rc re ry nx A n c B q c2) 81 (0, 0)) ∧ wr.ownsRow (fb + 1) 9 1 (.slice B q c2) q (strs (cs.take q)) ∧ Below fb B1 wr

set_option maxHeartbeats 4000000 in
set_option maxRecDepth 100000 in
theorem there_core (g d : Nat) (p sq nx0 rs rc nx er rm : Int) (re ry sg : Bool) (b : ByteArray) (n : Nat) (es : List Value) (blk cs : List ByteArray) (ue : Nat → Int) (w : World) (P : Bool → Prop)
    (h : w.heap[g]? = some (.cells #[.pointer (some ⟨d, 0, none⟩), .int .i64 p, .int .u64 sq, .int .i64 nx0] 95 (0, 0)))
    (hp : 0 ≤ p ∧ p ≤ 4096) (hn : n ≤ 1000) (hcl : cs.length = n) (her : er = 0 ∨ er = 70)
    (hR : ∀ W, Below w.heap.size w W → Calls Try.prog 92 #[.pointer (some ⟨d, 0, none⟩), .int .i64 p] W fun e W' => e = .returned (.tuple #[.string b, .int .i64 0]) ∧ W = W')
    (hRs : n ≤ rm → ∀ (q : Nat) x, blk[q]? = some x → q < n → ∀ W, Below w.heap.size w W → Calls Try.prog 92 #[.pointer (some ⟨d, 0, none⟩), .int .i64 (p + 1 + (q : Int))] W fun e W' => e = .returned (.tuple #[.string x, .int .i64 0]) ∧ W = W')
    (hbl : blk.length = n)
    (hD : ∀ W, Calls Try.prog 93 #[.string b] W fun e W' => ∃ A c, e = .returned (.tuple #[.agg #[.int .u64 rs, .int .u64 rc, .bool re, .bool ry, .int .i64 nx, .slice A n c], .int .i64 er]) ∧ n ≤ c ∧ Rd (fun k => W.heap.size ≤ k ∧ k < W'.heap.size) W' 4 A n es ∧ Below W.heap.size W W')
    (hM : ∀ W, Below w.heap.size w W → Calls Try.prog 18 #[.pointer (some ⟨g, 0, none⟩)] W fun e W' => e = .returned (.int .i64 rm) ∧ W = W')
    (hG : ∀ W, Below w.heap.size w W → Calls Try.prog 44 #[.pointer (some ⟨d, 0, none⟩), .int .i64 nx] W fun e W' => e = .returned (.bool sg) ∧ W = W')
    (hU : ∀ (q : Nat) x y, blk[q]? = some x → cs[q]? = some y → q < n → ∀ W, Calls Try.prog 94 #[.string x] W fun e W' => e = .returned (.tuple #[.string y, .int .i64 (ue q)]) ∧ W = W')
    (hP1 : er = 0 → rs = sq → (n : Int) ≤ rm → sg = true → (∀ q, q < n → ue q = 0) → P true)
    (hP0 : 281474976710656 ≤ sq ∨ er = 70 ∨ (er = 0 ∧ (rs ≠ sq ∨ rm < (n : Int) ∨ sg = false ∨ ∃ q, q < n ∧ ue q ≠ 0)) → P false) :
    Calls Try.prog 74 #[.pointer (some ⟨g, 0, none⟩)] w (ThOut w P p rs rc re ry nx n es cs) := by
  obtain ⟨hp0, hp1⟩ := hp
  have c0 := blk_cell h 0
  have c1 := blk_cell h 1
  have c2 := blk_cell h 2
  have hlt := (Array.getElem?_eq_some_iff.1 h).1
  simp at c0 c1 c2
  have H := Lib.hid h
  have HR := Lib.hid hR
  have HRS := Lib.hid hRs
  have HD := Lib.hid hD
  have HM := Lib.hid hM
  have HG := Lib.hid hG
  have HU := Lib.hid hU
  have HP1 := Lib.hid hP1
  have HP0 := Lib.hid hP0
  have HCL := Lib.hid hcl
  have HBL := Lib.hid hbl
  have HER := Lib.hid her
  clear h hR hRs hD hM hG hU hP1 hP0 hcl hbl her
  obtain ⟨W0, hW0⟩ : ∃ W0, W0 = w.alloc (.cells zeroF 81) := ⟨_, rfl⟩
  have hb0 : Below w.heap.size w W0 := by rw [hW0]; exact (Below.refl _ _).alloc (Nat.le_refl _) _
  have hr0 : W0.heap[w.heap.size]? = some (.cells zeroF 81 (0, 0)) := by rw [hW0]; exact heap_alloc_new w _
  have cr : ∀ k, Calls Try.prog 92 #[.pointer (some ⟨d, 0, none⟩), .int .i64 p] (W0.drewN k) fun e W' => e = .returned (.tuple #[.string b, .int .i64 0]) ∧ ∃ n, W' = W0.drewN n := fun k => (HR.out _ (below_drewN hb0 k)).mono fun e W' ⟨he, hw⟩ => ⟨he, k, hw.symm⟩
  have CR := Lib.hid cr
  have HB0 := Lib.hid hb0
  have HR0 := Lib.hid hr0
  have hz0 : W0.heap.size = w.heap.size + 1 := by rw [hW0]; simp
  have c00 : W0.cell? ⟨g, 0, none⟩ = some (.pointer (some ⟨d, 0, none⟩)) := by rw [hW0]; exact old_cell c0 _
  have c01 : W0.cell? ⟨g, 1, none⟩ = some (.int .i64 p) := by rw [hW0]; exact old_cell c1 _
  have c02 : W0.cell? ⟨g, 2, none⟩ = some (.int .u64 sq) := by rw [hW0]; exact old_cell c2 _
  clear cr hb0 hr0
  have p0 := blk_cell HR0.out 0
  have p1 := blk_cell HR0.out 1
  have p2 := blk_cell HR0.out 2
  have p3 := blk_cell HR0.out 3
  have p4 := blk_cell HR0.out 4
  have p5 := blk_cell HR0.out 5
  have p6 := blk_cell HR0.out 6
  have p7 := blk_cell HR0.out 7
  have pz0 := blk_frozen HR0.out 0
  have pz1 := blk_frozen HR0.out 1
  have pz2 := blk_frozen HR0.out 2
  have pz3 := blk_frozen HR0.out 3
  have pz4 := blk_frozen HR0.out 4
  have pz5 := blk_frozen HR0.out 5
  have pz6 := blk_frozen HR0.out 6
  have pz7 := blk_frozen HR0.out 7
  simp [zeroF] at p0 p1 p2 p3 p4 p5 p6 p7
  by_cases hmx : 281474976710656 ≤ sq
  · go_enter Try.func74, Try.ntmps74
    go_wp2_with fail
    unfold zeroF at hW0
    rw [← hW0]
    clear hW0
    go_quiet (exact CR.out _)
    rename_i nq
    go_wp2_with fail
    obtain ⟨hv1, hv2⟩ := th_no (p := p) (rs := rs) (rc := rc) (nx := nx) (re := re) (ry := ry) (n := n) (es := es) (cs := cs) (HP0.out (.inl hmx)) (below_drewN HB0.out nq) ((Fr.drewN (fun _ => False) _ _).get id HR0.out)
    refine bodyPost_ret (res_fnd2 rfl _ _ rfl hv1) rfl ?_
    exact hv2
  have hmx' : decide ((281474976710656 : Int) ≤ sq) = false := decide_eq_false hmx
  have HMX := Lib.hid hmx
  clear hmx
  go_enter Try.func74, Try.ntmps74
  go_wp2_with fail
  unfold zeroF at hW0
  rw [← hW0]
  clear hW0
  go_quiet (exact CR.out _)
  rename_i nq
  go_wp2_with fail
  refine (HD.out _).mono ?_
  rintro e w1 ⟨A, c, rfl, hc, hrd, hb1⟩
  go_wp2_with fail
  clear p0 p1 p2 p3 p4 p5 p6 p7 pz0 pz1 pz2 pz3 pz4 pz5 pz6 pz7
  have hb1' : Below w.heap.size w w1 := (below_drewN HB0.out nq).trans (hb1.mono (by simp; omega))
  have hz1 : w.heap.size + 1 ≤ w1.heap.size := by have := hb1.size; simp at this; omega
  have hg1 : w1.heap[g]? = _ := (hb1'.block g hlt).trans H.out
  have hr1 : w1.heap[w.heap.size]? = some (.cells zeroF 81 (0, 0)) := (hb1.block _ (by simp; omega)).trans ((Fr.drewN (fun _ => False) _ _).get id HR0.out)
  clear c00 c01 c02 CR
  obtain ⟨W2, hW2⟩ : ∃ W2, W2 = w1.alloc (.cells #[.int .u64 rs, .int .u64 rc, .bool re, .bool ry, .int .i64 nx, .slice A n c] 79) := ⟨_, rfl⟩
  rw [← hW2]
  have hx2 : W2.heap[w1.heap.size]? = some (.cells #[.int .u64 rs, .int .u64 rc, .bool re, .bool ry, .int .i64 nx, .slice A n c] 79 (0, 0)) := by rw [hW2]; exact heap_alloc_new w1 _
  have hr2 : W2.heap[w.heap.size]? = some (.cells zeroF 81 (0, 0)) := by rw [hW2]; exact old_alloc hr1 _
  have hg2 : W2.heap[g]? = some (.cells #[.pointer (some ⟨d, 0, none⟩), .int .i64 p, .int .u64 sq, .int .i64 nx0] 95 (0, 0)) := by rw [hW2]; exact old_alloc hg1 _
  have hb2 : Below w.heap.size w W2 := by rw [hW2]; exact hb1'.alloc hb1'.size _
  have hz2 : W2.heap.size = w1.heap.size + 1 := by rw [hW2]; simp
  have hrd2 : Rd (fun k => w.heap.size < k ∧ k < W2.heap.size) W2 4 A n es := by
    rw [hW2]
    refine (Rd.kept hrd ((Fr.refl (fun _ => False) w1).alloc _) (fun _ _ => id)).mono (fun k hk => ?_)
    simp at hk ⊢
    omega
  have HZ2 := Lib.hid hz2
  clear hW2 hg1 hr1 hrd hb1 hb1'
  have HX2 := Lib.hid hx2
  have HR2 := Lib.hid hr2
  have HG2 := Lib.hid hg2
  have HB2 := Lib.hid hb2
  have HRD2 := Lib.hid hrd2
  have x0 := blk_cell hx2 0
  have x1 := blk_cell hx2 1
  have x2 := blk_cell hx2 2
  have x3 := blk_cell hx2 3
  have x4 := blk_cell hx2 4
  have x5 := blk_cell hx2 5
  have g0 := blk_cell hg2 0
  have g1 := blk_cell hg2 1
  have g2 := blk_cell hg2 2
  have p0 := blk_cell hr2 0
  have p1 := blk_cell hr2 1
  have p2 := blk_cell hr2 2
  have p3 := blk_cell hr2 3
  have p4 := blk_cell hr2 4
  have p5 := blk_cell hr2 5
  have p6 := blk_cell hr2 6
  have p7 := blk_cell hr2 7
  have pz0 := blk_frozen hr2 0
  have pz1 := blk_frozen hr2 1
  have pz2 := blk_frozen hr2 2
  have pz3 := blk_frozen hr2 3
  have pz4 := blk_frozen hr2 4
  have pz5 := blk_frozen hr2 5
  have pz6 := blk_frozen hr2 6
  have pz7 := blk_frozen hr2 7
  simp [zeroF] at x0 x1 x2 x3 x4 x5 g0 g1 g2 p0 p1 p2 p3 p4 p5 p6 p7
  have cm : ∀ k, Calls Try.prog 18 #[.pointer (some ⟨g, 0, none⟩)] (W2.drewN k) fun e W' => e = .returned (.int .i64 rm) ∧ ∃ n, W' = W2.drewN n := fun k => (HM.out _ (below_drewN hb2 k)).mono fun e W' ⟨he, hw⟩ => ⟨he, k, hw.symm⟩
  have cg : ∀ k, Calls Try.prog 44 #[.pointer (some ⟨d, 0, none⟩), .int .i64 nx] (W2.drewN k) fun e W' => e = .returned (.bool sg) ∧ ∃ n, W' = W2.drewN n := fun k => (HG.out _ (below_drewN hb2 k)).mono fun e W' ⟨he, hw⟩ => ⟨he, k, hw.symm⟩
  have CM := Lib.hid cm
  have CG := Lib.hid cg
  have hno : P false → ∀ k, (loadVar 81 ⟨w.heap.size, 0, none⟩).run Try.prog (set0 (W2.drewN k) w.heap.size) = .ok (.agg zeroF) (set0 (W2.drewN k) w.heap.size) ∧ ThOut w P p rs rc re ry nx n es cs (.returned (.tuple #[.agg zeroF, .bool false])) (set0 (W2.drewN k) w.heap.size) :=
    fun hP k => th_no hP (below_drewN hb2 k) ((Fr.drewN (fun _ => False) _ _).get id hr2)
  have NO := Lib.hid hno
  clear cm cg hno hx2 hr2 hg2 hb2 hrd2
  rcases HER.out with rfl | rfl
  case inr =>
    have np := NO.out (HP0.out (.inr (.inl rfl)))
    have NP := Lib.hid np
    clear np
    go_quiet (fail)
    go_wp2_with fail
    obtain ⟨hv1, hv2⟩ := NP.out nq
    refine bodyPost_ret (res_fnd2 rfl _ _ rfl hv1) rfl ?_
    exact hv2
  by_cases hsq : rs = sq
  case neg =>
    have hsq' : (rs != sq) = true := by simpa using hsq
    have np := NO.out (HP0.out (.inr (.inr ⟨rfl, .inl hsq⟩)))
    have NP := Lib.hid np
    clear np
    go_quiet (fail)
    go_wp2_with fail
    obtain ⟨hv1, hv2⟩ := NP.out nq
    refine bodyPost_ret (res_fnd2 rfl _ _ rfl hv1) rfl ?_
    exact hv2
  subst hsq
  by_cases hrm : rm < (n : Int)
  case pos =>
    have np := NO.out (HP0.out (.inr (.inr ⟨rfl, .inr (.inl hrm)⟩)))
    have NP := Lib.hid np
    clear np
    go_quiet (exact CM.out _)
    go_wp2_with fail
    obtain ⟨hv1, hv2⟩ := NP.out nq
    refine bodyPost_ret (res_fnd2 rfl _ _ rfl hv1) rfl ?_
    exact hv2
  have hrm' : (n : Int) ≤ rm := by omega
  have hrm2 : decide (rm < (n : Int)) = false := decide_eq_false hrm
  cases sg
  case false =>
    have np := NO.out (HP0.out (.inr (.inr ⟨rfl, .inr (.inr (.inl rfl))⟩)))
    have NP := Lib.hid np
    clear np
    go_quiet (first | exact CM.out _ | exact CG.out _)
    go_wp2_with fail
    obtain ⟨hv1, hv2⟩ := NP.out nq
    refine bodyPost_ret (res_fnd2 rfl _ _ rfl hv1) rfl ?_
    exact hv2
  have hun : ∀ q, q < n → ¬ ue q = 0 → P false := fun q h1 h2 => HP0.out (.inr (.inr ⟨rfl, .inr (.inr (.inr ⟨q, h1, h2⟩))⟩))
  have hye : (∀ q, q < n → ue q = 0) → P true := fun h => HP1.out rfl rfl hrm' rfl h
  have UN := Lib.hid hun
  have YE := Lib.hid hye
  clear hun hye HP0 HP1
  go_quiet (first | exact CM.out _ | exact CG.out _)
  go_wp2_with fail
  refine wp_rows_drew (fun V => V.cell? ⟨g, 1, none⟩ = some (.int .i64 p) ∧ V.cell? ⟨w1.heap.size, 0, none⟩ = some (.int .u64 rs) ∧ V.cell? ⟨w1.heap.size, 1, none⟩ = some (.int .u64 rc) ∧ V.cell? ⟨w1.heap.size, 2, none⟩ = some (.bool re) ∧ V.cell? ⟨w1.heap.size, 3, none⟩ = some (.bool ry) ∧ V.cell? ⟨w1.heap.size, 4, none⟩ = some (.int .i64 nx) ∧ V.cell? ⟨w1.heap.size, 5, none⟩ = some (.slice A n c))
    [0, 1, 2, 3, 4, 5] [] [6] [7] (by kernel_rfl) (by kernel_rfl) (fun _ _ _ _ e h => ⟨e ▸ h.1, h.2⟩) (fun k => ⟨g1, x0, x1, x2, x3, x4, x5⟩) ?_
  iterate 6
    refine heldQ_step rfl (yieldsIf_of rfl (fun V hV => by obtain ⟨s0, s1, s2, s3, s4, s5, s6⟩ := hV; go_simp; first | done | rfl)) (fun K' hK' => ?_)
    go_simp
    refine hK' _ ?_
    clear hK' K'
  simp only [heldQ, opsAt, List.filterMap_cons, List.filterMap_nil, List.getElem?_toArray, List.getElem?_cons_succ, List.getElem?_cons_zero]
  refine wpQuiet_nil ?_
  intro nq3
  refine wpListS_step rfl (fun K' hK' => ?_)
  go_simp
  refine hK' _ _ ⟨old_cell g1 _, old_cell x0 _, old_cell x1 _, old_cell x2 _, old_cell x3 _, old_cell x4 _, old_cell x5 _⟩ ?_
  clear hK' K'
  simp only [wpListS]
  show wpList _ _ _ (_ :: []) _ _
  go_wp2_with fail
  have hfb : ((W2.drewN (nq + nq3)).alloc (.cells #[.int .i64 p, .int .u64 rs, .int .u64 rc, .bool re, .bool ry, .int .i64 nx, .slice A n c, .slice none 0 0] 81)).heap[(w1.heap.size + 1)]? = some (.cells (fndC p rs rc re ry nx A n c none 0 0) 81 (0, 0)) := by
    have := heap_alloc_new (W2.drewN (nq + nq3)) (.cells #[.int .i64 p, .int .u64 rs, .int .u64 rc, .bool re, .bool ry, .int .i64 nx, .slice A n c, .slice none 0 0] 81)
    rw [show (W2.drewN (nq + nq3)).heap.size = w1.heap.size + 1 from hz2] at this
    exact this
  have hbl3 : Below (w1.heap.size + 1) W2 ((W2.drewN (nq + nq3)).alloc (.cells #[.int .i64 p, .int .u64 rs, .int .u64 rc, .bool re, .bool ry, .int .i64 nx, .slice A n c, .slice none 0 0] 81)) :=
    ((below_drewN (Below.refl _ _) (nq + nq3)).alloc (by show _ ≤ W2.heap.size; omega) _)
  clear p0 p1 p2 p3 p4 p5 p6 p7 pz0 pz1 pz2 pz3 pz4 pz5 pz6 pz7 g0 g1 g2 x0 x1 x2 x3 x4 x5 c0 c1 c2 CM CG
  have HRL0 : Hid (ThRel w (w1.heap.size + 1) n p rs rc re ry nx A c cs ue W2 n (.int .i64 0) ((W2.drewN (nq + nq3)).alloc (.cells #[.int .i64 p, .int .u64 rs, .int .u64 rc, .bool re, .bool ry, .int .i64 nx, .slice A n c, .slice none 0 0] 81))) :=
    Lib.hid ⟨0, none, 0, rfl, rfl, Nat.zero_le _, Nat.le_refl _, fun j hj => absurd hj (Nat.not_lt_zero j), hfb, ⟨by simp, .inl ⟨rfl, rfl⟩⟩, hbl3⟩
  clear hfb hbl3 hz2
  obtain ⟨i0, hi0, hiz0, hiz1, hiz2⟩ := info_parts infoS
  have hni : (n : Int) ≤ 1000 := by omega
  go_loopg [79] n (ThRel w (w1.heap.size + 1) n p rs rc re ry nx A c cs ue W2)
  case atStart => exact HRL0.out
  case round =>
    obtain ⟨q, B, c2, rfl, rfl, hq, hqc, hdn, hF, hown, hbw⟩ := hrel
    have DN := Lib.hid hdn
    clear hdn
    have hbw2 := HB2.out
    have hsz2 : w.heap.size ≤ w1.heap.size + 1 := by omega
    have hbq : Below w.heap.size w wr := hbw2.trans (hbw.mono hsz2)
    have hgq : wr.heap[g]? = _ := (hbq.block g hlt).trans H.out
    have hrq : wr.heap[w.heap.size]? = some (.cells zeroF 81 (0, 0)) := (hbw.block _ (by omega)).trans HR2.out
    have g0 := blk_cell hgq 0
    have g1 := blk_cell hgq 1
    have p0 := blk_cell hrq 0
    have p1 := blk_cell hrq 1
    have p2 := blk_cell hrq 2
    have p3 := blk_cell hrq 3
    have p4 := blk_cell hrq 4
    have p5 := blk_cell hrq 5
    have p6 := blk_cell hrq 6
    have p7 := blk_cell hrq 7
    have pz0 := blk_frozen hrq 0
    have pz1 := blk_frozen hrq 1
    have pz2 := blk_frozen hrq 2
    have pz3 := blk_frozen hrq 3
    have pz4 := blk_frozen hrq 4
    have pz5 := blk_frozen hrq 5
    have pz6 := blk_frozen hrq 6
    have pz7 := blk_frozen hrq 7
    have HF := Lib.hid hF
    have HO := Lib.hid hown
    have HBW := Lib.hid hbw
    have HBQ := Lib.hid hbq
    have HRQ := Lib.hid hrq
    have hwz : w1.heap.size + 1 ≤ wr.heap.size := by have := hbw.size; rw [HZ2.out] at this; exact this
    clear hgq hrq hbw2 hbq
    by_cases hgo : q < n
    · have hgi : (q : Int) < (n : Int) := by omega
      simp [zeroF] at g0 g1 p0 p1 p2 p3 p4 p5 p6 p7
      have F7 := blk_cell hF 7
      have Z7 := blk_frozen hF 7
      simp [fndC] at F7
      obtain ⟨x, hx⟩ : ∃ x, blk[q]? = some x := ⟨_, List.getElem?_eq_getElem (by rw [HBL.out]; exact hgo)⟩
      obtain ⟨y, hy⟩ : ∃ y, cs[q]? = some y := ⟨_, List.getElem?_eq_getElem (by rw [HCL.out]; exact hgo)⟩
      have cr : ∀ k, Calls Try.prog 92 #[.pointer (some ⟨d, 0, none⟩), .int .i64 (p + 1 + (q : Int))] (wr.drewN k) fun e W' => e = .returned (.tuple #[.string x, .int .i64 0]) ∧ ∃ n, W' = wr.drewN n := fun k => (HRS.out hrm' q x hx hgo _ (below_drewN HBQ.out k)).mono fun e W' ⟨he, hw⟩ => ⟨he, k, hw.symm⟩
      have CR := Lib.hid cr
      have cu := HU.out q x y hx hy hgo
      have CU := Lib.hid cu
      have e1 : IntKind.i64.wrap (p + 1) = p + 1 := by rw [IntKind.wrap_i64]; omega
      have e2 : IntKind.i64.wrap (p + 1 + (q : Int)) = p + 1 + (q : Int) := by rw [IntKind.wrap_i64]; omega
      have htk : strs (cs.take (q + 1)) = strs (cs.take q) ++ [.string y] := by rw [List.take_add_one, hy]; simp [strs]
      have HTK := Lib.hid htk
      clear cr cu hF hown hbw hx hy htk
      go_wp2_with fail
      go_quiet (exact CR.out _)
      go_wp2_with fail
      refine (CU.out _).mono ?_
      rintro e w4 ⟨rfl, rfl⟩
      by_cases hu : ue q = 0
      · have hu' : (ue q != 0) = false := by simpa using hu
        have HU0 := Lib.hid hu
        clear hu
        go_wp2_with (at_builtin; refine wpList_append_rd _ rfl (.tmp 106) (.tmp 108) 43 rfl ((w1.heap.size + 1) + 1) 9 i0 _ 1 16 Try.underlying43 hi0 hiz0 hiz1 hiz2 rfl (by decide) _ q (strs (cs.take q)) rfl (Fr.own HO.out ((Fr.drewN (fun _ => False) wr nq).alloc _) (fun _ _ => id)) _ (some ⟨wr.heap.size, 0, none⟩) 1 1 [.string y] rfl (rd_new1 (wr.drewN nq) y) (by simp [Value.oneCell']) (by unfold maxLen; omega) (by omega) (by simp; omega) ?_; intro v3 w3 hown3 hg3 hat3; obtain ⟨B3, c3, rfl, hc3, _⟩ := Rd.of_own2 hown3; have hne : ∀ k, (Value.slice B q c2).ownBlock = some k → ¬ k = (w1.heap.size + 1) := fun k hk e => (by have := (HO.out.lt k hk).1; omega); have hF3 := (Fr.of_grown hg3).get (fun e => hne _ e.symm rfl) (old_alloc (w := wr.drewN nq) HF.out (.cells #[.string y] 9)); have f37 := blk_cell hF3 7; have fz7 := blk_frozen hF3 7; simp [fndC] at f37; have hf3 : Fr (fun k => (w1.heap.size + 1) ≤ k) wr w3 := ((Fr.drewN _ wr nq).alloc _).grown hg3 (fun k hk h' => (by have := hne k hk; have := (HO.out.lt k hk).1; omega)); have HF3 := Lib.hid hF3; have HF4 := Lib.hid hf3; have HO3 := Lib.hid hown3; have HG3 := Lib.hid hg3; have HT3 := Lib.hid hat3; clear hF3 hf3 hown3 hg3 hat3 hne)
        go_roundg (n - (q + 1))
        case measure => omega
        case rel =>
          have hset := blk_set HF3.out 7 (.slice B3 (q + 1) c3)
          have hne3 : ∀ k, (Value.slice B3 (q + 1) c3).ownBlock = some k → k ≠ (w1.heap.size + 1) := fun k hk e => by have := (HO3.out.lt k hk).1; omega
          refine ⟨q + 1, B3, c3, rfl, by simp, by omega, hc3, fun j hj => ?_, hset, ?_, ?_⟩
          · by_cases hjq : j = q
            · rw [hjq]; exact HU0.out
            · exact DN.out j (by omega)
          · rw [HTK.out]
            exact Fr.own HO3.out (Fr.set1 w3 (w1.heap.size + 1) 7 _) hne3
          · exact HBW.out.trans ((Fr.setCell (p := ⟨(w1.heap.size + 1), 7, none⟩) HF4.out (fun _ => Nat.le_refl _) _).below hwz (fun k hk => hk))
      · have hu' : (ue q != 0) = true := by simpa using hu
        have NP := Lib.hid (UN.out q hgo hu)
        clear hu
        go_wp2_with fail
        obtain ⟨hv1, hv2⟩ := th_no (p := p) (rs := rs) (rc := rc) (nx := nx) (re := re) (ry := ry) (n := n) (es := es) (cs := cs) NP.out (below_drewN HBQ.out nq) ((Fr.drewN (fun _ => False) _ _).get id HRQ.out)
        refine bodyPost_ret (res_fnd2 rfl _ _ rfl hv1) rfl ?_
        exact hv2
    · obtain rfl : q = n := by omega
      have F0 := blk_cell hF 0
      have F1 := blk_cell hF 1
      have F2 := blk_cell hF 2
      have F3 := blk_cell hF 3
      have F4 := blk_cell hF 4
      have F5 := blk_cell hF 5
      have F6 := blk_cell hF 6
      have F7 := blk_cell hF 7
      simp [fndC] at F0 F1 F2 F3 F4 F5 F6 F7
      simp [zeroF] at g0 g1 p0 p1 p2 p3 p4 p5 p6 p7
      have hgi : ¬ (q : Int) < (q : Int) := by omega
      clear hF hown hbw
      go_wp2_with fail
      obtain ⟨s1, s2⟩ := set_fnd HRQ.out (.int .i64 p) (.int .u64 rs) (.int .u64 rc) (.bool re) (.bool ry) (.int .i64 nx) (.slice A q c) (.slice B q c2)
      have s3 := load_fnd _ _ _ _ _ _ _ _ _ _ s1
      refine bodyPost_ret (res_fnd2 rfl _ _ rfl s3) rfl ?_
      refine ⟨HBQ.out.trans (s2.below HBQ.out.size (fun k hk => by omega)), .inl ⟨YE.out DN.out, A, c, B, c2, rfl, hc, hqc, ?_, ?_⟩⟩
      · have r1 := HRD2.out.kept (Fr.of_below HBW.out) (fun k hk => by have := HZ2.out; omega)
        refine (r1.kept s2 (fun k hk e => by omega)).mono (fun k hk => ?_)
        have := HZ2.out
        exact ⟨by omega, Nat.lt_of_lt_of_le (by omega) s2.size⟩
      · obtain ⟨A', c', e', _, r2⟩ := Rd.of_own2 HO.out
        injection e' with e1 _ e3
        subst e1 e3
        rw [List.take_of_length_le (by rw [HCL.out]; exact Nat.le_refl _)] at r2
        refine (r2.kept s2 (fun k hk e => by omega)).mono (fun k hk => ?_)
        exact ⟨by omega, Nat.lt_of_lt_of_le (by omega) s2.size⟩
end Go.Proofs.Ytjmfeoenbncibaa

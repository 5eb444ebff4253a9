/- Texts of this proof, joined: Lq. They hold under no condition beyond what each theorem states. -/
import Derived.Test.YtjmfeoenbncibaaM29
namespace Go.Proofs.Ytjmfeoenbncibaa
open Go.RowKit Go.Nau Go.Shelf
attribute [local go_sem] Oper.semAt_some

theorem rd_newI2 (w3 : World) (b k : Nat) (u : Value) (x : Int) : Rd (fun _ => True) ((w3.setCell ⟨b, k, none⟩ u).alloc (.cells #[.int .i64 x] 3)) 1 (some ⟨w3.heap.size, 0, none⟩) 1 [.int .i64 x] := by
  have := rd_newI (w3.setCell ⟨b, k, none⟩ u) x
  rwa [World.size_setCell] at this
theorem w_grow {W w4 : World} {o : Obj} {base : Nat} {vx : Value} {tx : TypeId} {sx nx : Nat} {xs : List Value} (hx : W.ownsRow base tx sx vx nx xs) (hgr : (W.alloc o).grownBy w4 vx.ownBlock) :
    (∀ (ty : TypeId) (sy ny : Nat) (vy : Value) (ys : List Value), ty ≠ tx → W.ownsRow base ty sy vy ny ys → w4.ownsRow base ty sy vy ny ys) ∧ Fr (fun k => base ≤ k) W w4 ∧ ∀ k o', k < base → W.heap[k]? = some o' → w4.heap[k]? = some o' := by
  have hk : ∀ k, vx.ownBlock = some k → base ≤ k := fun k hk => (hx.lt k hk).1
  have f : Fr (fun k => some k = vx.ownBlock) W w4 := ((Fr.refl _ W).alloc o).trans (Fr.of_grown hgr)
  exact ⟨fun ty sy ny vy ys hne hy => Fr.own hy f (fun k hk e => own_own_ne hy hx hne k hk e.symm), f.mono (fun k e => hk k e.symm), fun k o' hkb h => f.get (fun e => by have := hk _ e.symm; omega) h⟩
theorem w_arm1 {wr w2 w3 : World} {q k1 k2 k3 m3 rb base : Nat} {A1 A2 A3 B3 : Option Addr} {xs1 xs2 xs3 ys : List Value} {r0 r1 r2 r3 r4 : Value} {o : Obj} (hf : Fr (fun _ => False) wr w2) (h1 : wr.ownsRow base 3 1 (.slice A1 q k1) q xs1) (h2 : wr.ownsRow base 9 1 (.slice A2 q k2) q xs2)
    (h3 : wr.ownsRow base 85 4 (.slice A3 q k3) q xs3) (hr : wr.heap[rb]? = some (.cells #[r0, r1, r2, r3, r4, .slice A3 q k3] 79 (0, 0))) (hgr : (w2.alloc o).grownBy w3 (Value.slice A3 q k3).ownBlock) (hrb : rb + 1 = base)
    (hown : w3.ownsRow base 85 4 (.slice B3 (q + 1) m3) (q + 1) ys) :
    w3.heap[rb]? = some (.cells #[r0, r1, r2, r3, r4, .slice A3 q k3] 79 (0, 0)) ∧ (w3.setCell ⟨rb, 5, none⟩ (.slice B3 (q + 1) m3)).ownsRow base 3 1 (.slice A1 q k1) q xs1 ∧ (w3.setCell ⟨rb, 5, none⟩ (.slice B3 (q + 1) m3)).ownsRow base 9 1 (.slice A2 q k2) q xs2 ∧ (w3.setCell ⟨rb, 5, none⟩ (.slice B3 (q + 1) m3)).ownsRow base 85 4 (.slice B3 (q + 1) m3) (q + 1) ys ∧
      Fr (fun k => rb ≤ k) wr (w3.setCell ⟨rb, 5, none⟩ (.slice B3 (q + 1) m3)) ∧ (w3.setCell ⟨rb, 5, none⟩ (.slice B3 (q + 1) m3)).heap[rb]? = some (.cells #[r0, r1, r2, r3, r4, .slice B3 (q + 1) m3] 79 (0, 0)) ∧
      (∀ k o', k < rb → wr.heap[k]? = some o' → (w3.setCell ⟨rb, 5, none⟩ (.slice B3 (q + 1) m3)).heap[k]? = some o' ∧ w3.heap[k]? = some o') := by
  have h3' := Fr.own h3 hf (fun _ _ => id)
  obtain ⟨g1, g2, g3⟩ := w_grow h3' hgr
  have f0 : Fr (fun k => base ≤ k) wr w3 := (hf.mono (fun _ h => h.elim)).trans g2
  have hr3 := g3 rb _ (by omega) (hf.get id hr)
  have fs : Fr (· = rb) w3 (w3.setCell ⟨rb, 5, none⟩ (.slice B3 (q + 1) m3)) := Fr.set1 _ _ _ _
  have own : ∀ (ty : TypeId) (sy ny : Nat) (vy : Value) (zs : List Value), w3.ownsRow base ty sy vy ny zs → (w3.setCell ⟨rb, 5, none⟩ (.slice B3 (q + 1) m3)).ownsRow base ty sy vy ny zs := fun ty sy ny vy zs h => Fr.own h fs (fun k hk e => by have := (h.lt k hk).1; omega)
  refine ⟨hr3, own _ _ _ _ _ (g1 _ _ _ _ _ (by decide) (Fr.own h1 hf (fun _ _ => id))), own _ _ _ _ _ (g1 _ _ _ _ _ (by decide) (Fr.own h2 hf (fun _ _ => id))), own _ _ _ _ _ hown, (f0.mono (fun k h => by omega)).trans (fs.mono (fun k h => by omega)), blk_set hr3 5 _, fun k o' hk h => ?_⟩
  have := g3 k o' (by omega) (hf.get id h)
  exact ⟨fs.get (by omega) this, this⟩

theorem DPost.ext {w W W' : World} {F : Nat → Prop} {d : Nat} {s : DS} (h : DPost w F d s W) (hf : Fr (fun _ => False) W W') : DPost w F d s W' := by
  obtain ⟨F', h1, h2, h3⟩ := h
  exact ⟨F', h1.kept hf (fun _ _ => id), fun k hk => (h2 k hk).imp id (fun h => ⟨h.1, Nat.lt_of_lt_of_le h.2 hf.size⟩), h3.trans (hf.mono (fun _ h => h.elim))⟩
theorem DPost.start {w : World} {F : Nat → Prop} {d : Nat} {s : DS} (h : Dsk w F d s) : DPost w F d s w := ⟨F, h, fun _ => .inl, Fr.refl _ _⟩
theorem DPost.frame {w W : World} {F : Nat → Prop} {d : Nat} {s : DS} (h : DPost w F d s W) : Fr F w W := by
  obtain ⟨_, _, _, h3⟩ := h
  exact h3
def W2Rel (n : Nat) (wb : Nat → Int × DS) (W1 : World) (F : Nat → Prop) (d : Nat) (k : Nat) (i : Value) (wr : World) : Prop :=
  ∃ q : Nat, k = n - q ∧ i = .int .i64 q ∧ q ≤ n ∧ (wb q).1 = 0 ∧ DPost W1 F d (wb q).2 wr

set_option maxHeartbeats 8000000 in
set_option maxRecDepth 100000 in
theorem write_core (g d n c : Nat) (A : Option Addr) (p sq cp nx rm ee : Int) (en sy : Bool) (its : List (Ent × ByteArray)) (head : ByteArray) (bs : Nat → ByteArray) (we : Nat → Int) (wb : Nat → Int × DS) (fin : Int × DS) (p' nx' : Int) (F : Nat → Prop) (w : World) (P : Nat → Int → Int → Int → Int → DS → Prop)
    (hg : w.heap[g]? = some (.cells #[.pointer (some ⟨d, 0, none⟩), .int .i64 p, .int .u64 sq, .int .i64 nx] 95 (0, 0))) (hgF : ¬ F g) (hF : ∀ k, F k → k < w.heap.size) (hd : Dsk w F d (wb 0).2) (hb0 : (wb 0).1 = 0)
    (hr : Rd (· < w.heap.size) w 5 A n (itC its)) (hl : its.length = n) (hn : (n : Int) ≤ 1000000) (hrm : 0 ≤ rm ∧ rm ≤ 15) (hp : 0 ≤ p ∧ p ≤ 4096)
    (hM : ∀ W, Below w.heap.size w W → Calls Try.prog 18 #[.pointer (some ⟨g, 0, none⟩)] W fun e W' => e = .returned (.int .i64 rm) ∧ W = W')
    (hW : ∀ q x W, its[q]? = some x → Calls Try.prog 46 #[.string x.2] W fun e w' => e = .returned (.tuple #[.string (bs q), .int .i64 (we q)]) ∧ Below W.heap.size W w')
    (hE : ∀ A' c' W, (n : Int) ≤ rm → Rd (· < W.heap.size) W 4 A' n (entC (its.map (·.1))) → Calls Try.prog 47 #[.agg #[.int .u64 sq, .int .u64 cp, .bool en, .bool sy, .int .i64 nx, .slice A' n c']] W fun e w' => e = .returned (.tuple #[.string head, .int .i64 ee]) ∧ Below W.heap.size W w')
    (hDW : ∀ q W1 W, q < n → (n : Int) ≤ rm → (∀ j, j < n → we j = 0) → Below w.heap.size w W1 → (wb q).1 = 0 → DPost W1 F d (wb q).2 W → Calls Try.prog 48 #[.pointer (some ⟨d, 0, none⟩), .int .i64 (p + 1 + (q : Int)), .string (bs q)] W fun e w' => e = .returned (.int .i64 (wb (q + 1)).1) ∧ DPost W1 F d (wb (q + 1)).2 w')
    (hFi : ∀ W1 V0 b5 b19, (n : Int) ≤ rm → (∀ j, j < n → we j = 0) → ee = 0 → Below w.heap.size w W1 → b5 < W1.heap.size → b19 < W1.heap.size → ¬ F b5 → ¬ F b19 → W1.heap[b5]? = some (.cells #[.pointer (some ⟨g, 0, none⟩)] 28 (0, 0)) → W1.heap[b19]? = some (.cells #[.string head] 9 (0, 0)) → (wb n).1 = 0 → DPost W1 F d (wb n).2 V0 →
      Calls Try.prog 49 #[.slice (some ⟨V0.heap.size, 0, none⟩) 3 3] (V0.alloc (.cells #[.func (.func 50) #[.pointer (some ⟨d, 0, none⟩)] #[], .func (.func 51) #[] #[.pointer (some ⟨b5, 0, none⟩), .pointer (some ⟨b19, 0, none⟩)], .func (.func 50) #[.pointer (some ⟨d, 0, none⟩)] #[]] 107)) fun e w' => e = .returned (.int .i64 fin.1) ∧ DPost W1 F d fin.2 w')
    (hGo : ∀ W A' c', (n : Int) ≤ rm → ee = 0 → W.heap[g]? = some (.cells #[.pointer (some ⟨d, 0, none⟩), .int .i64 p, .int .u64 sq, .int .i64 nx] 95 (0, 0)) → Calls Try.prog 52 #[.pointer (some ⟨g, 0, none⟩), .agg #[.int .u64 sq, .int .u64 cp, .bool en, .bool sy, .int .i64 nx, .slice A' n c']] W fun e w' => e = .returned (.tuple #[]) ∧ w'.heap[g]? = some (.cells #[.pointer (some ⟨d, 0, none⟩), .int .i64 p', .int .u64 (sq + 1), .int .i64 nx'] 95 (0, 0)) ∧ Fr (· = g) W w')
    (hP152 : nx = 0 → P 0 152 p sq nx (wb 0).2) (hP2 : nx ≠ 0 → (rm < n ∨ (∃ q, q < n ∧ we q ≠ 0) ∨ ((n : Int) ≤ rm ∧ ee ≠ 0)) → P 0 2 p sq nx (wb 0).2)
    (hPb : nx ≠ 0 → (n : Int) ≤ rm → (∀ j, j < n → we j = 0) → ee = 0 → ∀ q, q < n → (wb q).1 = 0 → (wb (q + 1)).1 ≠ 0 → P 0 (wb (q + 1)).1 p sq nx (wb (q + 1)).2)
    (hPf : nx ≠ 0 → (n : Int) ≤ rm → (∀ j, j < n → we j = 0) → ee = 0 → (wb n).1 = 0 → fin.1 ≠ 0 → P 0 fin.1 p sq nx fin.2)
    (hPo : nx ≠ 0 → (n : Int) ≤ rm → (∀ j, j < n → we j = 0) → ee = 0 → (wb n).1 = 0 → fin.1 = 0 → P n 0 p' (sq + 1) nx' fin.2) :
    Calls Try.prog 17 #[.pointer (some ⟨g, 0, none⟩), .int .u64 cp, .slice A n c, .bool en, .bool sy] w (WrOut w F g d P p) := by
  obtain ⟨hp0, hp1⟩ := hp
  obtain ⟨hrm0, hrm1⟩ := hrm
  have hgl := (Array.getElem?_eq_some_iff.1 hg).1
  have c0 := blk_cell hg 0
  have c1 := blk_cell hg 1
  have c2 := blk_cell hg 2
  have c3 := blk_cell hg 3
  simp at c0 c1 c2 c3
  have hno : ∀ W code, P 0 code p sq nx (wb 0).2 → Below w.heap.size w W → WrOut w F g d P p (.returned (.tuple #[.slice none 0 0, .int .i64 code])) W := fun W code h hb =>
    ⟨0, code, p, sq, nx, (wb 0).2, none, 0, rfl, h, Nat.le_refl _, Rd.nil _ _ _ _, (hb.block g hgl).trans hg, ⟨F, hd.kept (Fr.of_below hb) (fun k hk h2 => by have := hF k hk; omega), fun k hk => .inl hk⟩, Fr.new hb _⟩
  have NO := Lib.hid hno
  have HG := Lib.hid hg
  have HFF := Lib.hid hF
  have HDD := Lib.hid hd
  have HB0 := Lib.hid hb0
  have HR := Lib.hid hr
  have HL := Lib.hid hl
  have HM := Lib.hid hM
  have HW := Lib.hid hW
  have HE := Lib.hid hE
  have HDW := Lib.hid hDW
  have HFI := Lib.hid hFi
  have HGO := Lib.hid hGo
  have P152 := Lib.hid hP152
  have P2 := Lib.hid hP2
  have PB := Lib.hid hPb
  have PF := Lib.hid hPf
  have PO := Lib.hid hPo
  clear hno hg hF hd hb0 hr hl hM hW hE hDW hFi hGo hP152 hP2 hPb hPf hPo
  obtain ⟨W0, hW0⟩ : ∃ W0, W0 = w.alloc (.cells #[.pointer (some ⟨g, 0, none⟩)] 28) := ⟨_, rfl⟩
  have hb0 : Below w.heap.size w W0 := by rw [hW0]; exact (Below.refl _ _).alloc (Nat.le_refl _) _
  have hx0 : W0.heap[w.heap.size]? = some (.cells #[.pointer (some ⟨g, 0, none⟩)] 28 (0, 0)) := by rw [hW0]; exact heap_alloc_new w _
  have hz0 : W0.heap.size = w.heap.size + 1 := by rw [hW0]; simp
  have b0 := blk_cell hx0 0
  have d0 : W0.cell? ⟨g, 0, none⟩ = some (.pointer (some ⟨d, 0, none⟩)) := by rw [hW0]; exact old_cell c0 _
  have d1 : W0.cell? ⟨g, 1, none⟩ = some (.int .i64 p) := by rw [hW0]; exact old_cell c1 _
  have d2 : W0.cell? ⟨g, 2, none⟩ = some (.int .u64 sq) := by rw [hW0]; exact old_cell c2 _
  have d3 : W0.cell? ⟨g, 3, none⟩ = some (.int .i64 nx) := by rw [hW0]; exact old_cell c3 _
  simp at b0
  by_cases hnx : nx = 0
  · have hP := Lib.hid (NO.out W0 152 (P152.out hnx) hb0)
    subst hnx
    go_enter Try.func17, Try.ntmps17
    go_wp2_with fail
    rw [← hW0]
    clear hW0
    go_wp2_with fail
    go_ret2
    exact hP.out
  have hnx' : (nx == 0) = false := by simpa using hnx
  have HNX := Lib.hid hnx
  have HM0 := Lib.hid (HM.out W0 hb0)
  have HB1 := Lib.hid hb0
  have HX0 := Lib.hid hx0
  clear hnx hb0 hx0
  by_cases hrn : rm < (n : Int)
  · have hP := Lib.hid (NO.out W0 2 (P2.out HNX.out (.inl hrn)) HB1.out)
    have hrn' : decide (rm < (n : Int)) = true := decide_eq_true hrn
    clear hrn
    go_enter Try.func17, Try.ntmps17
    go_wp2_with fail
    rw [← hW0]
    clear hW0
    go_wp2_with fail
    refine HM0.out.mono ?_
    rintro e w1 ⟨rfl, rfl⟩
    go_wp2_with fail
    go_ret2
    exact hP.out
  have hrn' : decide (rm < (n : Int)) = false := decide_eq_false hrn
  have hnr : (n : Int) ≤ rm := by omega
  have HRN := Lib.hid hrn
  clear hrn
  go_enter Try.func17, Try.ntmps17
  go_wp2_with fail
  rw [← hW0]
  clear hW0
  go_wp2_with fail
  refine HM0.out.mono ?_
  rintro e w1 ⟨rfl, rfl⟩
  go_wp2_with fail
  refine wp_rows_drew (fun V => V.cell? ⟨w.heap.size, 0, none⟩ = some (.pointer (some ⟨g, 0, none⟩)) ∧ V.cell? ⟨g, 2, none⟩ = some (.int .u64 sq) ∧ V.cell? ⟨g, 3, none⟩ = some (.int .i64 nx)) [0, 1, 2, 3, 4, 5, 6, 7, 8, 9, 10, 11] [] [12] [13] (by kernel_rfl) (by kernel_rfl) (fun _ _ _ _ e h => ⟨e ▸ h.1, h.2⟩) (fun k => ⟨b0, d2, d3⟩) ?_
  iterate 12
    refine heldQ_step rfl (yieldsIf_of rfl (fun V hV => by obtain ⟨s0, s1, s2⟩ := hV; go_simp; first | done | rfl)) (fun K' hK' => ?_)
    go_simp
    refine hK' _ ?_
    clear hK' K'
  simp only [heldQ, opsAt, List.filterMap_cons, List.filterMap_nil, List.getElem?_toArray, List.getElem?_cons_succ, List.getElem?_cons_zero]
  refine wpQuiet_nil ?_
  intro nq
  refine wpListS_step rfl (fun K' hK' => ?_)
  go_simp
  refine hK' _ _ ⟨old_cell b0 _, old_cell d2 _, old_cell d3 _⟩ ?_
  clear hK' K'
  simp only [wpListS]
  show wpList _ _ _ (_ :: []) _ _
  go_wp2_with fail
  have hz2 : (W0.drewN nq).heap.size = w.heap.size + 1 := hz0
  have hrel0 : W1Rel w n p sq cp nx en sy its bs we g n (.slice none 0 0) (.slice none 0 0) (.int .i64 0) ((W0.drewN nq).alloc (.cells #[.int .u64 sq, .int .u64 cp, .bool en, .bool sy, .int .i64 nx, .slice none 0 0] 79)) := by
    refine ⟨0, none, none, none, 0, 0, 0, rfl, rfl, Nat.zero_le _, rfl, rfl, fun j hj => absurd hj (Nat.not_lt_zero j), ?_, ⟨rfl, .inl ⟨rfl, rfl⟩⟩, ⟨rfl, .inl ⟨rfl, rfl⟩⟩, ⟨rfl, .inl ⟨rfl, rfl⟩⟩, ?_, ?_, ?_⟩
    · have := heap_alloc_new (W0.drewN nq) (.cells #[.int .u64 sq, .int .u64 cp, .bool en, .bool sy, .int .i64 nx, .slice none 0 0] 79)
      rwa [hz2] at this
    · exact (below_drewN HB1.out nq).alloc (by rw [hz2]; omega) _
    · rw [World.size_alloc, hz2]; omega
    · exact old_alloc HX0.out _
  have HREL0 := Lib.hid hrel0
  clear hrel0 hz2 b0 d0 d1 d2 d3 HM0 hz0
  obtain ⟨iE, hiE, hiE0, hiE1, hiE2⟩ := info_parts infoEnt
  obtain ⟨iI, hiI, hiI0, hiI1, hiI2⟩ := info_parts infoI
  obtain ⟨iS, hiS, hiS0, hiS1, hiS2⟩ := info_parts infoS
  have hn15 : (n : Int) ≤ 15 := by omega
  go_loopg [13, 14, 53] n (W1Rel w n p sq cp nx en sy its bs we g)
  case atStart => exact HREL0.out
  case round =>
    obtain ⟨q, A1, A2, A3, k1, k2, k3, rfl, rfl, hq, rfl, rfl, hwe, hR, ho1, ho2, ho3, hbw, hsz, hbx⟩ := hrel
    have HWE := Lib.hid hwe
    have HRR := Lib.hid hR
    have HO1 := Lib.hid ho1
    have HO2 := Lib.hid ho2
    have HO3 := Lib.hid ho3
    have HBW := Lib.hid hbw
    have HBX := Lib.hid hbx
    have hgw : wr.heap[g]? = some (.cells #[.pointer (some ⟨d, 0, none⟩), .int .i64 p, .int .u64 sq, .int .i64 nx] 95 (0, 0)) := (hbw.block g hgl).trans HG.out
    have HGW := Lib.hid hgw
    clear hwe ho1 ho2 ho3
    by_cases hlt : q < n
    · have hlti : (q : Int) < (n : Int) := by omega
      obtain ⟨x, hx⟩ : ∃ x, its[q]? = some x := ⟨_, List.getElem?_eq_getElem (by rw [HL.out]; exact hlt)⟩
      obtain ⟨ad, rfl, e0, e1, e2, e3, e4⟩ := it_cells (HR.out.kept (Fr.of_below hbw) (fun k hk => by omega)) q x hx hlt
      have hwr := fun W => HW.out q x W hx
      have htk : entC ((its.take (q + 1)).map (·.1)) = entC ((its.take q).map (·.1)) ++ entL x.1 := by rw [List.take_add_one, hx, List.map_append]; exact entC_snoc _ _
      have HWR := Lib.hid hwr
      have HTK := Lib.hid htk
      clear hx hwr htk hR hbw hbx hgw
      go_wp2_with fail
      refine (HWR.out _).mono ?_
      rintro e w2 ⟨rfl, hb2⟩
      have hbs := hb2.size
      simp only [World.size_alloc] at hbs
      have hf2 : Fr (fun _ => False) wr w2 := ((Fr.refl _ wr).alloc _).trans (Fr.new hb2 _)
      have hit : w2.heap[wr.heap.size]? = some (.cells #[.int .i64 x.1.kind, .int .u32 x.1.file, .int .u32 x.1.idx, .int .u32 x.1.vbn, .string x.2] 87 (0, 0)) := (hb2.block wr.heap.size (by simp)).trans (heap_alloc_new wr _)
      have HF2 := Lib.hid hf2
      have HIT := Lib.hid hit
      have t0 := blk_cell hit 0
      have t1 := blk_cell hit 1
      have t2 := blk_cell hit 2
      have t3 := blk_cell hit 3
      have q0 := blk_cell (hf2.get id HBX.out) 0
      have q5 := blk_cell (hf2.get id HRR.out) 5
      simp at t0 t1 t2 t3 q0 q5
      clear hit hb2 e0 e1 e2 e3 e4
      by_cases hw0 : we q = 0
      case neg =>
        have hw' : (we q != 0) = true := by simpa using hw0
        have hP := Lib.hid (NO.out w2 2 (P2.out HNX.out (.inr (.inl ⟨q, hlt, hw0⟩))) (HBW.out.trans (hf2.below HBW.out.size (fun _ h => h.elim))))
        clear hw0 hf2
        go_wp2_with fail
        go_ret2
        exact hP.out
      have hw' : (we q != 0) = false := by simpa using hw0
      have HW0 := Lib.hid hw0
      clear hw0 hf2
      go_wp2_with (first | (at_builtin; refine wpList_append_rd _ rfl (.tmp 67) (.tmp 70) 77 rfl (w.heap.size + 2) 85 iE _ 4 24 Try.underlying77 hiE hiE0 hiE1 hiE2 rfl (by decide) _ q (entC ((its.take q).map (·.1))) rfl (Fr.own HO3.out (HF2.out.alloc _) (fun _ _ => id)) _ (some ⟨w2.heap.size, 0, none⟩) 1 1 (entL x.1) rfl (rd_newE w2 x.1) (entL_one x.1) (by unfold maxLen; omega) (by omega) (by simp; omega) ?_; intro v3 w3 hown3 hg3 hat3; obtain ⟨B3, m3, rfl, hm3, _⟩ := Rd.of_own2 hown3; obtain ⟨S0, S1, S2, S3, S4, S5, S6⟩ := w_arm1 HF2.out HO1.out HO2.out HO3.out HRR.out hg3 (by omega) hown3; have r5 := blk_cell S0 5; have rz5 := blk_frozen S0 5; have xb := blk_cell (S6 _ _ (by omega) HBX.out).2 0; have g1 := blk_cell (S6 _ _ (by omega) HGW.out).2 1; simp at r5 xb g1; have hri : Rd (fun _ => True) ((w3.setCell ⟨w.heap.size + 1, 5, none⟩ (.slice B3 (q + 1) m3)).alloc (.cells #[.int .i64 (p + 1 + (q : Int))] 3)) 1 (some ⟨w3.heap.size, 0, none⟩) 1 [.int .i64 (p + 1 + (q : Int))] := rd_newI2 _ _ _ _ _; have hsz3 := S4.size; simp only [World.size_setCell] at hsz3; have HRI := Lib.hid hri; have HS1 := Lib.hid S1; have HS2 := Lib.hid S2; have HS3 := Lib.hid S3; have HS4 := Lib.hid S4; have HS5 := Lib.hid S5; have HS6 := Lib.hid S6; clear S0 S1 S2 S3 S4 S5 S6 hown3 hg3 hat3 hri) | (at_builtin; refine wpList_append_rd _ rfl (.tmp 73) (.tmp 81) 38 rfl (w.heap.size + 2) 3 iI _ 1 8 Try.underlying38 hiI hiI0 hiI1 hiI2 rfl (by decide) _ q (atC p q) rfl (HS1.out.alloc _) _ (some ⟨w3.heap.size, 0, none⟩) 1 1 [.int .i64 (p + 1 + (q : Int))] rfl HRI.out (by simp [Value.oneCell']) (by unfold maxLen; omega) (by omega) (by simp; omega) ?_; intro v4 w4 hown4 hg4 hat4; obtain ⟨B4, m4, rfl, hm4, _⟩ := Rd.of_own2 hown4; obtain ⟨T1, T2, T3⟩ := w_grow HS1.out hg4; have T2s := T2.size; simp only [World.size_setCell] at T2s; have HT1 := Lib.hid (T1 _ _ _ _ _ (by decide) HS2.out); have HT2 := Lib.hid (T1 _ _ _ _ _ (by decide) HS3.out); have HT3 := Lib.hid T2; have HT4 := Lib.hid T3; have HT5 := Lib.hid hown4; clear T1 T2 T3 hown4 hg4 hat4) | (at_builtin; refine wpList_append_rd _ rfl (.tmp 83) (.tmp 85) 43 rfl (w.heap.size + 2) 9 iS _ 1 16 Try.underlying43 hiS hiS0 hiS1 hiS2 rfl (by decide) _ q (strs (bsL bs q)) rfl (HT1.out.alloc _) _ (some ⟨w4.heap.size, 0, none⟩) 1 1 [.string (bs q)] rfl (rd_new1 w4 (bs q)) (by simp [Value.oneCell']) (by unfold maxLen; omega) (by omega) (by simp; omega) ?_; intro v5 w5 hown5 hg5 hat5; obtain ⟨B5, m5, rfl, hm5, _⟩ := Rd.of_own2 hown5; obtain ⟨U1, U2, U3⟩ := w_grow HT1.out hg5; have HU1 := Lib.hid (U1 _ _ _ _ _ (by decide) HT5.out); have HU2 := Lib.hid (U1 _ _ _ _ _ (by decide) HT2.out); have HU3 := Lib.hid U2; have HU4 := Lib.hid U3; have HU5 := Lib.hid hown5; clear U1 U2 U3 hown5 hg5 hat5))
      go_roundg (n - (q + 1))
      case measure => omega
      case rel =>
        have hU1 := HU1.out
        have hU5 := HU5.out
        have hU2 := HU2.out
        rw [← atC_succ] at hU1
        rw [← bsL_succ] at hU5
        rw [← HTK.out] at hU2
        have hfr : Fr (fun k => w.heap.size ≤ k) wr w5 := ((HS4.out.mono (fun k h => by omega)).trans (HT3.out.mono (fun k h => by omega))).trans (HU3.out.mono (fun k h => by omega))
        have hsz5 := hfr.size
        refine ⟨q + 1, B4, B5, B3, m4, m5, m3, rfl, by simp, by omega, rfl, rfl, fun j hj => ?_, HU4.out _ _ (by omega) (HT4.out _ _ (by omega) HS5.out), hU1, hU5, hU2, HBW.out.trans (hfr.below HBW.out.size (fun k h => h)), by omega, HU4.out _ _ (by omega) (HT4.out _ _ (by omega) (HS6.out _ _ (by omega) HBX.out).1)⟩
        by_cases e : j = q
        · rw [e]; exact HW0.out
        · exact HWE.out j (by omega)
    · obtain rfl : n = q := by omega
      have hni : ¬ (n : Int) < (n : Int) := by omega
      have u0 := blk_cell hR 0
      have u1 := blk_cell hR 1
      have u2 := blk_cell hR 2
      have u3 := blk_cell hR 3
      have u4 := blk_cell hR 4
      have u5 := blk_cell hR 5
      have ub := blk_cell hbx 0
      simp at u0 u1 u2 u3 u4 u5 ub
      have hrE : Rd (· < wr.heap.size) wr 4 A3 n (entC (its.map (·.1))) := by
        obtain ⟨A', c', e', _, hr'⟩ := Rd.of_own2 HO3.out
        injection e' with e1 e2 e3
        subst e1
        rw [List.take_of_length_le (by rw [HL.out]; exact Nat.le_refl _)] at hr'
        exact hr'.mono (fun k hk => hk.2)
      have hen := HE.out A3 k3 wr hnr hrE
      have HEN := Lib.hid hen
      clear hen hrE hR hbx hbw hgw
      go_wp2_with fail
      refine HEN.out.mono ?_
      rintro e w1 ⟨rfl, hb1⟩
      have hbw1 : Below w.heap.size w w1 := HBW.out.trans (hb1.mono HBW.out.size)
      have hwz := hb1.size
      have HB1' := Lib.hid hb1
      have HBW1 := Lib.hid hbw1
      clear hb1 hbw1 u0 u1 u2 u3 u4 u5 ub
      by_cases hee : ee = 0
      case neg =>
        have hee' : (ee != 0) = true := by simpa using hee
        have hP := fun o => NO.out (w1.alloc o) 2 (P2.out HNX.out (.inr (.inr ⟨hnr, hee⟩))) (HBW1.out.alloc HBW1.out.size o)
        have HP := Lib.hid hP
        clear hee hP
        go_wp2_with fail
        go_ret2
        exact HP.out _
      subst hee
      obtain ⟨W1, hW1⟩ : ∃ W1, W1 = w1.alloc (.cells #[.string head] 9) := ⟨_, rfl⟩
      have hbW1 : Below wr.heap.size wr W1 := by rw [hW1]; exact HB1'.out.alloc hwz _
      have hwW1 : Below w.heap.size w W1 := by rw [hW1]; exact HBW1.out.alloc HBW1.out.size _
      have h19 : W1.heap[w1.heap.size]? = some (.cells #[.string head] 9 (0, 0)) := by rw [hW1]; exact heap_alloc_new w1 _
      have h1912 : w1.heap.size < W1.heap.size := by rw [hW1]; simp
      go_wp2_with fail
      rw [← hW1]
      have hz1 : w1.heap.size + 1 = W1.heap.size := by rw [hW1]; simp
      have hgW1 : W1.heap[g]? = _ := (hwW1.block g hgl).trans HG.out
      have hbxW1 : W1.heap[w.heap.size]? = _ := (hbW1.block _ (by omega)).trans HBX.out
      have hrbW1 : W1.heap[w.heap.size + 1]? = _ := (hbW1.block _ (by omega)).trans HRR.out
      have hrd1 : Rd (fun k => w.heap.size + 2 ≤ k ∧ k < W1.heap.size) W1 1 A1 n (atC p n) := by
        obtain ⟨A', c', e', _, hr'⟩ := Rd.of_own2 (Fr.own HO1.out (Fr.new hbW1 (fun _ => False)) (fun _ _ => id))
        injection e' with e1 e2 e3
        subst e1
        exact hr'
      have hrd2 : Rd (fun k => w.heap.size + 2 ≤ k ∧ k < W1.heap.size) W1 1 A2 n (strs (bsL bs n)) := by
        obtain ⟨A', c', e', _, hr'⟩ := Rd.of_own2 (Fr.own HO2.out (Fr.new hbW1 (fun _ => False)) (fun _ _ => id))
        injection e' with e1 e2 e3
        subst e1
        exact hr'
      have hnk : n ≤ k1 := by
        obtain ⟨A', c', e', hc', _⟩ := Rd.of_own2 HO1.out
        injection e' with e1 e2 e3
        omega
      have hFn : ∀ k, w.heap.size ≤ k → ¬ F k := fun k hk hf => by have := HFF.out k hf; omega
      have hstart : W2Rel n wb W1 F d n (.int .i64 0) W1 := ⟨0, rfl, rfl, Nat.zero_le _, HB0.out, DPost.start (HDD.out.kept (Fr.of_below hwW1) (fun k hk h2 => by have := HFF.out k hk; omega))⟩
      have HST := Lib.hid hstart
      have HGW1 := Lib.hid hgW1
      have HBXW1 := Lib.hid hbxW1
      have HRBW1 := Lib.hid hrbW1
      have HRD1 := Lib.hid hrd1
      have HRD2 := Lib.hid hrd2
      have HFN := Lib.hid hFn
      have H19 := Lib.hid h19
      have HWW1 := Lib.hid hwW1
      have HZ1 := Lib.hid hz1
      have hwW1s := hwW1.size
      have hA1 : w.heap.size + 2 ≤ w1.heap.size := by omega
      have hA2 : w1.heap.size + 1 ≤ W1.heap.size := by omega
      clear hstart hgW1 hbxW1 hrbW1 hrd1 hrd2 hFn h19 hW1 hbW1 hwW1 hz1 hwz
      go_loopg [97] n (W2Rel n wb W1 F d)
      case atStart => exact HST.out
      case round =>
        obtain ⟨q, rfl, rfl, hq, hq0, hDP⟩ := hrel
        have hfrF := hDP.frame
        have g2 := hfrF.get hgF HGW1.out
        have bx2 := hfrF.get (HFN.out _ (Nat.le_refl _)) HBXW1.out
        have G2 := Lib.hid g2
        have c20 := blk_cell g2 0
        have c2b := blk_cell bx2 0
        simp at c20 c2b
        have HDP := Lib.hid hDP
        have HFRF := Lib.hid hfrF
        have HQ0 := Lib.hid hq0
        clear g2 bx2 hDP hfrF hq0
        by_cases hlt : q < n
        · have hlti : (q : Int) < (n : Int) := by omega
          have hqi0 : (0 : Int) ≤ (q : Int) := by omega
          obtain ⟨ad1, v1, rfl, _, hv1, hc1⟩ := (HRD1.out.kept HFRF.out (fun k hk => HFN.out k (by omega))).at1 hlt
          obtain ⟨ad2, v2, rfl, _, hv2, hc2⟩ := (HRD2.out.kept HFRF.out (fun k hk => HFN.out k (by omega))).at1 hlt
          rw [atC_get hlt] at hv1
          rw [strs_at (bsL_get (bs := bs) hlt)] at hv2
          injection hv1 with hv1
          injection hv2 with hv2
          subst hv1 hv2
          have hdw := fun k => HDW.out q W1 (wr.drewN k) hlt hnr HWE.out HWW1.out HQ0.out (HDP.out.ext (Fr.drewN _ _ _))
          have HW2 := Lib.hid hdw
          clear hdw
          go_wp2_with fail
          refine wp_row_drew 9 [] [9, 10] (by kernel_rfl) (by kernel_rfl) (fun _ _ _ _ e h => ⟨e ▸ h.1, h.2⟩) ?_
          simp only [floatQ, opsAt, List.filterMap_cons, List.filterMap_nil, List.getElem?_toArray, List.getElem?_cons_succ, List.getElem?_cons_zero, List.take_succ_cons, List.take_zero]
          repeat (show wpQuiet _ _ _ _ (_ :: _) _; go_big_quiet_step (fail))
          refine wpQuiet_nil ?_
          intro nq2
          show wpList _ _ _ (_ :: _) _ _
          go_wp2_with fail
          refine (HW2.out _).mono ?_
          rintro e w5 ⟨rfl, hD5⟩
          have HD5 := Lib.hid hD5
          clear hD5 c20 c2b hc1 hc2
          by_cases hec : (wb (q + 1)).1 = 0
          · have HEC := Lib.hid hec
            have hec' : ((wb (q + 1)).1 != 0) = false := by simpa using hec
            clear hec
            go_wp2_with fail
            go_roundg (n - (q + 1))
            case measure => omega
            case rel => exact ⟨q + 1, rfl, by simp, by omega, HEC.out, HD5.out⟩
          · have hec' : ((wb (q + 1)).1 != 0) = true := by simpa using hec
            have hP := PB.out HNX.out hnr HWE.out (by trivial) q hlt HQ0.out hec
            have HP := Lib.hid hP
            clear hec hP
            go_wp2_with fail
            go_ret2
            obtain ⟨F', h1, h2, h3⟩ := HD5.out
            exact ⟨0, _, p, sq, nx, _, none, 0, rfl, HP.out, Nat.le_refl _, Rd.nil _ _ _ _, h3.get hgF HGW1.out, ⟨F', h1, fun k hk => (h2 k hk).imp id (fun h => ⟨by omega, h.2⟩)⟩, (Fr.new HWW1.out _).trans (h3.mono (fun k h => .inl h))⟩
        · obtain rfl : n = q := by omega
          have hni : ¬ (n : Int) < (n : Int) := by omega
          have hfi := fun k => HFI.out W1 (wr.drewN k) w.heap.size w1.heap.size hnr HWE.out (by trivial) HWW1.out (by omega) (by omega) (HFN.out _ (Nat.le_refl _)) (HFN.out _ (by omega)) HBXW1.out H19.out HQ0.out (HDP.out.ext (Fr.drewN _ _ _))
          have HF3 := Lib.hid hfi
          clear hfi
          go_wp2_with fail
          refine wp_row_drew 11 [] [11, 12, 13] (by kernel_rfl) (by kernel_rfl) (fun _ _ _ _ e h => ⟨e ▸ h.1, h.2⟩) ?_
          simp only [floatQ, opsAt, List.filterMap_cons, List.filterMap_nil, List.getElem?_toArray, List.getElem?_cons_succ, List.getElem?_cons_zero, List.take_succ_cons, List.take_zero]
          repeat (show wpQuiet _ _ _ _ (_ :: _) _; go_big_quiet_step (fail))
          refine wpQuiet_nil ?_
          intro nq2
          show wpList _ _ _ (_ :: _) _ _
          go_wp2_with fail
          refine (HF3.out nq2).mono ?_
          rintro e w6 ⟨rfl, hD6⟩
          have HD6 := Lib.hid hD6
          have hfr6 := hD6.frame
          have HFR6 := Lib.hid hfr6
          have lg6 := hfr6.get hgF HGW1.out
          have bx6 := hfr6.get (HFN.out _ (Nat.le_refl _)) HBXW1.out
          have rb3 := hfr6.get (HFN.out _ (by omega)) HRBW1.out
          have c6b := blk_cell bx6 0
          have u0 := blk_cell rb3 0
          have u1 := blk_cell rb3 1
          have u2 := blk_cell rb3 2
          have u3 := blk_cell rb3 3
          have u4 := blk_cell rb3 4
          have u5 := blk_cell rb3 5
          simp at c6b u0 u1 u2 u3 u4 u5
          have LG6 := Lib.hid lg6
          clear hD6 c20 c2b lg6 bx6 rb3 hfr6
          by_cases hec : fin.1 = 0
          case neg =>
            have hec' : (fin.1 != 0) = true := by simpa using hec
            have hP := PF.out HNX.out hnr HWE.out (by trivial) HQ0.out hec
            have HP := Lib.hid hP
            clear hec hP u0 u1 u2 u3 u4 u5
            go_wp2_with fail
            go_ret2
            obtain ⟨F', h1, h2, h3⟩ := HD6.out
            exact ⟨0, _, p, sq, nx, _, none, 0, rfl, HP.out, Nat.le_refl _, Rd.nil _ _ _ _, LG6.out, ⟨F', h1, fun k hk => (h2 k hk).imp id (fun h => ⟨by omega, h.2⟩)⟩, (Fr.new HWW1.out _).trans (h3.mono (fun k h => .inl h))⟩
          have hec' : (fin.1 != 0) = false := by simpa using hec
          have hP := PO.out HNX.out hnr HWE.out (by trivial) HQ0.out hec
          have HP := Lib.hid hP
          have HGO6 := Lib.hid (fun A' c' => HGO.out w6 A' c' hnr (by trivial) LG6.out)
          clear hec hP
          go_wp2_with fail
          refine (HGO6.out _ _).mono ?_
          rintro e w7 ⟨rfl, hl7, hf7⟩
          have HL7 := Lib.hid hl7
          have HF7 := Lib.hid hf7
          clear hl7 hf7
          go_wp2_with fail
          go_ret2
          obtain ⟨F', h1, h2, h3⟩ := HD6.out
          have hs7 := HF7.out.size
          have hFg : ∀ k, F' k → ¬ k = g := fun k hk e => by
            rcases h2 k hk with h | h
            · exact hgF (e ▸ h)
            · omega
          refine ⟨n, 0, p', sq + 1, nx', _, A1, k1, rfl, HP.out, hnk, ?_, HL7.out, ⟨F', h1.kept HF7.out hFg, fun k hk => (h2 k hk).imp id (fun h => ⟨by omega, by omega⟩)⟩, ((Fr.new HWW1.out _).trans (h3.mono (fun k h => .inl h))).trans (HF7.out.mono (fun k h => .inr h))⟩
          have h6s := HFR6.out.size
          exact (((HRD1.out.kept HFR6.out (fun k hk => HFN.out k (by omega))).kept HF7.out (fun k hk e => by omega))).mono (fun k hk => ⟨by omega, by omega⟩)
end Go.Proofs.Ytjmfeoenbncibaa

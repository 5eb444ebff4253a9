/- Texts of this proof, joined: Ma Mb Mc. They hold under no condition beyond what each theorem states. -/
import Derived.Test.YtjmfeoenbncibaaM28
import Derived.Test.YtjmfeoenbncibaaM16
import Derived.Test.YtjmfeoenbncibaaM32
namespace Go.Proofs.Ytjmfeoenbncibaa
open Go.RowKit Go.Nau Go.Shelf
attribute [local go_sem] Oper.semAt_some

theorem fvsC_get : ∀ (l : List FV) (i j : Nat) (x : FV), l[i]? = some x → j < 8 → (fvsC l)[i * 8 + j]? = (fvC x)[j]?
  | [], i, j, x, h, _ => by simp at h
  | y :: l, 0, j, x, h, hj => by
    simp at h
    subst h
    rw [show 0 * 8 + j = j by omega]
    show (fvC y ++ fvsC l)[j]? = _
    rw [List.getElem?_append_left (by rw [fvC_length]; exact hj)]
  | y :: l, i + 1, j, x, h, hj => by
    simp only [List.getElem?_cons_succ] at h
    show (fvC y ++ fvsC l)[(i + 1) * 8 + j]? = _
    rw [List.getElem?_append_right (by rw [fvC_length]; omega)]
    have : (i + 1) * 8 + j - (fvC y).length = i * 8 + j := by rw [fvC_length]; omega
    rw [this]
    exact fvsC_get l i j x h hj
theorem fv_cells {T : Nat → Prop} {w : World} {A : Option Addr} {n : Nat} {l : List FV} (hr : Rd T w 8 A n (fvsC l)) (q : Nat) (x : FV) (hx : l[q]? = some x) (hq : q < n) :
    ∃ ad, A = some ad ∧ ∀ j, j < 8 → w.cell? ((ad.add (q * 8)).add j) = (fvC x)[j]? := by
  obtain ⟨ad, rfl, _, hc⟩ := hr.2 (by omega)
  refine ⟨ad, rfl, fun j hj => ?_⟩
  have hg := fvsC_get l q j x hx hj
  have hj' : j < (fvC x).length := hj
  rw [List.getElem?_eq_getElem hj'] at hg ⊢
  rw [Go.Nau.add_add]
  exact hc _ _ hg

/-- A row of found records as a reader sees it. -/
def FRd (w : World) (A : Option Addr) (fs : List Fnd) (xs : List FV) : Prop :=
  xs.map FV.f = fs ∧ Rd (· < w.heap.size) w 8 A fs.length (fvsC xs) ∧ ∀ x ∈ xs, FIn (· < w.heap.size) w x
theorem FRd.below {w w' : World} {A : Option Addr} {fs : List Fnd} {xs : List FV} (h : FRd w A fs xs) (hb : Below w.heap.size w w') : FRd w' A fs xs :=
  ⟨h.1, (h.2.1.kept (Fr.of_below hb) (fun k hk => by omega)).mono (fun k hk => Nat.lt_of_lt_of_le hk hb.size), fun x hx => ((h.2.2 x hx).kept (Fr.of_below hb) (fun k hk => by omega)).mono (fun k hk => Nat.lt_of_lt_of_le hk hb.size)⟩
theorem FRow.rd {w : World} {base : Nat} {v : Value} {fs : List Fnd} (h : FRow w base v fs) : ∃ A c xs, v = .slice A fs.length c ∧ FRd w A fs xs := by
  obtain ⟨xs, h1, h2, h3⟩ := h
  obtain ⟨A, c, rfl, hr⟩ := Rd.lt_own (own_base h2 (Nat.zero_le _))
  exact ⟨A, c, xs, rfl, h1, hr, fun x hx => (h3 x hx).mono fun k hk => hk.2.1⟩

def SameFR (w0 : World) (n : Nat) (k : Nat) (i : Value) (wr : World) : Prop :=
  ∃ q : Nat, k = n - q ∧ i = .int .i64 q ∧ q ≤ n ∧ Below w0.heap.size w0 wr

set_option maxHeartbeats 4000000 in
set_option maxRecDepth 100000 in
theorem fsame_any (A A' : Option Addr) (c c' n : Nat) (fs : List Fnd) (hn : fs.length = n) (hm : n ≤ 1073741824) (xs ys : List FV) (w : World) (hx : FRd w A fs xs) (hy : FRd w A' fs ys) (hwf : ∀ f ∈ fs, f.r.wf ∧ f.c.length ≤ 1073741824) :
    Calls Try.prog 23 #[.slice A n c, .slice A' n c'] w fun e w' => e = .returned (.bool true) ∧ Below w.heap.size w w' := by
  subst hn
  obtain ⟨n, hn⟩ : ∃ n, n = fs.length := ⟨_, rfl⟩
  rw [← hn]
  rw [← hn] at hm
  have hmax : (n : Int) ≤ 1073741824 := by omega
  have HX := Lib.hid hx
  have HY := Lib.hid hy
  have HN := Lib.hid hn
  have HWF := Lib.hid hwf
  clear hx hy hn hwf
  go_enter Try.func23, Try.ntmps23
  go_wp2_with fail
  go_loopg [5] n (SameFR w n)
  case atStart => exact ⟨0, rfl, rfl, Nat.zero_le _, Below.refl _ _⟩
  case round =>
    obtain ⟨q, rfl, rfl, hq, hbw⟩ := hrel
    by_cases hlt : q < n
    · have hlti : (q : Int) < (n : Int) := by omega
      obtain ⟨x, hx⟩ : ∃ x, xs[q]? = some x := ⟨_, List.getElem?_eq_getElem (by have := congrArg List.length HX.out.1; rw [List.length_map, ← HN.out] at this; omega)⟩
      obtain ⟨y, hy⟩ : ∃ y, ys[q]? = some y := ⟨_, List.getElem?_eq_getElem (by have := congrArg List.length HY.out.1; rw [List.length_map, ← HN.out] at this; omega)⟩
      have ex : fs[q]? = some x.f := by rw [← HX.out.1, List.getElem?_map, hx]; rfl
      have ey : fs[q]? = some y.f := by rw [← HY.out.1, List.getElem?_map, hy]; rfl
      have hfy : y.f = x.f := by rw [ex] at ey; injection ey with ey; exact ey.symm
      have hX := HX.out.below hbw
      have hY := HY.out.below hbw
      obtain ⟨ad, rfl, hcx⟩ := fv_cells hX.2.1 q x hx (by rw [← HN.out]; exact hlt)
      obtain ⟨bd, rfl, hcy⟩ := fv_cells hY.2.1 q y hy (by rw [← HN.out]; exact hlt)
      have fx := hX.2.2 x (List.mem_of_getElem? hx)
      have fy := hY.2.2 y (List.mem_of_getElem? hy)
      obtain ⟨hwf, hcl⟩ := HWF.out x.f (List.mem_of_getElem? ex)
      obtain ⟨f1, A1, c1, B1, d1⟩ := x
      obtain ⟨f2, A2, c2, B2, d2⟩ := y
      dsimp only at hfy hwf hcl
      subst hfy
      obtain ⟨p, r, cs⟩ := f2
      unfold FIn at fx fy
      dsimp only at fx fy hwf hcl
      have sb := (sameB_iff r r).2 rfl
      have hs7 := fun W (hb : Below wr.heap.size wr W) => rsame_any r r hwf hwf A1 A2 c1 c2 W ((fx.2.2.1.kept (Fr.of_below hb) (fun k hk => by omega)).mono (fun k hk => Nat.lt_of_lt_of_le hk hb.size)) ((fy.2.2.1.kept (Fr.of_below hb) (fun k hk => by omega)).mono (fun k hk => Nat.lt_of_lt_of_le hk hb.size))
      rw [sb] at hs7
      have hs4 := fun W (hb : Below wr.heap.size wr W) => same_any _ _ B1 B2 cs.length d1 d2 cs W (fx.2.2.2.kept (Fr.of_below hb) (fun k hk => by omega)) (fy.2.2.2.kept (Fr.of_below hb) (fun k hk => by omega)) hcl
      have cx : ∀ j u, (fvC ⟨⟨p, r, cs⟩, A1, c1, B1, d1⟩)[j]? = some u → j < 8 → ∀ W, Below wr.heap.size wr W → W.cell? ((ad.add (q * 8)).add j) = some u := fun j u hu hj W hb => by
        have := hcx j hj
        rw [hu] at this
        rw [hb.cell (block_lt_of_cell this)]
        exact this
      have cy : ∀ j u, (fvC ⟨⟨p, r, cs⟩, A2, c2, B2, d2⟩)[j]? = some u → j < 8 → ∀ W, Below wr.heap.size wr W → W.cell? ((bd.add (q * 8)).add j) = some u := fun j u hu hj W hb => by
        have := hcy j hj
        rw [hu] at this
        rw [hb.cell (block_lt_of_cell this)]
        exact this
      unfold recV at hs7
      have HS7 := Lib.hid hs7
      have HS4 := Lib.hid hs4
      have HCX := Lib.hid cx
      have HCY := Lib.hid cy
      clear hcx hcy fx fy hwf hcl sb hs7 hs4 hx hy ex ey hX hY cx cy
      go_wp2_with fail
      have x1 : ∀ d os, (Go.Sort.grow (redrawn wr d) os).cell? ⟨(ad.add (q * 8)).block, (ad.add (q * 8)).off + 1, none⟩ = _ := fun d os => HCX.out 1 _ rfl (by omega) _ (below_regrown wr d os)
      have x2 : ∀ d os, (Go.Sort.grow (redrawn wr d) os).cell? ⟨(ad.add (q * 8)).block, (ad.add (q * 8)).off + 1 + 1, none⟩ = _ := fun d os => HCX.out 2 _ rfl (by omega) _ (below_regrown wr d os)
      have x3 : ∀ d os, (Go.Sort.grow (redrawn wr d) os).cell? ⟨(ad.add (q * 8)).block, (ad.add (q * 8)).off + 1 + 2, none⟩ = _ := fun d os => HCX.out 3 _ rfl (by omega) _ (below_regrown wr d os)
      have x4 : ∀ d os, (Go.Sort.grow (redrawn wr d) os).cell? ⟨(ad.add (q * 8)).block, (ad.add (q * 8)).off + 1 + 3, none⟩ = _ := fun d os => HCX.out 4 _ rfl (by omega) _ (below_regrown wr d os)
      have x5 : ∀ d os, (Go.Sort.grow (redrawn wr d) os).cell? ⟨(ad.add (q * 8)).block, (ad.add (q * 8)).off + 1 + 4, none⟩ = _ := fun d os => HCX.out 5 _ rfl (by omega) _ (below_regrown wr d os)
      have x6 : ∀ d os, (Go.Sort.grow (redrawn wr d) os).cell? ⟨(ad.add (q * 8)).block, (ad.add (q * 8)).off + 1 + 5, none⟩ = _ := fun d os => HCX.out 6 _ rfl (by omega) _ (below_regrown wr d os)
      have y1 : ∀ d os, (Go.Sort.grow (redrawn wr d) os).cell? ⟨(bd.add (q * 8)).block, (bd.add (q * 8)).off + 1, none⟩ = _ := fun d os => HCY.out 1 _ rfl (by omega) _ (below_regrown wr d os)
      have y2 : ∀ d os, (Go.Sort.grow (redrawn wr d) os).cell? ⟨(bd.add (q * 8)).block, (bd.add (q * 8)).off + 1 + 1, none⟩ = _ := fun d os => HCY.out 2 _ rfl (by omega) _ (below_regrown wr d os)
      have y3 : ∀ d os, (Go.Sort.grow (redrawn wr d) os).cell? ⟨(bd.add (q * 8)).block, (bd.add (q * 8)).off + 1 + 2, none⟩ = _ := fun d os => HCY.out 3 _ rfl (by omega) _ (below_regrown wr d os)
      have y4 : ∀ d os, (Go.Sort.grow (redrawn wr d) os).cell? ⟨(bd.add (q * 8)).block, (bd.add (q * 8)).off + 1 + 3, none⟩ = _ := fun d os => HCY.out 4 _ rfl (by omega) _ (below_regrown wr d os)
      have y5 : ∀ d os, (Go.Sort.grow (redrawn wr d) os).cell? ⟨(bd.add (q * 8)).block, (bd.add (q * 8)).off + 1 + 4, none⟩ = _ := fun d os => HCY.out 5 _ rfl (by omega) _ (below_regrown wr d os)
      have y6 : ∀ d os, (Go.Sort.grow (redrawn wr d) os).cell? ⟨(bd.add (q * 8)).block, (bd.add (q * 8)).off + 1 + 5, none⟩ = _ := fun d os => HCY.out 6 _ rfl (by omega) _ (below_regrown wr d os)
      have cs7 := fun d os => Calls.regrown_of (HS7.out (Go.Sort.grow (redrawn wr d) os) (below_regrown wr d os))
      refine wp_region_quiet_below (by kernel_rfl) (by kernel_rfl) ?_
      repeat (go_big_quiet_step (exact cs7 _ _))
      refine wpQuiet_nil ?_
      intro _ hw'
      obtain ⟨⟨dq, osq⟩, hw''⟩ := hw'
      subst hw''
      generalize hW2 : Go.Sort.grow _ _ = W2
      have hb2 : Below wr.heap.size wr W2 := by rw [← hW2]; exact below_regrown wr dq osq
      clear x1 x2 x3 x4 x5 x6 y1 y2 y3 y4 y5 y6 cs7 HS7 hW2
      go_wp2_with fail
      have x7 : ∀ d os, (Go.Sort.grow (redrawn W2 d) os).cell? ⟨(ad.add (q * 8)).block, (ad.add (q * 8)).off + 7, none⟩ = _ := fun d os => HCX.out 7 _ rfl (by omega) _ (hb2.trans ((below_regrown W2 d os).mono hb2.size))
      have y7 : ∀ d os, (Go.Sort.grow (redrawn W2 d) os).cell? ⟨(bd.add (q * 8)).block, (bd.add (q * 8)).off + 7, none⟩ = _ := fun d os => HCY.out 7 _ rfl (by omega) _ (hb2.trans ((below_regrown W2 d os).mono hb2.size))
      have cs4 := fun d os => Calls.regrown_of ((HS4.out (Go.Sort.grow (redrawn W2 d) os) (hb2.trans ((below_regrown W2 d os).mono hb2.size))).mono fun e w' h => ⟨h.1, by obtain ⟨q, rfl⟩ := h.2; exact below_drewN (Below.refl _ _) q⟩)
      refine wp_region_quiet_below (by kernel_rfl) (by kernel_rfl) ?_
      repeat (go_big_quiet_step (exact cs4 _ _))
      refine wpQuiet_nil ?_
      intro _ hw'
      obtain ⟨⟨dq, osq⟩, hw''⟩ := hw'
      subst hw''
      generalize hW3 : Go.Sort.grow _ _ = W3
      have hb3 : Below wr.heap.size wr W3 := by rw [← hW3]; exact hb2.trans ((below_regrown W2 dq osq).mono hb2.size)
      clear x7 y7 cs4 HS4 hW3 hb2
      go_wp2_with fail
      have x0 := HCX.out 0 _ rfl (by omega) _ hb3
      have y0 := HCY.out 0 _ rfl (by omega) _ hb3
      have x0' : W3.cell? (ad.add (q * 8)) = _ := x0
      have y0' : W3.cell? (bd.add (q * 8)) = _ := y0
      clear x0 y0
      go_quiet (fail)
      rename_i nq2
      go_wp2_with fail
      go_roundg (n - (q + 1))
      case measure => omega
      case rel => exact ⟨q + 1, rfl, by simp, by omega, below_drewN (hbw.trans (hb3.mono hbw.size)) _⟩
    · obtain rfl : q = n := by omega
      go_wp2_with fail
      go_ret
      exact ⟨rfl, hbw⟩
end Go.Proofs.Ytjmfeoenbncibaa
namespace Go.Proofs.Ytjmfeoenbncibaa
open Go.RowKit Go.Nau Go.Shelf
attribute [local go_sem] Oper.semAt_some

theorem wpListS_make_own {P : Program} (w : World) {ops : Array Oper} {rest : List Oper} {o : Oper} {a : Act} {Q : Exit → Act → World → Prop} {K : Act → World → Prop}
    (hg : o.guard = none) (l c : Operand) (t : TypeId) (hop : o.op = Op.makeSlice t l c)
    (base : Nat) (e : TypeId) (i : TypeInfo) (z : Value) (size : Nat) (h1 : P.underlying t = some (.slice e)) (h2 : P.info? e = some i) (h3 : i.zero = some z) (h4 : i.size = size)
    (kl kc : IntKind) (C : Int) (n : Nat) (hl : a.eval l = .int kl 0) (hc : a.eval c = .int kc C) (hC : C = (n : Int)) (b2 : i.bytes * n ≤ 281474976710656) (b3 : n ≤ maxLen) (b4 : base ≤ w.heap.size)
    (hK : ∀ w', w'.ownsRow base e size (.slice (some ⟨w.heap.size, 0, none⟩) 0 n) 0 [] → w.grownBy w' none → wpListS P ops Q (fun _ => True) K rest (a.put o.dst (.slice (some ⟨w.heap.size, 0, none⟩) 0 n)) w') :
    wpListS P ops Q (fun _ => True) K (o :: rest) a w := by
  refine wpListS_step hg fun K' hK' => ?_
  obtain ⟨w', hrun, r1, r2⟩ := run_make_own (P := P) w base t e i z size h1 h2 h3 h4 kl kc n b2 b3 b4
  subst hC
  unfold Oper.wp
  simp [execOp, hop, hl, hc, hrun, Result.andThen]
  exact hK' _ _ trivial (hK w' r1 r2)

/-- What stands behind the image: the contracts of the calls, one in the other. -/
def ScTail (n : Nat) (p sq nx : Int) (W : World) (A : Option Addr) (c : Nat) : Prop :=
  Calls Try.prog 20 #[.slice A n c] W fun e w1 => Below W.heap.size W w1 ∧ (
    (e = .returned (.tuple #[.pointer none, .int .i64 40]) ∧ Calls Try.prog 21 #[.slice A n c] w1 fun e w2 => e = .returned (.tuple #[.pointer none, .int .i64 40]) ∧ Below w1.heap.size w1 w2) ∨
    (∃ d, e = .returned (.tuple #[.pointer (some ⟨d, 0, none⟩), .int .i64 0]) ∧ Calls Try.prog 21 #[.slice A n c] w1 fun e w2 => ∃ r, e = .returned (.tuple #[.pointer (some ⟨r, 0, none⟩), .int .i64 0]) ∧ Below w1.heap.size w1 w2 ∧
      Calls Try.prog 12 #[.pointer (some ⟨d, 0, none⟩), .int .i64 p, .int .u64 sq, .int .i64 nx] w2 fun e w3 => Below w2.heap.size w2 w3 ∧ (
        (e = .returned (.tuple #[.slice none 0 0, .pointer none, .int .i64 151]) ∧ Calls Try.prog 22 #[.pointer (some ⟨r, 0, none⟩), .int .i64 p, .int .u64 sq, .int .i64 nx] w3 fun e w4 => e = .returned (.tuple #[.slice none 0 0, .pointer none, .int .i64 151]) ∧ Below w3.heap.size w3 w4) ∨
        (∃ A1 c1 g k, e = .returned (.tuple #[.slice A1 k c1, .pointer (some ⟨g, 0, none⟩), .int .i64 0]) ∧ Calls Try.prog 22 #[.pointer (some ⟨r, 0, none⟩), .int .i64 p, .int .u64 sq, .int .i64 nx] w3 fun e w4 => ∃ (A2 : Option Addr) (c2 g2 : Nat) (P S X : Int), e = .returned (.tuple #[.slice A2 k c2, .pointer (some ⟨g2, 0, none⟩), .int .i64 0]) ∧ Below w3.heap.size w3 w4 ∧
          w4.cell? ⟨g2, 1, none⟩ = some (.int .i64 P) ∧ w4.cell? ⟨g2, 2, none⟩ = some (.int .u64 S) ∧ w4.cell? ⟨g2, 3, none⟩ = some (.int .i64 X) ∧ ∀ V, Below w4.heap.size w4 V →
            (Calls Try.prog 23 #[.slice A1 k c1, .slice A2 k c2] V fun e w' => e = .returned (.bool true) ∧ Below V.heap.size V w') ∧
            (Calls Try.prog 13 #[.pointer (some ⟨g, 0, none⟩)] V fun e w' => e = .returned (.int .i64 P) ∧ V = w') ∧
            (Calls Try.prog 14 #[.pointer (some ⟨g, 0, none⟩)] V fun e w' => e = .returned (.int .u64 S) ∧ V = w') ∧
            (Calls Try.prog 15 #[.pointer (some ⟨g, 0, none⟩)] V fun e w' => e = .returned (.int .i64 X) ∧ V = w')))))

def ScRel (w0 : World) (L : List ByteArray) (m T : Nat) (k : Nat) (v : Value) (wr : World) : Prop :=
  ∃ r : Nat, k = T - r ∧ m ≤ r ∧ r ≤ T ∧ wr.ownsRow w0.heap.size 9 1 v r (strs (L ++ List.replicate (r - m) ⟨#[]⟩)) ∧ Below w0.heap.size w0 wr

set_option maxHeartbeats 4000000 in
set_option maxRecDepth 100000 in
theorem scans_core (A : Option Addr) (n c m T : Nat) (p sq nx : Int) (L : List ByteArray) (w : World) (hn : (n : Int) ≤ 9223372036854775807) (hnc : (n : Int) ≤ c) (hm : min (n : Int) 200 = m) (hmn : (m : Int) ≤ n) (hLl : L.length = m)
    (hrL : Rd (· < w.heap.size) w 1 A m (strs L)) (hmT : m ≤ T) (h128 : 128 ≤ T) (h208 : T ≤ 208) (hT16 : T % 16 = 0) (hbet : ∀ r, m ≤ r → r < T → r < 128 ∨ r % 16 ≠ 0)
    (htail : ∀ W A c, Below w.heap.size w W → Rd (· < W.heap.size) W 1 A T (strs (L ++ List.replicate (T - m) ⟨#[]⟩)) → ScTail T p sq nx W A c) :
    Calls Try.prog 5 #[.slice A n c, .int .i64 p, .int .u64 sq, .int .i64 nx] w fun e w' => e = .returned (.bool true) ∧ Below w.heap.size w w' := by
  obtain ⟨i0, hi, hz0, hz1, hz2⟩ := info_parts infoS
  have hm2 : m ≤ 200 := by omega
  have hmc : m ≤ c := by omega
  have HRL := Lib.hid hrL
  have hS := Lib.hid (shown_any w)
  have HT := Lib.hid htail
  have HBET := Lib.hid hbet
  clear hrL htail hbet
  go_enter Try.func5, Try.ntmps5
  go_wp2_with fail
  refine hS.out.mono ?_
  rintro e w1 ⟨rfl, hb1⟩
  have hs1 := hb1.size
  have hrL1 := HRL.out.kept (Fr.of_below hb1) (fun k hk => by omega)
  have HRL1 := Lib.hid hrL1
  clear hrL1
  go_wp2_with fail
  refine wp_rows_drew (fun _ => True) [1, 2, 3, 4, 5] [] [0] [6, 7] (by kernel_rfl) (by kernel_rfl) (fun _ _ _ _ e h => ⟨e ▸ h.1, h.2⟩) (fun _ => trivial) ?_
  iterate 5
    refine heldQ_step rfl (yieldsIf_of rfl (fun V hV => by go_simp; first | done | rfl)) (fun K' hK' => ?_)
    go_simp
    refine hK' _ ?_
    clear hK' K'
  simp only [heldQ, opsAt, List.filterMap_cons, List.filterMap_nil, List.getElem?_toArray, List.getElem?_cons_succ, List.getElem?_cons_zero]
  refine wpQuiet_nil ?_
  intro nq
  refine wpListS_make_own _ rfl _ _ 43 rfl w.heap.size 9 i0 (.string ⟨#[]⟩) 1 Try.underlying43 hi hz0 hz1 _ _ _ 256 rfl rfl rfl (by rw [hz2]; omega) (by unfold maxLen; omega) hs1 ?_
  intro w2 hown2 hg2
  have hq1 : Below w.heap.size w1 (w1.drewN nq) := below_drewN (Below.refl _ _) nq
  have hb2 : Below w.heap.size w1 w2 := hq1.trans ((Below.refl _ _).grown hg2 hs1 (by simp))
  have hrd2 := (HRL1.out.kept (Fr.drewN (fun _ => False) w1 nq) (fun _ _ => id)).kept (Fr.of_grown hg2) (by simp)
  simp only [wpListS]
  show wpList _ _ _ (_ :: _ :: []) _ _
  go_wp2_with (at_builtin; refine wpList_append_rd _ rfl (.tmp 22) (.tmp 27) 43 rfl w.heap.size 9 i0 _ 1 16 Try.underlying43 hi hz0 hz1 hz2 rfl (by decide) _ 0 [] rfl hown2 _ A m c (strs L) rfl hrd2 (strs_one L) (by unfold maxLen; omega) (by omega) (Nat.le_trans hs1 hb2.size) ?_; intro v3 w3 hown3 hg3 hat3)
  have hg3' : w2.grownBy w3 (some w1.heap.size) := hg3
  have hb13 : Below w.heap.size w1 w3 := hb2.trans ((Fr.of_grown hg3').below (Nat.le_trans hs1 hb2.size) (fun k e => by injection e with e; omega))
  have hb3 : Below w.heap.size w w3 := hb1.trans hb13
  rw [Nat.zero_add, List.nil_append] at hown3
  have HO3 := Lib.hid hown3
  clear hg3 hg3' hat3 hown2 hg2 hrd2 hb2 hown3 HRL1
  go_loopg [10] (T - m) (ScRel w L m T)
  case atStart => exact ⟨m, rfl, Nat.le_refl _, hmT, by rw [Nat.sub_self, List.replicate_zero, List.append_nil]; exact HO3.out, hb3⟩
  case round =>
    obtain ⟨r, rfl, hr1, hr2, hown, hbw⟩ := hrel
    clear HO3 hb3 hb13
    have hwz := hbw.size
    obtain ⟨A5, c5, rfl, hrd5⟩ := Rd.lt_own (own_base hown (Nat.zero_le _))
    have HRD5 := Lib.hid hrd5
    have HO := Lib.hid hown
    clear hown hrd5
    have g0 : (r : Int) < 256 := by omega
    by_cases hlt : r < T
    · have hgo : (r : Int) < 128 ∨ (¬ (r : Int) < 128 ∧ ((r : Int) % 16 != 0) = true) := by
        rcases HBET.out r hr1 hlt with h | h
        · exact .inl (by omega)
        · by_cases h8 : r < 128
          · exact .inl (by omega)
          · exact .inr ⟨by omega, by simp; omega⟩
      rcases hgo with g1 | ⟨g1, g2⟩
      all_goals
        go_wp2_with (at_builtin; refine wpList_append_rd _ rfl (.tmp 43) (.tmp 44) 43 rfl w.heap.size 9 i0 _ 1 16 Try.underlying43 hi hz0 hz1 hz2 rfl (by decide) _ r (strs (L ++ List.replicate (r - m) ⟨#[]⟩)) rfl (HO.out.alloc _) _ (some ⟨wr.heap.size, 0, none⟩) 1 1 [.string ⟨#[]⟩] rfl (rd_new1 wr ⟨#[]⟩) (by simp [Value.oneCell']) (by unfold maxLen; omega) (by omega) (by simp; omega) ?_; intro v4 w4 hown4 hg4 hat4)
        have hb4 : Below w.heap.size w w4 := (hbw.alloc hwz _).trans ((Fr.of_grown hg4).below (by simp; omega) (fun k hk => (HO.out.lt k hk.symm).1))
        have hsn : strs (L ++ List.replicate (r - m) ⟨#[]⟩) ++ [.string ⟨#[]⟩] = strs (L ++ List.replicate (r + 1 - m) ⟨#[]⟩) := by rw [show r + 1 - m = (r - m) + 1 by omega]; simp [strs, List.replicate_succ']
        rw [hsn] at hown4
        have HO4 := Lib.hid hown4
        clear hown4 hg4 hat4 hsn
        go_wp2_with fail
        go_roundg (T - (r + 1))
        case measure => omega
        case rel => exact ⟨r + 1, rfl, by omega, by omega, HO4.out, hb4⟩
    · obtain rfl : r = T := by omega
      have g1 : ¬ (r : Int) < 128 := by omega
      have g2 : ((r : Int) % 16 != 0) = false := by simp; omega
      have htl := HT.out wr A5 c5 hbw HRD5.out
      unfold ScTail at htl
      have HTL := Lib.hid htl
      clear htl HT HRD5 HO
      go_wp2_with fail
      clear g0 g1 g2
      refine HTL.out.mono ?_
      rintro e w5 ⟨hb5, ⟨rfl, hr⟩ | ⟨d, rfl, hr⟩⟩
      · have HR := Lib.hid hr
        clear hr
        go_wp2_with fail
        refine HR.out.mono ?_
        rintro e w6 ⟨rfl, hb6⟩
        go_wp2_with fail
        go_ret
        exact ⟨rfl, (hbw.trans (hb5.mono hwz)).trans (hb6.mono (by have := hb5.size; omega))⟩
      · have HR := Lib.hid hr
        clear hr
        go_wp2_with fail
        refine HR.out.mono ?_
        rintro e w6 ⟨r6, rfl, hb6, hs⟩
        have hbw6 := (hbw.trans (hb5.mono hwz)).trans (hb6.mono (by have := hb5.size; omega))
        have HSC := Lib.hid hs
        clear hs hb5 hb6 hbw
        go_wp2_with fail
        refine HSC.out.mono ?_
        rintro e w7 ⟨hb7, ⟨rfl, hs⟩ | ⟨A1, c1, g, k, rfl, hs⟩⟩
        · have HR7 := Lib.hid hs
          clear hs
          go_wp2_with fail
          refine HR7.out.mono ?_
          rintro e w8 ⟨rfl, hb8⟩
          go_wp2_with fail
          go_ret
          exact ⟨rfl, (hbw6.trans (hb7.mono hbw6.size)).trans (hb8.mono (by have := hb7.size; have := hbw6.size; omega))⟩
        · have HR7 := Lib.hid hs
          clear hs
          go_wp2_with fail
          refine HR7.out.mono ?_
          rintro e w8 ⟨A2, c2, g2, P, S, X, rfl, hb8, q1, q2, q3, hall⟩
          have hbw8 := (hbw6.trans (hb7.mono hbw6.size)).trans (hb8.mono (by have := hb7.size; have := hbw6.size; omega))
          have x1 := fun d os => cell_regrown q1 d os
          have x2 := fun d os => cell_regrown q2 d os
          have x3 := fun d os => cell_regrown q3 d os
          have HA := Lib.hid hall
          clear hall q1 q2 q3 hbw6 hb7 hb8
          go_wp2_with fail
          have k1 := fun d os => Calls.regrown_of (HA.out _ (below_regrown w8 d os)).1
          have k2 := fun d os => Calls.regrown_of ((HA.out _ (below_regrown w8 d os)).2.1.mono fun e w' (h : _ ∧ _) => (⟨h.1, h.2 ▸ Below.refl _ _⟩ : e = .returned (.int .i64 P) ∧ Below _ _ w'))
          have k3 := fun d os => Calls.regrown_of ((HA.out _ (below_regrown w8 d os)).2.2.1.mono fun e w' (h : _ ∧ _) => (⟨h.1, h.2 ▸ Below.refl _ _⟩ : e = .returned (.int .u64 S) ∧ Below _ _ w'))
          have k4 := fun d os => Calls.regrown_of ((HA.out _ (below_regrown w8 d os)).2.2.2.mono fun e w' (h : _ ∧ _) => (⟨h.1, h.2 ▸ Below.refl _ _⟩ : e = .returned (.int .i64 X) ∧ Below _ _ w'))
          refine wp_region_quiet_below (by kernel_rfl) (by kernel_rfl) ?_
          repeat (go_big_quiet_step (first | exact k1 _ _ | exact k2 _ _ | exact k3 _ _ | exact k4 _ _))
          refine wpQuiet_nil ?_
          intro _ hw'
          obtain ⟨⟨dq, osq⟩, hw''⟩ := hw'
          subst hw''
          go_wp2_with fail
          go_ret
          exact ⟨rfl, hbw8.trans ((below_regrown w8 dq osq).mono hbw8.size)⟩
end Go.Proofs.Ytjmfeoenbncibaa
namespace Go.Proofs.Ytjmfeoenbncibaa
open Go.RowKit Go.Nau Go.Shelf

theorem fndL_ok {now : List ByteArray} {l : LS} {N : Nat} (h : ScanN now l N) : ∀ f ∈ fndL now l N, f.r.wf ∧ f.c.length ≤ 1073741824 := by
  intro f hf
  obtain ⟨k, hk, rfl⟩ := List.mem_map.1 hf
  have h1 := headT_iff.1 (thereT_head (h.1 k (List.mem_range.1 hk)))
  refine ⟨decR_wf _, ?_⟩
  show (contsTo now _ (recAt now (stL now l k).pos).l.length).length ≤ _
  unfold contsTo
  rw [List.length_map, List.length_range]
  have := h1.2.2.2.1
  omega

theorem scans_tail (im : List ByteArray) (hsz : sizeB im.length = true) (p : Int) (sq : Nat) (nx : Int) (hp : -9223372036854775808 ≤ p ∧ p ≤ 9223372036854775807) (hs : sq < 18446744073709551616) (hx : -9223372036854775808 ≤ nx ∧ nx ≤ 9223372036854775807)
    (W : World) (A : Option Addr) (c : Nat) (hr : Rd (· < W.heap.size) W 1 A im.length (strs im)) : ScTail im.length p sq nx W A c := by
  have hs3 : 128 ≤ im.length ∧ im.length ≤ 4096 ∧ im.length % 16 = 0 := by unfold sizeB at hsz; simp at hsz; omega
  unfold ScTail
  refine (dof_any A c im W hr hsz).mono ?_
  rintro e w1 (⟨hal, ⟨d, rfl, hD⟩, hb1⟩ | ⟨hex, rfl, hb1⟩)
  · refine ⟨hb1, .inr ⟨d, rfl, ?_⟩⟩
    have hs1 := hb1.size
    refine (rof_any A c im w1 ((hr.kept (Fr.new hb1 (fun _ => False)) (fun _ _ => id)).mono (fun k hk => by omega)) hsz).mono ?_
    rintro e w2 (⟨_, ⟨r, rfl, hR⟩, hb2⟩ | ⟨⟨x, hx, hxs⟩, _⟩)
    case' inr => exact absurd (hal x hx) (by omega)
    refine ⟨r, rfl, hb2, ?_⟩
    have hs2 := hb2.size
    have hD2 := hD.kept (Fr.new hb2 (fun _ => False)) (fun _ _ => id)
    have hlen : (freshDS (blocksL im)).now.length = im.length := by simp [freshDS, blocksL]
    have hi : DInv (freshDS (blocksL im)) := DInv.fresh (fun x hx => by
      obtain ⟨y, hy, rfl⟩ := List.mem_map.1 hx
      exact blockS_size y (hal y hy)) (by simp [blocksL]; omega) (by simp [blocksL]; omega)
    refine (scan_any hD2 (fun k hk => by omega) hi (by rw [hlen]; exact hs3.2.2) p sq nx hp hs hx).mono ?_
    rintro e w3 (⟨hbb, rfl, rfl⟩ | ⟨hbb, N, v, hN, rfl, hfr, hlg, hb3⟩)
    · refine ⟨Below.refl _ _, .inl ⟨rfl, ?_⟩⟩
      refine (rscan_any hR (fun k hk => by omega) hi (by simp [freshDS]) (by rw [hlen]; exact hs3.2.2) p sq nx hp hs hx).mono ?_
      rintro e w4 (⟨_, rfl, rfl⟩ | ⟨h1, _⟩)
      · exact ⟨rfl, Below.refl _ _⟩
      · rw [hbb] at h1; cases h1
    · obtain ⟨A1, c1, xs, rfl, hf1⟩ := hfr.rd
      have hs3' := hb3.size
      rw [fndL_length]
      refine ⟨hb3, .inr ⟨A1, c1, _, N, rfl, ?_⟩⟩
      have hR3 := hR.kept (Fr.new hb3 (fun _ => False)) (fun _ _ => id)
      refine (rscan_any hR3 (fun k hk => by omega) hi (by simp [freshDS]) (by rw [hlen]; exact hs3.2.2) p sq nx hp hs hx).mono ?_
      rintro e w4 (⟨h1, _⟩ | ⟨_, M, v, hM, rfl, hfr2, hlg2, hb4⟩)
      · rw [hbb] at h1; cases h1
      · obtain rfl : N = M := scanN_eq hN hM
        obtain ⟨A2, c2, ys, rfl, hf2⟩ := hfr2.rd
        rw [fndL_length]
        have hNl := scanN_le hN.1
        rw [hlen] at hNl
        have q1 := blk_cell hlg2 1
        have q2 := blk_cell hlg2 2
        have q3 := blk_cell hlg2 3
        refine ⟨A2, c2, _, _, _, _, rfl, hb4, q1, q2, q3, fun V hV => ?_⟩
        have hlg4 : Lg w4 _ d (stL (freshDS (blocksL im)).now (beginL p sq nx) N) := (hb4.block _ (Array.getElem?_eq_some_iff.1 hlg).1).trans hlg
        have hlgV : Lg V _ d (stL (freshDS (blocksL im)).now (beginL p sq nx) N) := (hV.block _ (Array.getElem?_eq_some_iff.1 hlg4).1).trans hlg4
        refine ⟨fsame_any A1 A2 c1 c2 N _ (fndL_length ..) (by omega) xs ys V ((hf1.below hb4).below hV) (hf2.below hV) (fndL_ok hN), at_any hlgV, seq_any hlgV, next_any hlgV⟩
  · refine ⟨hb1, .inl ⟨rfl, ?_⟩⟩
    have hs1 := hb1.size
    refine (rof_any A c im w1 ((hr.kept (Fr.new hb1 (fun _ => False)) (fun _ _ => id)).mono (fun k hk => by omega)) hsz).mono ?_
    rintro e w2 (⟨hal, _⟩ | ⟨_, rfl, hb2⟩)
    case' inl => obtain ⟨x, hx, hxs⟩ := hex
    case' inl => exact absurd (hal x hx) (by omega)
    exact ⟨rfl, hb2⟩

theorem scans_law (A : Option Addr) (n c : Nat) (l : List ByteArray) (p sq nx : Int) (hp : -9223372036854775808 ≤ p ∧ p ≤ 9223372036854775807) (hq : 0 ≤ sq ∧ sq ≤ 18446744073709551615) (hx : -9223372036854775808 ≤ nx ∧ nx ≤ 9223372036854775807)
    (w : World) (hr : Rd (· < w.heap.size) w 1 A n (strs l)) (hl : l.length = n) (hnc : n ≤ c) (hc : c ≤ maxLen) :
    Calls Try.prog 5 #[.slice A n c, .int .i64 p, .int .u64 sq, .int .i64 nx] w fun e w' => e = .returned (.bool true) ∧ Below w.heap.size w w' := by
  obtain ⟨s, rfl⟩ : ∃ s : Nat, sq = (s : Int) := ⟨sq.toNat, by omega⟩
  have hmax : (n : Int) ≤ 9223372036854775807 := by unfold maxLen at hc; omega
  obtain ⟨m, hm⟩ : ∃ m, m = min n 200 := ⟨_, rfl⟩
  have hrL : Rd (· < w.heap.size) w 1 A m (strs (l.take m)) := by
    have := hr.take (show m ≤ n by omega)
    rwa [Nat.mul_one, show (strs l).take m = strs (l.take m) by simp [strs, List.map_take]] at this
  have hLl : (l.take m).length = m := by rw [List.length_take]; omega
  obtain ⟨T, hT⟩ : ∃ T, T = if m ≤ 128 then 128 else (m + 15) / 16 * 16 := ⟨_, rfl⟩
  have hT2 : m ≤ T ∧ 128 ≤ T ∧ T ≤ 208 ∧ T % 16 = 0 ∧ ∀ r, m ≤ r → r < T → r < 128 ∨ r % 16 ≠ 0 := by
    by_cases h : m ≤ 128
    · rw [if_pos h] at hT
      subst hT
      exact ⟨by omega, by omega, by omega, by omega, fun r _ h => .inl h⟩
    · rw [if_neg h] at hT
      exact ⟨by omega, by omega, by omega, by omega, fun r h1 h2 => .inr (by omega)⟩
  obtain ⟨t1, t2, t3, t4, t5⟩ := hT2
  refine scans_core A n c m T p s nx (l.take m) w hmax (by omega) (by omega) (by omega) hLl hrL t1 t2 t3 t4 t5 ?_
  intro W B c5 hb hrd
  have hlen : (l.take m ++ List.replicate (T - m) (⟨#[]⟩ : ByteArray)).length = T := by simp only [List.length_append, List.length_replicate, hLl]; omega
  generalize l.take m ++ List.replicate (T - m) (⟨#[]⟩ : ByteArray) = im at *
  subst hlen
  exact scans_tail im (by unfold sizeB; simp; omega) p s nx hp (by omega) hx W B c5 hrd
end Go.Proofs.Ytjmfeoenbncibaa

/- Paths: path.Split: contract over the given program. -/
import Derived.Test.YtliioeihbbhiiaaDoorHc
namespace Go.Proofs.YtliioeihbbhiiaaDoor
open Go.RowKit Go.Nau Go.Shelf
attribute [local go_sem] Oper.semAt_some

structure SpI (w : World) (pre : List ByteArray) (W : World) : Prop where
  good : goodP pre = true
  out : ∃ v, W.heap[w.heap.size]? = some (.cells #[v] 22 (0, 0)) ∧ OutR W (w.heap.size + 11) v (runP pre)
  gd : W.heap[w.heap.size + 1]? = some (.cells #[.bool true] 4 (0, 0))
  bel : Below w.heap.size w W
structure SpX (w : World) (c : Code) (pre : List ByteArray) (W : World) : Prop where
  ex : c = .exit 0
  good : goodP pre = false
  gd : W.heap[w.heap.size + 1]? = some (.cells #[.bool false] 4 (0, 0))
  bel : Below w.heap.size w W
theorem SpI.fr {w A B : World} {pre : List ByteArray} (h : SpI w pre A) {S : Nat → Prop} (hf : Fr S A B) (h1 : ∀ k, S k → w.heap.size + 3 ≤ k) (h2 : ∀ k, S k → w.heap.size + 11 ≤ k → ¬ ∃ cs t fz, A.heap[k]? = some (Obj.cells cs t fz)) : SpI w pre B := by
  obtain ⟨v, hv, ho⟩ := h.out
  refine ⟨h.good, ⟨v, hf.get (fun c => by have := h1 _ c; omega) hv, ho.fr hf (fun k hb _ hc c => h2 k c hb hc)⟩, hf.get (fun c => by have := h1 _ c; omega) h.gd, h.bel.trans (hf.below h.bel.size (fun k c => by have := h1 _ c; omega))⟩
theorem SpX.fr {w A B : World} {c : Code} {pre : List ByteArray} (h : SpX w c pre A) {S : Nat → Prop} (hf : Fr S A B) (h1 : ∀ k, S k → w.heap.size + 3 ≤ k) : SpX w c pre B :=
  ⟨h.ex, h.good, hf.get (fun c => by have := h1 _ c; omega) h.gd, h.bel.trans (hf.below h.bel.size (fun k c => by have := h1 _ c; omega))⟩
theorem goodP_snoc (pre : List ByteArray) (x : ByteArray) : goodP (pre ++ [x]) = (goodP pre && (upB x || nameB x)) := by simp [goodP]
theorem goodP_prefix {pre l : List ByteArray} (h : pre <+: l) (hg : goodP pre = false) : goodP l = false := by
  obtain ⟨t, rfl⟩ := h
  unfold goodP at *
  rw [List.all_append, hg, Bool.false_and]

theorem rd_notAt {T : Nat → Prop} {w : World} {size n D : Nat} {A : Option Addr} {xs : List Value} {x : Option (List Deferred)} (h : Rd T w size A n xs) (hs : 0 < size) (hD : w.heap[D]? = some (.deferred x)) : Rd (fun k => T k ∧ k ≠ D) w size A n xs := by
  refine ⟨h.1, fun hn => ?_⟩
  obtain ⟨ad, e, hb, hc⟩ := h.2 hn
  refine ⟨ad, e, ⟨hb, fun e2 => ?_⟩, hc⟩
  have hl : 0 < xs.length := by rw [h.1]; exact Nat.mul_pos hn hs
  have := hc 0 _ (List.getElem?_eq_getElem hl)
  rw [show ad.add 0 = ad by unfold Addr.add; simp] at this
  simp [World.cell?, e2, hD] at this
theorem wpListIn_append_run {F : Fence} {n : Nat} {P : Program} (w : World) {ops : Array Oper} {rest : List Oper} {o : Oper} {a : Act} {Q : Exit → Act → World → Prop}
    (hg : o.guard = none) (s x : Operand) (t : TypeId) (hop : o.op = Op.call { callee := Callee.builtin Builtin.append, args := #[s, x], argTypes := #[t, t] })
    (v u : Value) (hs : a.eval s = v) (hx : a.eval x = u) (v' : Value) (w' : World) (hrun : (Builtin.append_ #[t, t] o.type #[v, u]).run P w = .ok v' w')
    (hK : wpListIn F n P ops Q rest (a.put o.dst v') w') :
    wpListIn F n P ops Q (o :: rest) a w := by
  refine wpListIn_plain hg fun K hK' => ?_
  unfold Oper.wpIn
  refine ⟨?_, ?_⟩
  · simp [Oper.about, hop, resolve, Target.leads, Sem.run_pure]
  · rw [Oper.semAt_plain F _ _ (by rw [hop]; intro c hc'; cases hc')]
    simp [execOp, hop, resolve, invoke, builtin, hs, hx, hrun, Result.andThen]
    exact hK' _ _ hK

/-- What Split answers. -/
def SplPost (w : World) (s : ByteArray) (e : Ending) (w' : World) : Prop :=
  ∃ A c, e = .returned (.tuple #[.slice A (splitL s).length c, .int .i64 (splitE s)]) ∧ (splitL s).length ≤ c ∧ c ≤ maxLen ∧ Rd (fun k => w.heap.size ≤ k ∧ k < w'.heap.size) w' 1 A (splitL s).length (strs (splitL s)) ∧ Below w.heap.size w w'
theorem SplPost.bad {w w' : World} {s : ByteArray} (ho : splOk s = false) (hb : Below w.heap.size w w') : SplPost w s (.returned (.tuple #[.slice none 0 0, .int .i64 120])) w' := by
  unfold SplPost splitL splitE
  rw [ho]
  exact ⟨none, 0, rfl, Nat.le_refl _, by simp [maxLen], Rd.nil _ _ _ _, hb⟩

set_option maxHeartbeats 4000000 in
set_option maxRecDepth 100000 in
theorem split_any (s : ByteArray) (hs : s.size ≤ 9223372036854775807) (w : World) : Calls Tryd.prog 11 #[.string s] w (SplPost w s) := by
  have hpf := fun W => Tryd.strings_HasPrefix s ⟨#[47]⟩ W
  by_cases h5 : s.size ≤ 1000
  case neg =>
    have h5' : 1000 < (s.size : Int) := by omega
    have ho : splOk s = false := by unfold splOk; simp [h5]
    have HP := Lib.hid (fun W' hb => SplPost.bad (w := w) (w' := W') ho hb)
    clear ho h5 hpf
    go_enter Tryd.func11, Tryd.ntmps11
    go_wp2_with fail
    try go_step3
    go_wp2_with fail
    rw [Exit.noGoto_ret]
    go_ret2
    exact HP.out _ (Below.refl _ w)
  have h5' : (s.size : Int) ≤ 1000 := by omega
  cases hpx : Lib.hasPrefix s.data.toList [47]
  · have ho : splOk s = false := by unfold splOk; rw [hpx]; simp
    have hpf' : ∀ W, Calls Tryd.prog 18 #[.string s, .string ⟨#[47]⟩] W fun e w' => e = .returned (.bool false) ∧ w' = W := fun W => by
      have := hpf W
      rw [show (⟨#[47]⟩ : ByteArray).data.toList = [47] from rfl, hpx] at this
      exact this
    have HF := Lib.hid hpf'
    have HP := Lib.hid (fun W' hb => SplPost.bad (w := w) (w' := W') ho hb)
    clear ho h5 hpf hpf' hpx
    go_enter Tryd.func11, Tryd.ntmps11
    go_wp2_with fail
    try go_step3
    go_wp2_with fail
    refine (HF.out _).mono ?_
    rintro e w1 ⟨rfl, rfl⟩
    go_wp2_with fail
    rw [Exit.noGoto_ret]
    go_ret2
    exact HP.out _ (Below.refl _ _)
  have hpf' : ∀ W, Calls Tryd.prog 18 #[.string s, .string ⟨#[47]⟩] W fun e w' => e = .returned (.bool true) ∧ w' = W := fun W => by
    have := hpf W
    rw [show (⟨#[47]⟩ : ByteArray).data.toList = [47] from rfl, hpx] at this
    exact this
  have HF := Lib.hid hpf'
  have hok0 : splOk s = (goodP (piecesL s) && decide ((runP (piecesL s)).length ≤ 40)) := by
    unfold splOk
    rw [hpx]
    simp [h5]
  have HOK := Lib.hid hok0
  clear hpf hpf' hpx hok0
  refine (callsIn_wide (n := 7)).1 (callsIn_of_wp_marks Tryd.func11 rfl trivial ?_ rfl)
  simp only [Tryd.ntmps11, List.size_toArray, List.length_nil, List.length_cons, Nat.reduceSub, Nat.reduceAdd, Array.replicate_succ, Array.replicate_zero, List.push_toArray, List.append_toArray, List.nil_append, List.cons_append]
  refine wpIn_wide.2 ?_
  go_wp2_with fail
  try go_step3
  go_wp2_with fail
  refine (HF.out _).mono ?_
  rintro e w0 ⟨rfl, hw0⟩
  subst hw0
  go_wp2_with fail
  refine wp_label ?_
  go_wp2_with fail
  refine (pieces_any s _).mono ?_
  rintro e w1 ⟨rfl, hw1⟩
  simp only [World.size_alloc] at hw1 ⊢
  have f1 : ∀ (W : World) o, Fr (fun _ => False) W (W.alloc o) := fun W o => (Fr.refl _ W).alloc o
  have hsz : w1.heap.size = w0.heap.size + 3 := by rw [hw1]; simp
  have hI0 : SpI w0 [] w1 := by
    rw [hw1]
    have e0 := heap_alloc_new w0 (.cells #[.slice none 0 0] 22)
    have e1 := heap_alloc_new (w0.alloc (.cells #[.slice none 0 0] 22)) (.cells #[.bool true] 4)
    simp only [World.size_alloc] at e1
    refine ⟨rfl, ⟨.slice none 0 0, (f1 _ _).get id ((f1 _ _).get id e0), OutR.nil _ _⟩, (f1 _ _).get id e1, ?_⟩
    exact (((Below.refl _ w0).alloc (Nat.le_refl _) _).alloc (by simp) _).alloc (by simp; omega) _
  have hB0 : w1.heap[w0.heap.size + 1 + 1]? = some (.cells #[.string s] 9 (0, 0)) := by
    rw [hw1]
    have := heap_alloc_new ((w0.alloc (.cells #[.slice none 0 0] 22)).alloc (.cells #[.bool true] 4)) (.cells #[.string s] 9)
    simp only [World.size_alloc] at this
    exact this
  clear hw1
  go_wp2_with fail
  rename_i K hK0
  have tgood : ∀ (D : Nat) (W : World), w0.heap.size + 3 ≤ D → splOk s = true → SpI w0 (piecesL s) W → D < W.heap.size → W.heap[D]? = some (.deferred (some [])) → K { tmps := #[.string s, undef, .slice none 0 0, .int .i64 0, .pointer (some ⟨w0.heap.size, 0, none⟩), .pointer (some ⟨w0.heap.size + 1, 0, none⟩), undef, undef, .string s, .int .i64 s.size, .bool (decide (1000 < (s.size : Int))), .bool (decide (1000 < (s.size : Int))), .string s, .bool true, .bool false, .bool (decide (1000 < (s.size : Int))), .string s, .func (.func 25) #[] #[.pointer (some ⟨w0.heap.size + 1 + 1, 0, none⟩)], undef, undef, undef, undef, undef, undef, undef, undef, undef, undef, undef, undef, undef, undef, undef, undef, undef, undef, undef, undef, undef, undef, undef, undef, undef, undef, undef, undef, undef, undef, undef, undef, undef, undef, undef], defers := [{ target := .collected D, args := #[] }] } W := by
    intro D W hD hok hI hlt hK
    refine hK0 _ _ ?_
    clear hK0
    obtain ⟨v, hR, hown⟩ := hI.out
    obtain ⟨A, c, rfl, hc, hm, hrd⟩ := hown.form
    have hL : splitL s = runP (piecesL s) := by unfold splitL; rw [hok]; rfl
    have hE : splitE s = 0 := by unfold splitE; rw [hok]; rfl
    have h40 : (runP (piecesL s)).length ≤ 40 := by
      rw [HOK.out] at hok
      simp only [Bool.and_eq_true, decide_eq_true_eq] at hok
      exact hok.2
    rw [← hL] at hrd hc hR h40
    have r0 := blk_cell hR 0
    have g0 := blk_cell hI.gd 0
    simp at r0 g0
    have hbe := hI.bel
    obtain ⟨L, hLL⟩ : ∃ L, L = (splitL s).length := ⟨_, rfl⟩
    rw [← hLL] at r0 hc hrd h40
    have h40' : (L : Int) ≤ 40 := by omega
    have HE := Lib.hid hE
    have HLL := Lib.hid hLL
    have HRD := Lib.hid hrd
    have HC := Lib.hid hc
    have HM := Lib.hid hm
    clear hI hR hok hown hrd hc hm hB0 hI0 hL hE hLL
    go_wp2_with fail
    rw [Exit.noGoto_ret]
    refine ⟨by simp, .inl ⟨_, _, rfl, run_takeDeferred hK, ?_⟩⟩
    have hf : Fr (fun k => k = D) W (W.putObj D (.deferred none)) := (Fr.of_grown (grownBy_putObj' W D _)).mono (fun k e => Option.some.inj e)
    refine ⟨_, results_tmp2 rfl _ _ _, ?_⟩
    refine ⟨A, c, by rw [HE.out, ← HLL.out]; rfl, by rw [← HLL.out]; exact HC.out, HM.out, ?_, hbe.trans (hf.below hbe.size (fun k e => by omega))⟩
    rw [← HLL.out]
    refine ((rd_notAt HRD.out (by omega) hK).kept hf (fun k hk e => hk.2 e)).mono (fun k hk => ⟨by omega, ?_⟩)
    have := hf.size
    omega
  have tlong : ∀ (D : Nat) (W : World), w0.heap.size + 3 ≤ D → splOk s = false → SpI w0 (piecesL s) W → 40 < (runP (piecesL s)).length → D < W.heap.size → W.heap[D]? = some (.deferred (some [])) → K { tmps := #[.string s, undef, .slice none 0 0, .int .i64 0, .pointer (some ⟨w0.heap.size, 0, none⟩), .pointer (some ⟨w0.heap.size + 1, 0, none⟩), undef, undef, .string s, .int .i64 s.size, .bool (decide (1000 < (s.size : Int))), .bool (decide (1000 < (s.size : Int))), .string s, .bool true, .bool false, .bool (decide (1000 < (s.size : Int))), .string s, .func (.func 25) #[] #[.pointer (some ⟨w0.heap.size + 1 + 1, 0, none⟩)], undef, undef, undef, undef, undef, undef, undef, undef, undef, undef, undef, undef, undef, undef, undef, undef, undef, undef, undef, undef, undef, undef, undef, undef, undef, undef, undef, undef, undef, undef, undef, undef, undef, undef, undef], defers := [{ target := .collected D, args := #[] }] } W := by
    intro D W hD hok hI hl40 hlt hK
    refine hK0 _ _ ?_
    clear hK0
    obtain ⟨v, hR, hown⟩ := hI.out
    obtain ⟨A, c, rfl, hc, hm, hrd⟩ := hown.form
    obtain ⟨L, hLL⟩ : ∃ L, L = (runP (piecesL s)).length := ⟨_, rfl⟩
    rw [← hLL] at hR hl40
    have r0 := blk_cell hR 0
    have g0 := blk_cell hI.gd 0
    simp at r0 g0
    have hbe := hI.bel
    have h40' : 40 < (L : Int) := by omega
    have HO := Lib.hid hok
    clear hI hR hok hown hrd hc hm hB0 hI0 hLL
    go_wp2_with fail
    refine ⟨by simp, .inl ⟨_, _, rfl, run_takeDeferred hK, ?_⟩⟩
    have hf : Fr (fun k => k = D) W (W.putObj D (.deferred none)) := (Fr.of_grown (grownBy_putObj' W D _)).mono (fun k e => Option.some.inj e)
    refine ⟨_, results_tmp2 rfl _ _ _, ?_⟩
    exact SplPost.bad HO.out (hbe.trans (hf.below hbe.size (fun k e => by omega)))
  have tbad : ∀ (D : Nat) (W : World), w0.heap.size + 3 ≤ D → splOk s = false → W.heap[w0.heap.size + 1]? = some (.cells #[.bool false] 4 (0, 0)) → Below w0.heap.size w0 W → D < W.heap.size → W.heap[D]? = some (.deferred (some [])) → K { tmps := #[.string s, undef, .slice none 0 0, .int .i64 0, .pointer (some ⟨w0.heap.size, 0, none⟩), .pointer (some ⟨w0.heap.size + 1, 0, none⟩), undef, undef, .string s, .int .i64 s.size, .bool (decide (1000 < (s.size : Int))), .bool (decide (1000 < (s.size : Int))), .string s, .bool true, .bool false, .bool (decide (1000 < (s.size : Int))), .string s, .func (.func 25) #[] #[.pointer (some ⟨w0.heap.size + 1 + 1, 0, none⟩)], undef, undef, undef, undef, undef, undef, undef, undef, undef, undef, undef, undef, undef, undef, undef, undef, undef, undef, undef, undef, undef, undef, undef, undef, undef, undef, undef, undef, undef, undef, undef, undef, undef, undef, undef], defers := [{ target := .collected D, args := #[] }] } W := by
    intro D W hD hok hgd hbe hlt hK
    refine hK0 _ _ ?_
    clear hK0
    have g0 := blk_cell hgd 0
    simp at g0
    have HO := Lib.hid hok
    clear hok hgd hB0 hI0
    go_wp2_with fail
    try refine ⟨(fun f h => by cases h), ?_⟩
    go_wp2_with fail
    refine ⟨by simp, .inl ⟨_, _, rfl, run_takeDeferred hK, ?_⟩⟩
    have hf : Fr (fun k => k = D) W (W.putObj D (.deferred none)) := (Fr.of_grown (grownBy_putObj' W D _)).mono (fun k e => Option.some.inj e)
    refine ⟨_, results_tmp2 rfl _ _ _, ?_⟩
    exact SplPost.bad HO.out (hbe.trans (hf.below hbe.size (fun k e => by omega)))
  clear hK0
  refine wpIn_wide.1 (rangeFunc_exit (n := 5) rfl (by omega) (gf := 25) (lb := #[.pointer (some ⟨w0.heap.size + 1 + 1, 0, none⟩)]) rfl trivial (enters_of Tryd.func25 (by kernel_rfl) rfl)
    (fun x => #[.string x]) (fun _ => rfl) (fun A B => Fr (fun k => ¬ PT (w0.heap.size + 5) k) A B) (fun ys => ys = piecesL s) (fun pre => pre <+: piecesL s) (fun pre x W => w0.heap.size + 11 ≤ W.heap.size ∧ pre ++ [x] <+: piecesL s)
    (fun h k => Fr.trans h k) (fun A o h => (Fr.of_grown (grownBy_putObj' A _ o)).mono (fun k e => by injection e with e; unfold PT; omega))
    (SpI w0) (SpX w0) ?ip ?ixp ?ap ?h0 (fun x => { tmps := #[.string s, undef, .slice none 0 0, .int .i64 0, .pointer (some ⟨w0.heap.size, 0, none⟩), .pointer (some ⟨w0.heap.size + 1, 0, none⟩), .string x, undef, .string s, .int .i64 s.size, .bool (decide (1000 < (s.size : Int))), .bool (decide (1000 < (s.size : Int))), .string s, .bool true, .bool false, .bool (decide (1000 < (s.size : Int))), .string s, .func (.func 25) #[] #[.pointer (some ⟨w0.heap.size + 1 + 1, 0, none⟩)], .string x, undef, undef, undef, undef, undef, undef, undef, undef, undef, undef, undef, undef, undef, undef, undef, undef, undef, undef, undef, undef, undef, undef, undef, undef, undef, undef, undef, undef, undef, undef, undef, undef, undef, undef], defers := [] }) ?seq ?assign ?body ?done ?stop)
  case ip =>
    intro pre A o hlt hi
    have f : Fr (fun k => k = w1.heap.size + 1) A (A.putObj (w1.heap.size + 1) o) := (Fr.of_grown (grownBy_putObj' A _ o)).mono (fun k e => by injection e)
    exact hi.fr f (fun k e => by omega) (fun k e e2 => by omega)
  case ixp =>
    intro c pre A o hlt hi
    have f : Fr (fun k => k = w1.heap.size + 1) A (A.putObj (w1.heap.size + 1) o) := (Fr.of_grown (grownBy_putObj' A _ o)).mono (fun k e => by injection e)
    exact hi.fr f (fun k e => by omega)
  case ap =>
    rintro pre x A o ⟨h1, h2⟩
    exact ⟨by simpa [World.putObj] using h1, h2⟩
  case h0 =>
    intro r
    have f : Fr (fun _ => False) w1 ((w1.alloc (.deferred (some []))).alloc (.loop r)) := (f1 _ _).trans (f1 _ _)
    exact hI0.fr f (fun k e => e.elim) (fun k e => e.elim)
  case seq =>
    intro r J' Jx' hJ' hJx' hy' h0'
    subst hJ' hJx'
    have hsz2 : ((w1.alloc (.deferred (some []))).alloc (.loop r)).heap.size = w0.heap.size + 5 := by simp; omega
    refine callsIn_wide.2 (pieces_in (w1.heap.size + 1) (w0.heap.size + 1 + 1) s (by omega) _ ((((Fr.refl (fun _ => False) w1).alloc _).alloc _).get id hB0) _ _ ?_ ?_ ?_ h0')
    · rintro pre A A' ⟨hi, hb1, hb2⟩ f
      rw [hsz2] at f
      exact ⟨hi.fr f (fun k e => by unfold PT at e; omega) (fun k e e2 => by unfold PT at e; omega), f.get (by unfold PT; omega) hb1, f.get (by unfold PT; omega) hb2⟩
    · rintro pre A A' ⟨c, hi, hb1, hb2⟩ f
      rw [hsz2] at f
      exact ⟨c, hi.fr f (fun k e => by unfold PT at e; omega), f.get (by unfold PT; omega) hb1, f.get (by unfold PT; omega) hb2⟩
    · rw [hsz2]
      intro pre x A hA hsA hpre
      exact hy' pre x A hA ⟨by omega, hpre⟩
  case assign =>
    rintro l' x A K hK
    gi_wp2
    exact hK
  case body =>
    rintro pre x W ⟨r, hrr⟩ hi ⟨hW, hadm⟩
    obtain ⟨v, hR, hown⟩ := hi.out
    obtain ⟨A, c, rfl, hc, hm, hrd⟩ := hown.form
    have hlen : (runP pre).length ≤ 1001 := by
      have h1 := hadm.length_le
      have h2 := piecesL_length s
      have h3 := runP_le pre
      simp at h1
      omega
    have hgs := goodP_snoc pre x
    have hrs := runP_snoc pre x
    rw [hi.good, Bool.true_and] at hgs
    have r0 := blk_cell hR 0
    have z0 := blk_frozen hR 0
    have g0 := blk_cell hi.gd 0
    have gz := blk_frozen hi.gd 0
    simp at r0 g0
    have hlt := (Array.getElem?_eq_some_iff.1 hrr).1
    have hkp : ∀ W', Fr (fun k => k = w0.heap.size ∨ k = w0.heap.size + 1 ∨ w0.heap.size + 11 ≤ k) W W' → Kept2 w1.heap.size W W' ∧ Fr (fun k => ¬ PT (w0.heap.size + 5) k) W W' := by
      intro W' f
      exact ⟨Kept2.of_fr f (by omega) (by omega) (by omega), f.mono (fun k h => by unfold PT; omega)⟩
    cases hu : upB x
    · rw [hu] at hgs
      have hst : stepP (runP pre) x = runP pre ++ [x] := by unfold stepP; rw [hu]; rfl
      rw [hst] at hrs
      have hux : (x.toList == [46, 46]) = false := hu
      cases hn : nameB x
      · rw [hn] at hgs
        have hnm : ∀ W, Calls Tryd.prog 20 #[.string x] W fun e w' => e = .returned (.bool false) ∧ W = w' := fun W => by
          have := isname_any x W
          rwa [hn] at this
        have fr := Fr.set1 W (w0.heap.size + 1) 0 (.bool false)
        obtain ⟨k1, k2⟩ := hkp _ (fr.mono (fun k e => .inr (.inl e)))
        have hX : SpX w0 (.exit 0) (pre ++ [x]) (W.setCell ⟨w0.heap.size + 1, 0, none⟩ (.bool false)) := ⟨rfl, by rw [hgs]; rfl, blk_set hi.gd 0 _, hi.bel.trans (fr.below hi.bel.size (fun k e => by omega))⟩
        have HN := Lib.hid hnm
        have K1 := Lib.hid k1
        have K2 := Lib.hid k2
        have HX := Lib.hid hX
        clear hnm k1 k2 hX fr hkp hgs hrs hst hu hn hi hR hown hc hm hrd hlen hadm hlt hW hB0 hI0 tgood tbad tlong
        gi_wp2
        refine ⟨trivial, ?_⟩
        refine ((callsIn_wide.2 (HN.out _))).mono ?_
        rintro e w3 ⟨rfl, hw3⟩
        subst hw3
        gi_wp2
        exact ⟨K1.out, K2.out, HX.out⟩
      · rw [hn] at hgs
        have hnm : ∀ W, Calls Tryd.prog 20 #[.string x] W fun e w' => e = .returned (.bool true) ∧ W = w' := fun W => by
          have := isname_any x W
          rwa [hn] at this
        have hnew : (W.alloc (.cells #[.string x] 9)).cell? ⟨W.heap.size, 0, none⟩ = some (.string x) := by
          refine (blk_cell (heap_alloc_new W (.cells #[.string x] 9)) 0).trans ?_
          rfl
        have fa : Fr (fun _ => False) W (W.alloc (.cells #[.string x] 9)) := f1 _ _
        obtain ⟨v2, w2, hrun, ho2, hf2, A2, c2, rfl⟩ := (hown.fr fa (fun _ _ _ _ => id)).append (by simp; omega) x _ hnew (by omega)
        have hR2 := hf2.get (by omega) (fa.get id hR)
        have q0 := blk_cell hR2 0
        have qz := blk_frozen hR2 0
        simp at q0
        have f3 : Fr (fun k => k = w0.heap.size ∨ w0.heap.size + 11 ≤ k) W (w2.setCell ⟨w0.heap.size, 0, none⟩ (.slice A2 ((runP pre).length + 1) c2)) :=
          ((fa.mono (fun _ e => e.elim)).trans (hf2.mono (fun _ e => .inr e))).trans ((Fr.set1 _ _ _ _).mono (fun _ e => .inl e))
        obtain ⟨k1, k2⟩ := hkp _ (f3.mono (fun k e => by omega))
        have hX : SpI w0 (pre ++ [x]) (w2.setCell ⟨w0.heap.size, 0, none⟩ (.slice A2 ((runP pre).length + 1) c2)) := ⟨by rw [goodP_snoc, hi.good, hu, hn]; rfl, ⟨_, blk_set hR2 0 _, by rw [hrs]; exact ho2.fr (S := fun k => k = w0.heap.size) (Fr.set1 _ _ _ _) (fun k h1 _ _ e => by omega)⟩, f3.get (by omega) hi.gd, hi.bel.trans ?hbb⟩
        case hbb =>
          have g2 : Fr (fun k => w0.heap.size ≤ k) W (w2.setCell ⟨w0.heap.size, 0, none⟩ (.slice A2 ((runP pre).length + 1) c2)) := f3.mono (fun k h => by omega)
          exact g2.below hi.bel.size (fun k h => h)
        have HN := Lib.hid hnm
        have K1 := Lib.hid k1
        have K2 := Lib.hid k2
        have HX := Lib.hid hX
        have HRUN := Lib.hid hrun
        clear hnm k1 k2 hX hkp hgs hrs hst hu hn hi hR hown hc hm hrd hlen hadm hlt hW hB0 hI0 tgood tbad tlong hrun ho2 hf2 hR2 f3 fa hnew
        gi_wp2
        refine ⟨trivial, ?_⟩
        refine ((callsIn_wide.2 (HN.out _))).mono ?_
        rintro e w3 ⟨rfl, hw3⟩
        subst hw3
        gi_wp2_with (gi_at_builtin; refine wpListIn_append_run _ rfl (.tmp 21) (.tmp 23) 22 rfl _ _ rfl rfl _ _ HRUN.out ?_)
        exact ⟨K1.out, K2.out, HX.out⟩
    · rw [hu] at hgs
      have hst : stepP (runP pre) x = (runP pre).dropLast := by unfold stepP; rw [hu]; rfl
      rw [hst] at hrs
      have hux : (x.toList == [46, 46]) = true := hu
      cases hl0 : (runP pre).length with
      | zero =>
        have hnil : runP pre = [] := List.length_eq_zero_iff.1 hl0
        have hfin : SpI w0 (pre ++ [x]) W := ⟨by rw [goodP_snoc, hi.good, hu]; rfl, ⟨_, hR, by rw [hrs, hnil]; rw [hnil] at hown; exact hown⟩, hi.gd, hi.bel⟩
        have HF := Lib.hid hfin
        rw [hl0] at r0
        clear hfin hkp hgs hrs hst hu hi hR hown hc hm hrd hlen hadm hlt hW hB0 hI0 tgood tbad tlong hnil hl0
        gi_wp2
        exact ⟨Kept2.refl _ _, Fr.refl _ _, HF.out⟩
      | succ j =>
        have hj : j ≤ 1000 := by omega
        rw [hl0] at r0 hown hc
        have fr := Fr.set1 W w0.heap.size 0 (.slice A j j)
        obtain ⟨k1, k2⟩ := hkp _ (fr.mono (fun k e => .inl e))
        have hX : SpI w0 (pre ++ [x]) (W.setCell ⟨w0.heap.size, 0, none⟩ (.slice A j j)) := ⟨by rw [goodP_snoc, hi.good, hu]; rfl, ⟨_, blk_set hR 0 _, by rw [hrs]; exact (hown.cut hl0).fr fr (fun k h1 _ _ e => by omega)⟩, fr.get (by omega) hi.gd, hi.bel.trans (fr.below hi.bel.size (fun k e => by omega))⟩
        have K1 := Lib.hid k1
        have K2 := Lib.hid k2
        have HX := Lib.hid hX
        have hj0 : 0 < (j : Int) + 1 := by omega
        have hcj : j ≤ c := by omega
        clear k1 k2 hX fr hkp hgs hrs hst hu hi hR hown hm hrd hlen hadm hlt hW hB0 hI0 tgood tbad tlong hl0
        gi_wp2
        exact ⟨K1.out, K2.out, HX.out⟩
  case done =>
    rintro xs W rfl hi hlt hK
    simp only [Exit.inBlock, Exit.then]
    by_cases h40 : (runP (piecesL s)).length ≤ 40
    · exact tgood _ W (by omega) (by rw [HOK.out, hi.good]; simpa using h40) hi hlt hK
    · exact tlong _ W (by omega) (by rw [HOK.out, hi.good]; simpa using h40) hi (by omega) hlt hK
  case stop =>
    rintro c pre W hpre hi hlt hK
    obtain ⟨rfl, hg, hgd, hbe⟩ := hi
    have hgo := tbad _ W (by omega) (by rw [HOK.out, goodP_prefix hpre hg]; rfl) hgd hbe hlt hK
    clear tgood tbad tlong
    refine wpIn_exit ?_
    show K _ _
    exact hgo
end Go.Proofs.YtliioeihbbhiiaaDoor

/- Texts of this proof, joined: X Ll Z. They hold under no condition beyond what each theorem states. -/
import Derived.ProofKit
import Derived.RangeFuncNested
import Derived.Test.YtjmfeoenbncibaaM02
import Derived.Test.YtjmfeoenbncibaaM26
import Derived.RangeFuncCalls
import Derived.OwnWalkIn
namespace Go.Nau
open Go.RowKit

/-- The statement's two blocks when a round has left by the jump c. -/
def BookX (B : Nat) (r : Loop) (c : Code) (W : World) : Prop := W.heap[B + 1]? = some (.loop { r with state := .done, pending := some c }) ∧ W.heap[B]? = some (.deferred (some []))

/-- The statement's two blocks lie as they lay. -/
def Kept2 (B : Nat) (W W' : World) : Prop := W'.heap[B]? = W.heap[B]? ∧ W'.heap[B + 1]? = W.heap[B + 1]?
theorem Kept2.refl (B : Nat) (W : World) : Kept2 B W W := ⟨rfl, rfl⟩
theorem Kept2.of_fr {B : Nat} {S : Nat → Prop} {W W' : World} (h : Fr S W W') (h1 : B + 1 < W.heap.size) (h2 : ¬ S B) (h3 : ¬ S (B + 1)) : Kept2 B W W' := ⟨h.block _ (by omega) h2, h.block _ h1 h3⟩

/-- How the body of a round may be left. -/
def exitPost {α : Type} (B : Nat) (Kp : World → World → Prop) (I : List α → World → Prop) (Ix : Code → List α → World → Prop) (xs : List α) (W : World) : Exit → Act → World → Prop
  | .normal, _, W' => Kept2 B W W' ∧ Kp W W' ∧ I xs W'
  | .ret, _, W' => Kept2 B W W' ∧ Kp W W' ∧ Ix .ret xs W'
  | .exit id, _, W' => Kept2 B W W' ∧ Kp W W' ∧ Ix (.exit id) xs W'
  | _, _, _ => False

section
variable {F : Fence} {n : Nat} {P : Program}

theorem rangeFunc_exit {α : Type} {g : Operand} {ps : Array Tmp} {assign body : Code} {Q : Exit → Act → World → Prop} {a : Act} {w : World}
    (hro : F.round = none) (h1 : 1 ≤ n) {gf : Nat} {lb : Array Value} (hg : a.eval g = .func (.func gf) #[] lb) (hFg : F.fn gf) (eg : ∀ args w, (callFunc gf args).run P w = .ok (.enter gf args) w)
    (vals : α → Array Value) (hps : ∀ x, (vals x).size = ps.size) (Kp : World → World → Prop) (S Sp : List α → Prop) (Adm : List α → α → World → Prop)
    (hKt : ∀ {A B C : World}, Kp A B → Kp B C → Kp A C) (hKb : ∀ (W : World) (o : Obj), w.heap.size + 1 < W.heap.size → Kp W (W.putObj (w.heap.size + 1) o))
    (I : List α → World → Prop) (Ix : Code → List α → World → Prop)
    (hIp : ∀ pre W o, w.heap.size + 1 < W.heap.size → I pre W → I pre (W.putObj (w.heap.size + 1) o))
    (hIxp : ∀ c pre W o, w.heap.size + 1 < W.heap.size → Ix c pre W → Ix c pre (W.putObj (w.heap.size + 1) o))
    (hAp : ∀ pre x W o, Adm pre x W → Adm pre x (W.putObj (w.heap.size + 1) o))
    (h0 : ∀ r, I [] ((w.alloc (.deferred (some []))).alloc (.loop r))) (a₁ : α → Act)
    (hseq : ∀ (r : Loop) (J Jx : List α → World → Prop), J = (fun pre W => I pre W ∧ Book w.heap.size r W) → Jx = (fun pre W => ∃ c, Ix c pre W ∧ BookX w.heap.size r c W) →
      (∀ pre x W1, J pre W1 → Adm pre x W1 → YieldAt F (n - 1 - 1) P (w.heap.size + 1) (vals x) W1 fun e W' => (e = .returned (.bool true) ∧ J (pre ++ [x]) W' ∧ Kp W1 W') ∨ (e = .returned (.bool false) ∧ Jx (pre ++ [x]) W' ∧ Kp W1 W')) →
      J [] ((w.alloc (.deferred (some []))).alloc (.loop r)) →
      CallsIn F (n - 1) P gf (#[.func (.yield (w.heap.size + 1)) #[] #[]] ++ lb) ((w.alloc (.deferred (some []))).alloc (.loop r)) fun e W' => (∃ v, e = .returned v) ∧ ((∃ ys, S ys ∧ J ys W') ∨ (∃ pre, Sp pre ∧ Jx pre W')))
    (hassign : ∀ (l : Nat) (x : α) (W : World) (K : Act → World → Prop), K (a₁ x) W →
      assign.wpIn (F.inRound l) (n - 1 - 1) P (Exit.then K (fun _ _ _ => False)) { tmps := (ps.zip (vals x)).foldl (fun t (p, v) => t.setIfInBounds p v) a.tmps, defers := [] } W)
    (hbody : ∀ (pre : List α) (x : α) (W : World), (∃ r, W.heap[w.heap.size + 1]? = some (.loop r)) → I pre W → Adm pre x W → body.wpIn (F.inRound (w.heap.size + 1)) (n - 1 - 1) P (exitPost w.heap.size Kp I Ix (pre ++ [x]) W) (a₁ x) W)
    (hdone : ∀ (xs : List α) (W : World), S xs → I xs W → w.heap.size < W.heap.size → W.heap[w.heap.size]? = some (.deferred (some [])) → Q .normal { a with defers := { target := .collected w.heap.size, args := #[] } :: a.defers } W)
    (hstop : ∀ (c : Code) (pre : List α) (W : World), Sp pre → Ix c pre W → w.heap.size < W.heap.size → W.heap[w.heap.size]? = some (.deferred (some [])) → c.wpIn F n P Q { a with defers := { target := .collected w.heap.size, args := #[] } :: a.defers } W) :
    (Code.rangeFunc g ps assign body).wpIn F n P Q a w := by
  refine wpIn_rangeFunc fun fn hfn => ?_
  rw [hro]
  obtain ⟨rc, hrc⟩ : ∃ rc : LoopState → Option Code → Loop, rc = fun st pe => { state := st, pending := pe, fn, tmps := a.tmps, params := ps, assign, body, defers := w.heap.size } := ⟨_, rfl⟩
  have hA : ((w.alloc (.deferred (some []))).alloc (.loop (rc .ready none))).heap[w.heap.size + 1]? = some (.loop (rc .ready none)) := by
    have := World.alloc_heap_new (w.alloc (.deferred (some []))) (.loop (rc .ready none))
    rwa [World.size_alloc] at this
  have hB : ((w.alloc (.deferred (some []))).alloc (.loop (rc .ready none))).heap[w.heap.size]? = some (.deferred (some [])) :=
    (Below.heap_alloc _ _ _ (by simp)).trans (World.alloc_heap_new w _)
  refine ⟨w.heap.size + 1, [{ target := .collected w.heap.size, args := #[] }], (w.alloc (.deferred (some []))).alloc (.loop (rc .ready none)), { target := .fn (.func gf) lb, args := #[.func (.yield (w.heap.size + 1)) #[] #[]] }, (w.alloc (.deferred (some []))).alloc (.loop (rc .ready none)), gf,
    #[.func (.yield (w.heap.size + 1)) #[] #[]] ++ lb, (w.alloc (.deferred (some []))).alloc (.loop (rc .ready none)), ?_, ?_, ?_, ?_, fun _ => h1, ?_⟩
  · rw [hrc]
    exact run_enterLoop_outer _ _ _ _ _
  · simp only [resolve, hg]
    simp [go_sem]
  · intro f' hf'
    simp [Target.leads] at hf'
    subst hf'
    exact hFg
  · simp [invoke, go_sem, eg]
  · refine (hseq (rc .ready none) _ _ rfl rfl ?_ ⟨h0 _, hA, hB⟩).mono ?_
    · rintro pre x W ⟨hi, hl, hd⟩ hadm
      have hlt := (Array.getElem?_eq_some_iff.1 hl).1
      have hy := run_yield (P := P) (args := vals x) hl (by rw [hrc]; exact hps x)
      rw [hrc] at hy
      refine ⟨fn, _, assign, body, hy, roundIn_of_wpIn hfn (hassign _ x W _ ?_)⟩
      refine ⟨_, run_beginRound hl (by rw [hrc]), ?_⟩
      have hl2 : (W.putObj (w.heap.size + 1) (.loop { rc .ready none with state := .busy })).heap[w.heap.size + 1]? = some (.loop { rc .ready none with state := .busy }) := World.putObj_heap_same hlt
      have hd2 : (W.putObj (w.heap.size + 1) (.loop { rc .ready none with state := .busy })).heap[w.heap.size]? = some (.deferred (some [])) := (World.putObj_heap_other (by omega)).trans hd
      have hk2 : Kp W (W.putObj (w.heap.size + 1) (.loop { rc .ready none with state := .busy })) := hKb _ _ hlt
      refine wpIn_mono (hbody pre x _ ⟨_, hl2⟩ (hIp _ _ _ hlt hi) (hAp _ _ _ _ hadm)) ?_
      have fin : ∀ (jump : Option Code) (W3 : World), Kept2 w.heap.size (W.putObj (w.heap.size + 1) (.loop { rc .ready none with state := .busy })) W3 →
          (Instr.endRound (w.heap.size + 1) jump).run P W3 = .ok (.bool jump.isNone) (W3.putObj (w.heap.size + 1) (.loop (rc (if jump.isNone then .ready else .done) jump))) ∧
          w.heap.size + 1 < W3.heap.size ∧
          (W3.putObj (w.heap.size + 1) (.loop (rc (if jump.isNone then .ready else .done) jump))).heap[w.heap.size + 1]? = some (.loop (rc (if jump.isNone then .ready else .done) jump)) ∧
          (W3.putObj (w.heap.size + 1) (.loop (rc (if jump.isNone then .ready else .done) jump))).heap[w.heap.size]? = some (.deferred (some [])) := fun jump W3 hk3 => by
        have hl3 := hk3.2.trans hl2
        have := run_endRound (P := P) jump hl3
        rw [hrc] at this ⊢
        exact ⟨this, (Array.getElem?_eq_some_iff.1 hl3).1, World.putObj_heap_same (Array.getElem?_eq_some_iff.1 hl3).1, (World.putObj_heap_other (by omega)).trans (hk3.1.trans hd2)⟩
      rintro e a3 W3 hp
      cases e with
      | normal =>
        obtain ⟨hk3, hkp3, hi3⟩ := hp
        obtain ⟨hr, hl3, hl4, hd4⟩ := fin none W3 hk3
        exact ⟨_, _, hr, .inl ⟨rfl, ⟨hIp _ _ _ hl3 hi3, hl4, hd4⟩, hKt (hKt hk2 hkp3) (hKb _ _ hl3)⟩⟩
      | ret =>
        obtain ⟨hk3, hkp3, hi3⟩ := hp
        obtain ⟨hr, hl3, hl4, hd4⟩ := fin (some .ret) W3 hk3
        refine ⟨_, _, hr, .inr ⟨rfl, ⟨.ret, hIxp _ _ _ _ hl3 hi3, ?_, hd4⟩, hKt (hKt hk2 hkp3) (hKb _ _ hl3)⟩⟩
        rw [hl4, hrc]
        rfl
      | exit id =>
        obtain ⟨hk3, hkp3, hi3⟩ := hp
        obtain ⟨hr, hl3, hl4, hd4⟩ := fin (some (.exit id)) W3 hk3
        refine ⟨_, _, hr, .inr ⟨rfl, ⟨.exit id, hIxp _ _ _ _ hl3 hi3, ?_, hd4⟩, hKt (hKt hk2 hkp3) (hKb _ _ hl3)⟩⟩
        rw [hl4, hrc]
        rfl
      | goto t => exact hp.elim
      | panic ch => exact hp.elim
      | outgrown => exact hp.elim
    · rintro e W2 ⟨⟨v, rfl⟩, (⟨xs, hS, hi, hl, hd⟩ | ⟨pre, hSp, c, hi, hl, hd⟩)⟩
      · have hlt := (Array.getElem?_eq_some_iff.1 hl).1
        have hend := run_endLoop (P := P) hl (by rw [hrc]; simp)
        rw [hrc] at hend
        exact ⟨none, _, hend, hdone xs _ hS (hIp _ _ _ hlt hi) (by simp [World.putObj]; omega) ((World.putObj_heap_other (by omega)).trans hd)⟩
      · have hlt := (Array.getElem?_eq_some_iff.1 hl).1
        have hend := run_endLoop (P := P) hl (by simp)
        exact ⟨some c, _, hend, hstop c pre _ hSp (hIxp _ _ _ _ hlt hi) (by simp [World.putObj]; omega) ((World.putObj_heap_other (by omega)).trans hd)⟩
end
end Go.Nau
namespace Go.Proofs.Ytjmfeoenbncibaa
open Go.RowKit Go.Nau Go.Shelf
attribute [local go_sem] Oper.semAt_some

theorem records_any (g : Nat) (w : World) : Calls Try.prog 45 #[.pointer (some ⟨g, 0, none⟩)] w fun e w' => e = .returned (.func (.func 73) #[] #[.pointer (some ⟨w.heap.size, 0, none⟩)]) ∧ w' = w.alloc (.cells #[.pointer (some ⟨g, 0, none⟩)] 28) := by
  go_enter Try.func45, Try.ntmps45
  go_wp2
  go_ret
  exact ⟨rfl, rfl⟩

def sqAt (W : World) (g : Nat) : Nat := match W.cell? ⟨g, 2, none⟩ with
  | some (.int .u64 x) => x.toNat
  | _ => 0
theorem sqAt_lg {W : World} {g d : Nat} {l : LS} (h : Lg W g d l) : sqAt W g = l.seq := by
  unfold sqAt
  rw [blk_cell h 2]
  rfl

def RgRel (now : List ByteArray) (l : LS) (N g bl d : Nat) (w : World) (J : List FV → World → Prop) (W : World) : Prop :=
  ∃ pre : List FV, pre.length ≤ N ∧ J pre W ∧ Lg W g d (stL now l pre.length) ∧ W.heap[bl]? = some (.cells #[.pointer (some ⟨g, 0, none⟩)] 28 (0, 0)) ∧ Fr (fun k => g ≤ k) w W

set_option maxHeartbeats 4000000 in
set_option maxRecDepth 100000 in
theorem records_in (n : Nat) (hn : 1 ≤ n) (ll g bl d : Nat) (now : List ByteArray) (l : LS) (N : Nat) (w : World) (hN : ScanN now l N) (hlo : LOk now.length l) (hgb : g < bl) (hbl : w.heap[bl]? = some (.cells #[.pointer (some ⟨g, 0, none⟩)] 28 (0, 0))) (hg : Lg w g d l)
    (hT : ∀ W st, Fr (fun k => g ≤ k) w W → LOk now.length st → Lg W g d st → Calls Try.prog 74 #[.pointer (some ⟨g, 0, none⟩)] W (ThPost W now st))
    (J Jx : List FV → World → Prop) (hJ : ∀ pre A A', J pre A → Fr (fun k => k = g ∧ pre.length < N) A A' → J pre A')
    (hY : ∀ pre x A W, J pre A → Fr (fun k => k = g) A W → J pre W → pre.length < N → x.f = fndAt now (stL now l pre.length) → Lg W g d (stL now l (pre.length + 1)) → FIn (fun k => A.heap.size ≤ k ∧ k < W.heap.size) W x →
      YieldAt Fence.wide (n - 1) Try.prog ll #[.agg (fndV x.f x.A x.c x.B x.c2)] W fun e W' => e = .returned (.bool true) ∧ J (pre ++ [x]) W' ∧ Fr (fun k => g < k ∧ k ≠ bl) W W')
    (h0 : J [] w) :
    CallsIn Fence.wide n Try.prog 73 #[.func (.yield ll) #[] #[], .pointer (some ⟨bl, 0, none⟩)] w fun e W' =>
      (∃ v, e = .returned v) ∧ (∃ ys : List FV, ys.length = N ∧ J ys W' ∧ Lg W' g d (stL now l N) ∧ Fr (fun k => g ≤ k) w W') := by
  have HN := Lib.hid hN
  have HLO := Lib.hid hlo
  have HG := Lib.hid hg
  have HT := Lib.hid hT
  have HJ := Lib.hid hJ
  have HY := Lib.hid hY
  have H0 := Lib.hid h0
  have HBL := Lib.hid hbl
  clear hN hlo hg hT hJ hY h0 hbl
  refine callsIn_of_wp Try.func73 rfl trivial ?_ rfl
  simp only [Try.ntmps73, List.size_toArray, List.length_cons, List.length_nil, Nat.reduceAdd, Nat.reduceSub, Array.replicate_succ, Array.replicate_zero, List.push_toArray, List.append_toArray, List.nil_append, List.cons_append]
  refine wpIn_wide.2 ?_
  go_wp2
  go_step3
  go_wp2
  go_step3
  go_wp2
  refine (wpIn_wide (n := n)).1 ?_
  gi_wp2
  gi_loopw [3] (fun _ wr => RgRel now l N g bl d w J wr) (fun _ wr => l.seq + N - sqAt wr g)
  case atStart => exact ⟨[], Nat.zero_le _, H0.out, HG.out, HBL.out, Fr.refl _ _⟩
  case round =>
    obtain ⟨pre, hq, hJp, hlg, hbx, hfr⟩ := hrel
    have b0 := blk_cell hbx 0
    simp at b0
    have hst := HLO.out.stL HN.out.1 pre.length hq
    have hth := HT.out wr _ hfr hst hlg
    have hsq := sqAt_lg hlg
    rw [stL_seq] at hsq
    have HSQ := Lib.hid hsq
    have HST := Lib.hid hst
    have HTH := Lib.hid hth
    have HJP := Lib.hid hJp
    have HLG := Lib.hid hlg
    have HBX := Lib.hid hbx
    have HFR := Lib.hid hfr
    have hbl := (Array.getElem?_eq_some_iff.1 hbx).1
    clear hsq hst hth hJp hlg hbx hfr
    by_cases hlt : pre.length < N
    · have ht := HN.out.1 pre.length hlt
      obtain ⟨hs1, hs2, hs3, hs4, hs5⟩ := headT_iff.1 (thereT_head ht)
      have hth2 : Calls Try.prog 74 #[.pointer (some ⟨g, 0, none⟩)] wr fun e W' => ∃ x : FV, x.f = fndAt now (stL now l pre.length) ∧ e = .returned (.tuple #[.agg (fndV x.f x.A x.c x.B x.c2), .bool true]) ∧ FIn (fun k => wr.heap.size ≤ k ∧ k < W'.heap.size) W' x ∧ Below wr.heap.size wr W' :=
        HTH.out.mono fun e W' ⟨hb, hh⟩ => by
          rcases hh with ⟨_, A, c, B, c2, he, k1, k2, k3, k4⟩ | ⟨hf, _⟩
          · exact ⟨⟨_, A, c, B, c2⟩, rfl, he, ⟨k1, k2, k3, k4⟩, hb⟩
          · rw [ht] at hf; cases hf
      have HTH2 := Lib.hid hth2
      have HT2 := Lib.hid ht
      have HS1 := Lib.hid hs1
      have HS4 := Lib.hid hs4
      have HS5 := Lib.hid hs5
      clear ht hs1 hs2 hs3 hs4 hs5 hth2
      gi_wp2_with fail
      refine ⟨trivial, (callsIn_wide.2 HTH2.out).mono ?_⟩
      rintro e w1 ⟨x, hxf, rfl, hxi, hb⟩
      have HXF := Lib.hid hxf
      have HXI := Lib.hid hxi
      have hbs := hb.size
      have hbx1 := (hb.block _ hbl).trans HBX.out
      have bb := blk_cell hbx1 0
      simp at bb
      have hlg1 : Lg w1 g d (stL now l pre.length) := (hb.block _ (by omega)).trans HLG.out
      have hbl1 : bl < w1.heap.size := by omega
      have hfr1 : Fr (fun _ => False) wr w1 := Fr.new hb _
      have HFR1 := Lib.hid hfr1
      have HLG1 := Lib.hid hlg1
      have HBX1 := Lib.hid hbx1
      clear hxf hxi hbx1 hlg1 hb b0 hfr1
      unfold fndV fndC
      gi_wp2_with fail
      have hX2 : (w1.alloc (.cells (fndV x.f x.A x.c x.B x.c2) 81)).heap[w1.heap.size]? = some (.cells (fndV x.f x.A x.c x.B x.c2) 81 (0, 0)) := heap_alloc_new w1 _
      have hxr : x.f.r = recAt now (stL now l pre.length).pos := by rw [HXF.out]; rfl
      have hgo := goes_any (w := w1.alloc (.cells (fndV x.f x.A x.c x.B x.c2) 81)) (old_alloc HLG1.out _) x.f.r x.A x.c (by have := HST.out.hi; have := HST.out.n256; omega) (Nat.le_of_lt HS1.out) (by rw [hxr]; have := HS4.out; omega) (by
        have h5 := segB_iff.1 HS5.out
        have := HST.out.n256
        rw [hxr]
        omega)
      have HGO := Lib.hid hgo
      have HX2 := Lib.hid hX2
      have HXR := Lib.hid hxr
      clear hgo hX2 hxr
      refine ⟨trivial, (callsIn_wide.2 HGO.out).mono ?_⟩
      rintro e w3 ⟨rfl, hl3, hf3⟩
      have hl3' : Lg w3 g d (stL now l (pre.length + 1)) := by
        show Lg w3 g d (goN _ _ _)
        rw [HXR.out] at hl3
        exact hl3
      have hX3 := hf3.get (by omega) HX2.out
      have hf03 : Fr (· = g) wr w3 := (((HFR1.out.mono (fun _ h => h.elim)).alloc _)).trans hf3
      have hxi3 := ((HXI.out.kept ((Fr.refl (fun _ => False) w1).alloc (.cells (fndV x.f x.A x.c x.B x.c2) 81)) (fun _ _ => id)).kept hf3 (fun k hk e => by omega)).mono (T' := fun k => wr.heap.size ≤ k ∧ k < w3.heap.size) (fun k hk => ⟨hk.1, by have := hf3.size; simp at this; omega⟩)
      have hj3 := HJ.out pre wr w3 HJP.out (hf03.mono (fun k e => ⟨e, hlt⟩))
      obtain ⟨fn, tmps, assign, body, hy, hRR⟩ := HY.out pre x wr w3 HJP.out hf03 hj3 hlt HXF.out hl3' hxi3
      unfold fndV fndC at hX3
      have y0 := blk_cell hX3 0
      have y1 := blk_cell hX3 1
      have y2 := blk_cell hX3 2
      have y3 := blk_cell hX3 3
      have y4 := blk_cell hX3 4
      have y5 := blk_cell hX3 5
      have y6 := blk_cell hX3 6
      have y7 := blk_cell hX3 7
      simp at y0 y1 y2 y3 y4 y5 y6 y7
      unfold fndV fndC at hy
      have HRR := Lib.hid hRR
      have HF03 := Lib.hid hf03
      have HL3 := Lib.hid hl3'
      clear hl3 hl3' hf3 hX3 hf03 hxi3 hj3 hRR bb
      gi_wp2_with fail
      refine HRR.out.mono ?_
      rintro e w5 ⟨rfl, hj5, hf5⟩
      have hl5 : Lg w5 g d (stL now l (pre.length + 1)) := hf5.get (by omega) HL3.out
      have hm5 := sqAt_lg hl5
      rw [stL_seq] at hm5
      have hrel5 : RgRel now l N g bl d w J w5 := ⟨pre ++ [x], by simp; omega, hj5, by rw [List.length_append]; exact hl5, hf5.get (by omega) (HF03.out.get (by omega) HBX.out), (HFR.out.trans (HF03.out.mono (fun k e => by omega))).trans (hf5.mono (fun k e => by omega))⟩
      have HR5 := Lib.hid hrel5
      have HM5 := Lib.hid hm5
      clear hj5 hf5 hl5 hm5 hrel5 y0 y1 y2 y3 y4 y5 y6 y7
      gi_wp2_with fail
      go_roundw
      case rel => exact HR5.out
      case measure =>
        rw [HM5.out, HSQ.out]
        omega
    · have hpl : pre.length = N := by omega
      have hth2 : Calls Try.prog 74 #[.pointer (some ⟨g, 0, none⟩)] wr fun e W' => e = .returned (.tuple #[.agg zeroF, .bool false]) ∧ Below wr.heap.size wr W' :=
        HTH.out.mono fun e W' ⟨hb, hh⟩ => by
          rcases hh with ⟨hf, _⟩ | ⟨_, he⟩
          · rw [hpl, HN.out.2] at hf; cases hf
          · exact ⟨he, hb⟩
      have HTH2 := Lib.hid hth2
      have HPL := Lib.hid hpl
      clear hth2 hpl
      gi_wp2_with fail
      refine ⟨trivial, (callsIn_wide.2 HTH2.out).mono ?_⟩
      rintro e w1 ⟨rfl, hb⟩
      have hfr1 : Fr (fun _ => False) wr w1 := Fr.new hb _
      have HFR1 := Lib.hid hfr1
      clear hb hfr1 b0
      unfold zeroF
      have hj1 := fun o => HJ.out pre wr (w1.alloc o) HJP.out ((HFR1.out.mono (fun _ h => h.elim)).alloc _)
      have hl1 := fun o => old_alloc (HFR1.out.get id HLG.out) o
      have hr1 := fun o => HFR.out.trans ((HFR1.out.alloc o).mono (fun _ h => h.elim))
      rw [HPL.out] at hl1
      have HJ1 := Lib.hid hj1
      have HL1 := Lib.hid hl1
      have HR1 := Lib.hid hr1
      clear hj1 hl1 hr1
      gi_wp2_with fail
      rw [Exit.noGoto_normal]
      go_end0
      exact ⟨⟨_, rfl⟩, pre, HPL.out, HJ1.out _, HL1.out _, HR1.out _⟩
end Go.Proofs.Ytjmfeoenbncibaa
namespace Go.Nau
open Go.RowKit
section
variable {F : Fence} {n : Nat} {P : Program}

theorem rangeFunc_exitA {α : Type} {g : Operand} {ps : Array Tmp} {assign body : Code} {Q : Exit → Act → World → Prop} {a : Act} {w : World}
    (hro : F.round = none) (h1 : 1 ≤ n) {gf : Nat} {lb : Array Value} (hg : a.eval g = .func (.func gf) #[] lb) (hFg : F.fn gf) (eg : ∀ args w, (callFunc gf args).run P w = .ok (.enter gf args) w)
    (vals : α → Array Value) (hps : ∀ x, (vals x).size = ps.size) (Kp : World → World → Prop) (S Sp : List α → Prop) (Adm : List α → α → World → Prop)
    (hKt : ∀ {A B C : World}, Kp A B → Kp B C → Kp A C) (hKb : ∀ (W : World) (o : Obj), w.heap.size + 1 < W.heap.size → Kp W (W.putObj (w.heap.size + 1) o))
    (I : List α → World → Prop) (Ix : Code → List α → World → Prop)
    (hIp : ∀ pre W o, w.heap.size + 1 < W.heap.size → I pre W → I pre (W.putObj (w.heap.size + 1) o))
    (hIxp : ∀ c pre W o, w.heap.size + 1 < W.heap.size → Ix c pre W → Ix c pre (W.putObj (w.heap.size + 1) o))
    (hAp : ∀ pre x W o, w.heap.size + 1 < W.heap.size → Adm pre x W → Adm pre x (W.putObj (w.heap.size + 1) o))
    (h0 : ∀ r, I [] ((w.alloc (.deferred (some []))).alloc (.loop r))) (A₁ : α → Act → World → Prop) (hA1 : ∀ x a W o, w.heap.size + 1 < W.heap.size → A₁ x a W → A₁ x a (W.putObj (w.heap.size + 1) o))
    (hseq : ∀ (r : Loop) (J Jx : List α → World → Prop), J = (fun pre W => I pre W ∧ Book w.heap.size r W) → Jx = (fun pre W => ∃ c, Ix c pre W ∧ BookX w.heap.size r c W) →
      (∀ pre x W1, J pre W1 → Adm pre x W1 → YieldAt F (n - 1 - 1) P (w.heap.size + 1) (vals x) W1 fun e W' => (e = .returned (.bool true) ∧ J (pre ++ [x]) W' ∧ Kp W1 W') ∨ (e = .returned (.bool false) ∧ Jx (pre ++ [x]) W' ∧ Kp W1 W')) →
      J [] ((w.alloc (.deferred (some []))).alloc (.loop r)) →
      CallsIn F (n - 1) P gf (#[.func (.yield (w.heap.size + 1)) #[] #[]] ++ lb) ((w.alloc (.deferred (some []))).alloc (.loop r)) fun e W' => (∃ v, e = .returned v) ∧ ((∃ ys, S ys ∧ J ys W') ∨ (∃ pre, Sp pre ∧ Jx pre W')))
    (hassign : ∀ (pre : List α) (x : α) (W : World) (K : Act → World → Prop), (∃ r, W.heap[w.heap.size + 1]? = some (.loop r)) → I pre W → Adm pre x W → (∀ a' W', I pre W' → Adm pre x W' → Kept2 w.heap.size W W' → Kp W W' → A₁ x a' W' → K a' W') →
      assign.wpIn (F.inRound (w.heap.size + 1)) (n - 1 - 1) P (Exit.then K (fun _ _ _ => False)) { tmps := (ps.zip (vals x)).foldl (fun t (p, v) => t.setIfInBounds p v) a.tmps, defers := [] } W)
    (hbody : ∀ (pre : List α) (x : α) (a' : Act) (W : World), (∃ r, W.heap[w.heap.size + 1]? = some (.loop r)) → I pre W → Adm pre x W → A₁ x a' W → body.wpIn (F.inRound (w.heap.size + 1)) (n - 1 - 1) P (exitPost w.heap.size Kp I Ix (pre ++ [x]) W) a' W)
    (hdone : ∀ (xs : List α) (W : World), S xs → I xs W → w.heap.size < W.heap.size → W.heap[w.heap.size]? = some (.deferred (some [])) → Q .normal { a with defers := { target := .collected w.heap.size, args := #[] } :: a.defers } W)
    (hstop : ∀ (c : Code) (pre : List α) (W : World), Sp pre → Ix c pre W → w.heap.size < W.heap.size → W.heap[w.heap.size]? = some (.deferred (some [])) → c.wpIn F n P Q { a with defers := { target := .collected w.heap.size, args := #[] } :: a.defers } W) :
    (Code.rangeFunc g ps assign body).wpIn F n P Q a w := by
  refine wpIn_rangeFunc fun fn hfn => ?_
  rw [hro]
  obtain ⟨rc, hrc⟩ : ∃ rc : LoopState → Option Code → Loop, rc = fun st pe => { state := st, pending := pe, fn, tmps := a.tmps, params := ps, assign, body, defers := w.heap.size } := ⟨_, rfl⟩
  have hA : ((w.alloc (.deferred (some []))).alloc (.loop (rc .ready none))).heap[w.heap.size + 1]? = some (.loop (rc .ready none)) := by
    have := World.alloc_heap_new (w.alloc (.deferred (some []))) (.loop (rc .ready none))
    rwa [World.size_alloc] at this
  have hB : ((w.alloc (.deferred (some []))).alloc (.loop (rc .ready none))).heap[w.heap.size]? = some (.deferred (some [])) :=
    (Below.heap_alloc _ _ _ (by simp)).trans (World.alloc_heap_new w _)
  refine ⟨w.heap.size + 1, [{ target := .collected w.heap.size, args := #[] }], (w.alloc (.deferred (some []))).alloc (.loop (rc .ready none)), { target := .fn (.func gf) lb, args := #[.func (.yield (w.heap.size + 1)) #[] #[]] }, (w.alloc (.deferred (some []))).alloc (.loop (rc .ready none)), gf,
    #[.func (.yield (w.heap.size + 1)) #[] #[]] ++ lb, (w.alloc (.deferred (some []))).alloc (.loop (rc .ready none)), ?_, ?_, ?_, ?_, fun _ => h1, ?_⟩
  · rw [hrc]
    exact run_enterLoop_outer _ _ _ _ _
  · simp only [resolve, hg]
    simp [go_sem]
  · intro f' hf'
    simp [Target.leads] at hf'
    subst hf'
    exact hFg
  · simp [invoke, go_sem, eg]
  · refine (hseq (rc .ready none) _ _ rfl rfl ?_ ⟨h0 _, hA, hB⟩).mono ?_
    · rintro pre x W ⟨hi, hl, hd⟩ hadm
      have hlt := (Array.getElem?_eq_some_iff.1 hl).1
      have hy := run_yield (P := P) (args := vals x) hl (by rw [hrc]; exact hps x)
      rw [hrc] at hy
      refine ⟨fn, _, assign, body, hy, roundIn_of_wpIn hfn (hassign pre x W _ ⟨_, hl⟩ hi hadm ?_)⟩
      intro a' W' hi' hadm' hkk hkp' hA'
      have hl' := hkk.2.trans hl
      have hd' := hkk.1.trans hd
      have hlt' := (Array.getElem?_eq_some_iff.1 hl').1
      refine ⟨_, run_beginRound hl' (by rw [hrc]), ?_⟩
      have hl2 : (W'.putObj (w.heap.size + 1) (.loop { rc .ready none with state := .busy })).heap[w.heap.size + 1]? = some (.loop { rc .ready none with state := .busy }) := World.putObj_heap_same hlt'
      have hd2 : (W'.putObj (w.heap.size + 1) (.loop { rc .ready none with state := .busy })).heap[w.heap.size]? = some (.deferred (some [])) := (World.putObj_heap_other (by omega)).trans hd'
      have hk2 : Kp W (W'.putObj (w.heap.size + 1) (.loop { rc .ready none with state := .busy })) := hKt hkp' (hKb _ _ hlt')
      refine wpIn_mono (hbody pre x a' _ ⟨_, hl2⟩ (hIp _ _ _ hlt' hi') (hAp _ _ _ _ hlt' hadm') (hA1 _ _ _ _ hlt' hA')) ?_
      have fin : ∀ (jump : Option Code) (W3 : World), Kept2 w.heap.size (W'.putObj (w.heap.size + 1) (.loop { rc .ready none with state := .busy })) W3 →
          (Instr.endRound (w.heap.size + 1) jump).run P W3 = .ok (.bool jump.isNone) (W3.putObj (w.heap.size + 1) (.loop (rc (if jump.isNone then .ready else .done) jump))) ∧
          w.heap.size + 1 < W3.heap.size ∧
          (W3.putObj (w.heap.size + 1) (.loop (rc (if jump.isNone then .ready else .done) jump))).heap[w.heap.size + 1]? = some (.loop (rc (if jump.isNone then .ready else .done) jump)) ∧
          (W3.putObj (w.heap.size + 1) (.loop (rc (if jump.isNone then .ready else .done) jump))).heap[w.heap.size]? = some (.deferred (some [])) := fun jump W3 hk3 => by
        have hl3 := hk3.2.trans hl2
        have := run_endRound (P := P) jump hl3
        rw [hrc] at this ⊢
        exact ⟨this, (Array.getElem?_eq_some_iff.1 hl3).1, World.putObj_heap_same (Array.getElem?_eq_some_iff.1 hl3).1, (World.putObj_heap_other (by omega)).trans (hk3.1.trans hd2)⟩
      rintro e a3 W3 hp
      cases e with
      | normal =>
        obtain ⟨hk3, hkp3, hi3⟩ := hp
        obtain ⟨hr, hl3, hl4, hd4⟩ := fin none W3 hk3
        exact ⟨_, _, hr, .inl ⟨rfl, ⟨hIp _ _ _ hl3 hi3, hl4, hd4⟩, hKt (hKt hk2 hkp3) (hKb _ _ hl3)⟩⟩
      | ret =>
        obtain ⟨hk3, hkp3, hi3⟩ := hp
        obtain ⟨hr, hl3, hl4, hd4⟩ := fin (some .ret) W3 hk3
        refine ⟨_, _, hr, .inr ⟨rfl, ⟨.ret, hIxp _ _ _ _ hl3 hi3, ?_, hd4⟩, hKt (hKt hk2 hkp3) (hKb _ _ hl3)⟩⟩
        rw [hl4, hrc]
        rfl
      | exit id =>
        obtain ⟨hk3, hkp3, hi3⟩ := hp
        obtain ⟨hr, hl3, hl4, hd4⟩ := fin (some (.exit id)) W3 hk3
        refine ⟨_, _, hr, .inr ⟨rfl, ⟨.exit id, hIxp _ _ _ _ hl3 hi3, ?_, hd4⟩, hKt (hKt hk2 hkp3) (hKb _ _ hl3)⟩⟩
        rw [hl4, hrc]
        rfl
      | goto t => exact hp.elim
      | panic ch => exact hp.elim
      | outgrown => exact hp.elim
    · rintro e W2 ⟨⟨v, rfl⟩, (⟨xs, hS, hi, hl, hd⟩ | ⟨pre, hSp, c, hi, hl, hd⟩)⟩
      · have hlt := (Array.getElem?_eq_some_iff.1 hl).1
        have hend := run_endLoop (P := P) hl (by rw [hrc]; simp)
        rw [hrc] at hend
        exact ⟨none, _, hend, hdone xs _ hS (hIp _ _ _ hlt hi) (by simp [World.putObj]; omega) ((World.putObj_heap_other (by omega)).trans hd)⟩
      · have hlt := (Array.getElem?_eq_some_iff.1 hl).1
        have hend := run_endLoop (P := P) hl (by simp)
        exact ⟨some c, _, hend, hstop c pre _ hSp (hIxp _ _ _ _ hlt hi) (by simp [World.putObj]; omega) ((World.putObj_heap_other (by omega)).trans hd)⟩
end
theorem wpListIn_append_rd {F : Fence} {n : Nat} {P : Program} (w : World) {ops : Array Oper} {rest : List Oper} {o : Oper} {a : Act} {Q : Exit → Act → World → Prop} (hgd : o.guard = none) (s x : Operand) (t : TypeId)
    (ho : o.op = .call { callee := .builtin .append, args := #[s, x], argTypes := #[t, t] })
    (base : Nat) (e : TypeId) (i : TypeInfo) (z : Value) (size bytes : Nat) (ht : P.underlying t = some (.slice e)) (hi : P.info? e = some i) (hz : i.zero = some z)
    (hsize : i.size = size) (hby : i.bytes = bytes) (hzs : z.cells.size = size) (hsz : 0 < size)
    (v : Value) (k : Nat) (xs : List Value) (hs : a.eval s = v) (hown : w.ownsRow base e size v k xs)
    (T : Nat → Prop) (A : Option Addr) (m c : Nat) (news : List Value) (hx : a.eval x = .slice A m c) (hr : Rd T w size A m news) (h1 : ∀ u ∈ news, u.oneCell' = true)
    (h63 : k + m ≤ maxLen) (hbytes : (k + m) * bytes ≤ 140737488355328) (hbase : base ≤ w.heap.size)
    (h : ∀ v' w', w'.ownsRow base e size v' (k + m) (xs ++ news) → w.grownBy w' v.ownBlock → (v'.ownBlock = v.ownBlock ∨ v'.ownBlock = some w.heap.size) → wpListIn F n P ops Q rest (a.put o.dst v') w') : wpListIn F n P ops Q (o :: rest) a w := by
  refine wpListIn_plain hgd fun K hK' => ?_
  obtain ⟨v', w', hrun, r1, r2, r3⟩ := run_append_rd (P := P) w base t o.type e i z size bytes ht hi hz hsize hby hzs hsz v k xs hown T A m c news hr h1 h63 hbytes hbase
  unfold Oper.wpIn
  refine ⟨?_, ?_⟩
  · simp [Oper.about, ho, resolve, Target.leads, Sem.run_pure]
  · rw [Oper.semAt_plain F _ _ (by rw [ho]; intro c hc'; cases hc')]
    simp [execOp, ho, resolve, invoke, builtin, hs, hx, hrun, Result.andThen]
    exact hK' _ _ (h v' w' r1 r2 r3)
end Go.Nau

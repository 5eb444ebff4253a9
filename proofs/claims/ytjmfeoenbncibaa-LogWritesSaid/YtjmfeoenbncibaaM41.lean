/- Texts of this proof, joined: Mp. They hold under no condition beyond what each theorem states. -/
import Derived.Test.YtjmfeoenbncibaaM35
import Derived.Test.YtjmfeoenbncibaaM40
namespace Go.Proofs.Ytjmfeoenbncibaa
open Go.RowKit Go.Nau Go.Shelf
attribute [local go_sem] Oper.semAt_some

structure WrH (w : World) (p sq nx : Int) (A : Option Addr) (n : Nat) (I : Nat → Nat → Nat → Nat → Nat → World → Prop) : Prop where
  new : ∀ W, Below w.heap.size w W → Calls Try.prog 10 #[.int .i64 128] W fun e w2 => ∃ d, e = .returned (.tuple #[ptrV d, .int .i64 0]) ∧ Calls Try.prog 28 #[.int .i64 128] w2 fun e w3 => ∃ r, e = .returned (.tuple #[ptrV r, .int .i64 0]) ∧
    Calls Try.prog 11 #[ptrV d, .int .i64 p, .int .u64 sq, .int .i64 nx] w3 fun e w4 =>
      (e = .returned (.tuple #[.pointer none, .int .i64 151]) ∧ Calls Try.prog 29 #[ptrV r, .int .i64 p, .int .u64 sq, .int .i64 nx] w4 fun e w5 => e = .returned (.tuple #[.pointer none, .int .i64 151]) ∧ Below w.heap.size w w5) ∨
      (∃ gl, e = .returned (.tuple #[ptrV gl, .int .i64 0]) ∧ Calls Try.prog 29 #[ptrV r, .int .i64 p, .int .u64 sq, .int .i64 nx] w4 fun e w5 => ∃ gr, e = .returned (.tuple #[ptrV gr, .int .i64 0]) ∧ I gl gr d r 0 w5)
  below : ∀ gl gr d r q W, I gl gr d r q W → Below w.heap.size w W
  op : ∀ gl gr d r q W, q < 40 → q < n → I gl gr d r q W → ∃ (ad : Addr) (kind N cp : Int) (A1 : Option Addr) (n1 c1 : Nat) (en sy : Bool), A = some ad ∧ W.cell? (ad.add (q * 6)) = some (.int .i64 kind) ∧ W.cell? ⟨(ad.add (q * 6)).block, (ad.add (q * 6)).off + 1, none⟩ = some (.int .i64 N) ∧ W.cell? ⟨(ad.add (q * 6)).block, (ad.add (q * 6)).off + 2, none⟩ = some (.int .u64 cp) ∧
    W.cell? ⟨(ad.add (q * 6)).block, (ad.add (q * 6)).off + 3, none⟩ = some (.slice A1 n1 c1) ∧ W.cell? ⟨(ad.add (q * 6)).block, (ad.add (q * 6)).off + 4, none⟩ = some (.bool en) ∧ W.cell? ⟨(ad.add (q * 6)).block, (ad.add (q * 6)).off + 5, none⟩ = some (.bool sy) ∧
    Calls Try.prog 30 #[ptrV gl, ptrV gr, ptrV d, .agg #[.int .i64 kind, .int .i64 N, .int .u64 cp, .slice A1 n1 c1, .bool en, .bool sy]] W fun e w1 => e = .returned (.bool true) ∧ ∃ P S X R : Int,
      w1.cell? ⟨gr, 1, none⟩ = some (.int .i64 P) ∧ w1.cell? ⟨gr, 2, none⟩ = some (.int .u64 S) ∧ w1.cell? ⟨gr, 3, none⟩ = some (.int .i64 X) ∧ ∀ V, Below w1.heap.size w1 V → I gl gr d r (q + 1) V ∧
        (Calls Try.prog 13 #[ptrV gl] V fun e w' => e = .returned (.int .i64 P) ∧ V = w') ∧ (Calls Try.prog 14 #[ptrV gl] V fun e w' => e = .returned (.int .u64 S) ∧ V = w') ∧
        (Calls Try.prog 15 #[ptrV gl] V fun e w' => e = .returned (.int .i64 X) ∧ V = w') ∧ (Calls Try.prog 18 #[ptrV gl] V fun e w' => e = .returned (.int .i64 R) ∧ V = w') ∧
        (Calls Try.prog 31 #[ptrV gr] V fun e w' => e = .returned (.int .i64 R) ∧ V = w')
  end_ : ∀ gl gr d r q W, I gl gr d r q W → ∃ (N : Int) (AL : Option Addr) (nL cL : Nat), W.cell? ⟨r, 2, none⟩ = some (.int .i64 N) ∧ W.cell? ⟨r, 1, none⟩ = some (.slice AL nL cL) ∧ ∀ k, Calls Try.prog 27 #[ptrV d] (W.drewN k) fun e w1 => Below W.heap.size W w1 ∧ ∃ v, e = .returned v ∧
    Calls Try.prog 32 #[ptrV r] w1 fun e w2 => Below W.heap.size W w2 ∧ ∃ v2, e = .returned v2 ∧ Calls Try.prog 26 #[v, v2] w2 fun e w3 => e = .returned (.bool true) ∧ Below W.heap.size W w3 ∧
      (Calls Try.prog 16 #[ptrV d] w3 fun e w' => e = .returned (.int .i64 N) ∧ w3 = w') ∧ (Calls Try.prog 33 #[ptrV d] w3 fun e w' => e = .returned (.int .i64 nL) ∧ w3 = w')

def WrRel (I : Nat → Nat → Nat → Nat → Nat → World → Prop) (gl gr d r M : Nat) (k : Nat) (v18 _ : Value) (wr : World) : Prop :=
  ∃ q : Nat, k = M - q ∧ v18 = .int .i64 q ∧ q ≤ M ∧ I gl gr d r q wr

set_option maxHeartbeats 8000000 in
set_option maxRecDepth 100000 in
theorem writes_core (A : Option Addr) (n c0 M : Nat) (p sq nx : Int) (w : World) (I : Nat → Nat → Nat → Nat → Nat → World → Prop) (hH : WrH w p sq nx A n I) (hn : (n : Int) ≤ 9223372036854775807) (hM : M = min n 40) :
    Calls Try.prog 7 #[.int .i64 p, .int .u64 sq, .int .i64 nx, .slice A n c0] w fun e w' => e = .returned (.bool true) ∧ Below w.heap.size w w' := by
  have hM' : M ≤ n ∧ M ≤ 40 ∧ (n ≤ M ∨ 40 ≤ M) := by omega
  clear hM
  have HH := Lib.hid hH
  have hS := Lib.hid (shown_any w)
  clear hH
  go_enter Try.func7, Try.ntmps7
  go_wp2_with fail
  refine hS.out.mono ?_
  rintro e w1 ⟨rfl, hb1⟩
  have hN := HH.out.new w1 hb1
  have HN := Lib.hid hN
  clear hN hb1
  go_wp2_with fail
  refine HN.out.mono ?_
  rintro e w2 ⟨d, rfl, hN⟩
  clear HN
  have HN := Lib.hid hN
  clear hN
  go_wp2_with fail
  refine HN.out.mono ?_
  rintro e w3 ⟨r, rfl, hN⟩
  clear HN
  have HN := Lib.hid hN
  clear hN
  go_wp2_with fail
  refine HN.out.mono ?_
  rintro e w4 (⟨rfl, hN⟩ | ⟨gl, rfl, hN⟩)
  · clear HN
    have HN := Lib.hid hN
    clear hN
    go_wp2_with fail
    refine HN.out.mono ?_
    rintro e w5 ⟨rfl, hb⟩
    go_wp2_with fail
    go_ret
    exact ⟨rfl, hb⟩
  clear HN
  have HN := Lib.hid hN
  clear hN
  go_wp2_with fail
  refine HN.out.mono ?_
  rintro e w5 ⟨gr, rfl, hI⟩
  clear HN
  have HN := Lib.hid hI
  clear hI
  go_wp2_with fail
  go_loopg [18, 19] M (WrRel I gl gr d r M)
  case atStart => exact ⟨0, rfl, rfl, Nat.zero_le _, HN.out⟩
  case round =>
    obtain ⟨q, rfl, rfl, hq, hI⟩ := hrel
    clear HN
    by_cases hlt : q < M
    · have g1 : (q : Int) < n := by omega
      have g2 : (q : Int) < 40 := by omega
      obtain ⟨ad, kind, N, cp, A1, n1, c1, en, sy, rfl, e0, e1, e2, e3, e4, e5, hdo⟩ := HH.out.op _ _ _ _ _ _ (by omega) (by omega) hI
      have HDO := Lib.hid hdo
      clear hdo hI
      go_wp2_with fail
      refine HDO.out.mono ?_
      rintro e w6 ⟨rfl, P, S, X, R, q1, q2, q3, hall⟩
      have x1 := fun d os => cell_regrown q1 d os
      have x2 := fun d os => cell_regrown q2 d os
      have x3 := fun d os => cell_regrown q3 d os
      have HA := Lib.hid hall
      clear hall q1 q2 q3 e0 e1 e2 e3 e4 e5
      go_wp2_with fail
      have k1 := fun d os => Calls.regrown_of ((HA.out _ (below_regrown w6 d os)).2.1.mono fun e w' (h : _ ∧ _) => (⟨h.1, h.2 ▸ Below.refl _ _⟩ : e = .returned (.int .i64 P) ∧ Below _ _ w'))
      have k2 := fun d os => Calls.regrown_of ((HA.out _ (below_regrown w6 d os)).2.2.1.mono fun e w' (h : _ ∧ _) => (⟨h.1, h.2 ▸ Below.refl _ _⟩ : e = .returned (.int .u64 S) ∧ Below _ _ w'))
      have k3 := fun d os => Calls.regrown_of ((HA.out _ (below_regrown w6 d os)).2.2.2.1.mono fun e w' (h : _ ∧ _) => (⟨h.1, h.2 ▸ Below.refl _ _⟩ : e = .returned (.int .i64 X) ∧ Below _ _ w'))
      have k4 := fun d os => Calls.regrown_of ((HA.out _ (below_regrown w6 d os)).2.2.2.2.1.mono fun e w' (h : _ ∧ _) => (⟨h.1, h.2 ▸ Below.refl _ _⟩ : e = .returned (.int .i64 R) ∧ Below _ _ w'))
      have k5 := fun d os => Calls.regrown_of ((HA.out _ (below_regrown w6 d os)).2.2.2.2.2.mono fun e w' (h : _ ∧ _) => (⟨h.1, h.2 ▸ Below.refl _ _⟩ : e = .returned (.int .i64 R) ∧ Below _ _ w'))
      refine wp_region_quiet_below (by kernel_rfl) (by kernel_rfl) ?_
      repeat (go_big_quiet_step (first | exact k1 _ _ | exact k2 _ _ | exact k3 _ _ | exact k4 _ _ | exact k5 _ _))
      refine wpQuiet_nil ?_
      intro _ hw'
      obtain ⟨⟨dq, osq⟩, hw''⟩ := hw'
      subst hw''
      have hI2 := (HA.out _ (below_regrown w6 dq osq)).1
      have HI2 := Lib.hid hI2
      clear hI2 x1 x2 x3 k1 k2 k3 k4 k5
      go_wp2_with fail
      go_roundg (M - (q + 1))
      case measure => omega
      case rel => exact ⟨q + 1, rfl, by simp, by omega, HI2.out⟩
    · obtain rfl : q = M := by omega
      obtain ⟨N, AL, nL, cL, s2, s1, him⟩ := HH.out.end_ _ _ _ _ _ _ hI
      have hbI := HH.out.below _ _ _ _ _ _ hI
      have HIM := Lib.hid him
      have HBI := Lib.hid hbI
      clear him hbI hI
      have hkeepS : ∀ V, Below wr.heap.size wr V → V.cell? ⟨r, 2, none⟩ = some (.int .i64 N) ∧ V.cell? ⟨r, 1, none⟩ = some (.slice AL nL cL) := fun V hb => ⟨(hb.cell (block_lt_of_cell s2)).trans s2, (hb.cell (block_lt_of_cell s1)).trans s1⟩
      have HKS := Lib.hid hkeepS
      clear hkeepS
      have hgo : ((q : Int) < n ∧ ¬ (q : Int) < 40) ∨ ¬ (q : Int) < n := by omega
      rcases hgo with ⟨g1, g2⟩ | g1
      all_goals
        go_wp2_with fail
        refine wp_stages (fun V => V.cell? ⟨r, 2, none⟩ = some (.int .i64 N) ∧ V.cell? ⟨r, 1, none⟩ = some (.slice AL nL cL)) [([0, 1, 2, 4], [3, 5, 6, 7, 8]), ([9, 11, 12, 13, 14], [10, 15, 16, 17]), ([18, 20, 21, 22, 23, 24], [19, 25, 26, 27])] (by kernel_rfl) (by kernel_rfl) (fun _ _ _ _ e h => ⟨e ▸ h.1, h.2⟩) ⟨s2, s1⟩ ?_
        refine stQ_cons ?_
        iterate 4
          refine heldQ_step rfl (yieldsIf_want (by first | rfl | go_simp) (fun V hV => by obtain ⟨a1, a2⟩ := hV; go_simp; first | done | rfl)) (fun K' hK' => ?_)
          go_simp
          refine hK' _ ?_
          clear hK' K'
        refine heldQ_end ?_
        refine rowS_step rfl (by first | rfl | go_simp) (fun K' hK' => ?_)
        go_simp
        refine (HIM.out 1).mono ?_
        rintro e w6 ⟨hb6, v, rfl, hs⟩
        have HS6 := Lib.hid hs
        refine hK' _ _ (HKS.out _ hb6) ?_
        clear hK' K' hs hb6
        refine rowS_step rfl (by first | rfl | go_simp) (fun K' hK' => ?_)
        go_simp
        refine HS6.out.mono ?_
        rintro e w7 ⟨hb7, v2, rfl, hs⟩
        have HS7 := Lib.hid hs
        refine hK' _ _ (HKS.out _ hb7) ?_
        clear hK' K' hs hb7
        refine rowS_step rfl (by first | rfl | go_simp) (fun K' hK' => ?_)
        go_simp
        refine HS7.out.mono ?_
        rintro e w8 ⟨rfl, hb8, hOp, hLo⟩
        have HOP := Lib.hid hOp
        have HLO := Lib.hid hLo
        have HB8 := Lib.hid hb8
        have k8 := HKS.out _ hb8
        refine hK' _ _ k8 ?_
        clear hK' K' hOp hLo hb8
        iterate 2
          refine rowS_step rfl (by first | rfl | go_simp) (fun K' hK' => ?_)
          go_simp
          refine hK' _ _ k8 ?_
          clear hK' K'
        refine rowS_nil ?_
        refine stQ_cons ?_
        iterate 5
          refine heldQ_step rfl (yieldsIf_want (by first | rfl | go_simp) (fun V hV => by obtain ⟨a1, a2⟩ := hV; go_simp; first | done | rfl)) (fun K' hK' => ?_)
          go_simp
          refine hK' _ ?_
          clear hK' K'
        refine heldQ_end ?_
        refine rowS_step rfl (by first | rfl | go_simp) (fun K' hK' => ?_)
        go_simp
        refine HOP.out.mono ?_
        rintro e w9 ⟨rfl, rfl⟩
        refine hK' _ _ k8 ?_
        clear hK' K'
        iterate 3
          refine rowS_step rfl (by first | rfl | go_simp) (fun K' hK' => ?_)
          go_simp
          refine hK' _ _ k8 ?_
          clear hK' K'
        refine rowS_nil ?_
        refine stQ_cons ?_
        iterate 6
          refine heldQ_step rfl (yieldsIf_want (by first | rfl | go_simp) (fun V hV => by obtain ⟨a1, a2⟩ := hV; go_simp; first | done | rfl)) (fun K' hK' => ?_)
          go_simp
          refine hK' _ ?_
          clear hK' K'
        refine heldQ_end ?_
        refine rowS_step rfl (by first | rfl | go_simp) (fun K' hK' => ?_)
        go_simp
        refine HLO.out.mono ?_
        rintro e w9 ⟨rfl, rfl⟩
        refine hK' _ _ k8 ?_
        clear hK' K'
        iterate 3
          refine rowS_step rfl (by first | rfl | go_simp) (fun K' hK' => ?_)
          go_simp
          refine hK' _ _ k8 ?_
          clear hK' K'
        refine rowS_nil ?_
        refine stQ_nil ?_
        go_wp2_with fail
        go_ret
        exact ⟨rfl, HBI.out.trans (HB8.out.mono HBI.out.size)⟩
end Go.Proofs.Ytjmfeoenbncibaa

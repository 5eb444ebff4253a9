/- The loose writes gone through: the iterator of a disk, and its contract: over the given program. -/
import Derived.Test.YtjpmohennekbaaaDd
import Derived.RangeFuncNested
import Derived.RangeFuncBound
import Derived.RangeFuncCalls
import Derived.RangeFuncLeaves
import Derived.Shelf.Abstract
import Derived.Shelf.RegionOpen
import Derived.OwnWalkIn
import Derived.TacticsInMore
import Derived.LoopNIn
import Derived.LoopIn
namespace Go.Proofs.Ytjpmohennekbaaa
open Go.RowKit Go.Nau Go.Shelf
attribute [local go_sem] Oper.semAt_some

/-- How much of a loose write stays. -/
def stays (i : Nat) (keep torn : Int) : Int := if (i : Int) = torn then 256 else if (bits BinOp.and IntKind.u64 (keep / 2 ^ (i % 64)) 1 == 1) = true then 512 else 0

/-- A write that may be, and what of it stays. -/
abbrev LW (n : Nat) : Type := { x : (Nat × ByteArray) × Int // x.1.1 < n ∧ x.1.2.size = 512 ∧ (x.2 = 0 ∨ x.2 = 256 ∨ x.2 = 512) }

theorem left_in (F : Fence) (n : Nat) (hF : F.fn 62) (hro : F.round = none) (d : Nat) (keep torn : Int) (w : World) :
    CallsIn F n Try.prog 62 #[.pointer (some ⟨d, 0, none⟩), .agg #[.int .u64 keep, .int .i64 torn]] w fun e w' =>
      e = .returned (.func (.func 84) #[] #[.pointer (some ⟨w.heap.size, 0, none⟩), .pointer (some ⟨w.heap.size + 1, 0, none⟩)]) ∧
      w' = (w.alloc (.cells #[.pointer (some ⟨d, 0, none⟩)] 24)).alloc (.cells #[.int .u64 keep, .int .i64 torn] 37) := by
  refine callsIn_of_wp Try.func62 rfl hF ?_ hro
  simp only [Try.ntmps62, List.size_toArray, List.length_cons, List.length_nil, Nat.reduceAdd, Nat.reduceSub, Array.replicate_succ, Array.replicate_zero, List.push_toArray, List.append_toArray, List.nil_append, List.cons_append]
  gi_wp2
  go_ret
  exact ⟨rfl, rfl⟩

def told (m : Nat) (loose : List (LW m)) : List (Nat × ByteArray) := loose.map fun x => x.1.1

/-- The shape that the iterator's body reads: the pointer's box, the disk's loose writes, the fate's box. -/
structure Reads (W : World) (b1 b2 d : Nat) (L : Value) (xs : List (Nat × ByteArray)) (keep torn : Int) : Prop where
  box1 : W.cell? ⟨b1, 0, none⟩ = some (.pointer (some ⟨d, 0, none⟩))
  keep : W.cell? ⟨b2, 0, none⟩ = some (.int .u64 keep)
  torn : W.cell? ⟨b2, 1, none⟩ = some (.int .i64 torn)
  loose : W.cell? ⟨d, 2, none⟩ = some L
  own : W.ownsRow 0 88 2 L xs.length (wcells xs)

theorem wcells_get (l : List (Nat × ByteArray)) (i : Nat) (x : Nat × ByteArray) (h : l[i]? = some x) : (wcells l)[i * 2]? = some (.int .i64 x.1) ∧ (wcells l)[i * 2 + 1]? = some (.string x.2) := by
  induction l generalizing i with
  | nil => simp at h
  | cons y l ih =>
    cases i with
    | zero =>
      simp at h
      subst h
      simp [wcells]
    | succ i =>
      simp only [List.getElem?_cons_succ] at h
      obtain ⟨h1, h2⟩ := ih i h
      have e1 : (i + 1) * 2 = i * 2 + 1 + 1 := by omega
      simp only [wcells, List.flatMap_cons, List.cons_append, List.nil_append] at h1 h2 ⊢
      rw [e1]
      simp only [List.getElem?_cons_succ]
      exact ⟨h1, h2⟩

set_option maxRecDepth 100000 in
set_option maxHeartbeats 2000000 in
theorem left1_in (F : Fence) (n : Nat) (hF : F.fn 84) (hro : F.round = none) (hn : 1 ≤ n) (l b1 b2 d m : Nat) (L : Value) (zs : List (LW m)) (keep torn : Int) (hz : zs.length ≤ 1073741824)
    (hst : ∀ (k : Nat) (z : LW m), zs[k]? = some z → z.1.2 = stays k keep torn) (Kp : World → World → Prop) (hKp : ∀ A B, Kp A B → Reads A b1 b2 d L (told m zs) keep torn → Reads B b1 b2 d L (told m zs) keep torn)
    (J Jx : List (LW m) → World → Prop) (hJa : ∀ pre A o, J pre A → J pre (A.alloc o))
    (hY : ∀ pre x W, J pre W → pre.length < zs.length → YieldAt F (n - 1) Try.prog l #[.agg #[.int .i64 (x.1.1.1 : Int), .string x.1.1.2], .int .i64 x.1.2] W fun e W' =>
      (e = .returned (.bool true) ∧ J (pre ++ [x]) W' ∧ Kp W W') ∨ (e = .returned (.bool false) ∧ Jx (pre ++ [x]) W'))
    (W : World) (hR : Reads W b1 b2 d L (told m zs) keep torn) (h0 : J [] W) :
    CallsIn F n Try.prog 84 #[.func (.yield l) #[] #[], .pointer (some ⟨b1, 0, none⟩), .pointer (some ⟨b2, 0, none⟩)] W fun e W' => (∃ v, e = .returned v) ∧
      ((∃ ys, ys = zs ∧ J ys W') ∨ (∃ pre, pre <+: zs ∧ Jx pre W')) := by
  obtain ⟨A, c, hL, _⟩ := Rd.of_own hR.own
  subst hL
  have r1 := hR.box1
  have r2 := hR.loose
  refine callsIn_of_wp Try.func84 rfl hF ?_ hro
  simp only [Try.ntmps84, List.size_toArray, List.length_cons, List.length_nil, Nat.reduceAdd, Nat.reduceSub, Array.replicate_succ, Array.replicate_zero, List.push_toArray, List.append_toArray, List.nil_append, List.cons_append]
  gi_wp2
  gi_loopw [12] (fun i wr => ∃ k : Nat, k ≤ (told m zs).length ∧ i = .int .i64 k ∧ J (zs.take k) wr ∧ Reads wr b1 b2 d (.slice A (told m zs).length c) (told m zs) keep torn) (fun i _ => (told m zs).length - (intOf i).toNat)
  case atStart => exact ⟨0, Nat.zero_le _, rfl, h0, hR⟩
  case round =>
    obtain ⟨k, hk, rfl, hJs, hRd⟩ := hrel
    have hll : (told m zs).length = zs.length := by simp [told]
    by_cases hlt : k < (told m zs).length
    · have hlti : (k : Int) < ((told m zs).length : Int) := by omega
      have hb31 : (k : Int) ≤ 1073741824 := by omega
      obtain ⟨z, hz1⟩ : ∃ z, zs[k]? = some z := ⟨_, List.getElem?_eq_getElem (by omega)⟩
      have ht : (told m zs)[k]? = some z.1.1 := by simp [told, hz1]
      obtain ⟨A', c', eA, _, _, hrd⟩ := Rd.of_own hRd.own
      simp only [Value.slice.injEq, true_and] at eA
      obtain ⟨rfl, rfl⟩ := eA
      obtain ⟨ad, rfl, _, hcell⟩ := hrd.2 (by omega)
      obtain ⟨g0, g1⟩ : (wcells (told m zs))[k * 2]? = some (.int .i64 z.1.1.1) ∧ (wcells (told m zs))[k * 2 + 1]? = some (.string z.1.1.2) := wcells_get _ _ _ ht
      have e0 := hcell _ _ g0
      have e1 := hcell _ _ g1
      rw [← Go.Nau.add_add] at e1
      have e1' : wr.cell? ⟨(ad.add (k * 2)).block, (ad.add (k * 2)).off + 1, none⟩ = some (.string z.1.1.2) := e1
      have k1 := hRd.torn
      have k2 := hRd.keep
      have K1 : ∀ o, (wr.alloc o).cell? ⟨b2, 1, none⟩ = some (.int .i64 torn) := fun o => (Fr.alloc (Fr.refl (fun _ => False) wr) o).cell id k1
      have K2 : ∀ o, (wr.alloc o).cell? ⟨b2, 0, none⟩ = some (.int .u64 keep) := fun o => (Fr.alloc (Fr.refl (fun _ => False) wr) o).cell id k2
      have hpl : (zs.take k).length = k := by simp; omega
      have hyy := hY (zs.take k) z (wr.alloc (.cells #[.int .i64 z.1.1.1, .string z.1.1.2] 88)) (hJa _ _ _ hJs) (by omega)
      have hsn : zs.take k ++ [z] = zs.take (k + 1) := by rw [List.take_add_one, hz1]; rfl
      have hst1 := hst k z hz1
      have HST := Lib.hid hst1
      have HSN := Lib.hid hsn
      have HL := Lib.hid hll
      have HR' : Hid (Reads (wr.alloc (.cells #[.int .i64 z.1.1.1, .string z.1.1.2] 88)) b1 b2 d (.slice (some ad) (told m zs).length c) (told m zs) keep torn) :=
        ⟨(Fr.alloc (Fr.refl (fun _ => False) wr) _).cell id hRd.box1, K2 _, K1 _, (Fr.alloc (Fr.refl (fun _ => False) wr) _).cell id hRd.loose, hRd.own.alloc _⟩
      clear hst1 hsn hll hpl hz1 ht g0 g1 hcell hrd e1 k1 k2 hst
      by_cases hto : (k : Int) = torn
      · have hto' : ((k : Int) == torn) = true := by simpa using hto
        have hn1 : z.1.2 = 256 := by rw [HST.out]; unfold stays; rw [if_pos hto]
        rw [hn1] at hyy
        obtain ⟨fn, tmps, assign, body, hy, hRR⟩ := hyy
        clear hto hn1
        gi_wp2
        refine hRR.mono ?_
        rintro e W3 (⟨rfl, hJ3, hk3⟩ | ⟨rfl, hJx3⟩)
        · have hR3 := hKp _ _ hk3 HR'.out
          rw [HSN.out] at hJ3
          gi_wp2
          go_roundw
          case rel => exact ⟨k + 1, by omega, by go_num, hJ3, hR3⟩
          case measure => simp [intOf]; omega
        · rw [HSN.out] at hJx3
          gi_wp2
          refine bodyPost_ret (results_none rfl _ _ _) rfl ?_
          exact ⟨⟨_, rfl⟩, .inr ⟨_, List.take_prefix _ _, hJx3⟩⟩
      · have hto' : ((k : Int) == torn) = false := by simpa using hto
        by_cases hbt : (bits BinOp.and IntKind.u64 (keep / 2 ^ (k % 64)) 1 == 1) = true
        · have hn1 : z.1.2 = 512 := by rw [HST.out]; unfold stays; rw [if_neg hto, if_pos hbt]
          rw [hn1] at hyy
          obtain ⟨fn, tmps, assign, body, hy, hRR⟩ := hyy
          clear hto hn1
          gi_wp2
          refine hRR.mono ?_
          rintro e W3 (⟨rfl, hJ3, hk3⟩ | ⟨rfl, hJx3⟩)
          · have hR3 := hKp _ _ hk3 HR'.out
            rw [HSN.out] at hJ3
            gi_wp2
            go_roundw
            case rel => exact ⟨k + 1, by omega, by go_num, hJ3, hR3⟩
            case measure => simp [intOf]; omega
          · rw [HSN.out] at hJx3
            gi_wp2
            refine bodyPost_ret (results_none rfl _ _ _) rfl ?_
            exact ⟨⟨_, rfl⟩, .inr ⟨_, List.take_prefix _ _, hJx3⟩⟩
        · have hbt' : (bits BinOp.and IntKind.u64 (keep / 2 ^ (k % 64)) 1 == 1) = false := by simpa using hbt
          have hn1 : z.1.2 = 0 := by rw [HST.out]; unfold stays; rw [if_neg hto, if_neg hbt]
          rw [hn1] at hyy
          obtain ⟨fn, tmps, assign, body, hy, hRR⟩ := hyy
          clear hto hn1 hbt
          gi_wp2
          refine hRR.mono ?_
          rintro e W3 (⟨rfl, hJ3, hk3⟩ | ⟨rfl, hJx3⟩)
          · have hR3 := hKp _ _ hk3 HR'.out
            rw [HSN.out] at hJ3
            gi_wp2
            go_roundw
            case rel => exact ⟨k + 1, by omega, by go_num, hJ3, hR3⟩
            case measure => simp [intOf]; omega
          · rw [HSN.out] at hJx3
            gi_wp2
            refine bodyPost_ret (results_none rfl _ _ _) rfl ?_
            exact ⟨⟨_, rfl⟩, .inr ⟨_, List.take_prefix _ _, hJx3⟩⟩
    · have hkl : zs.take k = zs := List.take_of_length_le (by omega)
      rw [hkl] at hJs
      clear hkl hll
      gi_wp2
      go_end0
      exact ⟨⟨_, rfl⟩, .inl ⟨_, rfl, hJs⟩⟩
end Go.Proofs.Ytjpmohennekbaaa

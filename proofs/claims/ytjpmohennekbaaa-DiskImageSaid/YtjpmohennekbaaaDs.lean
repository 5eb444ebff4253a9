/- The disk laws' helper does: one call of both disks. -/
import Derived.Test.YtjpmohennekbaaaDr
import Derived.Deep.RegionHeld3
namespace Go.Proofs.Ytjpmohennekbaaa
open Go.RowKit Go.Nau Go.Shelf
attribute [local go_sem] Oper.semAt_some

def opV (x : DOp) : Value := .agg #[.int .i64 x.kind, .int .i64 x.place, .int .i64 x.n, .int .u8 x.c, .int .u64 x.keep, .int .i64 x.torn]

def DoesPost (B : Nat) (w : World) (d r : Nat) (s : DS) (x : DOp) (e : Ending) (w' : World) : Prop :=
  ∃ d' r' s' F' G', e = .returned (.tuple #[.pointer (some ⟨d', 0, none⟩), .pointer (some ⟨r', 0, none⟩), .bool true]) ∧ Both B w' F' G' d' r' s' ∧ Below B w w' ∧
    DInv s' ∧ s'.now.length = s.now.length ∧ s'.ops ≤ s.ops + 1 ∧ s'.loose.length ≤ s.loose.length + 1 ∧ (pk x.kind 6 ≠ 5 → d' = d ∧ r' = r)

section
variable {B : Nat} {w : World} {F G : Nat → Prop} {d r : Nat} {s : DS}

set_option maxHeartbeats 4000000 in
set_option maxRecDepth 100000 in
theorem does_any (h : Both B w F G d r s) (hB : B ≤ w.heap.size) (hi : DInv s) (x : DOp) (hx : x.wf) (hops : s.ops ≤ 1000000) (hll : s.loose.length ≤ 1000000) :
    Calls Try.prog 24 #[.pointer (some ⟨d, 0, none⟩), .pointer (some ⟨r, 0, none⟩), opV x] w (DoesPost B w d r s x) := by
  obtain ⟨xk, xp, xn, xc, xke, xto⟩ := x
  obtain ⟨⟨k1, k2⟩, ⟨p1, p2⟩, ⟨n1, n2⟩, ⟨c1, c2⟩, _, _⟩ := hx
  dsimp only at k1 k2 p1 p2 n1 n2 c1 c2
  unfold opV
  dsimp only
  obtain ⟨c, rfl⟩ : ∃ c : Nat, xc = c := ⟨xc.toNat, by omega⟩
  have hpick := fun W => pick_any xk 6 (by omega) (by omega) (by omega) W
  have hpl := pk_lt xk 6 (by omega)
  have HP := Lib.hid hpick
  clear hpick
  obtain ⟨W0, hW0⟩ : ∃ W0, W0 = w.alloc (.cells #[.int .i64 xk, .int .i64 xp, .int .i64 xn, .int .u8 c, .int .u64 xke, .int .i64 xto] 42) := ⟨_, rfl⟩
  have hbox : W0.heap[w.heap.size]? = some (.cells #[.int .i64 xk, .int .i64 xp, .int .i64 xn, .int .u8 c, .int .u64 xke, .int .i64 xto] 42 (0, 0)) := by rw [hW0]; exact heap_alloc_new w _
  have b0 : Both B W0 F G d r s := by rw [hW0]; exact h.kept ((Fr.refl (fun _ => False) w).alloc _) (fun _ _ => id) (fun _ _ => id)
  have hb0 : Below B w W0 := by rw [hW0]; exact (Below.refl _ w).alloc hB _
  have hs0 : W0.heap.size = w.heap.size + 1 := by rw [hW0]; simp
  have hFb : ∀ k, F k → k < w.heap.size := fun k hk => (h.2.2.2.1 k hk).2
  have hGb : ∀ k, G k → k < w.heap.size := fun k hk => (h.2.2.2.2 k hk).2
  have q1 : W0.cell? ⟨w.heap.size, 1, none⟩ = some (.int .i64 xp) := by have := blk_cell hbox 1; simpa using this
  have q2 : W0.cell? ⟨w.heap.size, 2, none⟩ = some (.int .i64 xn) := by have := blk_cell hbox 2; simpa using this
  have q3 : W0.cell? ⟨w.heap.size, 3, none⟩ = some (.int .u8 c) := by have := blk_cell hbox 3; simpa using this
  have q4 : W0.cell? ⟨w.heap.size, 4, none⟩ = some (.int .u64 xke) := by have := blk_cell hbox 4; simpa using this
  have q5 : W0.cell? ⟨w.heap.size, 5, none⟩ = some (.int .i64 xto) := by have := blk_cell hbox 5; simpa using this
  have hB0 : B ≤ W0.heap.size := by omega
  have HW := Lib.hid hW0
  clear hW0 h
  go_enter Try.func24, Try.ntmps24
  go_wp2_with fail
  try go_step3
  go_wp2_with fail
  rw [← HW.out]
  refine (HP.out W0).mono ?_
  rintro e w1 ⟨rfl, hw1⟩
  rw [hw1]
  clear hw1 w1
  generalize hpe : pk xk 6 = p at *
  have HPE := Lib.hid hpe
  clear hpe
  have hpc : p = 0 ∨ p = 1 ∨ p = 2 ∨ p = 3 ∨ p = 4 ∨ p = 5 := by omega
  clear hpl HP
  rcases hpc with rfl | rfl | rfl | rfl | rfl | rfl
  · obtain ⟨fs, hfs⟩ : ∃ fs, fs = fullS c (fullN xn) := ⟨_, rfl⟩
    have hfz : fs.size ≤ maxLen := by rw [hfs, fullS_size]; unfold fullN maxLen; omega
    have hf := full_any c (by omega) xn (by omega) W0
    rw [← hfs] at hf
    have HF := Lib.hid hf
    clear hf hfs
    have hin := wres_inv hi xp fs
    go_wp2_with fail
    refine HF.out.mono ?_
    rintro e w1 ⟨rfl, hb1⟩
    have hs1 := hb1.size
    have b1 := b0.kept (Fr.new hb1 (fun _ => False)) (fun _ _ => id) (fun _ _ => id)
    have q1' := (hb1.cell (p := ⟨w.heap.size, 1, none⟩) (by dsimp only; omega)).trans q1
    have hDq := fun q => b1.kept (Fr.drewN (fun _ => False) w1 q) (fun _ _ => id) (fun _ _ => id)
    have HD1 := Lib.hid (hDq 1)
    have hW := write_any (hDq 1).1 xp fs hfz (by omega) (by omega)
    have hRW : ∀ {W G}, RDsk W G r s → Calls Try.prog 60 #[.pointer (some ⟨r, 0, none⟩), .int .i64 xp, .string fs] W fun e w' => e = .returned (.int .i64 (wres s xp fs).1) ∧ RPost W G r (wres s xp fs).2 w' := fun {W G} hR => rwrite_any hR hi.ok.len xp fs hfz (by omega) (by omega)
    have hB1 : B ≤ w1.heap.size := by omega
    generalize wres s xp fs = res at *
    obtain ⟨rv, rs⟩ := res
    dsimp only at hin hW hRW
    have HWc := Lib.hid hW
    clear hDq hW
    go_wp2_with fail
    go_region_held3 (fun w' => w'.cell? ⟨w.heap.size, 1, none⟩ = some (.int .i64 xp)) (first | assumption | (simp [q1']; done)) ((first
      | (go_at_call 27; refine HWc.out.mono ?_; rintro e w2 ⟨rfl, hD⟩; obtain ⟨F1, d1, r1, a1, a2, a3, f1⟩ := HD1.out.fst hB1 hD; have q2' := f1.cell (fun hk => by have := hFb _ hk; dsimp only at this; omega) q1')
      | (go_at_call 60; refine (hRW r1).mono ?_; rintro e w3 ⟨rfl, hR⟩; have hB2 : B ≤ w2.heap.size := Nat.le_trans hB1 f1.size; obtain ⟨G2, b2, f2⟩ := Both.snd d1 a1 a2 a3 hB2 hR rfl; have q3' := f2.cell (fun hk => by have := hGb _ hk; dsimp only at this; omega) q2')))
    go_wp2_with fail
    go_ret3
    refine ⟨d, r, rs, F1, G2, by simp, b2, ((hb0.trans (hb1.mono hB0)).trans ((Fr.drewN F w1 1).trans f1 |>.below hB1 (fun k hk => (b0.2.2.2.1 k hk).1))).trans (f2.below hB2 (fun k hk => (a3 k hk).1)), hin.1, hin.2.1, hin.2.2.1, hin.2.2.2, fun _ => ⟨rfl, rfl⟩⟩
  · obtain ⟨fs, hfs⟩ : ∃ fs, fs = fullS c (fullN xn) := ⟨_, rfl⟩
    have hfz : fs.size ≤ maxLen := by rw [hfs, fullS_size]; unfold fullN maxLen; omega
    have hf := full_any c (by omega) xn (by omega) W0
    rw [← hfs] at hf
    have HF := Lib.hid hf
    clear hf hfs
    have hin := wres_inv hi xp fs
    go_wp2_with fail
    refine HF.out.mono ?_
    rintro e w1 ⟨rfl, hb1⟩
    have hs1 := hb1.size
    have b1 := b0.kept (Fr.new hb1 (fun _ => False)) (fun _ _ => id) (fun _ _ => id)
    have q1' := (hb1.cell (p := ⟨w.heap.size, 1, none⟩) (by dsimp only; omega)).trans q1
    have hDq := fun q => b1.kept (Fr.drewN (fun _ => False) w1 q) (fun _ _ => id) (fun _ _ => id)
    have HD1 := Lib.hid (hDq 1)
    have hW := write_any (hDq 1).1 xp fs hfz (by omega) (by omega)
    have hRW : ∀ {W G}, RDsk W G r s → Calls Try.prog 60 #[.pointer (some ⟨r, 0, none⟩), .int .i64 xp, .string fs] W fun e w' => e = .returned (.int .i64 (wres s xp fs).1) ∧ RPost W G r (wres s xp fs).2 w' := fun {W G} hR => rwrite_any hR hi.ok.len xp fs hfz (by omega) (by omega)
    have hB1 : B ≤ w1.heap.size := by omega
    generalize wres s xp fs = res at *
    obtain ⟨rv, rs⟩ := res
    dsimp only at hin hW hRW
    have HWc := Lib.hid hW
    clear hDq hW
    go_wp2_with fail
    go_region_held3 (fun w' => w'.cell? ⟨w.heap.size, 1, none⟩ = some (.int .i64 xp)) (first | assumption | (simp [q1']; done)) ((first
      | (go_at_call 27; refine HWc.out.mono ?_; rintro e w2 ⟨rfl, hD⟩; obtain ⟨F1, d1, r1, a1, a2, a3, f1⟩ := HD1.out.fst hB1 hD; have q2' := f1.cell (fun hk => by have := hFb _ hk; dsimp only at this; omega) q1')
      | (go_at_call 60; refine (hRW r1).mono ?_; rintro e w3 ⟨rfl, hR⟩; have hB2 : B ≤ w2.heap.size := Nat.le_trans hB1 f1.size; obtain ⟨G2, b2, f2⟩ := Both.snd d1 a1 a2 a3 hB2 hR rfl; have q3' := f2.cell (fun hk => by have := hGb _ hk; dsimp only at this; omega) q2')))
    go_wp2_with fail
    go_ret3
    refine ⟨d, r, rs, F1, G2, by simp, b2, ((hb0.trans (hb1.mono hB0)).trans ((Fr.drewN F w1 1).trans f1 |>.below hB1 (fun k hk => (b0.2.2.2.1 k hk).1))).trans (f2.below hB2 (fun k hk => (a3 k hk).1)), hin.1, hin.2.1, hin.2.2.1, hin.2.2.2, fun _ => ⟨rfl, rfl⟩⟩
  · go_wp2_with fail
    refine (read_any b0.1 xp).mono ?_
    rintro e w1 ⟨rfl, rfl⟩
    go_wp2_with fail
    refine (rread_any b0.2.1 hi xp (by omega)).mono ?_
    rintro e w1 ⟨rfl, rfl⟩
    go_wp2_with fail
    go_ret3
    exact ⟨d, r, s, F, G, by simp, b0, hb0, hi, rfl, by omega, by omega, fun _ => ⟨rfl, rfl⟩⟩
  · have hin := fres_inv hi
    have hrf : ∀ {W G}, RDsk W G r s → _ := fun {W G} hR => rflush_any (w := W) (G := G) hR hi (by omega) (by omega)
    go_wp2_with fail
    refine (flush_any b0.1 (by omega)).mono ?_
    rintro e w1 ⟨rfl, hD⟩
    obtain ⟨F1, d1, r1, a1, a2, a3, f1⟩ := b0.fst hB0 hD
    go_wp2_with fail
    refine (hrf r1).mono ?_
    rintro e w2 ⟨rfl, hR⟩
    have hB1 : B ≤ w1.heap.size := Nat.le_trans hB0 f1.size
    obtain ⟨G2, b2, f2⟩ := Both.snd d1 a1 a2 a3 hB1 hR rfl
    go_wp2_with fail
    go_ret3
    exact ⟨d, r, _, F1, G2, by simp, b2, (hb0.trans (f1.below hB0 (fun k hk => (b0.2.2.2.1 k hk).1))).trans (f2.below hB1 (fun k hk => (a3 k hk).1)), hin.1, hin.2.1, hin.2.2.1, hin.2.2.2, fun _ => ⟨rfl, rfl⟩⟩
  · go_wp2_with fail
    refine (cutat_dsk b0.1 xp).mono ?_
    rintro e w1 ⟨rfl, hD⟩
    obtain ⟨F1, d1, r1, a1, a2, a3, f1⟩ := b0.fst hB0 hD
    have q1' := f1.cell (fun hk => by have := hFb _ hk; dsimp only at this; omega) q1
    go_wp2_with fail
    refine (rcutat_dsk r1 xp).mono ?_
    rintro e w2 ⟨rfl, hR⟩
    have hB1 : B ≤ w1.heap.size := Nat.le_trans hB0 f1.size
    obtain ⟨G2, b2, f2⟩ := Both.snd d1 a1 a2 a3 hB1 hR rfl
    go_wp2_with fail
    go_ret3
    exact ⟨d, r, _, F1, G2, rfl, b2, (hb0.trans (f1.below hB0 (fun k hk => (b0.2.2.2.1 k hk).1))).trans (f2.below hB1 (fun k hk => (a3 k hk).1)), hi.cut _ _, rfl, by dsimp only; omega, by dsimp only; omega, fun _ => ⟨rfl, rfl⟩⟩
  · have hDq := fun q => b0.kept (Fr.drewN (fun _ => False) W0 q) (fun _ _ => id) (fun _ _ => id)
    have hC := crash_dsk (hDq 1).1 hi.ok (by have := hi.n1; omega) (by omega) xke xto
    have hRC : ∀ {W G}, RDsk W G r s → Calls Try.prog 59 #[.pointer (some ⟨r, 0, none⟩), .agg #[.int .u64 xke, .int .i64 xto]] W (RcPost W (crashed s xke xto)) := fun {W G} hR =>
      rcrash_dsk hR hi.ok.safe (by rw [hi.ok.len]; exact hi.ok.loose) (by rw [hi.ok.len]; have := hi.n1; omega) (by omega) xke xto
    have hcr := hi.crashed xke xto
    have hcl : (freshDS (crashed s xke xto)).now.length = s.now.length := by show (crashed s xke xto).length = _; rw [crashed_length, hi.ok.len]
    have RD1 := (hDq 1).2.1
    have HC := Lib.hid hC
    have HCL := Lib.hid hcl
    clear hDq hC hcl
    generalize crashed s xke xto = cr at *
    have hbl : w.heap.size < W0.heap.size := by omega
    go_wp2_with fail
    go_region_held3 (fun w' => w'.cell? ⟨w.heap.size, 4, none⟩ = some (.int .u64 xke) ∧ w'.cell? ⟨w.heap.size, 5, none⟩ = some (.int .i64 xto)) (first | (exact ⟨by assumption, by assumption⟩) | (simp [q4, q5]; done)) ((first
      | (go_at_call 29; refine HC.out.mono ?_; rintro e w1 ⟨d', rfl, hD, hd', hb1⟩; have q4' := (hb1.cell (p := ⟨w.heap.size, 4, none⟩) (by simpa using hbl)).trans q4; have q5' := (hb1.cell (p := ⟨w.heap.size, 5, none⟩) (by simpa using hbl)).trans q5; have hs1 : W0.heap.size ≤ w1.heap.size := hb1.size)
      | (go_at_call 59; refine (hRC (RD1.kept (Fr.new hb1 (fun _ => False)) (fun _ _ => id))).mono ?_; rintro e w2 ⟨r', rfl, hR, hr', hb2⟩; have q4'' := (hb2.cell (p := ⟨w.heap.size, 4, none⟩) (by dsimp only; omega)).trans q4'; have q5'' := (hb2.cell (p := ⟨w.heap.size, 5, none⟩) (by dsimp only; omega)).trans q5')))
    go_wp2_with fail
    go_ret3
    have hs2 := hb2.size
    refine ⟨d', r', freshDS cr, fun k => W0.heap.size ≤ k ∧ k < w1.heap.size, fun k => w1.heap.size ≤ k ∧ k < w2.heap.size, rfl, ⟨hD.kept (Fr.new hb2 (fun _ => False)) (fun _ _ => id), hR, fun k h1 h2 => by omega, fun k hk => by omega, fun k hk => by omega⟩, ((hb0.trans ((below_drewN (Below.refl W0.heap.size W0) 1).mono hB0)).trans (hb1.mono hB0)).trans (hb2.mono (by omega)), hcr, HCL.out, Nat.zero_le _, Nat.zero_le _, fun h => absurd HPE.out h⟩
end
end Go.Proofs.Ytjpmohennekbaaa

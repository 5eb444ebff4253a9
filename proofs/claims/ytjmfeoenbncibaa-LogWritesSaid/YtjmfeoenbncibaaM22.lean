/- Texts of this proof, joined: Le Lf. They hold under no condition beyond what each theorem states. -/
import Derived.Test.YtjmfeoenbncibaaM21
namespace Go.Proofs.Ytjmfeoenbncibaa
open Go.RowKit Go.Nau Go.Shelf
attribute [local go_sem] Oper.semAt_some

/-- Where a log stands behind a record: place, number, next segment. -/
def goI (p k nx : Int) : Int × Int := if (p + k + 1) % 16 = 0 ∨ (p + k + 1) % 16 = 15 then (nx * 16, 0) else (p + k + 1, nx)

theorem goI_goN (l : LS) (k : Nat) (nx : Int) (h : 0 ≤ nx) : ((goI l.pos k nx).1 = ((goN l k nx.toNat).pos : Int)) ∧ ((goI l.pos k nx).2 = ((goN l k nx.toNat).next : Int)) := by
  unfold goI goN
  by_cases h1 : (l.pos + k + 1) % 16 = 0 ∨ (l.pos + k + 1) % 16 = 15
  · rw [if_pos h1, if_pos (by omega)]
    exact ⟨by dsimp only; omega, rfl⟩
  · rw [if_neg h1, if_neg (by omega)]
    exact ⟨by dsimp only; omega, by dsimp only; omega⟩

/-- The log's block, its last three cells turned. -/
theorem lg_set {W : World} {g : Nat} {t : TypeId} {v0 v1 v2 v3 : Value} (h : W.heap[g]? = some (.cells #[v0, v1, v2, v3] t (0, 0))) (u1 u2 u3 : Value) :
    (((W.setCell ⟨g, 2, none⟩ u2).setCell ⟨g, 3, none⟩ u3).setCell ⟨g, 1, none⟩ u1).heap[g]? = some (.cells #[v0, u1, u2, u3] t (0, 0)) := by
  have e2 := blk_set h 2 u2
  have e3 := blk_set e2 3 u3
  have e4 := blk_set e3 1 u1
  exact e4
theorem lg_set2 {W : World} {g : Nat} {t : TypeId} {v0 v1 v2 v3 : Value} (h : W.heap[g]? = some (.cells #[v0, v1, v2, v3] t (0, 0))) (u1 u2 u3 u4 : Value) :
    ((((W.setCell ⟨g, 2, none⟩ u2).setCell ⟨g, 3, none⟩ u3).setCell ⟨g, 3, none⟩ u4).setCell ⟨g, 1, none⟩ u1).heap[g]? = some (.cells #[v0, u1, u2, u4] t (0, 0)) := by
  have e2 := blk_set h 2 u2
  have e3 := blk_set e2 3 u3
  have e5 := blk_set e3 3 u4
  have e4 := blk_set e5 1 u1
  exact e4
theorem fr_set3 {S : Nat → Prop} {w W : World} {g : Nat} (h : Fr S w W) (hg : S g) (u1 u2 u3 : Value) : Fr S w (((W.setCell ⟨g, 2, none⟩ u2).setCell ⟨g, 3, none⟩ u3).setCell ⟨g, 1, none⟩ u1) :=
  Fr.setCell (p := ⟨g, 1, none⟩) (Fr.setCell (p := ⟨g, 3, none⟩) (Fr.setCell (p := ⟨g, 2, none⟩) h (fun _ => hg) _) (fun _ => hg) _) (fun _ => hg) _
theorem fr_set4 {S : Nat → Prop} {w W : World} {g : Nat} (h : Fr S w W) (hg : S g) (u1 u2 u3 u4 : Value) : Fr S w ((((W.setCell ⟨g, 2, none⟩ u2).setCell ⟨g, 3, none⟩ u3).setCell ⟨g, 3, none⟩ u4).setCell ⟨g, 1, none⟩ u1) :=
  Fr.setCell (p := ⟨g, 1, none⟩) (Fr.setCell (p := ⟨g, 3, none⟩) (Fr.setCell (p := ⟨g, 3, none⟩) (Fr.setCell (p := ⟨g, 2, none⟩) h (fun _ => hg) _) (fun _ => hg) _) (fun _ => hg) _) (fun _ => hg) _

set_option maxHeartbeats 1000000 in
set_option maxRecDepth 100000 in
theorem goes_core (g d : Nat) (p sq nx0 nx s1 s2 : Int) (b1 b2 : Bool) (A : Option Addr) (n c : Nat) (w : World) (h : w.heap[g]? = some (.cells #[.pointer (some ⟨d, 0, none⟩), .int .i64 p, .int .u64 sq, .int .i64 nx0] 95 (0, 0)))
    (hp : 0 ≤ p ∧ p ≤ 4096) (hs : 0 ≤ sq ∧ sq ≤ 1000000000000000) (hn : (n : Int) ≤ 1000) (hx : 0 ≤ nx ∧ nx ≤ 255) :
    Calls Try.prog 52 #[.pointer (some ⟨g, 0, none⟩), .agg #[.int .u64 s1, .int .u64 s2, .bool b1, .bool b2, .int .i64 nx, .slice A n c]] w fun e w' =>
      e = .returned (.tuple #[]) ∧ w'.heap[g]? = some (.cells #[.pointer (some ⟨d, 0, none⟩), .int .i64 (goI p n nx).1, .int .u64 (sq + 1), .int .i64 (goI p n nx).2] 95 (0, 0)) ∧ Fr (· = g) w w' := by
  obtain ⟨hp0, hp1⟩ := hp
  obtain ⟨hs0, hs1⟩ := hs
  obtain ⟨hx0, hx1⟩ := hx
  have c1 := blk_cell h 1
  have c2 := blk_cell h 2
  have z1 := blk_frozen h 1
  have z2 := blk_frozen h 2
  have z3 := blk_frozen h 3
  have c3 := blk_cell h 3
  have hlt := (Array.getElem?_eq_some_iff.1 h).1
  simp at c1 c2 c3
  have H := Lib.hid h
  clear h
  have hf : ∀ (o : Obj) q, Fr (· = g) w ((w.alloc o).drewN q) := fun o q => ((Fr.refl _ w).alloc o).trans (Fr.drewN _ _ q)
  have hh : ∀ (o : Obj) q, ((w.alloc o).drewN q).heap[g]? = some (.cells #[.pointer (some ⟨d, 0, none⟩), .int .i64 p, .int .u64 sq, .int .i64 nx0] 95 (0, 0)) := fun o q =>
    (Fr.drewN (fun _ => False) _ q).get id (((Fr.refl (fun _ => False) w).alloc o).get id H.out)
  have HF := Lib.hid hf
  have HH := Lib.hid hh
  have hl := isLast_any (p + n + 1)
  have HL := Lib.hid hl
  have hg1 : ((p + n + 1) % 16 = 0 ∨ (p + n + 1) % 16 = 15) → goI p n nx = (nx * 16, 0) := fun h => if_pos h
  have hg2 : ¬ ((p + n + 1) % 16 = 0 ∨ (p + n + 1) % 16 = 15) → goI p n nx = (p + n + 1, nx) := fun h => if_neg h
  have G1 := Lib.hid hg1
  have G2 := Lib.hid hg2
  clear hf hh hl hg1 hg2
  by_cases a1 : (p + n + 1) % 16 = 0
  · have e1 : ((p + n + 1) % 16 == 0) = true := by simpa using a1
    have A1 := Lib.hid a1
    clear a1
    go_enter Try.func52, Try.ntmps52
    go_wp2_with fail
    go_quiet (fail)
    rename_i nq
    go_wp2_with fail
    go_end0
    rw [G1.out (.inl A1.out)]
    exact ⟨rfl, lg_set2 (HH.out _ _) _ _ _ _, fr_set4 (HF.out _ _) rfl _ _ _ _⟩
  · have e1 : ((p + n + 1) % 16 == 0) = false := by simpa using a1
    by_cases a2 : (p + n + 1) % 16 = 15
    · have hl2 := fun W h0 h1 => HL.out W h0 h1
      rw [decide_eq_true a2] at hl2
      have HL2 := Lib.hid hl2
      have A1 := Lib.hid a1
      have A2 := Lib.hid a2
      clear a1 a2 hl2 HL
      go_enter Try.func52, Try.ntmps52
      go_wp2_with fail
      go_quiet (fail)
      rename_i nq
      go_wp2_with fail
      refine (HL2.out _ (by omega) (by omega)).mono ?_
      rintro e w1 ⟨rfl, rfl⟩
      go_wp2_with fail
      go_end0
      rw [G1.out (.inr A2.out)]
      exact ⟨rfl, lg_set2 (HH.out _ _) _ _ _ _, fr_set4 (HF.out _ _) rfl _ _ _ _⟩
    · have hl2 := fun W h0 h1 => HL.out W h0 h1
      rw [decide_eq_false a2] at hl2
      have HL2 := Lib.hid hl2
      have A1 := Lib.hid a1
      have A2 := Lib.hid a2
      clear a1 a2 hl2 HL
      go_enter Try.func52, Try.ntmps52
      go_wp2_with fail
      go_quiet (fail)
      rename_i nq
      go_wp2_with fail
      refine (HL2.out _ (by omega) (by omega)).mono ?_
      rintro e w1 ⟨rfl, rfl⟩
      go_wp2_with fail
      go_end0
      rw [G2.out (fun h => h.elim A1.out A2.out)]
      exact ⟨rfl, lg_set (HH.out _ _) _ _ _, fr_set3 (HF.out _ _) rfl _ _ _⟩

theorem goes_any {w : World} {g d : Nat} {l : LS} (h : Lg w g d l) (r : Rec) (A : Option Addr) (c : Nat) (hp : l.pos ≤ 4096) (hs : l.seq ≤ 281474976710656) (hn : r.l.length ≤ 1000) (hx : 0 ≤ r.next ∧ r.next ≤ 255) :
    Calls Try.prog 52 #[.pointer (some ⟨g, 0, none⟩), recV r A c] w fun e w' => e = .returned (.tuple #[]) ∧ Lg w' g d (goN l r.l.length r.next.toNat) ∧ Fr (· = g) w w' := by
  refine (goes_core g d l.pos l.seq l.next r.next r.seq r.cp r.ends r.sync A r.l.length c w h ⟨by omega, by omega⟩ ⟨by omega, by omega⟩ (by omega) hx).mono ?_
  rintro e w' ⟨rfl, h1, h2⟩
  refine ⟨rfl, ?_, h2⟩
  obtain ⟨e1, e2⟩ := goI_goN l r.l.length r.next hx.1
  rw [e1, e2] at h1
  unfold Lg lgC
  rw [goN_seq]
  exact h1

set_option maxHeartbeats 1000000 in
set_option maxRecDepth 100000 in
theorem rgoes_core (g d : Nat) (p sq nx0 nx n : Int) (w : World) (h : w.heap[g]? = some (.cells #[.pointer (some ⟨d, 0, none⟩), .int .i64 p, .int .u64 sq, .int .i64 nx0] 53 (0, 0)))
    (hp : 0 ≤ p ∧ p ≤ 4096) (hs : 0 ≤ sq ∧ sq ≤ 1000000000000000) (hn : 0 ≤ n ∧ n ≤ 15 - p % 16) (hx : 0 ≤ nx ∧ nx ≤ 255) :
    Calls Try.prog 57 #[.pointer (some ⟨g, 0, none⟩), .int .i64 n, .int .i64 nx] w fun e w' =>
      e = .returned (.tuple #[]) ∧ w'.heap[g]? = some (.cells #[.pointer (some ⟨d, 0, none⟩), .int .i64 (goI p n nx).1, .int .u64 (sq + 1), .int .i64 (goI p n nx).2] 53 (0, 0)) ∧ Fr (· = g) w w' := by
  obtain ⟨hp0, hp1⟩ := hp
  obtain ⟨hs0, hs1⟩ := hs
  obtain ⟨hx0, hx1⟩ := hx
  obtain ⟨hn0, hn1⟩ := hn
  have hn2 : n ≤ 15 := by omega
  have c1 := blk_cell h 1
  have c2 := blk_cell h 2
  have z1 := blk_frozen h 1
  have z2 := blk_frozen h 2
  have z3 := blk_frozen h 3
  have c3 := blk_cell h 3
  simp at c1 c2 c3
  have H := Lib.hid h
  clear h
  have hg1 : ((p + n + 1) % 16 = 0 ∨ (p + n + 1) % 16 = 15) → goI p n nx = (nx * 16, 0) := fun h => if_pos h
  have hg2 : ¬ ((p + n + 1) % 16 = 0 ∨ (p + n + 1) % 16 = 15) → goI p n nx = (p + n + 1, nx) := fun h => if_neg h
  have G1 := Lib.hid hg1
  have G2 := Lib.hid hg2
  clear hg1 hg2
  by_cases a1 : (p + n + 1) / 16 = p / 16
  · have e1 : ((p + n + 1) / 16 != p / 16) = false := by simpa using a1
    have a1' : (p + n + 1) % 16 ≠ 0 := by omega
    have A1 := Lib.hid a1'
    clear a1 a1' hn1
    by_cases a2 : (p + n + 1) % 16 = 15
    · have e2 : ((p + n + 1) % 16 == 15) = true := by simpa using a2
      have A2 := Lib.hid a2
      clear a2
      go_enter Try.func57, Try.ntmps57
      go_wp2_with fail
      go_end0
      rw [G1.out (.inr A2.out)]
      exact ⟨rfl, lg_set2 H.out _ _ _ _, fr_set4 (S := (· = g)) (Fr.refl _ _) rfl _ _ _ _⟩
    · have e2 : ((p + n + 1) % 16 == 15) = false := by simpa using a2
      have A2 := Lib.hid a2
      clear a2
      go_enter Try.func57, Try.ntmps57
      go_wp2_with fail
      go_end0
      rw [G2.out (fun h => h.elim A1.out A2.out)]
      exact ⟨rfl, lg_set H.out _ _ _, fr_set3 (S := (· = g)) (Fr.refl _ _) rfl _ _ _⟩
  · have e1 : ((p + n + 1) / 16 != p / 16) = true := by simpa using a1
    have a1' : (p + n + 1) % 16 = 0 := by omega
    have A1 := Lib.hid a1'
    clear a1 a1' hn1
    go_enter Try.func57, Try.ntmps57
    go_wp2_with fail
    go_end0
    rw [G1.out (.inl A1.out)]
    exact ⟨rfl, lg_set2 H.out _ _ _ _, fr_set4 (S := (· = g)) (Fr.refl _ _) rfl _ _ _ _⟩

theorem rgoes_any {w : World} {g d : Nat} {l : LS} (h : RLg w g d l) (k : Nat) (nx : Int) (hp : l.pos ≤ 4096) (hs : l.seq ≤ 281474976710656) (hn : k ≤ 15 - l.pos % 16) (hx : 0 ≤ nx ∧ nx ≤ 255) :
    Calls Try.prog 57 #[.pointer (some ⟨g, 0, none⟩), .int .i64 k, .int .i64 nx] w fun e w' => e = .returned (.tuple #[]) ∧ RLg w' g d (goN l k nx.toNat) ∧ Fr (· = g) w w' := by
  refine (rgoes_core g d l.pos l.seq l.next nx k w h ⟨by omega, by omega⟩ ⟨by omega, by omega⟩ ⟨by omega, by omega⟩ hx).mono ?_
  rintro e w' ⟨rfl, h1, h2⟩
  refine ⟨rfl, ?_, h2⟩
  obtain ⟨e1, e2⟩ := goI_goN l k nx hx.1
  rw [e1, e2] at h1
  unfold RLg lgC
  rw [goN_seq]
  exact h1
end Go.Proofs.Ytjmfeoenbncibaa
namespace Go.Proofs.Ytjmfeoenbncibaa
open Go.RowKit Go.Nau Go.Shelf
attribute [local go_sem] Oper.semAt_some

/-- A found record as a value: its cells. -/
def fndC (p rs rc : Int) (re ry : Bool) (nx : Int) (A : Option Addr) (n c : Nat) (B : Option Addr) (m c2 : Nat) : Array Value :=
  #[.int .i64 p, .int .u64 rs, .int .u64 rc, .bool re, .bool ry, .int .i64 nx, .slice A n c, .slice B m c2]
def zeroF : Array Value := #[.int .i64 0, .int .u64 0, .int .u64 0, .bool false, .bool false, .int .i64 0, .slice none 0 0, .slice none 0 0]

theorem load_fnd (a : Nat) (w : World) (v0 v1 v2 v3 v4 v5 v6 v7 : Value) (h : w.heap[a]? = some (.cells #[v0, v1, v2, v3, v4, v5, v6, v7] 81 (0, 0))) :
    (loadVar 81 ⟨a, 0, none⟩).run Try.prog w = .ok (.agg #[v0, v1, v2, v3, v4, v5, v6, v7]) w := by
  have q0 := blk_cell h 0
  have q1 := blk_cell h 1
  have q2 := blk_cell h 2
  have q3 := blk_cell h 3
  have q4 := blk_cell h 4
  have q5 := blk_cell h 5
  have q6 := blk_cell h 6
  have q7 := blk_cell h 7
  simp at q0 q1 q2 q3 q4 q5 q6 q7
  simp [loadVar, Try.isAgg81, Try.sizeOf81, go_sem, loadCells, q0, q1, q2, q3, q4, q5, q6, q7]
theorem res_fnd2 {fn : Func} {c u : Tmp} (h : fn.results = #[.cell c 81, .tmp u]) (tmps : Array Value) (w : World) {a : Nat} {v : Value} (ha : tmps.getD c undef = .pointer (some ⟨a, 0, none⟩))
    (hl : (loadVar 81 ⟨a, 0, none⟩).run Try.prog w = .ok v w) : (results fn tmps).run Try.prog w = .ok (.tuple #[v, tmps.getD u undef]) w := by
  rw [Array.getD_eq_getD_getElem?] at ha
  simp [results, h, ha, asAddr, hl]
abbrev set8 (W : World) (b : Nat) (v0 v1 v2 v3 v4 v5 v6 v7 : Value) : World :=
  (((((((W.setCell ⟨b, 0, none⟩ v0).setCell ⟨b, 1, none⟩ v1).setCell ⟨b, 2, none⟩ v2).setCell ⟨b, 3, none⟩ v3).setCell ⟨b, 4, none⟩ v4).setCell ⟨b, 5, none⟩ v5).setCell ⟨b, 6, none⟩ v6).setCell ⟨b, 7, none⟩ v7
theorem set_fnd {W : World} {b : Nat} {c0 c1 c2 c3 c4 c5 c6 c7 : Value} {t : TypeId} (h : W.heap[b]? = some (.cells #[c0, c1, c2, c3, c4, c5, c6, c7] t (0, 0))) (v0 v1 v2 v3 v4 v5 v6 v7 : Value) :
    (set8 W b v0 v1 v2 v3 v4 v5 v6 v7).heap[b]? = some (.cells #[v0, v1, v2, v3, v4, v5, v6, v7] t (0, 0)) ∧ Fr (· = b) W (set8 W b v0 v1 v2 v3 v4 v5 v6 v7) := by
  refine ⟨?_, (((((((Fr.set1 _ _ _ _).trans (Fr.set1 _ _ _ _)).trans (Fr.set1 _ _ _ _)).trans (Fr.set1 _ _ _ _)).trans (Fr.set1 _ _ _ _)).trans (Fr.set1 _ _ _ _)).trans (Fr.set1 _ _ _ _)).trans (Fr.set1 _ _ _ _)⟩
  unfold set8
  have e0 : (W.setCell ⟨b, 0, none⟩ v0).heap[b]? = some (.cells #[v0, c1, c2, c3, c4, c5, c6, c7] t (0, 0)) := blk_set h 0 v0
  have e1 : ((W.setCell ⟨b, 0, none⟩ v0).setCell ⟨b, 1, none⟩ v1).heap[b]? = some (.cells #[v0, v1, c2, c3, c4, c5, c6, c7] t (0, 0)) := blk_set e0 1 v1
  have e2 : (((W.setCell ⟨b, 0, none⟩ v0).setCell ⟨b, 1, none⟩ v1).setCell ⟨b, 2, none⟩ v2).heap[b]? = some (.cells #[v0, v1, v2, c3, c4, c5, c6, c7] t (0, 0)) := blk_set e1 2 v2
  have e3 : ((((W.setCell ⟨b, 0, none⟩ v0).setCell ⟨b, 1, none⟩ v1).setCell ⟨b, 2, none⟩ v2).setCell ⟨b, 3, none⟩ v3).heap[b]? = some (.cells #[v0, v1, v2, v3, c4, c5, c6, c7] t (0, 0)) := blk_set e2 3 v3
  have e4 : (((((W.setCell ⟨b, 0, none⟩ v0).setCell ⟨b, 1, none⟩ v1).setCell ⟨b, 2, none⟩ v2).setCell ⟨b, 3, none⟩ v3).setCell ⟨b, 4, none⟩ v4).heap[b]? = some (.cells #[v0, v1, v2, v3, v4, c5, c6, c7] t (0, 0)) := blk_set e3 4 v4
  have e5 : ((((((W.setCell ⟨b, 0, none⟩ v0).setCell ⟨b, 1, none⟩ v1).setCell ⟨b, 2, none⟩ v2).setCell ⟨b, 3, none⟩ v3).setCell ⟨b, 4, none⟩ v4).setCell ⟨b, 5, none⟩ v5).heap[b]? = some (.cells #[v0, v1, v2, v3, v4, v5, c6, c7] t (0, 0)) := blk_set e4 5 v5
  have e6 : (((((((W.setCell ⟨b, 0, none⟩ v0).setCell ⟨b, 1, none⟩ v1).setCell ⟨b, 2, none⟩ v2).setCell ⟨b, 3, none⟩ v3).setCell ⟨b, 4, none⟩ v4).setCell ⟨b, 5, none⟩ v5).setCell ⟨b, 6, none⟩ v6).heap[b]? = some (.cells #[v0, v1, v2, v3, v4, v5, v6, c7] t (0, 0)) := blk_set e5 6 v6
  have e7 : ((((((((W.setCell ⟨b, 0, none⟩ v0).setCell ⟨b, 1, none⟩ v1).setCell ⟨b, 2, none⟩ v2).setCell ⟨b, 3, none⟩ v3).setCell ⟨b, 4, none⟩ v4).setCell ⟨b, 5, none⟩ v5).setCell ⟨b, 6, none⟩ v6).setCell ⟨b, 7, none⟩ v7).heap[b]? = some (.cells #[v0, v1, v2, v3, v4, v5, v6, v7] t (0, 0)) := blk_set e6 7 v7
  exact e7

/-- What there answers: a record and its contents, or none. -/
def ThOut (w : World) (P : Bool → Prop) (p rs rc : Int) (re ry : Bool) (nx : Int) (n : Nat) (es : List Value) (cs : List ByteArray) (e : Ending) (w' : World) : Prop :=
  Below w.heap.size w w' ∧ ((P true ∧ ∃ A c B c2, e = .returned (.tuple #[.agg (fndC p rs rc re ry nx A n c B n c2), .bool true]) ∧ n ≤ c ∧ n ≤ c2 ∧ Rd (fun k => w.heap.size ≤ k ∧ k < w'.heap.size) w' 4 A n es ∧ Rd (fun k => w.heap.size ≤ k ∧ k < w'.heap.size) w' 1 B n (strs cs)) ∨
    (P false ∧ e = .returned (.tuple #[.agg zeroF, .bool false])))

abbrev set0 (W : World) (b : Nat) : World := set8 W b (.int .i64 0) (.int .u64 0) (.int .u64 0) (.bool false) (.bool false) (.int .i64 0) (.slice none 0 0) (.slice none 0 0)
theorem th_no {w W : World} {P : Bool → Prop} {p rs rc nx : Int} {re ry : Bool} {n : Nat} {es : List Value} {cs : List ByteArray} (hP : P false) (hb : Below w.heap.size w W) (h : W.heap[w.heap.size]? = some (.cells zeroF 81 (0, 0))) :
    (loadVar 81 ⟨w.heap.size, 0, none⟩).run Try.prog (set0 W w.heap.size) = .ok (.agg zeroF) (set0 W w.heap.size) ∧ ThOut w P p rs rc re ry nx n es cs (.returned (.tuple #[.agg zeroF, .bool false])) (set0 W w.heap.size) := by
  obtain ⟨s1, s2⟩ := set_fnd h (.int .i64 0) (.int .u64 0) (.int .u64 0) (.bool false) (.bool false) (.int .i64 0) (.slice none 0 0) (.slice none 0 0)
  exact ⟨load_fnd _ _ _ _ _ _ _ _ _ _ s1, hb.trans (s2.below hb.size (fun k hk => by omega)), .inr ⟨hP, rfl⟩⟩
end Go.Proofs.Ytjmfeoenbncibaa

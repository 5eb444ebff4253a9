/- Texts of this proof, joined: Mq. They hold under no condition beyond what each theorem states. -/
import Derived.Test.YtjmfeoenbncibaaM36
import Derived.Test.YtjmfeoenbncibaaM40
import Derived.Test.YtjmfeoenbncibaaM41
namespace Go.Proofs.Ytjmfeoenbncibaa
open Go.RowKit Go.WideShapes Go.ChangeShapes Go.Deep Go.Joins Go.Nau Go.Shelf

/-- Both disks, and both logs. -/
structure WlSt (w W : World) (F G : Nat → Prop) (gl gr d r : Nat) (s : DS) (l : LS) : Prop where
  b : Below w.heap.size w W
  f : ∀ k, F k → w.heap.size ≤ k ∧ k < W.heap.size
  g : ∀ k, G k → w.heap.size ≤ k ∧ k < W.heap.size
  fg : ∀ k, F k → ¬ G k
  l0 : w.heap.size ≤ gl ∧ gl < W.heap.size
  r0 : w.heap.size ≤ gr ∧ gr < W.heap.size
  n1 : ¬ F gl
  n2 : ¬ F gr
  n3 : ¬ G gl
  n4 : ¬ G gr
  ne : gl ≠ gr
  dk : Dsk W F d s
  rk : RDsk W G r s
  lg : Lg W gl d l
  rl : RLg W gr r l
theorem WlSt.below {w W W' : World} {F G : Nat → Prop} {gl gr d r : Nat} {s : DS} {l : LS} (h : WlSt w W F G gl gr d r s l) (hb : Below W.heap.size W W') : WlSt w W' F G gl gr d r s l := by
  have hs := hb.size
  have hf : Fr (fun _ => False) W W' := Fr.new hb _
  exact ⟨h.b.trans (hb.mono h.b.size), fun k hk => by have := h.f k hk; omega, fun k hk => by have := h.g k hk; omega, h.fg, by have := h.l0; omega, by have := h.r0; omega, h.n1, h.n2, h.n3, h.n4, h.ne, h.dk.kept hf (fun _ _ => id), h.rk.kept hf (fun _ _ => id), hf.get id h.lg, hf.get id h.rl⟩
structure WlP (q : Nat) (s : DS) (l : LS) : Prop where
  inv : DInv s
  len : s.now.length = 128
  ok : LOk s.now.length l
  ops : s.ops ≤ 18 * q
  loose : s.loose.length ≤ 18 * q
def WlI (w : World) (gl gr d r q : Nat) (W : World) : Prop := ∃ F G s l, WlSt w W F G gl gr d r s l ∧ WlP q s l

/-- Behind a call of each, on the two sides. -/
theorem WlSt.turn {w W W1 W2 : World} {F F1 G G1 : Nat → Prop} {gl gr d r : Nat} {s s' : DS} {l l' : LS} (h : WlSt w W F G gl gr d r s l)
    (hf1 : Fr (fun k => F k ∨ k = gl) W W1) (hd1 : Dsk W1 F1 d s') (hF1 : ∀ k, F1 k → F k ∨ (W.heap.size ≤ k ∧ k < W1.heap.size)) (hl1 : Lg W1 gl d l')
    (hf2 : Fr (fun k => G k ∨ k = gr) W1 W2) (hd2 : RDsk W2 G1 r s') (hG1 : ∀ k, G1 k → G k ∨ (W1.heap.size ≤ k ∧ k < W2.heap.size)) (hl2 : RLg W2 gr r l') : WlSt w W2 F1 G1 gl gr d r s' l' := by
  have s1 := hf1.size
  have s2 := hf2.size
  have hl0 := h.l0
  have hr0 := h.r0
  have hws := h.b.size
  have hnF : ∀ k, F1 k → ¬ (G k ∨ k = gr) := fun k hk e => by
    rcases hF1 k hk with h1 | h1
    · rcases e with e | e
      · exact h.fg k h1 e
      · exact h.n2 (e ▸ h1)
    · rcases e with e | e
      · have := h.g k e; omega
      · omega
  refine ⟨(h.b.trans (hf1.below hws (fun k hk => ?_))).trans (hf2.below (by omega) (fun k hk => ?_)), fun k hk => ?_, fun k hk => ?_, fun k hk hg => ?_, by omega, by omega, fun hk => ?_, fun hk => ?_, fun hk => ?_, fun hk => ?_, h.ne, hd1.kept hf2 hnF, hd2, hf2.get (fun e => ?_) hl1, hl2⟩
  · rcases hk with h1 | h1
    · exact (h.f k h1).1
    · omega
  · rcases hk with h1 | h1
    · exact (h.g k h1).1
    · omega
  · rcases hF1 k hk with h1 | h1
    · have := h.f k h1; omega
    · omega
  · rcases hG1 k hk with h1 | h1
    · have := h.g k h1; omega
    · omega
  · rcases hG1 k hg with h1 | h1
    · exact hnF k hk (.inl h1)
    · rcases hF1 k hk with h2 | h2
      · have := h.f k h2; omega
      · omega
  · rcases hF1 _ hk with h1 | h1
    · exact h.n1 h1
    · omega
  · rcases hF1 _ hk with h1 | h1
    · exact h.n2 h1
    · omega
  · rcases hG1 _ hk with h1 | h1
    · exact h.n3 h1
    · omega
  · rcases hG1 _ hk with h1 | h1
    · exact h.n4 h1
    · omega
  · rcases e with e | e
    · exact h.n3 e
    · exact h.ne e

def WrPost (w : World) (gl gr d r q : Nat) (w1 : World) : Prop := ∃ P S X R : Int,
      w1.cell? ⟨gr, 1, none⟩ = some (.int .i64 P) ∧ w1.cell? ⟨gr, 2, none⟩ = some (.int .u64 S) ∧ w1.cell? ⟨gr, 3, none⟩ = some (.int .i64 X) ∧ ∀ V, Below w1.heap.size w1 V → WlI w gl gr d r (q + 1) V ∧
        (Calls Try.prog 13 #[ptrV gl] V fun e w' => e = .returned (.int .i64 P) ∧ V = w') ∧ (Calls Try.prog 14 #[ptrV gl] V fun e w' => e = .returned (.int .u64 S) ∧ V = w') ∧
        (Calls Try.prog 15 #[ptrV gl] V fun e w' => e = .returned (.int .i64 X) ∧ V = w') ∧ (Calls Try.prog 18 #[ptrV gl] V fun e w' => e = .returned (.int .i64 R) ∧ V = w') ∧
        (Calls Try.prog 31 #[ptrV gr] V fun e w' => e = .returned (.int .i64 R) ∧ V = w')
theorem WlSt.post {w W : World} {F G : Nat → Prop} {gl gr d r q : Nat} {s : DS} {l : LS} (h : WlSt w W F G gl gr d r s l) (hP : WlP (q + 1) s l) : WrPost w gl gr d r q W := by
  have q1 := blk_cell h.rl 1
  have q2 := blk_cell h.rl 2
  have q3 := blk_cell h.rl 3
  refine ⟨(l.pos : Nat), (l.seq : Nat), (l.next : Nat), ((15 - l.pos % 16 : Nat) : Int), q1, q2, q3, fun V hV => ?_⟩
  have h2 := h.below hV
  exact ⟨⟨F, G, s, l, h2, hP⟩, at_any h2.lg, seq_any h2.lg, next_any h2.lg, lroom_any h2.lg, rlroom_any h2.rl⟩

theorem does15_any {w W : World} {gl gr d r q : Nat} (hI : WlI w gl gr d r q W) (hq : q ≤ 1000) (kind N : Int) (cp n c : Nat) (A : Option Addr) (en sy : Bool) (hk : -9223372036854775808 ≤ kind ∧ kind ≤ 9223372036854775807) (hN : -9223372036854775808 ≤ N ∧ N ≤ 9223372036854775807) (hcp : cp < 18446744073709551616) (hnc : n ≤ c) (hc : c ≤ maxLen) (hT : ItT w A n c) :
    Calls Try.prog 30 #[ptrV gl, ptrV gr, ptrV d, .agg #[.int .i64 kind, .int .i64 N, .int .u64 cp, .slice A n c, .bool en, .bool sy]] W fun e w1 => e = .returned (.bool true) ∧ WrPost w gl gr d r q w1 := by
  obtain ⟨F, G, s, l, hL0, hP⟩ := hI
  obtain ⟨W1, hW1⟩ : ∃ W1, W1 = W.alloc (.cells #[.int .i64 kind, .int .i64 N, .int .u64 cp, .slice A n c, .bool en, .bool sy] 67) := ⟨_, rfl⟩
  have hb1 : Below W.heap.size W W1 := by rw [hW1]; exact (Below.refl _ _).alloc (Nat.le_refl _) _
  have hx1 : W.heap.size < W1.heap.size := by rw [hW1]; simp
  have hL := hL0.below hb1
  have hsl : s.safe.length = s.now.length := hP.inv.ok.len
  have hlen := hP.len
  have hops := hP.ops
  have hloo := hP.loose
  have hf0 := hL0.f
  have hg0 := hL0.g
  have hl0 := hL0.l0
  have hr0 := hL0.r0
  obtain ⟨its, t1, t2, t3, t4, _⟩ := hT.take (show min n 20 ≤ n by omega)
  refine does15_core gl gr d r n c (min n 20) (pk kind 5) A kind N cp en sy W W1 hW1 _ (fun V => pick15_any kind 5 (by omega) (by decide) (by decide) V) (fun V => cut_any A n c _ (by unfold maxLen at hc; omega) hnc rfl V) ?_ ?_ ?_
  · intro _ k
    have hk0 := hL.below (below_drewN (Below.refl W1.heap.size W1) k)
    refine (setnext_any hk0.dk hk0.lg (by omega) N hN).mono ?_
    rintro e w1 ⟨rfl, hlg, hf⟩
    refine ⟨_, rfl, hf.block _ hx1 (by omega), ?_⟩
    refine (rsetnext_any (hk0.rk.kept hf (fun k hk e => hL.n3 (e ▸ hk))) (hf.get (fun e => hL.ne e.symm) hk0.rl) (by omega) N hN).mono ?_
    rintro e w2 ⟨rfl, hrl, hf2⟩
    rw [hsl] at hrl ⊢
    refine ⟨rfl, WlSt.post (hk0.turn (hf.mono (fun _ e => .inr e)) (hk0.dk.kept hf (fun k hk e => hL.n1 (e ▸ hk))) (fun k hk => .inl hk) hlg (hf2.mono (fun _ e => .inr e)) ((hk0.rk.kept hf (fun k hk e => hL.n3 (e ▸ hk))).kept hf2 (fun k hk e => hL.n4 (e ▸ hk))) (fun k hk => .inl hk) hrl) ⟨hP.inv, hP.len, snL_ok hP.ok N, by omega, by omega⟩⟩
  · intro _
    refine (cutat_dsk hL.dk N).mono ?_
    rintro e w1 ⟨rfl, F', hD, hF', hf⟩
    refine ⟨rfl, hf.block _ hx1 (fun h => by have := hf0 _ h; omega), blk_cell (hf.get hL.n2 hL.rl) 0, fun k => ?_⟩
    have hbk := below_drewN (Below.refl w1.heap.size w1) k
    have hfk : Fr (fun _ => False) w1 (w1.drewN k) := Fr.new hbk _
    refine (rcutat_dsk ((hL.rk.kept hf (fun k hk e => hL.fg k e hk)).kept hfk (fun _ _ => id)) N).mono ?_
    rintro e w2 ⟨rfl, G', hR, hG', hf2⟩
    refine ⟨rfl, WlSt.post (hL.turn (hf.mono (fun _ e => .inl e)) hD hF' (hf.get hL.n1 hL.lg) ((hfk.mono (fun _ h => h.elim)).trans (hf2.mono (fun _ e => .inl e))) hR hG' (hf2.get hL.n4 (hfk.get id (hf.get hL.n2 hL.rl)))) ⟨hP.inv.cut _ _, hP.len, hP.ok, ?_, ?_⟩⟩
    · show s.ops ≤ _
      omega
    · show s.loose.length ≤ _
      omega
  · intro _ _ k
    have hk0 := hL.below (below_drewN (Below.refl W1.heap.size W1) k)
    have hws := hk0.b.size
    have hrd : Rd (· < w.heap.size) (W1.drewN k) 5 A (min n 20) (itC its) := t2.kept (Fr.of_below hk0.b) (fun k hk => by omega)
    refine (lwrite_any hk0.dk (fun k hk => (hk0.f k hk).2) hL.n1 hk0.lg hP.ok hP.inv (by omega) (by omega) its t1 (hrd.mono (fun k hk => by omega)) (by omega) t3 t4 cp hcp en sy).mono ?_
    rintro e w1 ⟨A1, c1, rfl, hc1, hra1, hl1, ⟨F1, hD1, hF1⟩, hf1⟩
    have hs1 := hf1.size
    have hsk : (W1.drewN k).heap.size = W1.heap.size := rfl
    refine ⟨A1, _, c1, _, rfl, hf1.block _ hx1 (fun h => by
      rcases h with h | h
      · have := hf0 _ h; omega
      · omega), fun k2 => ?_⟩
    have hbk := below_drewN (Below.refl w1.heap.size w1) k2
    have hfk : Fr (fun _ => False) w1 (w1.drewN k2) := Fr.new hbk _
    have hrk := (hk0.rk.kept hf1 (fun k hk e => by
      rcases e with e | e
      · exact hL.fg k e hk
      · exact hL.n3 (e ▸ hk))).kept hfk (fun _ _ => id)
    have hrl := hfk.get id (hf1.get (fun e => by
      rcases e with e | e
      · exact hL.n2 e
      · exact hL.ne e.symm) hk0.rl)
    have hrd1 : Rd (· < w.heap.size) (w1.drewN k2) 5 A (min n 20) (itC its) := (hrd.kept hf1 (fun k hk e => by
      rcases e with e | e
      · have := hf0 k e; omega
      · omega)).kept hfk (fun _ _ => id)
    have hsk2 : (w1.drewN k2).heap.size = w1.heap.size := rfl
    refine (rwrite15_any (B := w.heap.size) hrk (fun k hk => by have := hk0.g k hk; omega) hL.n4 hrl (by omega) hP.ok hP.inv (by omega) (by omega) its t1 hrd1 (by omega) t3 cp hcp en sy).mono ?_
    rintro e w2 ⟨A2, c2, rfl, hc2, hra2, hl2, ⟨G1, hR2, hG1⟩, hf2⟩
    have hs2 := hf2.size
    refine ⟨A2, c2, rfl, ?_⟩
    have hra1' := (hra1.kept hfk (fun _ _ => id)).kept hf2 (fun k hk e => by
      rcases e with e | e
      · have := hk0.g k e; omega
      · omega)
    obtain ⟨i1, i2, i3, i4, i5⟩ := lwrite_inv hP.inv hP.ok cp its en sy
    have hal : (lwrite l s cp its en sy).at_.length ≤ 1073741824 := by
      unfold lwrite
      split
      · exact Nat.zero_le _
      · split
        · split
          · dsimp only
            rw [List.length_map, List.length_range]
            omega
          · exact Nat.zero_le _
        · exact Nat.zero_le _
    refine (sints_any _ _ A1 A2 _ c1 c2 _ (fun x hx => by
      obtain ⟨i, _, rfl⟩ := List.mem_map.1 hx
      exact ⟨_, rfl⟩) w2 hra1' hra2 hal).mono ?_
    rintro e w3 ⟨rfl, nq, rfl⟩
    refine ⟨rfl, WlSt.post ((hk0.turn hf1 hD1 hF1 hl1 ((hfk.mono (fun _ h => h.elim)).trans hf2) hR2 hG1 hl2).below (below_drewN (Below.refl _ _) nq)) ⟨i1, i2.trans hP.len, by rw [i2]; exact i3, by omega, by omega⟩⟩

theorem wrh_new (w : World) (p : Int) (sq : Nat) (nx : Int) (hp : -9223372036854775808 ≤ p ∧ p ≤ 9223372036854775807) (hq : sq < 18446744073709551616) (hx : -9223372036854775808 ≤ nx ∧ nx ≤ 9223372036854775807) (W : World) (hw : Below w.heap.size w W) :
    Calls Try.prog 10 #[.int .i64 128] W fun e w2 => ∃ d, e = .returned (.tuple #[ptrV d, .int .i64 0]) ∧ Calls Try.prog 28 #[.int .i64 128] w2 fun e w3 => ∃ r, e = .returned (.tuple #[ptrV r, .int .i64 0]) ∧
    Calls Try.prog 11 #[ptrV d, .int .i64 p, .int .u64 sq, .int .i64 nx] w3 fun e w4 =>
      (e = .returned (.tuple #[.pointer none, .int .i64 151]) ∧ Calls Try.prog 29 #[ptrV r, .int .i64 p, .int .u64 sq, .int .i64 nx] w4 fun e w5 => e = .returned (.tuple #[.pointer none, .int .i64 151]) ∧ Below w.heap.size w w5) ∨
      (∃ gl, e = .returned (.tuple #[ptrV gl, .int .i64 0]) ∧ Calls Try.prog 29 #[ptrV r, .int .i64 p, .int .u64 sq, .int .i64 nx] w4 fun e w5 => ∃ gr, e = .returned (.tuple #[ptrV gr, .int .i64 0]) ∧ WlI w gl gr d r 0 w5) := by
  have hl0 : (freshDS (List.replicate 128 zero)).now.length = 128 := zeros_len 128
  have hi0 : DInv (freshDS (List.replicate 128 zero)) := zeros_inv 128 (by decide) (by decide)
  have hws := hw.size
  refine (new_ok 128 W (by decide)).mono ?_
  rintro e w2 ⟨d, rfl, hD2, _, hb2⟩
  have hs2 := hb2.size
  refine ⟨d, rfl, ?_⟩
  refine (rnew_ok 128 w2 (by decide)).mono ?_
  rintro e w3 ⟨r, rfl, hR3, hb3⟩
  have hs3 := hb3.size
  refine ⟨r, rfl, ?_⟩
  have ho0 : (freshDS (List.replicate 128 zero)).ops = 0 := rfl
  have hlo0 : (freshDS (List.replicate 128 zero)).loose.length = 0 := rfl
  have hD2' : Dsk w2 (fun k => W.heap.size ≤ k ∧ k < w2.heap.size) d (freshDS (List.replicate 128 zero)) := hD2
  have hR3' : RDsk w3 (fun k => w2.heap.size ≤ k ∧ k < w3.heap.size) r (freshDS (List.replicate 128 zero)) := hR3
  clear hD2 hR3
  generalize freshDS (List.replicate 128 zero) = S at *
  have hsl : S.safe.length = 128 := hi0.ok.len.trans hl0
  have hD3 := hD2'.kept (Fr.new hb3 (fun _ => False)) (fun _ _ => id)
  refine (begin_any hD3 (by omega) p sq nx hp hq hx).mono ?_
  rintro e w4 hb
  rw [hl0] at hb
  rcases hb with ⟨hbb, rfl, hlg4, hb4, hz4⟩ | ⟨hbb, rfl, rfl⟩
  · have hs4 := hb4.size
    refine .inr ⟨_, rfl, ?_⟩
    have hR4 := hR3'.kept (Fr.new hb4 (fun _ => False)) (fun _ _ => id)
    refine (rbegin_any hR4 (by omega) p sq nx hp hq hx).mono ?_
    rintro e w5 hb
    rw [hsl] at hb
    rcases hb with ⟨_, rfl, hlg5, hb5, hz5⟩ | ⟨hb, _⟩
    case inr => rw [hbb] at hb; cases hb
    have hs5 := hb5.size
    have hlok : LOk S.now.length (beginL p sq nx) := by rw [hl0]; exact beginL_ok (by decide) (by decide) hbb
    refine ⟨_, rfl, _, _, S, beginL p sq nx, ⟨?_, ?_, ?_, ?_, ⟨by omega, by omega⟩, ⟨by omega, by omega⟩, ?_, ?_, ?_, ?_, by omega, (hD3.kept (Fr.new hb4 (fun _ => False)) (fun _ _ => id)).kept (Fr.new hb5 (fun _ => False)) (fun _ _ => id), hR4.kept (Fr.new hb5 (fun _ => False)) (fun _ _ => id), ?_, hlg5⟩, ⟨hi0, hl0, hlok, by omega, by omega⟩⟩
    · exact (((hw.trans (hb2.mono hws)).trans (hb3.mono (by omega))).trans (hb4.mono (by omega))).trans (hb5.mono (by omega))
    · intro k hk; omega
    · intro k hk; omega
    · intro k hk hk2; omega
    · intro h; omega
    · intro h; omega
    · intro h; omega
    · intro h; omega
    · exact (hb5.block _ (by omega)).trans hlg4
  · refine .inl ⟨rfl, ?_⟩
    refine (rbegin_any hR3' (by omega) p sq nx hp hq hx).mono ?_
    rintro e w5 hb
    rw [hsl] at hb
    rcases hb with ⟨hb, _⟩ | ⟨_, rfl, rfl⟩
    · rw [hbb] at hb; cases hb
    · exact ⟨rfl, (hw.trans (hb2.mono hws)).trans (hb3.mono (by omega))⟩

theorem wrh_end (w : World) (gl gr d r q : Nat) (W : World) (hq : q ≤ 1000) (h : WlI w gl gr d r q W) : ∃ (N : Int) (AL : Option Addr) (nL cL : Nat), W.cell? ⟨r, 2, none⟩ = some (.int .i64 N) ∧ W.cell? ⟨r, 1, none⟩ = some (.slice AL nL cL) ∧ ∀ k, Calls Try.prog 27 #[ptrV d] (W.drewN k) fun e w1 => Below W.heap.size W w1 ∧ ∃ v, e = .returned v ∧
    Calls Try.prog 32 #[ptrV r] w1 fun e w2 => Below W.heap.size W w2 ∧ ∃ v2, e = .returned v2 ∧ Calls Try.prog 26 #[v, v2] w2 fun e w3 => e = .returned (.bool true) ∧ Below W.heap.size W w3 ∧
      (Calls Try.prog 16 #[ptrV d] w3 fun e w' => e = .returned (.int .i64 N) ∧ w3 = w') ∧ (Calls Try.prog 33 #[ptrV d] w3 fun e w' => e = .returned (.int .i64 nL) ∧ w3 = w') := by
  obtain ⟨F, G, s, l, hL, hP⟩ := h
  have hln := hP.len
  have hlo := hP.loose
  have hi := hP.inv
  obtain ⟨bb, bc, L, hrd, _, hrl, _⟩ := id hL.rk
  obtain ⟨A2, c2, rfl, _⟩ := Rd.lt_own hrl
  have k1 := blk_cell hrd 1
  have k2 := blk_cell hrd 2
  simp [rcells] at k1 k2
  refine ⟨(s.ops : Nat), A2, s.loose.length, c2, k2, k1, fun k => ?_⟩
  have hb0 := below_drewN (Below.refl W.heap.size W) k
  have hL0 := hL.below hb0
  refine (image_dsk hL0.dk (by omega)).mono ?_
  rintro e w1 ⟨v, rfl, hown1, hb1⟩
  have hB1 : Below W.heap.size W w1 := hb0.trans hb1
  refine ⟨hB1, v, rfl, ?_⟩
  have hL1 := hL.below hB1
  have hrim := rimage_dsk hL1.rk (fun x hx => by rw [hi.ok.len]; exact (hi.ok.loose x hx).1) (by rw [hi.ok.len]; omega) (by omega)
  rw [← hi.set, hi.ok.len] at hrim
  refine hrim.mono ?_
  rintro e w2 ⟨g, gc, rfl, hg, hown2, hb2⟩
  have hB2 : Below W.heap.size W w2 := hB1.trans (hb2.mono hB1.size)
  refine ⟨hB2, _, rfl, ?_⟩
  obtain ⟨A3, c3, rfl, hrd1⟩ := Rd.lt_own (own_base hown1 (Nat.zero_le _))
  obtain ⟨A5, c5, ev, hrd5⟩ := Rd.lt_own (own_base hown2 (Nat.zero_le _))
  simp only [Value.slice.injEq, true_and] at ev
  obtain ⟨rfl, rfl⟩ := ev
  refine (same_any _ _ A3 (some ⟨g, 0, none⟩) _ c3 gc s.now w2 (hrd1.kept (Fr.new hb2 (fun _ => False)) (fun _ _ => id)) hrd5 (by omega)).mono ?_
  rintro e w3 ⟨rfl, nq, rfl⟩
  have hB3 : Below W.heap.size W (w2.drewN nq) := below_drewN hB2 nq
  have hL3 := hL.below hB3
  exact ⟨rfl, hB3, ops_dsk hL3.dk, loose_dsk hL3.dk⟩

/-- Calls in memory, as they are given. -/
def LopsT (w : World) (A : Option Addr) (n : Nat) : Prop := ∀ q, q < n → ∃ (ad : Addr) (kind N : Int) (cp : Nat) (A1 : Option Addr) (n1 c1 : Nat) (en sy : Bool), A = some ad ∧ w.cell? (ad.add (q * 6)) = some (.int .i64 kind) ∧ w.cell? ⟨(ad.add (q * 6)).block, (ad.add (q * 6)).off + 1, none⟩ = some (.int .i64 N) ∧ w.cell? ⟨(ad.add (q * 6)).block, (ad.add (q * 6)).off + 2, none⟩ = some (.int .u64 cp) ∧
    w.cell? ⟨(ad.add (q * 6)).block, (ad.add (q * 6)).off + 3, none⟩ = some (.slice A1 n1 c1) ∧ w.cell? ⟨(ad.add (q * 6)).block, (ad.add (q * 6)).off + 4, none⟩ = some (.bool en) ∧ w.cell? ⟨(ad.add (q * 6)).block, (ad.add (q * 6)).off + 5, none⟩ = some (.bool sy) ∧
    (-9223372036854775808 ≤ kind ∧ kind ≤ 9223372036854775807) ∧ (-9223372036854775808 ≤ N ∧ N ≤ 9223372036854775807) ∧ cp < 18446744073709551616 ∧ n1 ≤ c1 ∧ c1 ≤ maxLen ∧ ItT w A1 n1 c1

theorem writes_law (A : Option Addr) (n c0 : Nat) (p sq nx : Int) (hp : -9223372036854775808 ≤ p ∧ p ≤ 9223372036854775807) (hq : 0 ≤ sq ∧ sq ≤ 18446744073709551615) (hx : -9223372036854775808 ≤ nx ∧ nx ≤ 9223372036854775807) (w : World) (hn : n ≤ maxLen) (hO : LopsT w A n) :
    Calls Try.prog 7 #[.int .i64 p, .int .u64 sq, .int .i64 nx, .slice A n c0] w fun e w' => e = .returned (.bool true) ∧ Below w.heap.size w w' := by
  obtain ⟨s, rfl⟩ : ∃ s : Nat, sq = (s : Int) := ⟨sq.toNat, by omega⟩
  refine writes_core A n c0 (min n 40) p s nx w (fun gl gr d r q W => q ≤ 1000 ∧ WlI w gl gr d r q W) ⟨?_, ?_, ?_, ?_⟩ (by unfold maxLen at hn; omega) rfl
  · intro W hW
    refine (wrh_new w p s nx hp (by omega) hx W hW).mono fun e w2 ⟨d, h1, h2⟩ => ⟨d, h1, h2.mono fun e w3 ⟨r, h3, h4⟩ => ⟨r, h3, h4.mono fun e w4 h5 => ?_⟩⟩
    rcases h5 with h5 | ⟨gl, h5, h6⟩
    · exact .inl h5
    · exact .inr ⟨gl, h5, h6.mono fun e w5 ⟨gr, h7, h8⟩ => ⟨gr, h7, Nat.zero_le _, h8⟩⟩
  · rintro gl gr d r q W ⟨_, F, G, s', l, h, _⟩
    exact h.b
  · rintro gl gr d r q W hq40 hqn ⟨hq1, hI⟩
    obtain ⟨ad, kind, N, cp, A1, n1, c1, en, sy, rfl, e0, e1, e2, e3, e4, e5, hk, hN, hcp, hnc, hc, hT⟩ := hO q hqn
    obtain ⟨F, G, s', l, hL, hP⟩ := id hI
    have tr : ∀ a v, w.cell? a = some v → W.cell? a = some v := fun a v h => (hL.b.cell (block_lt_of_cell h)).trans h
    refine ⟨ad, kind, N, cp, A1, n1, c1, en, sy, rfl, tr _ _ e0, tr _ _ e1, tr _ _ e2, tr _ _ e3, tr _ _ e4, tr _ _ e5, ?_⟩
    refine (does15_any hI hq1 kind N cp n1 c1 A1 en sy hk hN hcp hnc hc hT).mono ?_
    rintro e w1 ⟨rfl, P, S, X, R, h1, h2, h3, h4⟩
    exact ⟨rfl, P, S, X, R, h1, h2, h3, fun V hV => ⟨⟨by omega, (h4 V hV).1⟩, (h4 V hV).2⟩⟩
  · rintro gl gr d r q W ⟨hq1, hI⟩
    exact wrh_end w gl gr d r q W hq1 hI

set_option maxRecDepth 100000 in
theorem opn_lopsG {H : Type} {enc : TypeId × Value → H} {w : World} {t e : TypeId} {f0 f1 f2 f3 f4 f5 : Field} {v : Value} {d : DataW H} {p : List MemPlace} {r : Reach} {b0 : Nat} (ht : Try.prog.underlying t = some (.slice e)) (he : Try.prog.underlying e = some (.struct #[f0, f1, f2, f3, f4, f5])) (ce : Try.prog.cellsOf e = 6)
    (hl : (f0.offset, f1.offset, f2.offset, f3.offset, f4.offset, f5.offset) = (0, 1, 2, 3, 4, 5)) (hc : (Try.prog.cellsOf f0.type, Try.prog.cellsOf f1.type, Try.prog.cellsOf f2.type, Try.prog.cellsOf f3.type, Try.prog.cellsOf f4.type, Try.prog.cellsOf f5.type) = (1, 1, 1, 1, 1, 1))
    (u0 : Try.prog.underlying f0.type = some (.int .i64)) (u1 : Try.prog.underlying f1.type = some (.int .i64)) (u2 : Try.prog.underlying f2.type = some (.int .u64)) (h3 : f3.type = 37) (u4 : Try.prog.underlying f4.type = some .bool) (u5 : Try.prog.underlying f5.type = some .bool)
    (hv : Value.okWide Try.prog w r b0 t v) (h : DataW.Trod enc Try.prog w 0 (fun _ => true) true t v d p) :
    ∃ (A : Option Addr) (n c : Nat), v = .slice A n c ∧ n ≤ maxLen ∧ LopsT w A n := by
  obtain ⟨A, n, c, rfl⟩ := okWide_slice ht hv
  obtain ⟨fuel, hf⟩ := h
  simp only [Prod.mk.injEq] at hl hc
  obtain ⟨o0, o1, o2, o3, o4, o5⟩ := hl
  obtain ⟨c0, c1, c2, c3, c4, c5⟩ := hc
  rcases open_slice ht hf with ⟨h1, _⟩ | ⟨a, len, cap, m, n', D, Pl, h1, _, hl, hm, hmm, _, hx⟩
  · simp only [Value.cells, List.cons.injEq, Value.slice.injEq, and_true] at h1
    obtain ⟨rfl, rfl, rfl⟩ := h1
    exact ⟨none, 0, 0, rfl, by simp [maxLen], fun q hq => absurd hq (Nat.not_lt_zero _)⟩
  · simp only [Value.cells, List.cons.injEq, Value.slice.injEq, and_true] at h1
    obtain ⟨rfl, rfl, rfl⟩ := h1
    have hmc : m = c := by simpa using hmm
    subst hmc
    refine ⟨some a, n, m, rfl, Nat.le_trans hl hm, fun i hi => ?_⟩
    obtain ⟨cs', h1, h2⟩ := hx i (by omega)
    rw [ce] at h1
    obtain ⟨_, hlen, hcell⟩ := World.cells?_some h1
    obtain ⟨xs, kk, _, _, _, hxl, hfd⟩ := DataW.trod_struct he h2
    match xs, hxl, cs', hlen with
    | [y0, y1, y2, y3, y4, y5], _, [z0, z1, z2, z3, z4, z5], _ =>
      have g0 := hfd 0 f0 rfl
      have g1 := hfd 1 f1 rfl
      have g2 := hfd 2 f2 rfl
      have g3 := hfd 3 f3 rfl
      have g4 := hfd 4 f4 rfl
      have g5 := hfd 5 f5 rfl
      simp [o0, o1, o2, o3, o4, o5, c0, c1, c2, c3, c4, c5] at g0 g1 g2 g3 g4 g5
      obtain ⟨x0, e0, _, wf0⟩ := DataW.trod_int u0 g0
      obtain ⟨x1, e1, _, wf1⟩ := DataW.trod_int u1 g1
      obtain ⟨x2, e2, _, wf2⟩ := DataW.trod_int u2 g2
      rw [h3] at g3
      obtain ⟨Ar, nr, cr, e3, q1, q2, q3⟩ := opn_itemsT g3
      obtain ⟨x4, e4, _⟩ := DataW.trod_bool u4 g4
      obtain ⟨x5, e5, _⟩ := DataW.trod_bool u5 g5
      simp only [List.cons.injEq, and_true] at e0 e1 e2 e4 e5
      subst e0 e1 e2 e3 e4 e5
      obtain ⟨k2, rfl, b2⟩ := wf_natM (wf_u64 wf2)
      have cc : ∀ j u, j < 6 → ([Value.int .i64 x0, .int .i64 x1, .int .u64 k2, .slice Ar nr cr, .bool x4, .bool x5] : List Value)[j]? = some u → w.cell? ((a.add (i * 6)).add j) = some u := fun j u hj hu => by
        have := hcell j (by omega)
        rw [this]
        exact hu
      exact ⟨a, x0, x1, k2, Ar, nr, cr, x4, x5, rfl, cc 0 _ (by omega) rfl, cc 1 _ (by omega) rfl, cc 2 _ (by omega) rfl, cc 3 _ (by omega) rfl, cc 4 _ (by omega) rfl, cc 5 _ (by omega) rfl, wf_i64 wf0, wf_i64 wf1, by omega, q1, q2, q3⟩
set_option maxRecDepth 100000 in
theorem opn_lops {H : Type} {enc : TypeId × Value → H} {w : World} {v : Value} {d : DataW H} {p : List MemPlace} {r : Reach} {b0 : Nat} (hv : Value.okWide Try.prog w r b0 61 v) (h : DataW.Trod enc Try.prog w 0 (fun _ => true) true 61 v d p) :
    ∃ (A : Option Addr) (n c : Nat), v = .slice A n c ∧ n ≤ maxLen ∧ LopsT w A n :=
  opn_lopsG Try.underlying61 Try.underlying67 (by kernel_rfl) rfl (by kernel_rfl) Try.underlying3 Try.underlying3 Try.underlying22 rfl Try.underlying4 Try.underlying4 hv h
end Go.Proofs.Ytjmfeoenbncibaa

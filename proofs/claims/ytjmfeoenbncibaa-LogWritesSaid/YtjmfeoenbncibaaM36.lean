/- Texts of this proof, joined: Mg Mh. They hold under no condition beyond what each theorem states. -/
import Derived.Test.YtjmfeoenbncibaaM35
import Derived.Test.YtjmfeoenbncibaaM20
namespace Go.Proofs.Ytjmfeoenbncibaa
open Go.RowKit Go.Nau Go.Shelf

theorem goh_new (w W : World) (hw : Below w.heap.size w W) : Calls Try.prog 10 #[.int .i64 256] W fun e w2 => ∃ c, e = .returned (.tuple #[ptrV c, .int .i64 0]) ∧ Calls Try.prog 10 #[.int .i64 256] w2 fun e w3 => ∃ d, e = .returned (.tuple #[ptrV d, .int .i64 0]) ∧
    Calls Try.prog 11 #[ptrV c, .int .i64 16, .int .u64 1, .int .i64 2] w3 fun e w4 => ∃ ga, e = .returned (.tuple #[ptrV ga, .int .i64 0]) ∧ Calls Try.prog 11 #[ptrV d, .int .i64 16, .int .u64 1, .int .i64 2] w4 fun e w5 => ∃ gb, e = .returned (.tuple #[ptrV gb, .int .i64 0]) ∧ GoI w 2 c d ga 0 w5 gb := by
  have hl0 : (freshDS (List.replicate 256 zero)).now.length = 256 := zeros_len 256
  have hlo : LOk 256 shL := shL_ok 256 (by decide) (by decide) (by decide)
  have hi0 : DInv (freshDS (List.replicate 256 zero)) := zeros_inv 256 (by decide) (by decide)
  have hws := hw.size
  refine (new_ok 256 W (by decide)).mono ?_
  rintro e w2 ⟨c, rfl, hD2, _, hb2⟩
  have hs2 := hb2.size
  refine ⟨c, rfl, ?_⟩
  refine (new_ok 256 w2 (by decide)).mono ?_
  rintro e w3 ⟨d, rfl, hD3, _, hb3⟩
  have hs3 := hb3.size
  refine ⟨d, rfl, ?_⟩
  obtain ⟨S, hS⟩ : ∃ S, S = freshDS (List.replicate 256 zero) := ⟨_, rfl⟩
  have hD2' : Dsk w2 (fun k => W.heap.size ≤ k ∧ k < w2.heap.size) c S := by rw [hS]; exact hD2
  have hD3' : Dsk w3 (fun k => w2.heap.size ≤ k ∧ k < w3.heap.size) d S := by rw [hS]; exact hD3
  have hP : LgP 0 2 S shL 0 := by
    rw [← hS] at hl0 hi0
    refine ⟨hi0, hl0, hl0 ▸ hlo, ?_, ?_, ?_, chain_start _ _ (by decide), ?_, Nat.le_refl _, by decide, by decide⟩
    · rw [hS]; exact ⟨rfl, by decide⟩
    · rw [hS]; exact Nat.zero_le _
    · rw [hS]; exact Nat.zero_le _
    · rw [hS]; exact seqLt_zeros 256 1
  clear hS hD2 hD3 hi0
  rw [← show S.now.length = 256 from hP.len] at hl0
  have hD2'' := hD2'.kept (Fr.new hb3 (fun _ => False)) (fun _ _ => id)
  have hlS := hP.len
  refine (begin_any hD2'' (by omega) 16 1 2 (by decide) (by decide) (by decide)).mono ?_
  rintro e w4 hb
  rw [hlS] at hb
  rcases hb with ⟨_, rfl, hlg4, hb4, hz4⟩ | ⟨hb, _⟩
  case inr => exact absurd hb (by decide)
  have hs4 := hb4.size
  refine ⟨_, rfl, ?_⟩
  have hD3'' := hD3'.kept (Fr.new hb4 (fun _ => False)) (fun _ _ => id)
  refine (begin_any hD3'' (by omega) 16 1 2 (by decide) (by decide) (by decide)).mono ?_
  rintro e w5 hb
  rw [hlS] at hb
  rcases hb with ⟨_, rfl, hlg5, hb5, hz5⟩ | ⟨hb, _⟩
  case inr => exact absurd hb (by decide)
  have hs5 := hb5.size
  refine ⟨_, rfl, _, _, S, shL, 0, ⟨?_, ?_, ?_, ?_, ⟨by omega, by omega⟩, ⟨by omega, by omega⟩, ?_, ?_, ?_, ?_, by omega, (hD2''.kept (Fr.new hb4 (fun _ => False)) (fun _ _ => id)).kept (Fr.new hb5 (fun _ => False)) (fun _ _ => id), hD3''.kept (Fr.new hb5 (fun _ => False)) (fun _ _ => id), ?_, hlg5⟩, hP⟩
  · exact (((hw.trans (hb2.mono hws)).trans (hb3.mono (by omega))).trans (hb4.mono (by omega))).trans (hb5.mono (by omega))
  · intro k hk; omega
  · intro k hk; omega
  · intro k hk hk2; omega
  · intro h; omega
  · intro h; omega
  · intro h; omega
  · intro h; omega
  · exact (hb5.block _ (by omega)).trans hlg4

theorem goh_scan (w : World) (c d ga q : Nat) (W : World) (gb : Nat) (h : GoI w 2 c d ga q W gb) : Calls Try.prog 12 #[ptrV d, .int .i64 16, .int .u64 1, .int .i64 2] W fun e w1 => ∃ (A1 : Option Addr) (k c1 g : Nat) (P S X : Int), e = .returned (.tuple #[.slice A1 k c1, ptrV g, .int .i64 0]) ∧ ¬ ((q : Int) < (k : Int)) ∧
    (Calls Try.prog 13 #[ptrV g] w1 fun e w' => e = .returned (.int .i64 P) ∧ w1 = w') ∧ (Calls Try.prog 13 #[ptrV gb] w1 fun e w' => e = .returned (.int .i64 P) ∧ w1 = w') ∧
    (Calls Try.prog 14 #[ptrV g] w1 fun e w' => e = .returned (.int .u64 S) ∧ w1 = w') ∧ (Calls Try.prog 14 #[ptrV gb] w1 fun e w' => e = .returned (.int .u64 S) ∧ w1 = w') ∧
    (Calls Try.prog 15 #[ptrV gb] w1 fun e w' => e = .returned (.int .i64 X) ∧ w1 = w') ∧ ((X = 0 ∧ GoI w 2 c d ga q w1 g) ∨ ((X != 0) = true ∧
      Calls Try.prog 19 #[ptrV g, .int .i64 X] w1 fun e w2 => (∃ r, e = .returned (.int .i64 r)) ∧ GoI w 2 c d ga q w2 g)) := by
  obtain ⟨F1, F2, s, l, k, hL, hP⟩ := h
  refine (hP.scan hL.d2 (fun k hk => (hL.f2 k hk).2)).mono ?_
  rintro e w1 ⟨v, rfl, hfr, hlg, hb1⟩
  obtain ⟨A1, c1, xs, rfl, _⟩ := hfr.rd
  rw [fndL_length]
  have hL1 := hL.below hb1
  have hs1 := hb1.size
  have e1 := hP.chain.pos
  have e2 := hP.chain.seq
  have hlen := (Array.getElem?_eq_some_iff.1 hlg).1
  have a1 := at_any hlg
  have a2 := seq_any hlg
  rw [e1] at a1
  rw [e2] at a2
  have hb0 := hL.b0
  have ha0 := hL.a0
  have hbs := hL.b.size
  refine ⟨A1, k, c1, W.heap.size, (l.pos : Int), (l.seq : Int), (l.next : Int), rfl, by have := hP.kq; omega, a1, at_any hL1.lb, a2, seq_any hL1.lb, next_any hL1.lb, ?_⟩
  have n1 : ¬ F1 W.heap.size := fun h => by have := hL.f1 _ h; omega
  have n2 : ¬ F2 W.heap.size := fun h => by have := hL.f2 _ h; omega
  by_cases h0 : l.next = 0
  · refine .inl ⟨by omega, F1, F2, s, l, k, ⟨hL1.b, hL1.f1, hL1.f2, hL1.f12, hL1.a0, ⟨by omega, hlen⟩, hL1.a1, hL1.a2, n1, n2, by omega, hL1.d1, hL1.d2, hL1.la, ?_⟩, hP⟩
    rw [← hP.state h0]
    exact hlg
  · have hsb : segB s.now.length (l.next : Int) = true := by
      rcases hP.ok.next with h | h
      · exact absurd h h0
      · exact h
    have hsb2 := segB_iff.1 hsb
    rw [hP.len] at hsb2
    refine .inr ⟨by simp; exact h0, ?_⟩
    refine (setnext_any hL1.d2 hlg (by rw [hP.len]; decide) (l.next : Int) (by omega)).mono ?_
    rintro e w2 ⟨rfl, hlg2, hf2⟩
    have hs2 := hf2.size
    refine ⟨⟨_, rfl⟩, F1, F2, s, l, k, ⟨hL1.b.trans (hf2.below hL1.b.size (fun k hk => by omega)), fun k hk => by have := hL1.f1 k hk; omega, fun k hk => by have := hL1.f2 k hk; omega, hL1.f12, ⟨ha0.1, by omega⟩, ⟨by omega, by omega⟩, hL1.a1, hL1.a2, n1, n2, by omega, hL1.d1.kept hf2 (fun k hk e => n1 (e ▸ hk)), hL1.d2.kept hf2 (fun k hk e => n2 (e ▸ hk)), hf2.get (by omega) hL1.la, ?_⟩, hP⟩
    have : snL s.now.length (stL s.now shL k) l.next = l := by
      unfold snL
      rw [if_pos hsb]
      generalize stL s.now shL k = x at *
      obtain ⟨a, b, c⟩ := x
      obtain ⟨a', b', c'⟩ := l
      dsimp only at e1 e2
      subst e1 e2
      simp
    rw [this] at hlg2
    exact hlg2

theorem LgSt.turn {w W W' : World} {F1 F2 G : Nat → Prop} {c d ga gb : Nat} {s : DS} {l l' : LS} (h : LgSt w W F1 F2 c d ga gb s l) (hf : Fr (fun k => k = ga ∨ k = gb) W W') (ha : Lg W' ga c l') (hb : Lg W' gb d l') : LgSt w W' F1 F2 c d ga gb s l' := by
  have hs := hf.size
  have ha0 := h.a0
  have hb0 := h.b0
  refine ⟨h.b.trans (hf.below h.b.size (fun k hk => by rcases hk with rfl | rfl <;> omega)), fun k hk => by have := h.f1 k hk; omega, fun k hk => by have := h.f2 k hk; omega, h.f12, by omega, by omega, h.a1, h.a2, h.b1, h.b2, h.ab, h.d1.kept hf (fun k hk e => ?_), h.d2.kept hf (fun k hk e => ?_), ha, hb⟩
  · rcases e with rfl | rfl
    · exact h.a1 hk
    · exact h.b1 hk
  · rcases e with rfl | rfl
    · exact h.a2 hk
    · exact h.b2 hk

theorem goh_next (w : World) (c d ga q : Nat) (W : World) (gb : Nat) (hq : q < 6) (h : GoI w 2 c d ga q W gb) : ∃ X : Int, (Calls Try.prog 15 #[ptrV ga] W fun e w' => e = .returned (.int .i64 X) ∧ W = w') ∧
    ((X = 0 ∧ Calls Try.prog 19 #[ptrV ga, .int .i64 (3 + (q : Int))] W fun e w1 => (∃ r, e = .returned (.int .i64 r)) ∧ (Calls Try.prog 15 #[ptrV gb] w1 fun e w' => e = .returned (.int .i64 0) ∧ w1 = w') ∧
      Calls Try.prog 19 #[ptrV gb, .int .i64 (3 + (q : Int))] w1 fun e w2 => (∃ r, e = .returned (.int .i64 r)) ∧ GoI w 3 c d ga q w2 gb) ∨
     ((X == 0) = false ∧ (Calls Try.prog 15 #[ptrV gb] W fun e w' => e = .returned (.int .i64 X) ∧ W = w') ∧ GoI w 3 c d ga q W gb)) := by
  obtain ⟨F1, F2, s, l, k, hL, hP⟩ := h
  refine ⟨(l.next : Int), next_any hL.la, ?_⟩
  by_cases h0 : l.next = 0
  · refine .inl ⟨by omega, ?_⟩
    obtain ⟨hP2, he⟩ := hP.setNext (n := 3 + q) (by omega) (by omega)
    have hci : (3 + (q : Int)) = ((3 + q : Nat) : Int) := by omega
    rw [hci]
    refine (setnext_any hL.d1 hL.la (by rw [hP.len]; decide) ((3 + q : Nat) : Int) (by omega)).mono ?_
    rintro e w1 ⟨rfl, hlg1, hf1⟩
    refine ⟨⟨_, rfl⟩, ?_, ?_⟩
    · have := next_any (hf1.get (fun e => hL.ab e.symm) hL.lb)
      rw [h0] at this
      exact this
    refine (setnext_any (hL.d2.kept hf1 (fun k hk e => hL.a2 (e ▸ hk))) (hf1.get (fun e => hL.ab e.symm) hL.lb) (by rw [hP.len]; decide) ((3 + q : Nat) : Int) (by omega)).mono ?_
    rintro e w2 ⟨rfl, hlg2, hf2⟩
    exact ⟨⟨_, rfl⟩, F1, F2, s, _, k, hL.turn (G := F1) ((hf1.mono (fun _ e => .inl e)).trans (hf2.mono (fun _ e => .inr e))) (hf2.get hL.ab hlg1) hlg2, hP2⟩
  · exact .inr ⟨by simp; exact h0, next_any hL.lb, F1, F2, s, l, k, hL, hP.more (Nat.le_refl _) (by omega)⟩

theorem goh_room (w : World) (c d ga q : Nat) (W : World) (gb : Nat) (h : GoI w 3 c d ga q W gb) : ∃ R : Nat, Calls Try.prog 18 #[ptrV ga] W fun e w' => e = .returned (.int .i64 R) ∧ W = w' := by
  obtain ⟨F1, F2, s, l, k, hL, hP⟩ := h
  exact ⟨_, lroom_any hL.la⟩

theorem goh_write (w : World) (c d ga q : Nat) (W : World) (gb : Nat) (hq : q ≤ 1000) (h : GoI w 3 c d ga q W gb) : ∀ A m1 cr m2 sy, (ItT w A m1 cr ∧ m1 ≤ 20) → m2 ≤ m1 → Calls Try.prog 17 #[ptrV ga, .int .u64 2, .slice A m2 cr, .bool false, .bool sy] W fun e w1 => ∃ (A1 : Option Addr) (n1 c1 : Nat) (E : Int), e = .returned (.tuple #[.slice A1 n1 c1, .int .i64 E]) ∧
    Calls Try.prog 17 #[ptrV gb, .int .u64 2, .slice A m2 cr, .bool false, .bool sy] w1 fun e w2 => ∃ (A2 : Option Addr) (c2 : Nat), e = .returned (.tuple #[.slice A2 n1 c2, .int .i64 E]) ∧
      Calls Try.prog 25 #[.slice A1 n1 c1, .slice A2 n1 c2] w2 fun e w3 => e = .returned (.bool true) ∧ GoI w 2 c d ga (q + 1) w3 gb := by
  obtain ⟨F1, F2, s, l, k, hL, hP⟩ := h
  intro A m1 cr m2 sy ⟨hT, h20⟩ hm
  obtain ⟨its, h1, h2, h3, h4, _⟩ := hT.take hm
  have hws := hL.b.size
  have hrd : Rd (· < W.heap.size) W 5 A m2 (itC its) := (h2.kept (Fr.of_below hL.b) (fun k hk => by omega)).mono (fun k hk => by omega)
  have hops := hP.ops
  have hloo := hP.loose
  refine (lwrite_any hL.d1 (fun k hk => (hL.f1 k hk).2) hL.a1 hL.la hP.ok hP.inv (by omega) (by omega) its h1 hrd (by omega) h3 h4 2 (by decide) false sy).mono ?_
  rintro e w1 ⟨A1, c1, rfl, hc1, hra1, hl1, ⟨F1', hD1, hF1⟩, hf1⟩
  have hs1 := hf1.size
  have ha0 := hL.a0
  have hb0 := hL.b0
  refine ⟨A1, _, c1, _, rfl, ?_⟩
  have hd2 := hL.d2.kept hf1 (fun k hk e => by
    rcases e with e | e
    · exact hL.f12 k e hk
    · exact hL.a2 (e ▸ hk))
  have hlb := hf1.get (fun e => by
    rcases e with e | e
    · exact hL.b1 e
    · exact hL.ab e.symm) hL.lb
  have hrd1 : Rd (· < w1.heap.size) w1 5 A m2 (itC its) := by
    refine ((h2.kept (Fr.of_below hL.b) (fun k hk => by omega)).kept hf1 (fun k hk e => ?_)).mono (fun k hk => by omega)
    rcases e with e | e
    · have := hL.f1 k e; omega
    · omega
  refine (lwrite_any hd2 (fun k hk => by have := hL.f2 k hk; omega) hL.b2 hlb hP.ok hP.inv (by omega) (by omega) its h1 hrd1 (by omega) h3 h4 2 (by decide) false sy).mono ?_
  rintro e w2 ⟨A2, c2, rfl, hc2, hra2, hl2, ⟨F2', hD2, hF2⟩, hf2⟩
  have hs2 := hf2.size
  refine ⟨A2, c2, rfl, ?_⟩
  have hra1' := hra1.kept hf2 (fun k hk e => by
    rcases e with e | e
    · have := hL.f2 k e; omega
    · omega)
  have hal : (lwrite l s 2 its false sy).at_.length ≤ 1073741824 := by
    obtain ⟨_, n2⟩ := nocut_lwrite hP.cut hP.ok 2 its false sy
    rcases n2 with he | ⟨_, _, he⟩
    · obtain ⟨_, w2, _, _, _, _, _, w8⟩ := lwrite_ok he
      rw [w8, List.length_map, List.length_range]
      omega
    · rw [he]
      decide
  refine (sints_any _ _ A1 A2 _ c1 c2 _ (fun x hx => by
    obtain ⟨i, _, rfl⟩ := List.mem_map.1 hx
    exact ⟨_, rfl⟩) w2 hra1' hra2 hal).mono ?_
  rintro e w3 ⟨rfl, nq, rfl⟩
  refine ⟨rfl, ?_⟩
  obtain ⟨k', hP'⟩ := hP.write (cp := 2) (by decide) h3 false sy
  have hfd := Fr.drewN (fun _ => False) w2 nq
  have hsd := hfd.size
  have hD1' : Dsk w2 F1' c (lwrite l s 2 its false sy).s := hD1.kept hf2 (fun k hk e => by
    rcases e with e | e
    · rcases hF1 k hk with h | h
      · exact hL.f12 k h e
      · have := hL.f2 k e; omega
    · rcases hF1 k hk with h | h
      · exact hL.b1 (e ▸ h)
      · omega)
  have hl1' := hf2.get (fun e => by
    rcases e with e | e
    · exact hL.a2 e
    · exact hL.ab e) hl1
  refine ⟨F1', F2', _, _, k', ⟨?_, fun k hk => ?_, fun k hk => ?_, fun k hk hk2 => ?_, by omega, by omega, fun h => ?_, fun h => ?_, fun h => ?_, fun h => ?_, hL.ab, hD1'.kept hfd (fun _ _ => id), hD2.kept hfd (fun _ _ => id), hfd.get id hl1', hfd.get id hl2⟩, hP'.more (Nat.le_refl _) (by omega)⟩
  · refine (hL.b.trans (hf1.below hws (fun k hk => ?_))).trans ((hf2.below (by omega) (fun k hk => ?_)).trans (hfd.below (by omega) (fun _ h => h.elim)))
    · rcases hk with h | h
      · exact (hL.f1 k h).1
      · omega
    · rcases hk with h | h
      · exact (hL.f2 k h).1
      · omega
  · rcases hF1 k hk with h | h
    · have := hL.f1 k h; omega
    · omega
  · rcases hF2 k hk with h | h
    · have := hL.f2 k h; omega
    · omega
  · rcases hF1 k hk with h | h
    · rcases hF2 k hk2 with h2 | h2
      · exact hL.f12 k h h2
      · have := hL.f1 k h; omega
    · rcases hF2 k hk2 with h2 | h2
      · have := hL.f2 k h2; omega
      · omega
  · rcases hF1 _ h with h | h
    · exact hL.a1 h
    · omega
  · rcases hF2 _ h with h | h
    · exact hL.a2 h
    · omega
  · rcases hF1 _ h with h | h
    · exact hL.b1 h
    · omega
  · rcases hF2 _ h with h | h
    · exact hL.b2 h
    · omega

theorem goh_end (w : World) (c d ga q : Nat) (W : World) (gb : Nat) (h : GoI w 2 c d ga q W gb) : Calls Try.prog 12 #[ptrV c, .int .i64 16, .int .u64 1, .int .i64 2] W fun e w1 => ∃ (A1 : Option Addr) (k c1 g : Nat), e = .returned (.tuple #[.slice A1 k c1, ptrV g, .int .i64 0]) ∧
    Calls Try.prog 12 #[ptrV d, .int .i64 16, .int .u64 1, .int .i64 2] w1 fun e w2 => ∃ (A2 : Option Addr) (c2 g2 : Nat), e = .returned (.tuple #[.slice A2 k c2, ptrV g2, .int .i64 0]) ∧
      Calls Try.prog 23 #[.slice A1 k c1, .slice A2 k c2] w2 fun e w3 => e = .returned (.bool true) ∧ Calls Try.prog 27 #[ptrV c] w3 fun e w4 => ∃ v, e = .returned v ∧
        Calls Try.prog 27 #[ptrV d] w4 fun e w5 => ∃ v2, e = .returned v2 ∧ Calls Try.prog 26 #[v, v2] w5 fun e w6 => e = .returned (.bool true) ∧ Below w.heap.size w w6 := by
  obtain ⟨F1, F2, s, l, k, hL, hP⟩ := h
  refine (hP.scan hL.d1 (fun k hk => (hL.f1 k hk).2)).mono ?_
  rintro e w1 ⟨v, rfl, hfr, _, hb1⟩
  obtain ⟨A1, c1, xs, rfl, hx⟩ := hfr.rd
  rw [fndL_length]
  refine ⟨A1, k, c1, _, rfl, ?_⟩
  have hL1 := hL.below hb1
  refine (hP.scan hL1.d2 (fun k hk => (hL1.f2 k hk).2)).mono ?_
  rintro e w2 ⟨v, rfl, hfr2, _, hb2⟩
  obtain ⟨A2, c2, ys, rfl, hy⟩ := hfr2.rd
  rw [fndL_length]
  refine ⟨A2, c2, _, rfl, ?_⟩
  have hL2 := hL1.below hb2
  have hk := scanN_le hP.found.1
  rw [hP.len] at hk
  refine (fsame_any A1 A2 c1 c2 k _ (fndL_length ..) (by omega) xs ys w2 (hx.below hb2) hy (fndL_ok hP.found)).mono ?_
  rintro e w3 ⟨rfl, hb3⟩
  refine ⟨rfl, ?_⟩
  have hL3 := hL2.below hb3
  have hln := hP.len
  refine (image_dsk hL3.d1 (by omega)).mono ?_
  rintro e w4 ⟨v, rfl, hown4, hb4⟩
  refine ⟨v, rfl, ?_⟩
  have hL4 := hL3.below hb4
  refine (image_dsk hL4.d2 (by omega)).mono ?_
  rintro e w5 ⟨v2, rfl, hown5, hb5⟩
  refine ⟨v2, rfl, ?_⟩
  have hL5 := hL4.below hb5
  obtain ⟨A4, c4, rfl, hrd4⟩ := Rd.lt_own (own_base hown4 (Nat.zero_le _))
  obtain ⟨A5, c5, rfl, hrd5⟩ := Rd.lt_own (own_base hown5 (Nat.zero_le _))
  refine (same_any _ _ A4 A5 _ c4 c5 s.now w5 (hrd4.kept (Fr.new hb5 (fun _ => False)) (fun _ _ => id)) hrd5 (by omega)).mono ?_
  rintro e w6 ⟨rfl, nq, rfl⟩
  exact ⟨rfl, below_drewN hL5.b nq⟩

theorem goh_all (w : World) : GoH w (GoI w 2) (fun c d ga q W gb => q ≤ 1000 ∧ GoI w 3 c d ga q W gb) (fun _ A m c => ItT w A m c ∧ m ≤ 20) where
  new := goh_new w
  below := fun _ _ _ _ _ _ ⟨_, _, _, _, _, h, _⟩ => h.b
  belowJ := fun _ _ _ _ _ _ ⟨_, _, _, _, _, _, h, _⟩ => h.b
  scan := goh_scan w
  next := fun c d ga q W gb hq h => by
    obtain ⟨X, h1, h2⟩ := goh_next w c d ga q W gb hq h
    refine ⟨X, h1, ?_⟩
    rcases h2 with ⟨h2, h3⟩ | ⟨h2, h3, h4⟩
    · refine .inl ⟨h2, h3.mono fun e w1 h => ⟨h.1, h.2.1, h.2.2.mono fun e w2 h => ⟨h.1, by omega, h.2⟩⟩⟩
    · exact .inr ⟨h2, h3, by omega, h4⟩
  room := fun c d ga q W gb h => goh_room w c d ga q W gb h.2
  write := fun c d ga q W gb h => goh_write w c d ga q W gb h.1 h.2
  end_ := goh_end w

/-- A row of rows of items, as it is given. -/
def ItsT (w : World) (A : Option Addr) (n : Nat) : Prop :=
  ∀ q, q < n → ∃ ad, A = some ad ∧ ad.block < w.heap.size ∧ ∃ (Ar : Option Addr) (nr cr : Nat), w.cell? (ad.add q) = some (.slice Ar nr cr) ∧ nr ≤ cr ∧ cr ≤ maxLen ∧ ItT w Ar nr cr

theorem lgoes_law (A : Option Addr) (n c0 : Nat) (after : Int) (w : World) (hn : n ≤ maxLen) (h : ItsT w A n) :
    Calls Try.prog 6 #[.slice A n c0, .int .i64 after] w fun e w' => e = .returned (.bool true) ∧ Below w.heap.size w w' := by
  refine lgoes_core A n c0 (min n 6) after w _ _ _ (goh_all w) (by unfold maxLen at hn; omega) rfl ?_
  intro q hq
  obtain ⟨ad, rfl, hbl, Ar, nr, cr, hc, h1, h2, hT⟩ := h q hq
  refine ⟨ad, rfl, fun W hb => ⟨Ar, nr, cr, min nr 20, ?_, cut_any Ar nr cr _ (by unfold maxLen at h2; omega) h1 rfl W, by omega, by omega, hT.take (by omega), by omega⟩⟩
  rw [hb.cell (block_lt_of_cell hc)]
  exact hc
end Go.Proofs.Ytjmfeoenbncibaa
namespace Go.Proofs.Ytjmfeoenbncibaa
open Go.RowKit Go.WideShapes Go.ChangeShapes Go.Deep Go.Joins Go.Nau

instance : Inhabited (Ent × ByteArray) := ⟨⟨⟨0, 0, 0, 0⟩, ⟨#[]⟩⟩⟩
section
variable {H : Type} {enc : TypeId × Value → H} {P : Program} {w : World}
theorem wf_natM {x n : Int} (h : 0 ≤ x ∧ x ≤ n) : ∃ k : Nat, x = (k : Int) ∧ (k : Int) ≤ n := ⟨x.toNat, by omega, by omega⟩
/-- A slice of items. -/
theorem opn_items {t e : TypeId} {f0 f1 g0 g1 g2 g3 : Field} {v : Value} {D : DataW H × List MemPlace} {n0 : Nat} (ht : P.underlying t = some (.slice e)) (he : P.underlying e = some (.struct #[f0, f1])) (ce : P.cellsOf e = 5)
    (hge : P.underlying f0.type = some (.struct #[g0, g1, g2, g3]))
    (hl : (f0.offset, f1.offset, g0.offset, g1.offset, g2.offset, g3.offset) = (0, 4, 0, 1, 2, 3)) (hc : (P.cellsOf f0.type, P.cellsOf f1.type, P.cellsOf g0.type, P.cellsOf g1.type, P.cellsOf g2.type, P.cellsOf g3.type) = (4, 1, 1, 1, 1, 1))
    (u0 : P.underlying g0.type = some (.int .i64)) (u1 : P.underlying g1.type = some (.int .u32)) (u2 : P.underlying g2.type = some (.int .u32)) (u3 : P.underlying g3.type = some (.int .u32)) (us : P.underlying f1.type = some .string)
    (hf : DataW.trod enc P w 0 (fun _ => true) true n0 t [v] = some D) :
    ∃ (A : Option Addr) (n c : Nat), v = .slice A n c ∧ n ≤ c ∧ c ≤ maxLen ∧ ItT w A n c := by
  simp only [Prod.mk.injEq] at hl hc
  obtain ⟨p0, p1, o0, o1, o2, o3⟩ := hl
  obtain ⟨k0, k1, c0, c1, c2, c3⟩ := hc
  rcases open_slice ht hf with ⟨h1, _⟩ | ⟨a, len, cap, m, n', D', Pl, h1, _, hl, hm, hmm, _, hx⟩
  · simp only [List.cons.injEq, and_true] at h1
    subst h1
    exact ⟨none, 0, 0, rfl, Nat.le_refl _, by simp [maxLen], [], rfl, Rd.nil .., by simp, by simp, Nat.le_refl _⟩
  · simp only [List.cons.injEq, and_true] at h1
    subst h1
    have hmc : m = cap := by simpa using hmm
    subst hmc
    have each : ∀ i, i < len → ∃ x : Ent × ByteArray, (∀ j u, (itL x)[j]? = some u → w.cell? (a.add (i * 5 + j)) = some u) ∧ x.1.wf ∧ x.2.size ≤ maxLen := by
      intro i hi
      obtain ⟨cs', h1, h2⟩ := hx i (by omega)
      rw [ce] at h1
      obtain ⟨_, hlen, hcell⟩ := World.cells?_some h1
      obtain ⟨xs, kk, _, _, _, hxl, hfd⟩ := DataW.trod_struct he h2
      match xs, hxl, cs', hlen with
      | [y0, y1], _, [z0, z1, z2, z3, z4], _ =>
        have e0' := hfd 0 f0 rfl
        have e1' := hfd 1 f1 rfl
        simp [p0, p1, k0, k1] at e0' e1'
        obtain ⟨s, es, _, ws⟩ := DataW.trod_string us e1'
        obtain ⟨xs2, kk2, _, _, _, hxl2, hfd2⟩ := DataW.trod_struct hge e0'
        match xs2, hxl2 with
        | [t0, t1, t2, t3], _ =>
          have g0' := hfd2 0 g0 rfl
          have g1' := hfd2 1 g1 rfl
          have g2' := hfd2 2 g2 rfl
          have g3' := hfd2 3 g3 rfl
          simp [o0, o1, o2, o3, c0, c1, c2, c3] at g0' g1' g2' g3'
          obtain ⟨x0, e0, _, wf0⟩ := DataW.trod_int u0 g0'
          obtain ⟨x1, e1, _, wf1⟩ := DataW.trod_int u1 g1'
          obtain ⟨x2, e2, _, wf2⟩ := DataW.trod_int u2 g2'
          obtain ⟨x3, e3, _, wf3⟩ := DataW.trod_int u3 g3'
          simp only [List.cons.injEq, and_true] at e0 e1 e2 e3 es
          subst e0 e1 e2 e3 es
          obtain ⟨k1, rfl, b1⟩ := wf_natM (wf_u32 wf1)
          obtain ⟨k2, rfl, b2⟩ := wf_natM (wf_u32 wf2)
          obtain ⟨k3, rfl, b3⟩ := wf_natM (wf_u32 wf3)
          refine ⟨(⟨x0, k1, k2, k3⟩, _), fun j u hu => ?_, ⟨wf_i64 wf0, by show k1 < _; omega, by show k2 < _; omega, by show k3 < _; omega⟩, by simpa [Lit.wf] using ws⟩
          have hj : j < 5 := by have := (List.getElem?_eq_some_iff.1 hu).1; simpa [itL, entL] using this
          have := hcell j (by omega)
          rw [Go.Nau.add_add] at this
          rw [this]
          exact hu
    obtain ⟨q, hq⟩ := choose_lt each
    refine ⟨some a, len, m, rfl, hl, hm, (List.range len).map q, by simp, ⟨by rw [itC_length]; simp, fun hn => ⟨a, rfl, ?_, ?_⟩⟩, ?_, ?_, hl⟩
    · have := cell_lt ((hq 0 (by omega)).1 0 _ rfl)
      rwa [Go.Nau.add_block] at this
    · intro j u hu
      have hj : j < len * 5 := by
        have := (List.getElem?_eq_some_iff.1 hu).1
        rw [itC_length] at this
        simpa using this
      have hget : ((List.range len).map q)[j / 5]? = some (q (j / 5)) := by
        rw [List.getElem?_map, List.getElem?_range (by omega)]
        rfl
      have hg := itC_get _ (j / 5) (j % 5) _ hget (by omega)
      have e : j / 5 * 5 + j % 5 = j := by omega
      rw [e] at hg
      rw [hu] at hg
      have := (hq (j / 5) (by omega)).1 (j % 5) u hg.symm
      rwa [e] at this
    · intro x hx
      obtain ⟨i, hi, rfl⟩ := List.mem_map.1 hx
      exact (hq i (List.mem_range.1 hi)).2.1
    · intro x hx
      obtain ⟨i, hi, rfl⟩ := List.mem_map.1 hx
      exact (hq i (List.mem_range.1 hi)).2.2
end

set_option maxRecDepth 100000 in
theorem opn_itemsT {H : Type} {enc : TypeId × Value → H} {w : World} {v : Value} {D : DataW H × List MemPlace} {n0 : Nat} (hf : DataW.trod enc Try.prog w 0 (fun _ => true) true n0 37 [v] = some D) :
    ∃ (A : Option Addr) (n c : Nat), v = .slice A n c ∧ n ≤ c ∧ c ≤ maxLen ∧ ItT w A n c :=
  opn_items Try.underlying37 Try.underlying87 (by kernel_rfl) Try.underlying85 rfl (by kernel_rfl) Try.underlying3 Try.underlying83 Try.underlying83 Try.underlying83 Try.underlying9 hf

set_option maxRecDepth 100000 in
theorem opn_itemss {H : Type} {enc : TypeId × Value → H} {w : World} {r : Reach} {b0 : Nat} {v : Value} {d : DataW H} {p : List MemPlace} (hv : Value.okWide Try.prog w r b0 55 v) (h : DataW.Trod enc Try.prog w 0 (fun _ => true) true 55 v d p) :
    ∃ (A : Option Addr) (n c : Nat), v = .slice A n c ∧ n ≤ maxLen ∧ ItsT w A n := by
  obtain ⟨A, n, c, rfl⟩ := okWide_slice Try.underlying55 hv
  obtain ⟨fuel, hf⟩ := h
  rcases open_slice Try.underlying55 hf with ⟨h1, _⟩ | ⟨a, len, cap, m, n', D, Pl, h1, _, hl, hm, hmm, _, hx⟩
  · simp only [Value.cells, List.cons.injEq, Value.slice.injEq, and_true] at h1
    obtain ⟨rfl, rfl, rfl⟩ := h1
    exact ⟨none, 0, 0, rfl, by simp [maxLen], fun q hq => absurd hq (Nat.not_lt_zero _)⟩
  · simp only [Value.cells, List.cons.injEq, Value.slice.injEq, and_true] at h1
    obtain ⟨rfl, rfl, rfl⟩ := h1
    have hmc : m = c := by simpa using hmm
    subst hmc
    refine ⟨some a, n, m, rfl, Nat.le_trans hl hm, fun i hi => ⟨a, rfl, ?_⟩⟩
    obtain ⟨cs', h1, h2⟩ := hx i (by omega)
    rw [show Try.prog.cellsOf 37 = 1 by kernel_rfl] at h1
    obtain ⟨_, hlen, hcell⟩ := World.cells?_some h1
    match cs', hlen with
    | [z], _ =>
      obtain ⟨Ar, nr, cr, rfl, q1, q2, q3⟩ := opn_itemsT h2
      have hc0 := hcell 0 (by omega)
      rw [Go.Nau.add_add, Nat.mul_one, Nat.add_zero] at hc0
      have hb := cell_lt hc0
      rw [Go.Nau.add_block] at hb
      exact ⟨hb, Ar, nr, cr, hc0, q1, q2, q3⟩
end Go.Proofs.Ytjmfeoenbncibaa

/- Texts of this proof, joined: Mk. They hold under no condition beyond what each theorem states. -/
import Derived.Test.YtjmfeoenbncibaaM36
import Derived.Test.YtjmfeoenbncibaaM37
namespace Go.Proofs.Ytjmfeoenbncibaa
open Go.RowKit Go.Nau Go.Shelf

theorem wres_err (s : DS) (p : Int) (x : ByteArray) : (wres s p x).1 = 0 ∨ 40 < (wres s p x).1 := by
  unfold wres
  split
  · exact .inr (by show (40 : Int) < 43; omega)
  · split
    · exact .inr (by show (40 : Int) < 41; omega)
    · split
      · exact .inr (by show (40 : Int) < 42; omega)
      · exact .inl rfl
theorem fres_err (s : DS) : (fres s).1 = 0 ∨ 40 < (fres s).1 := by
  unfold fres
  split
  · exact .inr (by show (40 : Int) < 43; omega)
  · exact .inl rfl
theorem wBlocks_err : ∀ (cs : List ByteArray) (s : DS) (p : Nat), (wBlocks s p cs).1 = 0 ∨ 40 < (wBlocks s p cs).1
  | [], s, p => by rw [wBlocks_nil]; exact .inl rfl
  | c :: cs, s, p => by
    rw [wBlocks_cons]
    split
    · exact wBlocks_err cs _ _
    · exact wres_err _ _ _
theorem putD_err (s : DS) (p : Nat) (cs : List ByteArray) (h : ByteArray) : (putD s p cs h).1 = 0 ∨ 40 < (putD s p cs h).1 := by
  unfold putD
  split
  · unfold fin3
    split
    · split
      · exact fres_err _
      · exact wres_err _ _ _
    · exact fres_err _
  · exact wBlocks_err _ _ _

/-- What may be said of a disk, its log, and the records so far. -/
structure LaP (q B : Nat) (s : DS) (l : LS) (ps : List Nat) : Prop where
  inv : DInv s
  len : s.now.length = 256
  ok : LOk s.now.length l
  ops : s.ops ≤ 18 * q
  safe : s.safe = s.now
  loose : s.loose = []
  chain : Chain s.now shL ps.length l
  seq : SeqLt l.seq s.now
  pos : l.pos / 16 ≤ B
  next : l.next ≤ B
  at_ : ∀ (j p : Nat), ps[j]? = some p → (stL s.now shL j).pos = p
theorem LaP.setNext {q : Nat} {s : DS} {l : LS} {ps : List Nat} {B n : Nat} (h : LaP q B s l ps) (hn : B < n) (h15 : n < 16) : LaP q n s (snL s.now.length l n) ps ∧ (snL s.now.length l n) = { l with next := n } := by
  have hsb : segB s.now.length ((n : Nat) : Int) = true := by rw [segB_iff, h.len]; omega
  have he : snL s.now.length l n = { l with next := n } := by unfold snL; rw [if_pos hsb]; simp
  have hp := h.pos
  rw [he]
  refine ⟨⟨h.inv, h.len, he ▸ snL_ok h.ok n, h.ops, h.safe, h.loose, ⟨h.chain.there, h.chain.pos, h.chain.seq, fun h0 => ?_, fun _ => ?_⟩, h.seq, ?_, Nat.le_refl _, h.at_⟩, rfl⟩
  · have h0' : n = 0 := h0
    omega
  · show l.pos / 16 < n
    omega
  · show l.pos / 16 ≤ n
    omega
/-- What is left behind the loop. -/
structure LaE (s : DS) (ps : List Nat) (u : Nat) : Prop where
  inv : DInv s
  len : s.now.length = 256
  ll : s.loose.length ≤ 1000
  u1 : u ≤ 1
  st : ∃ b l, b.length = 256 ∧ Chain b shL ps.length l ∧ (∀ (j p : Nat), ps[j]? = some p → (stL b shL j).pos = p) ∧ DQ (l.seq + u) l.pos b s
theorem LaP.dq {q B : Nat} {s : DS} {l : LS} {ps : List Nat} (h : LaP q B s l ps) (u : Nat) : DQ (l.seq + u) l.pos s.now s := by
  have hs : SeqLt (l.seq + u) s.now := fun p hp => by have := h.seq p hp; omega
  exact ⟨by rw [h.safe], rfl, fun p _ => by rw [h.safe], fun p _ => rfl, by rw [h.safe]; exact hs, hs, by rw [h.loose]; intro x hx; cases hx⟩
theorem LaP.fin {q B : Nat} {s : DS} {l : LS} {ps : List Nat} (h : LaP q B s l ps) : LaE s ps 0 :=
  ⟨h.inv, h.len, by rw [h.loose]; exact Nat.zero_le _, Nat.zero_le _, s.now, l, h.len, h.chain, h.at_, h.dq 0⟩
/-- Behind a Write. -/
theorem LaP.write {q B : Nat} {s : DS} {l : LS} {ps : List Nat} (h : LaP q B s l ps) (hn0 : l.next ≠ 0) {cp : Nat} (hcp : cp < 18446744073709551616) {its : List (Ent × ByteArray)} (hwf : ∀ x ∈ its, x.1.wf) (hil : its.length ≤ maxLen) (en sy : Bool) :
    ((lwrite l s cp its en sy).e = 0 ∧ LaP (q + 1) B (lwrite l s cp its en sy).s (lwrite l s cp its en sy).l (ps ++ [l.pos])) ∨
    ((lwrite l s cp its en sy).e = 2 ∧ (lwrite l s cp its en sy).s = s ∧ (lwrite l s cp its en sy).l = l) ∨
    (40 < (lwrite l s cp its en sy).e ∧ LaE (lwrite l s cp its en sy).s ps 1) := by
  obtain ⟨i1, i2, i3, i4, i5⟩ := lwrite_inv h.inv h.ok cp its en sy
  by_cases he : (lwrite l s cp its en sy).e = 0
  · refine .inl ⟨he, ?_⟩
    obtain ⟨c1, c2, c3, c4, c5, c6, c7⟩ := chain_write h.chain h.seq h.ok hcp hwf he
    obtain ⟨_, w2, _, _, _, w6, _⟩ := lwrite_ok he
    have hg := goN_seg w2 h.pos h.next
    rw [← w6] at hg
    refine ⟨i1, i2.trans h.len, by rw [i2]; exact i3, by have := h.ops; omega, c3, c4, by rw [List.length_append]; exact c1, c2, hg.1, hg.2, fun j p hj => ?_⟩
    by_cases hjl : j < ps.length
    · rw [List.getElem?_append_left hjl] at hj
      have h1 := congrArg Fnd.pos (c6 j hjl)
      exact h1.trans (h.at_ j p hj)
    · have hj1 : j < (ps ++ [l.pos]).length := (List.getElem?_eq_some_iff.1 hj).1
      rw [List.length_append] at hj1
      have hjk : j = ps.length := by simp at hj1; omega
      subst hjk
      rw [List.getElem?_append_right (Nat.le_refl _), Nat.sub_self] at hj
      have hp : l.pos = p := by simpa using hj
      rw [← hp]
      exact congrArg Fnd.pos c7
  · by_cases hw : wrB l cp its en sy = true
    · have hnz : (putD s l.pos (its.map (·.2)) (encS (recOf l cp its en sy))).1 ≠ 0 := fun hz => by
        refine he ?_
        unfold lwrite
        rw [if_neg hn0, if_pos hw, if_pos hz]
      have e : lwrite l s cp its en sy = ⟨[], (putD s l.pos (its.map (·.2)) (encS (recOf l cp its en sy))).1, l, (putD s l.pos (its.map (·.2)) (encS (recOf l cp its en sy))).2⟩ := by
        unfold lwrite
        rw [if_neg hn0, if_pos hw, if_neg hnz]
      refine .inr (.inr ⟨?_, i1, i2.trans h.len, ?_, Nat.le_refl _, s.now, l, h.len, h.chain, h.at_, ?_⟩)
      · rw [e]
        rcases putD_err s l.pos (its.map (·.2)) (encS (recOf l cp its en sy)) with h | h
        · exact absurd h hnz
        · exact h
      · rw [h.loose] at i5
        simp at i5
        omega
      · rw [e]
        have hw' := hw
        unfold wrB at hw'
        simp at hw'
        obtain ⟨_, hall, hrt⟩ := hw'
        refine DQ.putD (h.dq 1) (fun c hc => ?_) (fun _ => ?_)
        · obtain ⟨x, hx, rfl⟩ := List.mem_map.1 hc
          exact hall _ _ hx
        · rw [(back_enc hrt (recOf_wf h.ok hcp hwf hil en sy)).1]
          show l.seq < l.seq + 1
          omega
    · refine .inr (.inl ?_)
      unfold lwrite
      rw [if_neg hn0, if_neg hw]
      exact ⟨rfl, rfl, rfl⟩
/-- What is found behind a crash. -/
theorem LaE.found {s : DS} {ps : List Nat} {u : Nat} (h : LaE s ps u) (keep torn : Int) {N : Nat} (hN : ScanN (crashed s keep torn) shL N) :
    ps.length ≤ N ∧ N ≤ ps.length + u ∧ ∀ (j p : Nat), ps[j]? = some p → (fndAt (crashed s keep torn) (stL (crashed s keep torn) shL j)).pos = p ∧ (fndAt (crashed s keep torn) (stL (crashed s keep torn) shL j)).r.seq = j + 1 := by
  obtain ⟨b, l, hb, hc, hp, hq⟩ := h.st
  obtain ⟨ha, hs⟩ := hq.crash keep torn
  generalize crashed s keep torn = c at *
  obtain ⟨hc2, hf⟩ := chain_alike hc ha
  have hu := h.u1
  have hN2 : ps.length ≤ N ∧ N ≤ ps.length + u := by
    rcases (show u = 0 ∨ u = 1 by omega) with rfl | rfl
    · have : N = ps.length := scanN_eq hN (chain_scan hc2 hs)
      omega
    · have := chain_scan1 hc2 hs hN
      omega
  refine ⟨hN2.1, hN2.2, fun j p hj => ?_⟩
  have hjl : j < ps.length := (List.getElem?_eq_some_iff.1 hj).1
  refine ⟨?_, ?_⟩
  · exact (congrArg Fnd.pos (hf j hjl)).trans (hp j p hj)
  · have ht := headT_iff.1 (thereT_head (hN.1 j (by omega)))
    have h1 : (fndAt c (stL c shL j)).r.seq = (stL c shL j).seq := ht.2.2.1
    rw [h1, stL_seq]
    show 1 + j = j + 1
    omega

/-- One disk and its log. -/
structure LaSt (w W : World) (F0 F : Nat → Prop) (d g : Nat) (s : DS) (l : LS) : Prop where
  b : Below w.heap.size w W
  eq : ∀ k, F k ↔ F0 k ∨ k = g
  f : ∀ k, F k → w.heap.size ≤ k ∧ k < W.heap.size
  n : ¬ F0 g
  dk : Dsk W F0 d s
  lg : Lg W g d l
def LaI (w : World) (g d q : Nat) (ps : List Nat) (F : Nat → Prop) (W : World) : Prop := ∃ F0 s l, LaSt w W F0 F d g s l ∧ LaP q (1 + max q 1) s l ps ∧ (q = 0 → l.next ≠ 0)
def LaJ (w : World) (g d q : Nat) (ps : List Nat) (F : Nat → Prop) (W : World) : Prop := q ≤ 1000 ∧ ∃ F0 s l, LaSt w W F0 F d g s l ∧ LaP q (2 + q) s l ps ∧ l.next ≠ 0
def LaEE (w : World) (_ d : Nat) (ps : List Nat) (u : Nat) (_ : Nat → Prop) (W : World) : Prop := Below w.heap.size w W ∧ ∃ F0 s, Dsk W F0 d s ∧ (∀ k, F0 k → k < W.heap.size) ∧ LaE s ps u

theorem lah_new (w : World) (ck : Nat) (W : World) (hw : Below w.heap.size w W) : Calls Try.prog 10 #[.int .i64 256] W fun e w2 => ∃ d, e = .returned (.tuple #[ptrV d, .int .i64 0]) ∧ Calls Try.prog 11 #[ptrV d, .int .i64 16, .int .u64 1, .int .i64 2] w2 fun e w3 => ∃ g, e = .returned (.tuple #[ptrV g, .int .i64 0]) ∧
    Calls Try.prog 34 #[ptrV d, .int .i64 ck] w3 fun e w4 => e = .returned (.tuple #[]) ∧ ∃ F, LaI w g d 0 [] F w4 := by
  have hl0 : (freshDS (List.replicate 256 zero)).now.length = 256 := zeros_len 256
  have hlo : LOk 256 shL := shL_ok 256 (by decide) (by decide) (by decide)
  have hi0 : DInv (freshDS (List.replicate 256 zero)) := zeros_inv 256 (by decide) (by decide)
  have hws := hw.size
  refine (new_ok 256 W (by decide)).mono ?_
  rintro e w2 ⟨d, rfl, hD2, _, hb2⟩
  have hs2 := hb2.size
  refine ⟨d, rfl, ?_⟩
  obtain ⟨S, hS⟩ : ∃ S, S = freshDS (List.replicate 256 zero) := ⟨_, rfl⟩
  have hD2' : Dsk w2 (fun k => W.heap.size ≤ k ∧ k < w2.heap.size) d S := by rw [hS]; exact hD2
  have hP : LaP 0 2 { S with cut := (ck : Int), gone := false } shL [] := by
    rw [← hS] at hl0 hi0
    refine ⟨hi0.cut _ _, hl0, hl0.symm ▸ hlo, ?_, ?_, ?_, chain_start _ _ (by decide), ?_, by decide, by decide, fun j p h => by simp at h⟩
    · rw [hS]; exact Nat.zero_le _
    · rw [hS]; rfl
    · rw [hS]; rfl
    · rw [hS]; exact seqLt_zeros 256 1
  have hlS : S.now.length = 256 := hP.len
  clear hS hD2 hi0
  refine (begin_any hD2' (by omega) 16 1 2 (by decide) (by decide) (by decide)).mono ?_
  rintro e w3 hb
  rw [hlS] at hb
  rcases hb with ⟨_, rfl, hlg3, hb3, hz3⟩ | ⟨hb, _⟩
  case inr => exact absurd hb (by decide)
  have hs3 := hb3.size
  refine ⟨_, rfl, ?_⟩
  have hD3 := hD2'.kept (Fr.new hb3 (fun _ => False)) (fun _ _ => id)
  refine (cutat_dsk hD3 (ck : Int)).mono ?_
  rintro e w4 ⟨rfl, F', hD4, hF', hf4⟩
  have hs4 := hf4.size
  refine ⟨rfl, fun k => F' k ∨ k = w2.heap.size, F', _, shL, ⟨?_, fun k => Iff.rfl, ?_, ?_, hD4, hf4.get (by omega) hlg3⟩, hP, fun _ => by decide⟩
  · exact ((hw.trans (hb2.mono hws)).trans (hb3.mono (by omega))).trans (hf4.below (by omega) (fun k hk => by omega))
  · intro k hk
    rcases hk with hk | hk
    · have := hF' k hk; omega
    · omega
  · intro h
    have := hF' _ h
    omega

theorem lah_write (w : World) (g d q : Nat) (ps : List Nat) (F : Nat → Prop) (W : World) (h : LaJ w g d q ps F W) : ∃ R P : Nat, (Calls Try.prog 18 #[ptrV g] W fun e w' => e = .returned (.int .i64 R) ∧ W = w') ∧ (Calls Try.prog 13 #[ptrV g] W fun e w' => e = .returned (.int .i64 P) ∧ W = w') ∧
    ∀ A m1 cr m2, (ItT w A m1 cr ∧ m1 ≤ 20) → m2 ≤ m1 → Calls Try.prog 17 #[ptrV g, .int .u64 1, .slice A m2 cr, .bool false, .bool false] W fun e w1 => ∃ (v : Value) (e1 : Int) (F' : Nat → Prop), e = .returned (.tuple #[v, .int .i64 e1]) ∧ (∀ b, F' b → F b ∨ W.heap.size ≤ b) ∧ Fr F W w1 ∧
      ((e1 = 0 ∧ LaI w g d (q + 1) (ps ++ [P]) F' w1) ∨ (e1 = 2 ∧ LaI w g d (q + 1) ps F' w1) ∨ ((e1 == 0) = false ∧ (e1 != 2) = true ∧ LaEE w g d ps 1 F' w1)) := by
  obtain ⟨hq, F0, s, l, hL, hP, hn0⟩ := h
  refine ⟨_, l.pos, lroom_any hL.lg, at_any hL.lg, ?_⟩
  intro A m1 cr m2 ⟨hT, h20⟩ hm
  obtain ⟨its, h1, h2, h3, h4, _⟩ := hT.take hm
  have hws := hL.b.size
  have hrd : Rd (· < W.heap.size) W 5 A m2 (itC its) := (h2.kept (Fr.of_below hL.b) (fun k hk => by omega)).mono (fun k hk => by omega)
  have hops := hP.ops
  have hf0 : ∀ k, F0 k → w.heap.size ≤ k ∧ k < W.heap.size := fun k hk => hL.f k ((hL.eq k).2 (.inl hk))
  have hg := hL.f g ((hL.eq g).2 (.inr rfl))
  refine (lwrite_any hL.dk (fun k hk => (hf0 k hk).2) hL.n hL.lg hP.ok hP.inv (by omega) (by rw [hP.loose]; exact Nat.zero_le _) its h1 hrd (by omega) h3 h4 1 (by decide) false false).mono ?_
  rintro e w1 ⟨A1, c1, rfl, hc1, _, hl1, ⟨F0', hD1, hF1⟩, hf1⟩
  have hs1 := hf1.size
  have hb1 : Below w.heap.size w w1 := hL.b.trans (hf1.below hws (fun k hk => by
    rcases hk with h | h
    · exact (hf0 k h).1
    · omega))
  have hF0' : ∀ k, F0' k → w.heap.size ≤ k ∧ k < w1.heap.size := fun k hk => by
    rcases hF1 k hk with h | h
    · have := hf0 k h; omega
    · omega
  have hst : LaSt w w1 F0' (fun k => F0' k ∨ k = g) d g (lwrite l s 1 its false false).s (lwrite l s 1 its false false).l := by
    refine ⟨hb1, fun k => Iff.rfl, fun k hk => ?_, fun h => ?_, hD1, hl1⟩
    · rcases hk with h | h
      · exact hF0' k h
      · omega
    · rcases hF1 g h with h | h
      · exact hL.n h
      · omega
  refine ⟨_, _, fun k => F0' k ∨ k = g, rfl, fun k hk => ?_, hf1.mono (fun k hk => (hL.eq k).2 hk), ?_⟩
  · rcases hk with h | h
    · rcases hF1 k h with h | h
      · exact .inl ((hL.eq k).2 (.inl h))
      · exact .inr h.1
    · exact .inl ((hL.eq k).2 (.inr h))
  · rcases hP.write hn0 (cp := 1) (by decide) h3 (by unfold maxLen; omega) false false with ⟨he, hP'⟩ | ⟨he, e1, e2⟩ | ⟨he, hE'⟩
    · refine .inl ⟨he, F0', _, _, hst, ?_, fun h => by omega⟩
      rw [show 1 + max (q + 1) 1 = 2 + q by omega]
      exact hP'
    · refine .inr (.inl ⟨he, F0', _, _, hst, ?_, fun h => by omega⟩)
      rw [e1, e2, show 1 + max (q + 1) 1 = 2 + q by omega]
      exact ⟨hP.inv, hP.len, hP.ok, by have := hP.ops; omega, hP.safe, hP.loose, hP.chain, hP.seq, hP.pos, hP.next, hP.at_⟩
    · refine .inr (.inr ⟨by simp; omega, by simp; omega, hb1, F0', _, hD1, fun k hk => (hF0' k hk).2, hE'⟩)

theorem lah_end (w : World) (keep torn : Int) (g d : Nat) (ps : List Nat) (u : Nat) (F : Nat → Prop) (W : World) (h : LaEE w g d ps u F W) : Calls Try.prog 36 #[ptrV d, .agg #[.int .u64 keep, .int .i64 torn]] W fun e w1 => Below W.heap.size W w1 ∧ ∃ dc, e = .returned (ptrV dc) ∧
    Calls Try.prog 12 #[ptrV dc, .int .i64 16, .int .u64 1, .int .i64 2] w1 fun e w2 => Below w1.heap.size w1 w2 ∧ ∃ (A1 : Option Addr) (n c1 g2 : Nat), e = .returned (.tuple #[.slice A1 n c1, ptrV g2, .int .i64 0]) ∧ ps.length ≤ n ∧ n ≤ ps.length + u ∧
      ∀ j p, ps[j]? = some p → ∃ ad, A1 = some ad ∧ w2.cell? (ad.add (j * 8)) = some (.int .i64 (p : Nat)) ∧ w2.cell? ⟨(ad.add (j * 8)).block, (ad.add (j * 8)).off + 1, none⟩ = some (.int .u64 ((j : Int) + 1)) := by
  obtain ⟨hb, F0, s, hD, hF, hE⟩ := h
  have hlen := hE.len
  have hll := hE.ll
  refine (crash_dsk hD hE.inv.ok (by omega) (by omega) keep torn).mono ?_
  rintro e w1 ⟨dc, rfl, hD1, _, hb1⟩
  refine ⟨hb1, dc, rfl, ?_⟩
  have hcl : (crashed s keep torn).length = 256 := by rw [crashed_length, hE.inv.ok.len]; exact hlen
  have hD1' : Dsk w1 (fun k => W.heap.size ≤ k ∧ k < w1.heap.size) dc (freshDS (crashed s keep torn)) := hD1
  refine (scan_any hD1' (fun k hk => hk.2) (hE.inv.crashed keep torn) (by show (crashed s keep torn).length % 16 = 0; rw [hcl]) 16 1 2 (by decide) (by decide) (by decide)).mono ?_
  rintro e w2 hp
  have hcl2 : (freshDS (crashed s keep torn)).now.length = 256 := hcl
  unfold ScPost at hp
  rw [hcl2] at hp
  rcases hp with ⟨hp, _⟩ | ⟨_, N, v, hN, rfl, hfr, _, hb2⟩
  · exact absurd hp (by decide)
  · have hN' : ScanN (crashed s keep torn) shL N := hN
    obtain ⟨n1, n2, n3⟩ := hE.found keep torn hN'
    obtain ⟨A1, c1, xs, rfl, hx⟩ := hfr.rd
    rw [fndL_length]
    refine ⟨hb2, A1, N, c1, _, rfl, n1, n2, fun j p hj => ?_⟩
    have hjl : j < ps.length := (List.getElem?_eq_some_iff.1 hj).1
    have hxl : xs.length = N := by have := congrArg List.length hx.1; rw [List.length_map, fndL_length] at this; exact this
    obtain ⟨x, hxj⟩ : ∃ x, xs[j]? = some x := ⟨_, List.getElem?_eq_getElem (by omega)⟩
    obtain ⟨ad, rfl, hc⟩ := fv_cells hx.2.1 j x hxj (by rw [fndL_length]; omega)
    have ef : some x.f = (fndL (crashed s keep torn) shL N)[j]? := by
      have : (xs.map FV.f)[j]? = some x.f := by rw [List.getElem?_map, hxj]; rfl
      rw [hx.1] at this
      exact this.symm
    rw [fndL_get (by omega)] at ef
    injection ef with ef
    obtain ⟨p1, p2⟩ := n3 j p hj
    rw [← ef] at p1 p2
    have c0 : w2.cell? (ad.add (j * 8)) = some (.int .i64 (x.f.pos : Nat)) := hc 0 (by omega)
    have c1 : w2.cell? ⟨(ad.add (j * 8)).block, (ad.add (j * 8)).off + 1, none⟩ = some (.int .u64 (x.f.r.seq : Nat)) := hc 1 (by omega)
    rw [p1] at c0
    rw [p2] at c1
    exact ⟨ad, rfl, c0, by rw [c1]; simp⟩

theorem lah_all (w : World) (ck : Nat) (keep torn : Int) : LaH w ck keep torn (LaI w) (LaJ w) (LaEE w) (fun A m c => ItT w A m c ∧ m ≤ 20) where
  new := lah_new w ck
  below := fun _ _ _ _ _ _ ⟨_, _, _, h, _⟩ => h.b
  inF := fun _ _ _ _ _ _ ⟨_, _, _, h, _⟩ => h.f
  inJ := fun _ _ _ _ _ _ ⟨_, _, _, _, h, _⟩ => ⟨h.b, h.f⟩
  kept := fun g d q ps F W W' S ⟨F0, s, l, h, hP, h0⟩ hf h1 h2 =>
    ⟨F0, s, l, ⟨h.b.trans (hf.below h.b.size h2), h.eq, fun k hk => by have := h.f k hk; have := hf.size; omega, h.n, h.dk.kept hf (fun k hk => h1 k ((h.eq k).2 (.inl hk))), hf.get (h1 g ((h.eq g).2 (.inr rfl))) h.lg⟩, hP, h0⟩
  next := fun g d q ps F W hq ⟨F0, s, l, h, hP, h0⟩ => by
    refine ⟨(l.next : Int), next_any h.lg, ?_⟩
    by_cases hn : l.next = 0
    · have hq0 : q ≠ 0 := fun e => h0 e hn
      refine .inl ⟨by omega, ?_⟩
      obtain ⟨hP2, he⟩ := hP.setNext (n := 2 + q) (by omega) (by omega)
      have hci : (2 + (q : Int)) = ((2 + q : Nat) : Int) := by omega
      rw [hci]
      refine (setnext_any h.dk h.lg (by rw [hP.len]; decide) ((2 + q : Nat) : Int) (by omega)).mono ?_
      rintro e w1 ⟨rfl, hlg1, hf1⟩
      have hs1 := hf1.size
      have hgg := h.f g ((h.eq g).2 (.inr rfl))
      refine ⟨⟨_, rfl⟩, ⟨by omega, F0, s, _, ⟨h.b.trans (hf1.below h.b.size (fun k hk => by omega)), h.eq, fun k hk => by have := h.f k hk; omega, h.n, h.dk.kept hf1 (fun k hk e => h.n (e ▸ hk)), hlg1⟩, hP2, ?_⟩, hf1.mono (fun k hk => (h.eq k).2 (.inr hk))⟩
      rw [he]
      show 2 + q ≠ 0
      omega
    · refine .inr ⟨by simp; exact hn, by omega, F0, s, l, h, ?_, hn⟩
      exact ⟨hP.inv, hP.len, hP.ok, hP.ops, hP.safe, hP.loose, hP.chain, hP.seq, by have := hP.pos; omega, by have := hP.next; omega, hP.at_⟩
  room := lah_write w
  fin := fun g d q ps F W ⟨F0, s, l, h, hP, _⟩ => ⟨h.b, F0, s, h.dk, fun k hk => (h.f k ((h.eq k).2 (.inl hk))).2, hP.fin⟩
  end_ := lah_end w keep torn
  belowE := fun _ _ _ _ _ _ h => h.1

theorem ItT.kept {w w' : World} {A : Option Addr} {m c : Nat} (h : ItT w A m c) (hb : Below w.heap.size w w') : ItT w' A m c := by
  obtain ⟨its, h1, h2, h3, h4, h5⟩ := h
  exact ⟨its, h1, (h2.kept (Fr.of_below hb) (fun k hk => by omega)).mono (fun k hk => Nat.lt_of_lt_of_le hk hb.size), h3, h4, h5⟩

theorem lasts_law (A : Option Addr) (n c0 : Nat) (ca keep torn : Int) (hca : -9223372036854775808 ≤ ca ∧ ca ≤ 9223372036854775807) (w : World) (hn : n ≤ maxLen) (h : ItsT w A n) :
    Calls Try.prog 8 #[.slice A n c0, .int .i64 ca, .agg #[.int .u64 keep, .int .i64 torn]] w fun e w' => e = .returned (.bool true) ∧ Below w.heap.size w w' := by
  obtain ⟨w1, hw1⟩ : ∃ w1, w1 = w.alloc (.cells #[.int .u64 keep, .int .i64 torn] 73) := ⟨_, rfl⟩
  have hb1 : Below w.heap.size w w1 := by rw [hw1]; exact (Below.refl _ _).alloc (Nat.le_refl _) _
  refine lasts_core A n c0 (min n 12) (pk ca 300) ca keep torn w w1 hw1 _ _ _ _ (lah_all w1 (pk ca 300) keep torn) (by unfold maxLen at hn; omega) rfl (fun W => pick15_any ca 300 (by omega) (by decide) (by decide) W) ?_
  intro q hq
  obtain ⟨ad, rfl, hbl, Ar, nr, cr, hc, h1, h2, hT⟩ := h q hq
  have hc1 : w1.cell? (ad.add q) = some (.slice Ar nr cr) := by
    rw [hb1.cell (block_lt_of_cell hc)]
    exact hc
  refine ⟨ad, rfl, fun W hb => ⟨Ar, nr, cr, min nr 20, ?_, cut_any Ar nr cr _ (by unfold maxLen at h2; omega) h1 rfl W, by omega, by omega, (hT.kept hb1).take (by omega), by omega⟩⟩
  rw [hb.cell (block_lt_of_cell hc1)]
  exact hc1
end Go.Proofs.Ytjmfeoenbncibaa

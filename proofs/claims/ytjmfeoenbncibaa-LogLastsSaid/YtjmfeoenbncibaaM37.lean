/- Texts of this proof, joined: Mi Mj. They hold under no condition beyond what each theorem states. -/
import Derived.Test.YtjmfeoenbncibaaM35
namespace Go.Proofs.Ytjmfeoenbncibaa
open Go.RowKit Go.Nau Go.Shelf

theorem okDec_parts {s : ByteArray} (h : okDec s = true) : s.size = 512 ∧ rightB (decR s) = true ∧ (encS (decR s)).extract 0 256 = s.extract 0 256 := by
  unfold okDec at h
  simp at h
  exact h
/-- A record is read from the first sector alone. -/
theorem dec_first {s t : ByteArray} (h : okDec s = true) (ht : t.size = 512) (he : t.extract 0 256 = s.extract 0 256) : okDec t = true ∧ decR t = decR s := by
  obtain ⟨h1, h2, h3⟩ := okDec_parts h
  have hl := (rightB_num h2).2.2.2.2.2.2
  rw [sec_of_enc _ hl] at h3
  obtain ⟨b1, b2⟩ := back h2 (decR_wf s) ht (he.trans h3.symm)
  exact ⟨b2, b1⟩

/-- What may be said of a disk that a Write stands on, of blocks b below a place P: numbers of records below n. -/
structure DQ (n P : Nat) (b : List ByteArray) (s : DS) : Prop where
  ls : s.safe.length = b.length
  ln : s.now.length = b.length
  safe : ∀ p, p < P → blkAt s.safe p = blkAt b p
  now : ∀ p, p < P → blkAt s.now p = blkAt b p
  ss : SeqLt n s.safe
  sn : SeqLt n s.now
  loose : ∀ x ∈ s.loose, P ≤ x.1 ∧ x.2.size = 512 ∧ (okDec x.2 = true → (decR x.2).seq < n)

theorem DQ.gone {n P : Nat} {b : List ByteArray} {s : DS} (h : DQ n P b s) (g : Bool) : DQ n P b { s with gone := g } := ⟨h.ls, h.ln, h.safe, h.now, h.ss, h.sn, h.loose⟩
theorem blkAt_set2 {b : List ByteArray} {p q : Nat} {x : ByteArray} : blkAt (b.set p x) q = if q = p ∧ p < b.length then x else blkAt b q := by
  by_cases hp : p < b.length
  · rw [blkAt_set hp]
    simp [hp]
  · rw [if_neg (fun h => hp h.2), List.set_eq_of_length_le (by omega)]
theorem DQ.wres {n P : Nat} {b : List ByteArray} {s : DS} (h : DQ n P b s) {p : Nat} (hp : P ≤ p) {x : ByteArray} (hx : okDec x = true → (decR x).seq < n) : DQ n P b (wres s p x).2 := by
  unfold Go.Proofs.Ytjmfeoenbncibaa.wres
  split
  · exact h.gone _
  · split
    · exact h.gone _
    · split
      · exact h.gone _
      · rename_i h1 h2 h3
        have h3' : x.size = 512 := by simpa using h3
        rw [Int.toNat_natCast]
        refine ⟨h.ls, (List.length_set ..).trans h.ln, h.safe, fun q hq => ?_, h.ss, fun q hq => ?_, fun y hy => ?_⟩
        · show blkAt (s.now.set p x) q = _
          rw [blkAt_set2, if_neg (by omega)]
          exact h.now q hq
        · have hq' : okDec (blkAt (s.now.set p x) q) = true := hq
          show (decR (blkAt (s.now.set p x) q)).seq < n
          rw [blkAt_set2] at hq' ⊢
          split at hq'
          · rename_i hc
            rw [if_pos hc]
            exact hx hq'
          · rename_i hc
            rw [if_neg hc]
            exact h.sn q hq'
        · rcases List.mem_append.1 hy with hy | hy
          · exact h.loose y hy
          · have : y = (p, x) := by simpa using hy
            rw [this]
            exact ⟨hp, h3', hx⟩
theorem DQ.fres {n P : Nat} {b : List ByteArray} {s : DS} (h : DQ n P b s) : DQ n P b (fres s).2 := by
  unfold Go.Proofs.Ytjmfeoenbncibaa.fres
  split
  · exact h.gone _
  · exact ⟨h.ln, h.ln, h.now, h.now, h.sn, h.sn, by intro x hx; cases hx⟩
theorem DQ.wBlocks {n P : Nat} {b : List ByteArray} : ∀ (cs : List ByteArray) {s : DS} (p : Nat), DQ n P b s → P ≤ p → (∀ c ∈ cs, c.size ≤ 508) → DQ n P b (wBlocks s p cs).2
  | [], s, p, h, _, _ => by rw [wBlocks_nil]; exact h
  | c :: cs, s, p, h, hp, hc => by
    have h1 := h.wres hp (x := wrapS c) (fun he => by rw [wrap_okDec (hc c (List.mem_cons_self ..))] at he; cases he)
    rw [wBlocks_cons]
    split
    · exact DQ.wBlocks cs (p + 1) h1 (by omega) (fun x hx => hc x (List.mem_cons_of_mem _ hx))
    · exact h1
theorem DQ.putD {n P : Nat} {b : List ByteArray} {s : DS} (h : DQ n P b s) {cs : List ByteArray} {hd : ByteArray} (hc : ∀ c ∈ cs, c.size ≤ 508) (hh : okDec hd = true → (decR hd).seq < n) : DQ n P b (putD s P cs hd).2 := by
  have h1 := DQ.wBlocks cs (P + 1) h (by omega) hc
  unfold Go.Proofs.Ytjmfeoenbncibaa.putD
  split
  · unfold fin3
    split
    · split
      · exact (h1.fres.wres (Nat.le_refl _) hh).fres
      · exact h1.fres.wres (Nat.le_refl _) hh
    · exact h1.fres
  · exact h1

theorem torn_first {x y : ByteArray} (hx : x.size = 512) {t : Nat} (ht : t = 256 ∨ t = 512) : (x.extract 0 t ++ y.extract t 512).extract 0 256 = x.extract 0 256 := by
  apply ByteArray.ext
  rcases ht with rfl | rfl <;> (apply Array.ext' ; simp [ByteArray.data_extract, ByteArray.data_append, Array.toList_extract, List.extract_eq_take_drop, List.take_append, List.take_take]; try omega)
  all_goals
    have : x.data.size = 512 := hx
    simp [this]
def DQb (n P : Nat) (b c : List ByteArray) : Prop := c.length = b.length ∧ (∀ p, p < P → blkAt c p = blkAt b p) ∧ SeqLt n c
theorem dqb_torn {n P : Nat} {b c : List ByteArray} (h : DQb n P b c) {x : (Nat × ByteArray) × Int} (h1 : P ≤ x.1.1) (h2 : x.1.2.size = 512) (h3 : okDec x.1.2 = true → (decR x.1.2).seq < n) (h4 : x.2 = 0 ∨ x.2 = 256 ∨ x.2 = 512) : DQb n P b (torn1 c x) := by
  unfold torn1
  split
  · exact h
  · rename_i h0
    have ht : x.2.toNat = 256 ∨ x.2.toNat = 512 := by omega
    obtain ⟨a1, a2, a3⟩ := h
    refine ⟨(List.length_set ..).trans a1, fun p hp => ?_, fun p hp => ?_⟩
    · rw [blkAt_set2, if_neg (by omega)]
      exact a2 p hp
    · show (decR (blkAt _ p)).seq < n
      rw [blkAt_set2] at hp ⊢
      split at hp
      · rename_i hc
        rw [if_pos hc]
        have hd := dec_first hp h2 (torn_first h2 ht).symm
        rw [← hd.2]
        exact h3 hd.1
      · rename_i hc
        rw [if_neg hc]
        exact a3 p hp
theorem dqb_fold {n P : Nat} {b : List ByteArray} : ∀ (l : List ((Nat × ByteArray) × Int)) (c : List ByteArray), DQb n P b c → (∀ x ∈ l, P ≤ x.1.1 ∧ x.1.2.size = 512 ∧ (okDec x.1.2 = true → (decR x.1.2).seq < n) ∧ (x.2 = 0 ∨ x.2 = 256 ∨ x.2 = 512)) → DQb n P b (l.foldl torn1 c)
  | [], c, h, _ => h
  | x :: l, c, h, hl => by
    obtain ⟨h1, h2, h3, h4⟩ := hl x (List.mem_cons_self ..)
    exact dqb_fold l _ (dqb_torn h h1 h2 h3 h4) (fun y hy => hl y (List.mem_cons_of_mem _ hy))
theorem DQ.crash {n P : Nat} {b : List ByteArray} {s : DS} (h : DQ n P b s) (keep torn : Int) : Alike P b (crashed s keep torn) ∧ SeqLt n (crashed s keep torn) := by
  have := dqb_fold (n := n) (P := P) (b := b) (fates s.loose keep torn) s.safe ⟨h.ls, h.safe, h.ss⟩ (fun x hx => by
    obtain ⟨i, hi⟩ := List.mem_iff_getElem?.1 hx
    obtain ⟨e1, e2⟩ := fates_get _ _ _ _ _ hi
    obtain ⟨g1, g2, g3⟩ := h.loose x.1 (List.mem_of_getElem? e1)
    exact ⟨g1, g2, g3, by rw [e2]; exact stays_or _ _ _⟩)
  exact ⟨⟨this.1, this.2.1⟩, this.2.2⟩
end Go.Proofs.Ytjmfeoenbncibaa
namespace Go.Proofs.Ytjmfeoenbncibaa
open Go.RowKit Go.Nau Go.Shelf
attribute [local go_sem] Oper.semAt_some

/-- The contracts of the calls of LogLasts: I holds ahead of a round (positions ps of the records so far), J ahead of its Write, E behind the loop (u: one more may be there). -/
structure LaH (w : World) (ck : Nat) (keep torn : Int) (I J : Nat → Nat → Nat → List Nat → (Nat → Prop) → World → Prop) (E : Nat → Nat → List Nat → Nat → (Nat → Prop) → World → Prop) (T : Option Addr → Nat → Nat → Prop) : Prop where
  new : ∀ W, Below w.heap.size w W → Calls Try.prog 10 #[.int .i64 256] W fun e w2 => ∃ d, e = .returned (.tuple #[ptrV d, .int .i64 0]) ∧ Calls Try.prog 11 #[ptrV d, .int .i64 16, .int .u64 1, .int .i64 2] w2 fun e w3 => ∃ g, e = .returned (.tuple #[ptrV g, .int .i64 0]) ∧
    Calls Try.prog 34 #[ptrV d, .int .i64 ck] w3 fun e w4 => e = .returned (.tuple #[]) ∧ ∃ F, I g d 0 [] F w4
  below : ∀ g d q ps F W, I g d q ps F W → Below w.heap.size w W
  inF : ∀ g d q ps F W, I g d q ps F W → ∀ b, F b → w.heap.size ≤ b ∧ b < W.heap.size
  inJ : ∀ g d q ps F W, J g d q ps F W → Below w.heap.size w W ∧ ∀ b, F b → w.heap.size ≤ b ∧ b < W.heap.size
  kept : ∀ g d q ps F W W' S, I g d q ps F W → Fr S W W' → (∀ b, F b → ¬ S b) → (∀ b, S b → w.heap.size ≤ b) → I g d q ps F W'
  next : ∀ g d q ps F W, q < 12 → I g d q ps F W → ∃ X : Int, (Calls Try.prog 15 #[ptrV g] W fun e w' => e = .returned (.int .i64 X) ∧ W = w') ∧
    ((X = 0 ∧ Calls Try.prog 19 #[ptrV g, .int .i64 (2 + (q : Int))] W fun e w1 => (∃ r, e = .returned (.int .i64 r)) ∧ J g d q ps F w1 ∧ Fr F W w1) ∨ ((X == 0) = false ∧ J g d q ps F W))
  room : ∀ g d q ps F W, J g d q ps F W → ∃ R P : Nat, (Calls Try.prog 18 #[ptrV g] W fun e w' => e = .returned (.int .i64 R) ∧ W = w') ∧ (Calls Try.prog 13 #[ptrV g] W fun e w' => e = .returned (.int .i64 P) ∧ W = w') ∧
    ∀ A m1 cr m2, T A m1 cr → m2 ≤ m1 → Calls Try.prog 17 #[ptrV g, .int .u64 1, .slice A m2 cr, .bool false, .bool false] W fun e w1 => ∃ (v : Value) (e1 : Int) (F' : Nat → Prop), e = .returned (.tuple #[v, .int .i64 e1]) ∧ (∀ b, F' b → F b ∨ W.heap.size ≤ b) ∧ Fr F W w1 ∧
      ((e1 = 0 ∧ I g d (q + 1) (ps ++ [P]) F' w1) ∨ (e1 = 2 ∧ I g d (q + 1) ps F' w1) ∨ ((e1 == 0) = false ∧ (e1 != 2) = true ∧ E g d ps 1 F' w1))
  fin : ∀ g d q ps F W, I g d q ps F W → E g d ps 0 F W
  end_ : ∀ g d ps u F W, E g d ps u F W → Calls Try.prog 36 #[ptrV d, .agg #[.int .u64 keep, .int .i64 torn]] W fun e w1 => Below W.heap.size W w1 ∧ ∃ dc, e = .returned (ptrV dc) ∧
    Calls Try.prog 12 #[ptrV dc, .int .i64 16, .int .u64 1, .int .i64 2] w1 fun e w2 => Below w1.heap.size w1 w2 ∧ ∃ (A1 : Option Addr) (n c1 g2 : Nat), e = .returned (.tuple #[.slice A1 n c1, ptrV g2, .int .i64 0]) ∧ ps.length ≤ n ∧ n ≤ ps.length + u ∧
      ∀ j p, ps[j]? = some p → ∃ ad, A1 = some ad ∧ w2.cell? (ad.add (j * 8)) = some (.int .i64 (p : Nat)) ∧ w2.cell? ⟨(ad.add (j * 8)).block, (ad.add (j * 8)).off + 1, none⟩ = some (.int .u64 ((j : Int) + 1))
  belowE : ∀ g d ps u F W, E g d ps u F W → Below w.heap.size w W

def LaRel (I : Nat → Nat → Nat → List Nat → (Nat → Prop) → World → Prop) (w : World) (g d M : Nat) (k : Nat) (v12 v13 v14 v15 _ _ _ _ : Value) (wr : World) : Prop :=
  ∃ (q : Nat) (ps : List Nat) (F : Nat → Prop), k = M - q ∧ v12 = .int .i64 (ps.length : Nat) ∧ v13 = .int .i64 0 ∧ v15 = .int .i64 q ∧ q ≤ M ∧ I g d q ps F wr ∧ wr.ownsRow w.heap.size 3 1 v14 ps.length (ps.map fun (i : Nat) => Value.int .i64 (i : Int)) ∧ (∀ b, v14.ownBlock = some b → ¬ F b) ∧ ps.length ≤ q

def LcRel (w : World) (n : Nat) (k : Nat) (i : Value) (wr : World) : Prop := ∃ q nq : Nat, k = n - q ∧ i = .int .i64 q ∧ q ≤ n ∧ wr = w.drewN nq

set_option maxHeartbeats 8000000 in
set_option maxRecDepth 100000 in
theorem lasts_core (A : Option Addr) (n c0 M ck : Nat) (ca keep torn : Int) (w0 w : World) (hw0 : w = w0.alloc (.cells #[.int .u64 keep, .int .i64 torn] 73)) (I J : Nat → Nat → Nat → List Nat → (Nat → Prop) → World → Prop) (E : Nat → Nat → List Nat → Nat → (Nat → Prop) → World → Prop) (T : Option Addr → Nat → Nat → Prop) (hH : LaH w ck keep torn I J E T) (hn : (n : Int) ≤ 9223372036854775807) (hM : M = min n 12)
    (hP : ∀ W, Calls Try.prog 35 #[.int .i64 ca, .int .i64 300] W fun e w' => e = .returned (.int .i64 ck) ∧ w' = W)
    (hE : ∀ q, q < n → ∃ ad, A = some ad ∧ ∀ W, Below w.heap.size w W → ∃ (Ar : Option Addr) (nr cr m1 : Nat), W.cell? (ad.add q) = some (.slice Ar nr cr) ∧ (Calls Try.prog 24 #[.slice Ar nr cr] W fun e w' => e = .returned (.slice Ar m1 cr) ∧ W = w') ∧ m1 ≤ cr ∧ m1 ≤ 20 ∧ T Ar m1 cr) :
    Calls Try.prog 8 #[.slice A n c0, .int .i64 ca, .agg #[.int .u64 keep, .int .i64 torn]] w0 fun e w' => e = .returned (.bool true) ∧ Below w0.heap.size w0 w' := by
  obtain ⟨i0, hi, hz0, hz1, hz2⟩ := info_parts infoI
  have hb00 : Below w0.heap.size w0 w := by rw [hw0]; exact (Below.refl _ _).alloc (Nat.le_refl _) _
  have hf0 : w.heap[w0.heap.size]? = some (.cells #[.int .u64 keep, .int .i64 torn] 73 (0, 0)) := by rw [hw0]; exact heap_alloc_new w0 _
  have hlt0 := (Array.getElem?_eq_some_iff.1 hf0).1
  have hM' : M ≤ n ∧ M ≤ 12 ∧ (n ≤ M ∨ 12 ≤ M) := by omega
  clear hM
  have HH := Lib.hid hH
  have HE := Lib.hid hE
  have HW0 := Lib.hid hw0
  have HP := Lib.hid hP
  have HF0 := Lib.hid hf0
  have hS := Lib.hid (shown_any w)
  clear hH hE hw0 hP hf0
  go_enter Try.func8, Try.ntmps8
  go_wp2_with fail
  rw [← HW0.out]
  refine hS.out.mono ?_
  rintro e w1 ⟨rfl, hb1⟩
  have hN := HH.out.new w1 hb1
  have HN := Lib.hid hN
  clear hN hb1
  go_wp2_with fail
  refine HN.out.mono ?_
  rintro e w2 ⟨d, rfl, hN⟩
  clear HN
  have HN := Lib.hid hN
  clear hN
  go_wp2_with fail
  refine HN.out.mono ?_
  rintro e w3 ⟨g, rfl, hN⟩
  clear HN
  have HN := Lib.hid hN
  clear hN
  go_wp2_with fail
  refine (HP.out _).mono ?_
  rintro e w4 ⟨rfl, rfl⟩
  go_wp2_with fail
  refine HN.out.mono ?_
  rintro e w5 ⟨rfl, F, hI⟩
  clear HN
  have HN := Lib.hid hI
  clear hI
  go_wp2_with fail
  go_loopg [12, 13, 14, 15, 16, 17, 18, 19] M (LaRel I w g d M)
  case atStart => exact ⟨0, [], F, rfl, rfl, rfl, rfl, Nat.zero_le _, HN.out, ⟨rfl, .inl ⟨rfl, rfl⟩⟩, fun b hb => by simp [Value.ownBlock] at hb, Nat.le_refl _⟩
  case round =>
    obtain ⟨q, ps, F, rfl, rfl, rfl, rfl, hq, hI, hown, hvF, hpq⟩ := hrel
    clear HN
    have hbw := HH.out.below _ _ _ _ _ _ hI
    have hws := hbw.size
    have hinF := HH.out.inF _ _ _ _ _ _ hI
    have hf := (hbw.block _ hlt0).trans HF0.out
    have c0' := blk_cell hf 0
    have c1' := blk_cell hf 1
    simp at c0' c1'
    have hrow := hown.lt
    have HO := Lib.hid hown
    have HVF := Lib.hid hvF
    have HINF := Lib.hid hinF
    clear hown hvF hinF
    obtain ⟨m, hm⟩ : ∃ m, ps.length = m := ⟨_, rfl⟩
    have hpm : m ≤ q := by omega
    by_cases hlt : q < M
    · obtain ⟨ad, rfl, hcell⟩ := HE.out q (by omega)
      have HC := Lib.hid hcell
      clear hcell
      have g1 : (q : Int) < n := by omega
      have g2 : (q : Int) < 12 := by omega
      obtain ⟨X, hX, hcase⟩ := HH.out.next _ _ _ _ _ _ (by omega) hI
      have HX := Lib.hid hX
      clear hX hI
      rw [hm]
      rcases hcase with ⟨rfl, hs⟩ | ⟨hx0, hJ⟩
      case' inl =>
        have HS := Lib.hid hs
        clear hs
        go_wp2_with fail
        refine HX.out.mono ?_
        rintro e wa ⟨rfl, rfl⟩
        go_wp2_with fail
        refine HS.out.mono ?_
        rintro e wb ⟨⟨r, rfl⟩, hJ, hfb⟩
      case' inr =>
        go_wp2_with fail
        refine HX.out.mono ?_
        rintro e wb ⟨rfl, rfl⟩
        have hfb : Fr F wr wr := Fr.refl _ _
      all_goals
        have HFB := Lib.hid hfb
        obtain ⟨hbJ, hJF⟩ := HH.out.inJ _ _ _ _ _ _ hJ
        have HBJ := Lib.hid hbJ
        have HJF := Lib.hid hJF
        obtain ⟨Ar, nr, cr, m1, hcl, hcut, hmc, hm20, hT⟩ := HC.out _ hbJ
        have HCUT := Lib.hid hcut
        have HT := Lib.hid hT
        obtain ⟨R, P, hR, hPp, hw⟩ := HH.out.room _ _ _ _ _ _ hJ
        have HR := Lib.hid hR
        have HPP := Lib.hid hPp
        have HW := Lib.hid hw
        clear hcut hT hJ hfb hR hPp hw hbJ hJF
        obtain ⟨m2, hm2⟩ : ∃ m2 : Nat, min (m1 : Int) (R : Int) = m2 := ⟨min m1 R, by omega⟩
        have hm21 : m2 ≤ m1 := by omega
        have hm2c : m2 ≤ cr := by omega
        go_wp2_with fail
        refine HCUT.out.mono ?_
        rintro e wz ⟨rfl, rfl⟩
        go_wp2_with fail
        refine HR.out.mono ?_
        rintro e wz ⟨rfl, rfl⟩
        go_wp2_with fail
        refine HPP.out.mono ?_
        rintro e wz ⟨rfl, rfl⟩
        go_wp2_with fail
        refine (HW.out Ar m1 cr m2 HT.out hm21).mono ?_
        rintro e w11 ⟨v, e1, F', rfl, hF', hf11, hcs⟩
        have hrw := fun b hb => hrow b hb
        have hsz := HFB.out.size
        have hsz11 := hf11.size
        have hownW := Fr.own (Fr.own HO.out HFB.out (fun k hk => HVF.out k hk)) hf11 (fun k hk => HVF.out k hk)
        have hnF : ∀ b, u14.ownBlock = some b → ¬ F' b := fun b hb h => by
          rcases hF' b h with h | h
          · exact HVF.out b hb h
          · have := (hrow b hb).2; omega
        rw [hm] at hownW
        rcases hcs with ⟨rfl, hI2⟩ | ⟨rfl, hI2⟩ | ⟨he0, he2, hE2⟩
        · have hI3 := HH.out.inF _ _ _ _ _ _ hI2
          have hb11 := HH.out.below _ _ _ _ _ _ hI2
          have hs11 := hb11.size
          have hmi : (m : Int) ≤ 12 := by omega
          go_wp2_with (at_builtin; refine wpList_append_rd _ rfl (.tmp 79) (.tmp 81) 38 rfl w.heap.size 3 i0 _ 1 8 Try.underlying38 hi hz0 hz1 hz2 rfl (by decide) _ m (ps.map fun (i : Nat) => Value.int .i64 (i : Int)) rfl (hownW.alloc _) _ (some ⟨w11.heap.size, 0, none⟩) 1 1 [.int .i64 P] rfl (rd_newI w11 P) (by simp [Value.oneCell']) (by unfold maxLen; omega) (by omega) (by simp; omega) ?_; intro v4 w4 hown4 hg4 hat4)
          have hf4 : Fr (fun k => some k = u14.ownBlock) w11 w4 := ((Fr.refl (fun _ => False) w11).alloc _).trans' (Fr.of_grown hg4)
          have hI4 := HH.out.kept _ _ _ _ _ _ _ _ hI2 hf4 (fun b hb h => hnF b h.symm hb) (fun b h => (hrow b h.symm).1)
          have HI4 := Lib.hid hI4
          have hnF4 : ∀ b, v4.ownBlock = some b → ¬ F' b := fun b hb h => by
            rcases hat4 with h4 | h4
            · exact hnF b (h4 ▸ hb) h
            · have e4 : b = w11.heap.size + 1 := by
                rw [h4] at hb
                simpa using hb.symm
              have := (hI3 b h).2
              omega
          have hown5 : w4.ownsRow w.heap.size 3 1 v4 (ps ++ [P]).length ((ps ++ [P]).map fun (i : Nat) => Value.int .i64 (i : Int)) := by
            rw [List.map_append, List.length_append, hm]
            exact hown4
          have HO5 := Lib.hid hown5
          have HN4 := Lib.hid hnF4
          clear hown4 hown5 hg4 hat4 hf4 hI4 hI2 hI3 hnF4 hnF hownW
          go_wp2_with fail
          go_roundg (M - (q + 1))
          case measure => omega
          case rel => exact ⟨q + 1, ps ++ [P], F', rfl, by first | (rw [List.length_append, hm]; simp; done) | simp [hm], rfl, by simp, by omega, HI4.out, HO5.out, HN4.out, by rw [List.length_append, hm]; simp; omega⟩
        · have HI2 := Lib.hid hI2
          have HOW := Lib.hid hownW
          have HNF := Lib.hid hnF
          clear hI2 hownW hnF
          go_wp2_with fail
          go_roundg (M - (q + 1))
          case measure => omega
          case rel => exact ⟨q + 1, ps, F', rfl, by first | rfl | rw [hm], rfl, by simp, by omega, HI2.out, by rw [hm]; exact HOW.out, HNF.out, by omega⟩
        · clear hnF hf11 hF'
          have hbE := HH.out.belowE _ _ _ _ _ _ hE2
          have hfE := (hbE.block _ hlt0).trans HF0.out
          have d0 := blk_cell hfE 0
          have d1 := blk_cell hfE 1
          simp at d0 d1
          have hcr := HH.out.end_ _ _ _ _ _ _ hE2
          obtain ⟨Aw, cw, rfl, hrdw⟩ := Rd.lt_own (own_base hownW (Nat.zero_le _))
          have HCR := Lib.hid hcr
          have HRW := Lib.hid hrdw
          have HBE := Lib.hid hbE
          clear hcr hrdw hbE hfE hE2 hownW HO HVF HINF
          go_wp2_with fail
          refine HCR.out.mono ?_
          rintro e wx ⟨hbx, dc, rfl, hs⟩
          have HS2 := Lib.hid hs
          have HBX := Lib.hid hbx
          clear hs hbx d0 d1
          go_wp2_with fail
          refine HS2.out.mono ?_
          rintro e wy ⟨hby, A1, nn, c1, g7, rfl, hn1, hn2, hcells⟩
          have HCE := Lib.hid hcells
          have hby2 : Below w.heap.size w wy := (HBE.out.trans (HBX.out.mono HBE.out.size)).trans (hby.mono (Nat.le_trans HBE.out.size HBX.out.size))
          have hrdy := (HRW.out.kept (Fr.new HBX.out (fun _ => False)) (fun _ _ => id)).kept (Fr.new hby (fun _ => False)) (fun _ _ => id)
          have HRY := Lib.hid hrdy
          have HBY := Lib.hid hby2
          rw [hm] at hn1 hn2
          have k1 : ¬ (nn : Int) < (m : Int) := by omega
          have k2 : ¬ (m : Int) + 1 < (nn : Int) := by omega
          have k4 : ¬ nn < m := by omega
          have k5 : ¬ m + 1 < nn := by omega
          have k3 : (m : Int) ≤ 12 := by omega
          clear hcells hby hby2 hrdy
          go_wp2_with fail
          go_loopg [23] m (LcRel wy m)
          case atStart => exact ⟨0, 0, rfl, rfl, Nat.zero_le _, rfl⟩
          case round =>
            obtain ⟨j, nj, rfl, rfl, hj, rfl⟩ := hrel
            by_cases hjl : j < m
            · have hji : (j : Int) < (m : Int) := by omega
              obtain ⟨pj, hpj⟩ : ∃ pj, ps[j]? = some pj := ⟨_, List.getElem?_eq_getElem (by omega)⟩
              obtain ⟨a1, rfl, e0, e1'⟩ := HCE.out j pj hpj
              obtain ⟨a2, rfl, _, hcw⟩ := HRY.out.2 (by omega)
              have e2 := hcw j _ (by rw [List.getElem?_map, hpj]; rfl)
              have hjn : (j : Int) < (nn : Int) := by omega
              clear hcw hpj
              go_wp2_with fail
              go_quiet (fail)
              rename_i nq9
              go_wp2_with fail
              go_roundg (m - (j + 1))
              case measure => omega
              case rel => exact ⟨j + 1, _, rfl, by simp, by omega, rfl⟩
            · obtain rfl : j = m := by omega
              go_wp2_with fail
              go_ret
              exact ⟨rfl, below_drewN (hb00.trans (HBY.out.mono hb00.size)) _⟩
    · obtain rfl : q = M := by omega
      have hE2 := HH.out.fin _ _ _ _ _ _ hI
      have hownW := HO.out
      rw [hm] at hownW ⊢
      clear c0' c1' hI
      have hgo : ((q : Int) < n ∧ ¬ (q : Int) < 12) ∨ ¬ (q : Int) < n := by omega
      have hbE := HH.out.belowE _ _ _ _ _ _ hE2
      have hfE := (hbE.block _ hlt0).trans HF0.out
      have d0 := blk_cell hfE 0
      have d1 := blk_cell hfE 1
      simp at d0 d1
      have hcr := HH.out.end_ _ _ _ _ _ _ hE2
      obtain ⟨Aw, cw, rfl, hrdw⟩ := Rd.lt_own (own_base hownW (Nat.zero_le _))
      have HCR := Lib.hid hcr
      have HRW := Lib.hid hrdw
      have HBE := Lib.hid hbE
      clear hcr hrdw hbE hfE hE2 hownW HO HVF HINF
      rcases hgo with ⟨g1, g2⟩ | g1
      all_goals
        go_wp2_with fail
        refine HCR.out.mono ?_
        rintro e wx ⟨hbx, dc, rfl, hs⟩
        have HS2 := Lib.hid hs
        have HBX := Lib.hid hbx
        clear hs hbx d0 d1
        go_wp2_with fail
        refine HS2.out.mono ?_
        rintro e wy ⟨hby, A1, nn, c1, g7, rfl, hn1, hn2, hcells⟩
        have HCE := Lib.hid hcells
        have hby2 : Below w.heap.size w wy := (HBE.out.trans (HBX.out.mono HBE.out.size)).trans (hby.mono (Nat.le_trans HBE.out.size HBX.out.size))
        have hrdy := (HRW.out.kept (Fr.new HBX.out (fun _ => False)) (fun _ _ => id)).kept (Fr.new hby (fun _ => False)) (fun _ _ => id)
        have HRY := Lib.hid hrdy
        have HBY := Lib.hid hby2
        rw [hm] at hn1 hn2
        have k1 : ¬ (nn : Int) < (m : Int) := by omega
        have k2 : ¬ (m : Int) + 0 < (nn : Int) := by omega
        have k4 : ¬ nn < m := by omega
        have k5 : ¬ m < nn := by omega
        have k6 : ¬ (m : Int) < (nn : Int) := by omega
        have k3 : (m : Int) ≤ 12 := by omega
        clear hcells hby hby2 hrdy
        go_wp2_with fail
        go_loopg [23] m (LcRel wy m)
        case atStart => exact ⟨0, 0, rfl, rfl, Nat.zero_le _, rfl⟩
        case round =>
          obtain ⟨j, nj, rfl, rfl, hj, rfl⟩ := hrel
          by_cases hjl : j < m
          · have hji : (j : Int) < (m : Int) := by omega
            obtain ⟨pj, hpj⟩ : ∃ pj, ps[j]? = some pj := ⟨_, List.getElem?_eq_getElem (by omega)⟩
            obtain ⟨a1, rfl, e0, e1'⟩ := HCE.out j pj hpj
            obtain ⟨a2, rfl, _, hcw⟩ := HRY.out.2 (by omega)
            have e2 := hcw j _ (by rw [List.getElem?_map, hpj]; rfl)
            have hjn : (j : Int) < (nn : Int) := by omega
            clear hcw hpj
            go_wp2_with fail
            go_quiet (fail)
            rename_i nq9
            go_wp2_with fail
            go_roundg (m - (j + 1))
            case measure => omega
            case rel => exact ⟨j + 1, _, rfl, by simp, by omega, rfl⟩
          · obtain rfl : j = m := by omega
            go_wp2_with fail
            go_ret
            exact ⟨rfl, below_drewN (hb00.trans (HBY.out.mono hb00.size)) _⟩
end Go.Proofs.Ytjmfeoenbncibaa

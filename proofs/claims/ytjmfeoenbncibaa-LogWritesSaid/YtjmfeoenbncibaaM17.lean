/- Texts of this proof, joined: La Di Dj. They hold under no condition beyond what each theorem states. -/
import Derived.Test.YtjmfeoenbncibaaM16
import Derived.Test.YtjmfeoenbncibaaM07
import Derived.StillTailTactics
namespace Go.Proofs.Ytjmfeoenbncibaa
open Go.RowKit Go.Nau

structure LS where
  pos : Nat
  seq : Nat
  next : Nat

structure Fnd where
  pos : Nat
  r : Rec
  c : List ByteArray

/-- Behind a record of so many blocks. -/
def goN (l : LS) (k nx : Nat) : LS :=
  if (l.pos + k + 1) % 16 = 0 ∨ (l.pos + k + 1) % 16 = 15 then ⟨nx * 16, l.seq + 1, 0⟩ else ⟨l.pos + k + 1, l.seq + 1, nx⟩

def segB (nb : Nat) (n : Int) : Bool := decide (0 < n) && decide (n < ((nb / 16 : Nat) : Int))

structure LOk (nb : Nat) (l : LS) : Prop where
  n16 : nb % 16 = 0
  n256 : nb ≤ 4096
  lo : 16 ≤ l.pos
  hi : l.pos < nb
  last : l.pos % 16 ≠ 15
  seq0 : 1 ≤ l.seq
  seq1 : l.seq ≤ 281474976710656
  next : l.next = 0 ∨ segB nb l.next = true

theorem segB_iff {nb : Nat} {n : Int} : segB nb n = true ↔ 0 < n ∧ n < ((nb / 16 : Nat) : Int) := by simp [segB]

theorem LOk.goN {nb : Nat} {l : LS} (h : LOk nb l) {k nx : Nat} (hk : k ≤ 15 - l.pos % 16) (hn : segB nb nx = true) (hs : l.seq < 281474976710656) : LOk nb (goN l k nx) := by
  obtain ⟨h1, h2⟩ := segB_iff.1 hn
  have := h.n16
  have := h.lo
  have := h.hi
  have := h.last
  have := h.n256
  unfold Go.Proofs.Ytjmfeoenbncibaa.goN
  split
  · exact ⟨h.n16, h.n256, by dsimp only; omega, by dsimp only; omega, by dsimp only; omega, by dsimp only; omega, by dsimp only; omega, .inl rfl⟩
  · exact ⟨h.n16, h.n256, by dsimp only; omega, by dsimp only; omega, by dsimp only; omega, by dsimp only; omega, by dsimp only; omega, .inr hn⟩
theorem goN_seq (l : LS) (k nx : Nat) : (goN l k nx).seq = l.seq + 1 := by unfold goN; split <;> rfl

def blkAt (now : List ByteArray) (p : Nat) : ByteArray := now.getD p ⟨#[]⟩
theorem blkAt_get {now : List ByteArray} {p : Nat} (h : p < now.length) : now[p]? = some (blkAt now p) := by
  unfold blkAt
  rw [List.getD, List.getElem?_eq_getElem h]
  rfl
def recAt (now : List ByteArray) (p : Nat) : Rec := decR (blkAt now p)
/-- Is a block a record that may stand there? -/
def headT (now : List ByteArray) (l : LS) : Bool :=
  decide (l.seq < 281474976710656) && (okDec (blkAt now l.pos) && (decide ((recAt now l.pos).seq = l.seq) && (decide ((recAt now l.pos).l.length ≤ 15 - l.pos % 16) && segB now.length (recAt now l.pos).next)))
def contT (now : List ByteArray) (l : LS) : Bool := (List.range (recAt now l.pos).l.length).all fun i => isWrap (blkAt now (l.pos + 1 + i))
def thereT (now : List ByteArray) (l : LS) : Bool := headT now l && contT now l
def contsTo (now : List ByteArray) (p n : Nat) : List ByteArray := (List.range n).map fun i => unwO (blkAt now (p + 1 + i))
def fndAt (now : List ByteArray) (l : LS) : Fnd := ⟨l.pos, recAt now l.pos, contsTo now l.pos (recAt now l.pos).l.length⟩
def goF (now : List ByteArray) (l : LS) : LS := goN l (recAt now l.pos).l.length (recAt now l.pos).next.toNat
/-- Behind so many records. -/
def stL (now : List ByteArray) (l : LS) : Nat → LS
  | 0 => l
  | k + 1 => goF now (stL now l k)
/-- So many are found. -/
def ScanN (now : List ByteArray) (l : LS) (N : Nat) : Prop := (∀ k, k < N → thereT now (stL now l k) = true) ∧ thereT now (stL now l N) = false
def fndL (now : List ByteArray) (l : LS) (N : Nat) : List Fnd := (List.range N).map fun k => fndAt now (stL now l k)
theorem fndL_length (now : List ByteArray) (l : LS) (N : Nat) : (fndL now l N).length = N := by simp [fndL]
theorem fndL_succ (now : List ByteArray) (l : LS) (N : Nat) : fndL now l (N + 1) = fndL now l N ++ [fndAt now (stL now l N)] := by simp [fndL, List.range_succ]
theorem fndL_get {now : List ByteArray} {l : LS} {N k : Nat} (h : k < N) : (fndL now l N)[k]? = some (fndAt now (stL now l k)) := by
  unfold fndL
  rw [List.getElem?_map, List.getElem?_range h]
  rfl
theorem contsTo_length (now : List ByteArray) (p n : Nat) : (contsTo now p n).length = n := by simp [contsTo]
theorem contsTo_succ (now : List ByteArray) (p n : Nat) : contsTo now p (n + 1) = contsTo now p n ++ [unwO (blkAt now (p + 1 + n))] := by simp [contsTo, List.range_succ]

theorem stL_seq (now : List ByteArray) (l : LS) : ∀ k, (stL now l k).seq = l.seq + k
  | 0 => rfl
  | k + 1 => by
    show (goN _ _ _).seq = _
    rw [goN_seq, stL_seq now l k]
    omega
theorem headT_iff {now : List ByteArray} {l : LS} : headT now l = true ↔ l.seq < 281474976710656 ∧ okDec (blkAt now l.pos) = true ∧ (recAt now l.pos).seq = l.seq ∧ (recAt now l.pos).l.length ≤ 15 - l.pos % 16 ∧ segB now.length (recAt now l.pos).next = true := by
  simp [headT]
theorem thereT_head {now : List ByteArray} {l : LS} (h : thereT now l = true) : headT now l = true := by
  unfold thereT at h
  simp at h
  exact h.1
theorem okDec_size {s : ByteArray} (h : okDec s = true) : s.size = 512 := by
  unfold okDec at h
  simp at h
  exact h.1
theorem blkAt_size {now : List ByteArray} {p : Nat} (h : (blkAt now p).size = 512) : p < now.length := by
  rcases Nat.lt_or_ge p now.length with h1 | h1
  · exact h1
  · unfold blkAt at h
    rw [List.getD, List.getElem?_eq_none h1] at h
    simp [ByteArray.size] at h
theorem scanN_ex (now : List ByteArray) (l : LS) : ∃ N, ScanN now l N := by
  have main : ∀ (m k : Nat), 281474976710656 - (l.seq + k) ≤ m → (∀ j, j < k → thereT now (stL now l j) = true) → ∃ N, ScanN now l N := by
    intro m
    induction m with
    | zero =>
      intro k hm hk
      refine ⟨k, hk, ?_⟩
      cases h : thereT now (stL now l k) with
      | false => rfl
      | true =>
        have := (headT_iff.1 (thereT_head h)).1
        rw [stL_seq] at this
        omega
    | succ m ih =>
      intro k hm hk
      cases h : thereT now (stL now l k) with
      | false => exact ⟨k, hk, h⟩
      | true =>
        refine ih (k + 1) (by omega) (fun j hj => ?_)
        by_cases e : j = k
        · subst e; exact h
        · exact hk j (by omega)
  exact main _ 0 (Nat.le_refl _) (fun j hj => by omega)
theorem scanN_eq {now : List ByteArray} {l : LS} {N M : Nat} (h : ScanN now l N) (k : ScanN now l M) : N = M := by
  rcases Nat.lt_trichotomy N M with h1 | h1 | h1
  · have := k.1 N h1
    rw [h.2] at this
    cases this
  · exact h1
  · have := h.1 M h1
    rw [k.2] at this
    cases this
theorem nodup_lt_length : ∀ (n : Nat) (l : List Nat), l.Nodup → (∀ x ∈ l, x < n) → l.length ≤ n := by
  intro n
  induction n with
  | zero =>
    intro l _ h
    cases l with
    | nil => simp
    | cons a l => exact absurd (h a List.mem_cons_self) (by omega)
  | succ n ih =>
    intro l hd hl
    have h1 : (l.erase n).length ≤ n := ih _ (hd.erase n) (fun x hx => by
      have hx2 := (hd.mem_erase_iff).1 hx
      have := hl x hx2.2
      have := hx2.1
      omega)
    have := List.length_erase (l := l) (a := n)
    split at this <;> omega
/-- There are no more of them than blocks. -/
theorem scanN_le {now : List ByteArray} {l : LS} {N : Nat} (h : ∀ k, k < N → thereT now (stL now l k) = true) : N ≤ now.length := by
  have := nodup_lt_length now.length ((List.range N).map fun k => (stL now l k).pos) ?_ ?_
  · simpa using this
  · rw [List.nodup_iff_pairwise_ne, List.pairwise_map]
    refine List.Pairwise.imp_of_mem ?_ (List.nodup_iff_pairwise_ne.1 List.nodup_range)
    intro a b ha hb hab e
    have h1 := headT_iff.1 (thereT_head (h a (List.mem_range.1 ha)))
    have h2 := headT_iff.1 (thereT_head (h b (List.mem_range.1 hb)))
    have e1 := h1.2.2.1
    have e2 := h2.2.2.1
    rw [e] at e1
    rw [stL_seq] at e1 e2
    omega
  · intro x hx
    obtain ⟨k, hk, rfl⟩ := List.mem_map.1 hx
    exact blkAt_size (okDec_size (headT_iff.1 (thereT_head (h k (List.mem_range.1 hk)))).2.1)
theorem segB_toNat {nb : Nat} {n : Int} (h : segB nb n = true) : segB nb (n.toNat : Nat) = true ∧ ((n.toNat : Nat) : Int) = n := by
  obtain ⟨h1, h2⟩ := segB_iff.1 h
  have e : ((n.toNat : Nat) : Int) = n := by omega
  exact ⟨by rw [e]; exact h, e⟩
theorem LOk.goF {now : List ByteArray} {l : LS} (h : LOk now.length l) (ht : thereT now l = true) : LOk now.length (goF now l) := by
  obtain ⟨h1, _, _, h3, h4⟩ := headT_iff.1 (thereT_head ht)
  exact h.goN h3 (segB_toNat h4).1 h1
theorem LOk.stL {now : List ByteArray} {l : LS} {N : Nat} (h : LOk now.length l) (ht : ∀ k, k < N → thereT now (stL now l k) = true) : ∀ k, k ≤ N → LOk now.length (stL now l k)
  | 0, _ => h
  | k + 1, hk => (LOk.stL h ht k (by omega)).goF (ht k (by omega))
theorem okDec_rec {s : ByteArray} (h : okDec s = true) : rightB (decR s) = true := by
  unfold okDec at h
  simp at h
  exact h.2.1
end Go.Proofs.Ytjmfeoenbncibaa
namespace Go.Proofs.Ytjmfeoenbncibaa
open Go.RowKit Go.Nau Go.Shelf
attribute [local go_sem] Oper.semAt_some

set_option maxHeartbeats 400000 in
theorem rsize_any (n : Int) (w : World) (h : -9223372036854775808 ≤ n ∧ n ≤ 9223372036854775807) :
    Calls Try.prog 54 #[.int .i64 n] w fun e w' => e = .returned (.bool (sizeB n)) ∧ w = w' := by
  by_cases h1 : 128 ≤ n
  · by_cases h2 : n ≤ 4096
    · have hs : sizeB n = (n % 16 == 0) := by
        unfold sizeB
        simp [h1, h2]
        rw [Bool.eq_iff_iff]; simp
      have Hs := Lib.hid hs
      clear hs
      go_enter Try.func54, Try.ntmps54
      go_wp2
      go_ret
      exact ⟨by rw [Hs.out]; rfl, rfl⟩
    · have hs : sizeB n = false := by
        unfold sizeB
        simp [h2]
      have Hs := Lib.hid hs
      clear hs
      go_enter Try.func54, Try.ntmps54
      go_wp2
      go_ret
      exact ⟨by rw [Hs.out]; rfl, rfl⟩
  · have hs : sizeB n = false := by
      unfold sizeB
      simp [h1]
    have Hs := Lib.hid hs
    clear hs
    go_enter Try.func54, Try.ntmps54
    go_wp2
    go_ret
    exact ⟨by rw [Hs.out]; rfl, rfl⟩

/-- A block of a text's bytes. -/
def blockS (s : ByteArray) : ByteArray := s ++ zeroN (512 - s.size)
theorem blockS_size (s : ByteArray) (h : s.size ≤ 512) : (blockS s).size = 512 := by
  unfold blockS
  rw [ByteArray.size_append, zeroN_size]
  omega

set_option maxHeartbeats 400000 in
set_option maxRecDepth 100000 in
theorem rblock_any (s : ByteArray) (h : s.size ≤ 512) (w : World) :
    Calls Try.prog 55 #[.string s] w fun e w' => e = .returned (.string (blockS s)) ∧ Below w.heap.size w w' := by
  obtain ⟨i0, hi, hz0, hz1, hz2⟩ := info_parts infoB
  have hcz : ∀ {W W' : World} {n : Nat}, W'.ownsRow W.heap.size 5 1 (.slice (some ⟨W.heap.size, 0, none⟩) n n) n (madeCells (Value.int .u8 0).cells (n * 1)).toList → (convert 128 9 (.slice (some ⟨W.heap.size, 0, none⟩) n n)).run Try.prog W' = .ok (.string (zeroN n)) W' := fun h => conv_made h
  have hb : blockS s = s ++ zeroN (512 - s.size) := rfl
  obtain ⟨n, hn⟩ : ∃ n, n = 512 - s.size := ⟨_, rfl⟩
  have hni : (512 : Int) - (s.size : Int) = (n : Int) := by omega
  have hzs := zeroN_size n
  rw [← hn] at hb
  generalize blockS s = bs at *
  have HB := Lib.hid hb
  have hn6 : ¬ 9223372036854775807 < s.size + (zeroN n).size := by omega
  have hn5 : n ≤ 512 := by omega
  clear hb hn
  go_enter Try.func55, Try.ntmps55
  go_wp2_with (at_make; refine wpList_make_full _ rfl _ _ 128 rfl w.heap.size 5 i0 (.int .u8 0) 1 Try.underlying128 hi hz0 hz1 _ _ _ _ n rfl rfl rfl rfl (by rw [hz2]; omega) (by unfold maxLen; omega) (Nat.le_refl _) ?_; intro w2 hown2 hg2; have hb2 : Below w.heap.size w w2 := (Below.refl _ _).grown hg2 (Nat.le_refl _) (by simp); have hcv := hcz hown2; clear hown2 hg2)
  go_ret
  exact ⟨by rw [HB.out]; rfl, hb2⟩

/-- Blocks, behind writes. -/
def settledL (b : List ByteArray) (l : List (Nat × ByteArray)) : List ByteArray := l.foldl (fun b x => b.set x.1 x.2) b
theorem settledL_snoc (b : List ByteArray) (l : List (Nat × ByteArray)) (x : Nat × ByteArray) : settledL b (l ++ [x]) = (settledL b l).set x.1 x.2 := by simp [settledL]
theorem settledL_length (b : List ByteArray) (l : List (Nat × ByteArray)) : (settledL b l).length = b.length := by
  induction l generalizing b with
  | nil => rfl
  | cons x l ih =>
    show (settledL (b.set x.1 x.2) l).length = _
    rw [ih, List.length_set]

def SetRel (w0 : World) (g gc n : Nat) (b : List ByteArray) (l : List (Nat × ByteArray)) (k : Nat) (i : Value) (wr : World) : Prop :=
  ∃ q : Nat, k = l.length - q ∧ i = .int .i64 q ∧ q ≤ l.length ∧ wr.ownsRow w0.heap.size 9 1 (.slice (some ⟨g, 0, none⟩) n gc) n (strs (settledL b (l.take q))) ∧ Below w0.heap.size w0 wr

def SetPost (w : World) (n : Nat) (x : List ByteArray) (e : Ending) (w' : World) : Prop :=
  ∃ g gc, e = .returned (.slice (some ⟨g, 0, none⟩) n gc) ∧ w.heap.size ≤ g ∧ w'.ownsRow w.heap.size 9 1 (.slice (some ⟨g, 0, none⟩) n gc) n (strs x) ∧ Below w.heap.size w w'

set_option maxHeartbeats 2000000 in
set_option maxRecDepth 100000 in
theorem settled_any (A A2 : Option Addr) (n ca c2 : Nat) (b : List ByteArray) (l : List (Nat × ByteArray)) (w : World) (hr : Rd (· < w.heap.size) w 1 A n (strs b)) (hr2 : Rd (· < w.heap.size) w 2 A2 l.length (wcells l))
    (hl : ∀ x ∈ l, x.1 < n) (h0 : 0 < n) (hn : n ≤ 8192) (hm : l.length ≤ 1073741824) :
    Calls Try.prog 65 #[.slice A n ca, .slice A2 l.length c2] w (SetPost w n (settledL b l)) := by
  obtain ⟨i0, hi, hz0, hz1, hz2⟩ := info_parts infoS
  have hmi : (l.length : Int) ≤ 1073741824 := by omega
  have hbl : b.length = n := by have := hr.1; simpa using this
  have HR := Lib.hid hr
  have HR2 := Lib.hid hr2
  clear hr hr2
  go_enter Try.func65, Try.ntmps65
  go_wp2_with (first
    | (at_make; refine wpList_make_own _ rfl _ _ 43 rfl w.heap.size 9 i0 (.string ⟨#[]⟩) 1 Try.underlying43 hi hz0 hz1 _ _ _ n rfl rfl rfl (by rw [hz2]; omega) (by unfold maxLen; omega) (Nat.le_refl _) ?_; intro w2 hown2 hg2; have hb2 : Below w.heap.size w w2 := (Below.refl _ _).grown hg2 (Nat.le_refl _) (by simp); have hrd2 := HR.out.kept (Fr.of_grown hg2) (by simp))
    | (at_builtin; refine wpList_append_rd _ rfl (.tmp 9) (.tmp 10) 43 rfl w.heap.size 9 i0 _ 1 16 Try.underlying43 hi hz0 hz1 hz2 rfl (by decide) _ 0 [] rfl hown2 _ A n ca (strs b) rfl hrd2 (strs_one b) (by unfold maxLen; omega) (by omega) hb2.size ?_; intro v3 w3 hown3 hg3 hat3))
  have hg3' : w2.grownBy w3 (some w.heap.size) := hg3
  have hb3 : Below w.heap.size w w3 := hb2.trans ((Fr.of_grown hg3').below hb2.size (fun k e => by injection e with e; omega))
  rw [Nat.zero_add, List.nil_append] at hown3
  obtain ⟨g, gc, cur, rfl, hgb, _⟩ := own_form hown3 h0
  clear hg3 hg3' hat3 hown2 hg2 hrd2 hb2
  have HO3 := Lib.hid hown3
  clear hown3
  go_loopg [6] l.length (SetRel w g gc n b l)
  case atStart => exact ⟨0, rfl, rfl, Nat.zero_le _, HO3.out, hb3⟩
  case round =>
    obtain ⟨q, rfl, rfl, hq, hown, hb⟩ := hrel
    clear HO3 hb3
    by_cases hlt : q < l.length
    · have hlti : (q : Int) < (l.length : Int) := by omega
      obtain ⟨x, hx⟩ : ∃ x, l[q]? = some x := ⟨_, List.getElem?_eq_getElem hlt⟩
      obtain ⟨ad, rfl, _, hcell⟩ := (HR2.out.kept (Fr.of_below hb) (fun k hk => by omega)).2 (by omega)
      obtain ⟨g0, g1⟩ := wcells_get _ _ _ hx
      have e0 := hcell _ _ g0
      have e1 := hcell _ _ g1
      rw [← Go.Nau.add_add] at e1
      have e1' : wr.cell? ⟨(ad.add (q * 2)).block, (ad.add (q * 2)).off + 1, none⟩ = some (.string x.2) := e1
      have hxn := hl x (List.mem_of_getElem? hx)
      have hxni : (x.1 : Int) < (n : Int) := by omega
      obtain ⟨old, hold⟩ : ∃ old, (settledL b (l.take q))[x.1]? = some old := ⟨_, List.getElem?_eq_getElem (by rw [settledL_length]; omega)⟩
      obtain ⟨m0, m1⟩ := own_at hown (strs_at hold)
      have hsn : settledL b (l.take (q + 1)) = (settledL b (l.take q)).set x.1 x.2 := by
        rw [← settledL_snoc, List.take_add_one, hx]
        rfl
      have fin : ∀ nq, ((wr.drewN nq).setCell ⟨g, x.1, none⟩ (.string x.2)).ownsRow w.heap.size 9 1 (.slice (some ⟨g, 0, none⟩) n gc) n (strs (settledL b (l.take (q + 1)))) ∧ Below w.heap.size w ((wr.drewN nq).setCell ⟨g, x.1, none⟩ (.string x.2)) := by
        intro nq
        refine ⟨?_, (below_drewN hb nq).setCell hgb _⟩
        have := own_set (Fr.own hown (Fr.drewN (fun _ => False) wr nq) (fun _ _ => id)) x.1 (.string x.2)
        rw [hsn, show strs ((settledL b (l.take q)).set x.1 x.2) = (strs (settledL b (l.take q))).set x.1 (.string x.2) by simp [strs, List.map_set]]
        exact this
      have FI := Lib.hid fin
      clear fin hsn hold hown hcell e1 g0 g1 hx hl
      go_wp2_with fail
      refine wpIn_wide.1 (wpIn_region_last_lit (F := Fence.wide) (n := 1) (by simp) (by kernel_rfl) rfl (by kernel_rfl) (by kernel_rfl) ?_)
      dsimp only [List.dropLast, List.getLast]
      repeat (gi_big_quiet_step (fail))
      refine wpQuietIn_nil ?_
      rintro w' ⟨nq, rfl⟩
      go_simp
      go_wp2_with fail
      go_roundg (l.length - (q + 1))
      case measure => omega
      case rel => exact ⟨q + 1, rfl, by simp, by omega, (FI.out nq).1, (FI.out nq).2⟩
    · obtain rfl : q = l.length := by omega
      rw [List.take_length] at hown
      have HO := Lib.hid hown
      clear hown
      go_wp2_with fail
      go_ret
      exact ⟨g, gc, rfl, hgb, HO.out, hb⟩
end Go.Proofs.Ytjmfeoenbncibaa
namespace Go.Proofs.Ytjmfeoenbncibaa
open Go.RowKit Go.Nau Go.Shelf
attribute [local go_sem] Oper.semAt_some

def rcells (n bb bc : Nat) (L : Value) (ops : Nat) (cut : Int) (gone : Bool) : Array Value :=
  #[.slice (some ⟨bb, 0, none⟩) n bc, L, .int .i64 ops, .int .i64 cut, .bool gone]

/-- A reference disk lies at block r; G: its own blocks. -/
def RDsk (w : World) (G : Nat → Prop) (r : Nat) (s : DS) : Prop :=
  ∃ (bb bc : Nat) (L : Value), w.heap[r]? = some (.cells (rcells s.safe.length bb bc L s.ops s.cut s.gone) 70 (0, 0)) ∧
    w.ownsRow 0 9 1 (.slice (some ⟨bb, 0, none⟩) s.safe.length bc) s.safe.length (strs s.safe) ∧ w.ownsRow 0 149 2 L s.loose.length (wcells s.loose) ∧
    G r ∧ G bb ∧ (∀ k, L.ownBlock = some k → G k) ∧ 0 < s.safe.length

def RPost (w : World) (G : Nat → Prop) (r : Nat) (s : DS) (w' : World) : Prop :=
  ∃ G', RDsk w' G' r s ∧ (∀ k, G' k → G k ∨ (w.heap.size ≤ k ∧ k < w'.heap.size)) ∧ Fr G w w'

section
variable {w : World} {G : Nat → Prop} {r : Nat} {s : DS}
theorem RPost.trans {w1 w2 : World} {G1 : Nat → Prop} {s2 : DS} (hF : ∀ k, G1 k → G k ∨ (w.heap.size ≤ k ∧ k < w1.heap.size)) (hf : Fr G w w1) (h : RPost w1 G1 r s2 w2) : RPost w G r s2 w2 := by
  obtain ⟨F', h1, h2, h3⟩ := h
  refine ⟨F', h1, fun k hk => ?_, hf.after h3 (fun k hk hs => ?_)⟩
  · rcases h2 k hk with h | h
    · rcases hF k h with h | h
      · exact .inl h
      · exact .inr ⟨h.1, Nat.lt_of_lt_of_le h.2 h3.size⟩
    · exact .inr ⟨Nat.le_trans hf.size h.1, h.2⟩
  · rcases hF k hs with h | h
    · exact h
    · omega
theorem RDsk.kept {w' : World} {S : Nat → Prop} (h : RDsk w G r s) (hf : Fr S w w') (hs : ∀ k, G k → ¬ S k) : RDsk w' G r s := by
  obtain ⟨bb, bc, L, h1, h2, h3, g1, g2, g3, h4⟩ := h
  exact ⟨bb, bc, L, hf.get (hs _ g1) h1, Fr.own h2 hf (fun k hk => by have e : bb = k := (by simpa [Value.ownBlock] using hk); subst e; exact hs _ g2), Fr.own h3 hf (fun k hk => hs _ (g3 k hk)), g1, g2, g3, h4⟩
theorem RDsk.monoF {G' : Nat → Prop} (h : RDsk w G r s) (hF : ∀ k, k < w.heap.size → G k → G' k) : RDsk w G' r s := by
  obtain ⟨bb, bc, L, h1, h2, h3, f1, f2, f3, h4⟩ := h
  exact ⟨bb, bc, L, h1, h2, h3, hF _ (Array.getElem?_eq_some_iff.1 h1).1 f1, hF _ (h2.lt bb rfl).2 f2, fun k hk => hF _ (h3.lt k hk).2 (f3 k hk), h4⟩
theorem RDsk.turned {w' : World} {s' : DS} (h : RDsk w G r s) (hf : Fr (· = r) w w') (h1 : s'.safe = s.safe) (h3 : s'.loose = s.loose)
    (hc : ∀ bb bc L, w.heap[r]? = some (.cells (rcells s.safe.length bb bc L s.ops s.cut s.gone) 70 (0, 0)) → w'.heap[r]? = some (.cells (rcells s.safe.length bb bc L s'.ops s'.cut s'.gone) 70 (0, 0))) : RPost w G r s' w' := by
  obtain ⟨bb, bc, L, hd, o1, o2, f0, f1, f2, h4⟩ := h
  have hx := hc bb bc L hd
  refine ⟨G, ⟨bb, bc, L, ?_, ?_, ?_, f0, f1, f2, ?_⟩, fun k hk => .inl hk, hf.mono (fun k hk => by subst hk; exact f0)⟩
  · rw [h1]; exact hx
  · rw [h1]; exact Fr.own o1 hf (fun k hk => own_ne o1 hd (by decide) k hk)
  · rw [h3]; exact Fr.own o2 hf (fun k hk => own_ne o2 hd (by decide) k hk)
  · rw [h1]; exact h4

set_option maxHeartbeats 400000 in
theorem rcutat_dsk (h : RDsk w G r s) (c : Int) : Calls Try.prog 62 #[.pointer (some ⟨r, 0, none⟩), .int .i64 c] w fun e w' => e = .returned (.tuple #[]) ∧ RPost w G r { s with cut := c, gone := false } w' := by
  have h0 := h
  obtain ⟨bb, bc, L, hd, _⟩ := h
  have c3 := blk_cell hd 3
  have c4 := blk_cell hd 4
  have z3 := blk_frozen hd 3
  have z4 := blk_frozen hd 4
  simp [rcells] at c3 c4
  go_enter Try.func62, Try.ntmps62
  go_wp2
  go_end0
  refine ⟨rfl, h0.turned ((Fr.set1 _ _ _ _).trans (Fr.set1 _ _ _ _)) rfl rfl (fun bb bc L hd => ?_)⟩
  rw [blk_set (blk_set hd 3 _) 4 _]
  rfl

set_option maxHeartbeats 1000000 in
set_option maxRecDepth 100000 in
theorem roff_dsk (h : RDsk w G r s) : Calls Try.prog 116 #[.pointer (some ⟨r, 0, none⟩)] w fun e w' => e = .returned (.bool (offB s)) ∧ RPost w G r { s with gone := offB s } w' := by
  have h0 := h
  obtain ⟨bb, bc, L, hd, _⟩ := h
  have c2 := blk_cell hd 2
  have c3 := blk_cell hd 3
  have c4 := blk_cell hd 4
  have z4 := blk_frozen hd 4
  simp [rcells] at c2 c3 c4
  have fin : ∀ q, RPost w G r { s with gone := offB s } ((w.drewN q).setCell ⟨r, 4, none⟩ (.bool (offB s))) := fun q =>
    h0.turned ((Fr.drewN _ _ q).trans (Fr.set1 _ _ _ _)) rfl rfl (fun bb bc L hd => by
      rw [blk_set (w := w.drewN q) hd 4 _]
      rfl)
  have FI := Lib.hid fin
  have ho : offB s = (s.gone || (decide (0 ≤ s.cut) && decide (s.cut ≤ s.ops))) := rfl
  clear fin h0
  generalize offB s = o at *
  by_cases g0 : s.gone = true
  · rw [g0] at c4 ho
    obtain rfl : o = true := by simpa using ho
    clear ho
    go_enter Try.func116, Try.ntmps116
    go_wp2_with fail
    refine wpIn_wide.1 (wpIn_region_last_lit (F := Fence.wide) (n := 1) (by simp) (by kernel_rfl) rfl (by kernel_rfl) (by kernel_rfl) ?_)
    dsimp only [List.dropLast, List.getLast]
    repeat (gi_big_quiet_step (fail))
    refine wpQuietIn_nil ?_
    rintro w' ⟨nq, rfl⟩
    go_simp
    go_wp2_with fail
    go_ret
    exact ⟨rfl, FI.out nq⟩
  · have g0' : s.gone = false := by simpa using g0
    rw [g0'] at c4 ho
    by_cases g1 : 0 ≤ s.cut
    · by_cases g2 : s.cut ≤ s.ops
      · obtain rfl : o = true := by simpa [g1, g2] using ho
        clear ho
        go_enter Try.func116, Try.ntmps116
        go_wp2_with fail
        refine wpIn_wide.1 (wpIn_region_last_lit (F := Fence.wide) (n := 1) (by simp) (by kernel_rfl) rfl (by kernel_rfl) (by kernel_rfl) ?_)
        dsimp only [List.dropLast, List.getLast]
        repeat (gi_big_quiet_step (fail))
        refine wpQuietIn_nil ?_
        rintro w' ⟨nq, rfl⟩
        go_simp
        go_wp2_with fail
        go_ret
        exact ⟨rfl, FI.out nq⟩
      · obtain rfl : o = false := by simpa [g1, g2] using ho
        have g2' : decide (s.cut ≤ (s.ops : Int)) = false := by simpa using g2
        clear ho
        go_enter Try.func116, Try.ntmps116
        go_wp2_with fail
        refine wpIn_wide.1 (wpIn_region_last_lit (F := Fence.wide) (n := 1) (by simp) (by kernel_rfl) rfl (by kernel_rfl) (by kernel_rfl) ?_)
        dsimp only [List.dropLast, List.getLast]
        repeat (gi_big_quiet_step (fail))
        refine wpQuietIn_nil ?_
        rintro w' ⟨nq, rfl⟩
        go_simp
        go_wp2_with fail
        go_ret
        exact ⟨rfl, FI.out nq⟩
    · obtain rfl : o = false := by simpa [g1] using ho
      have g1' : decide (0 ≤ s.cut) = false := by simpa using g1
      clear ho
      go_enter Try.func116, Try.ntmps116
      go_wp2_with fail
      refine wpIn_wide.1 (wpIn_region_last_lit (F := Fence.wide) (n := 1) (by simp) (by kernel_rfl) rfl (by kernel_rfl) (by kernel_rfl) ?_)
      dsimp only [List.dropLast, List.getLast]
      repeat (gi_big_quiet_step (fail))
      refine wpQuietIn_nil ?_
      rintro w' ⟨nq, rfl⟩
      go_simp
      go_wp2_with fail
      go_ret
      exact ⟨rfl, FI.out nq⟩
end
end Go.Proofs.Ytjmfeoenbncibaa

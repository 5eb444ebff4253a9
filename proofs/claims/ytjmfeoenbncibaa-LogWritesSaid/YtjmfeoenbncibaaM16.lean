/- Texts of this proof, joined: Ro Rp Rq. They hold under no condition beyond what each theorem states. -/
import Derived.Test.YtjmfeoenbncibaaM15
namespace Go.Proofs.Ytjmfeoenbncibaa
open Go.RowKit Go.Nau Go.Shelf
attribute [local go_sem] Oper.semAt_some

def pMark : ByteArray := ⟨#[80, 0, 0, 0]⟩
def wrapS (c : ByteArray) : ByteArray := (pMark ++ c) ++ zeroN (508 - c.size)
def wrapO (c : ByteArray) : ByteArray := if c.size ≤ 508 then wrapS c else ⟨#[]⟩
def wrapE (c : ByteArray) : Int := if c.size ≤ 508 then 0 else 70
def isWrap (b : ByteArray) : Bool := decide (b.size = 512) && decide (b.data.toList.take 4 = [80, 0, 0, 0])
def unwO (b : ByteArray) : ByteArray := if isWrap b then ⟨(b.data.toList.drop 4).toArray⟩ else ⟨#[]⟩
def unwE (b : ByteArray) : Int := if isWrap b then 0 else 70
def roomI (n : Int) : Int := if n < 0 then 0 else 15 - n % 16

theorem pMark_size : pMark.size = 4 := rfl

theorem wrap_any (c : ByteArray) (_hc : c.size ≤ maxLen) (w : World) : Calls Try.prog 46 #[.string c] w fun e w' => e = .returned (.tuple #[.string (wrapO c), .int .i64 (wrapE c)]) ∧ Below w.heap.size w w' := by
  unfold wrapO wrapE
  by_cases h : c.size ≤ 508
  · rw [if_pos h, if_pos h]
    have hi : (c.size : Int) ≤ 508 := by omega
    have hf := fit_any (pMark ++ c) 512 (by rw [ByteArray.size_append, pMark_size]; omega) (by omega)
    rw [ByteArray.size_append, pMark_size, show 512 - (4 + c.size) = 508 - c.size by omega] at hf
    have hf' : ∀ W, Calls Try.prog 75 #[.string ((⟨#[80, 0, 0, 0]⟩ : ByteArray) ++ c), .int .i64 512] W fun e w' => e = .returned (.tuple #[.string (wrapS c), .int .i64 0]) ∧ Below W.heap.size W w' := hf
    have hn : ¬ 9223372036854775807 < 4 + c.size := by omega
    have HF := Lib.hid hf'
    clear hf hf' h
    go_enter Try.func46, Try.ntmps46
    go_wp2_with fail
    refine (HF.out _).mono ?_
    rintro e w1 ⟨rfl, hb1⟩
    go_wp2_with fail
    go_ret2
    exact ⟨rfl, hb1⟩
  · rw [if_neg h, if_neg h]
    have hi : ¬ (c.size : Int) ≤ 508 := by omega
    have hi2 : (508 : Int) < c.size := by omega
    clear h
    go_enter Try.func46, Try.ntmps46
    go_wp2_with fail
    go_ret2
    exact ⟨rfl, Below.refl _ _⟩

set_option maxHeartbeats 400000 in
set_option maxRecDepth 100000 in
theorem rwrap_any (c : ByteArray) (_hc : c.size ≤ maxLen) (w : World) : Calls Try.prog 103 #[.string c] w fun e w' => e = .returned (.tuple #[.string (wrapO c), .int .i64 (wrapE c)]) ∧ Below w.heap.size w w' := by
  obtain ⟨i0, hi, hz0, hz1, hz2⟩ := info_parts infoB
  have hcz : ∀ {W W' : World} {n : Nat}, W'.ownsRow W.heap.size 5 1 (.slice (some ⟨W.heap.size, 0, none⟩) n n) n (madeCells (Value.int .u8 0).cells (n * 1)).toList → (convert 128 9 (.slice (some ⟨W.heap.size, 0, none⟩) n n)).run Try.prog W' = .ok (.string (zeroN n)) W' := fun h => conv_made h
  unfold wrapO wrapE
  by_cases h : c.size ≤ 508
  · rw [if_pos h, if_pos h]
    have hi' : (c.size : Int) ≤ 508 := by omega
    have hw : wrapS c = ((⟨#[80, 0, 0, 0]⟩ : ByteArray) ++ c) ++ zeroN (508 - c.size) := rfl
    obtain ⟨n, hn⟩ : ∃ n, n = 508 - c.size := ⟨_, rfl⟩
    rw [← hn] at hw
    have hni : (508 : Int) - (c.size : Int) = (n : Int) := by omega
    have hn5 : n ≤ 508 := by omega
    have hzs := zeroN_size n
    have hnn : ¬ 9223372036854775807 < 4 + c.size := by omega
    have hn6 : ¬ 9223372036854775807 < 4 + c.size + n := by omega
    have HW := Lib.hid hw
    clear hw hn h
    go_enter Try.func103, Try.ntmps103
    go_wp2_with (at_make; refine wpList_make_full _ rfl _ _ 128 rfl w.heap.size 5 i0 (.int .u8 0) 1 Try.underlying128 hi hz0 hz1 _ _ _ _ n rfl rfl rfl rfl (by rw [hz2]; omega) (by unfold maxLen; omega) (Nat.le_refl _) ?_; intro w2 hown2 hg2; have hb2 : Below w.heap.size w w2 := (Below.refl _ _).grown hg2 (Nat.le_refl _) (by simp); have hcv := hcz hown2; clear hown2 hg2)
    go_ret2
    exact ⟨by rw [HW.out]; rfl, hb2⟩
  · rw [if_neg h, if_neg h]
    have hi2 : (508 : Int) < c.size := by omega
    clear h
    go_enter Try.func103, Try.ntmps103
    go_wp2_with fail
    go_ret2
    exact ⟨rfl, Below.refl _ _⟩

theorem unwrap_any (b : ByteArray) (w : World) : Calls Try.prog 94 #[.string b] w fun e w' => e = .returned (.tuple #[.string (unwO b), .int .i64 (unwE b)]) ∧ w = w' := by
  have hcut := fun W => Try.strings_CutPrefix b pMark W
  have hpre : Lib.hasPrefix b.data.toList pMark.data.toList = decide (b.data.toList.take 4 = [80, 0, 0, 0]) := by
    rw [Bool.eq_iff_iff]
    simp only [Lib.hasPrefix, pMark, List.isPrefixOf_iff_prefix, decide_eq_true_eq, List.prefix_iff_eq_take, List.length_cons, List.length_nil]
    exact ⟨fun h => h.symm, fun h => h.symm⟩
  have htrim : Lib.hasPrefix b.data.toList pMark.data.toList = true → Lib.trimPrefix b.data.toList pMark.data.toList = b.data.toList.drop 4 := fun h => by
    unfold Lib.trimPrefix
    rw [if_pos h]
    rfl
  unfold unwO unwE
  cases hp : Lib.hasPrefix b.data.toList pMark.data.toList with
  | true =>
    rw [hp, htrim hp] at hcut
    rw [hp] at hpre
    by_cases h5 : b.size = 512
    · have hw : isWrap b = true := by unfold isWrap; rw [← hpre]; simp [h5]
      rw [hw]
      simp only [if_true]
      have h5' : ((b.size : Int) == 512) = true := by simp; omega
      have HC := Lib.hid hcut
      clear hcut hp hpre htrim h5 hw
      go_enter Try.func94, Try.ntmps94
      go_wp2_with fail
      refine (HC.out _).mono ?_
      rintro e w1 ⟨rfl, hw1⟩
      subst hw1
      go_wp2_with fail
      go_ret2
      exact ⟨rfl, rfl⟩
    · have hw : isWrap b = false := by unfold isWrap; simp [h5]
      rw [hw]
      simp only [Bool.false_eq_true, if_false]
      have h5' : ((b.size : Int) == 512) = false := by simp; omega
      have HC := Lib.hid hcut
      clear hcut hp hpre htrim h5 hw
      go_enter Try.func94, Try.ntmps94
      go_wp2_with fail
      refine (HC.out _).mono ?_
      rintro e w1 ⟨rfl, hw1⟩
      subst hw1
      go_wp2_with fail
      go_ret2
      exact ⟨rfl, rfl⟩
  | false =>
    rw [hp] at hcut
    rw [hp] at hpre
    have hw : isWrap b = false := by unfold isWrap; rw [← hpre]; simp
    rw [hw]
    simp only [Bool.false_eq_true, if_false]
    have HC := Lib.hid hcut
    clear hcut hp hpre htrim hw
    go_enter Try.func94, Try.ntmps94
    go_wp2_with fail
    refine (HC.out _).mono ?_
    rintro e w1 ⟨rfl, hw1⟩
    subst hw1
    go_wp2_with fail
    go_ret2
    exact ⟨rfl, rfl⟩

theorem runwrap_any (b : ByteArray) (w : World) : Calls Try.prog 83 #[.string b] w fun e w' => e = .returned (.tuple #[.string (unwO b), .int .i64 (unwE b)]) ∧ w = w' := by
  unfold unwO unwE
  by_cases h5 : b.size = 512
  · have h5' : ((b.size : Int) != 512) = false := by simp; omega
    have h54 : (4 : Int) ≤ (b.size : Int) := by omega
    have hex : (⟨(b.data.toList.drop 4).toArray⟩ : ByteArray) = b.extract 4 b.size := by
      apply ByteArray.ext
      apply Array.toList_inj.1
      rw [Lib.extract_data, List.take_of_length_le (by simp)]
    have hb4 : (b.extract 0 4).toList = b.data.toList.take 4 := by rw [Lib.extract_toList]; simp
    rw [hex]
    by_cases h4 : b.data.toList.take 4 = [80, 0, 0, 0]
    · have hw : isWrap b = true := by unfold isWrap; simp [h4, h5]
      have ht : (!(b.extract 0 4).toList == [80, 0, 0, 0]) = false := by rw [hb4, h4]; rfl
      rw [hw]
      simp only [if_true]
      clear h5 hw h4 hb4 hex
      go_enter Try.func83, Try.ntmps83
      go_wp2_with fail
      go_ret2
      exact ⟨rfl, rfl⟩
    · have hw : isWrap b = false := by unfold isWrap; simp [h4]
      have ht : (!(b.extract 0 4).toList == [80, 0, 0, 0]) = true := by rw [hb4]; simpa using h4
      rw [hw]
      simp only [Bool.false_eq_true, if_false]
      clear h5 hw h4 hb4 hex
      go_enter Try.func83, Try.ntmps83
      go_wp2_with fail
      go_ret2
      exact ⟨rfl, rfl⟩
  · have hw : isWrap b = false := by unfold isWrap; simp [h5]
    rw [hw]
    simp only [Bool.false_eq_true, if_false]
    have h5' : ((b.size : Int) != 512) = true := by simp; omega
    clear h5 hw
    go_enter Try.func83, Try.ntmps83
    go_wp2_with fail
    go_ret2
    exact ⟨rfl, rfl⟩

theorem room_any (n : Int) (w : World) : Calls Try.prog 53 #[.int .i64 n] w fun e w' => e = .returned (.int .i64 (roomI n)) ∧ w = w' := by
  unfold roomI
  by_cases h : n < 0
  · rw [if_pos h]
    go_enter Try.func53, Try.ntmps53
    go_wp2_with fail
    go_ret
    exact ⟨rfl, rfl⟩
  · rw [if_neg h]
    have h0 : 0 ≤ n := by omega
    clear h
    go_enter Try.func53, Try.ntmps53
    go_wp2_with fail
    go_ret
    refine ⟨congrArg (fun x => Ending.returned (.int .i64 x)) (by omega), rfl⟩
theorem rroom_any (n : Int) (w : World) : Calls Try.prog 64 #[.int .i64 n] w fun e w' => e = .returned (.int .i64 (roomI n)) ∧ w = w' := by
  unfold roomI
  by_cases h : n < 0
  · rw [if_pos h]
    go_enter Try.func64, Try.ntmps64
    go_wp2_with fail
    go_ret
    exact ⟨rfl, rfl⟩
  · rw [if_neg h]
    have h0 : 0 ≤ n := by omega
    clear h
    go_enter Try.func64, Try.ntmps64
    go_wp2_with fail
    go_ret
    refine ⟨congrArg (fun x => Ending.returned (.int .i64 x)) (by omega), rfl⟩
end Go.Proofs.Ytjmfeoenbncibaa
namespace Go.Proofs.Ytjmfeoenbncibaa
open Go.RowKit Go.Nau Go.Shelf
attribute [local go_sem] Oper.semAt_some

def entE (x y : Ent) : Bool := decide (x.kind = y.kind) && (decide (x.file = y.file) && (decide (x.idx = y.idx) && decide (x.vbn = y.vbn)))
theorem entE_iff (x y : Ent) : entE x y = true ↔ x = y := by
  obtain ⟨a, b, c, d⟩ := x
  obtain ⟨a', b', c', d'⟩ := y
  simp [entE]
def headE (a b : Rec) : Bool := decide (a.seq = b.seq) && (decide (a.cp = b.cp) && ((a.ends == b.ends) && ((a.sync == b.sync) && (decide (a.next = b.next) && decide (a.l.length = b.l.length)))))
def sameB (a b : Rec) : Bool := headE a b && (a.l.zip b.l).all fun p => entE p.1 p.2
theorem sameB_iff (a b : Rec) : sameB a b = true ↔ a = b := by
  obtain ⟨s1, c1, e1, y1, n1, l1⟩ := a
  obtain ⟨s2, c2, e2, y2, n2, l2⟩ := b
  simp only [sameB, headE, Bool.and_eq_true, decide_eq_true_eq, beq_iff_eq, Rec.mk.injEq, List.all_eq_true]
  constructor
  · rintro ⟨⟨h1, h2, h3, h4, h5, h6⟩, h7⟩
    refine ⟨h1, h2, h3, h4, h5, List.ext_getElem h6 (fun i hi hi2 => ?_)⟩
    have := h7 (l1[i], l2[i]) (by rw [List.mem_iff_getElem]; exact ⟨i, by simp; omega, by simp⟩)
    exact (entE_iff _ _).1 this
  · rintro ⟨rfl, rfl, rfl, rfl, rfl, rfl⟩
    refine ⟨⟨rfl, rfl, rfl, rfl, rfl, rfl⟩, fun p hp => ?_⟩
    obtain ⟨i, hi, rfl⟩ := List.mem_iff_getElem.1 hp
    simp only [List.getElem_zip]
    exact (entE_iff _ _).2 rfl
theorem sameB_false {a b : Rec} {q : Nat} {x y : Ent} (hx : a.l[q]? = some x) (hy : b.l[q]? = some y) (h : entE x y = false) : sameB a b = false := by
  unfold sameB
  have : ((a.l.zip b.l).all fun p => entE p.1 p.2) = false := by
    rw [List.all_eq_false]
    obtain ⟨hxl, rfl⟩ := List.getElem?_eq_some_iff.1 hx
    obtain ⟨hyl, rfl⟩ := List.getElem?_eq_some_iff.1 hy
    exact ⟨(a.l[q], b.l[q]), by rw [List.mem_iff_getElem]; exact ⟨q, by simp; omega, by simp⟩, by simp [h]⟩
  rw [this, Bool.and_false]
theorem sameB_true {a b : Rec} (hh : headE a b = true) (h : ∀ (q : Nat) (x y : Ent), a.l[q]? = some x → b.l[q]? = some y → entE x y = true) : sameB a b = true := by
  unfold sameB
  rw [hh, Bool.true_and, List.all_eq_true]
  intro p hp
  obtain ⟨i, hi, rfl⟩ := List.mem_iff_getElem.1 hp
  simp at hi
  simp only [List.getElem_zip]
  exact h i _ _ (List.getElem?_eq_getElem (by omega)) (List.getElem?_eq_getElem (by omega))

def RcSame (w0 : World) (a b : Rec) (k : Nat) (i : Value) (wr : World) : Prop :=
  ∃ q : Nat, k = a.l.length - q ∧ i = .int .i64 q ∧ q ≤ a.l.length ∧ (∀ (j : Nat) (x y : Ent), j < q → a.l[j]? = some x → b.l[j]? = some y → entE x y = true) ∧ ∃ n, wr = w0.drewN n

set_option maxHeartbeats 4000000 in
set_option maxRecDepth 100000 in
theorem rsame_any (a b : Rec) (ha : a.wf) (hb : b.wf) (A B : Option Addr) (c d : Nat) (w : World) (hra : Rd (· < w.heap.size) w 4 A a.l.length (entC a.l)) (hrb : Rd (· < w.heap.size) w 4 B b.l.length (entC b.l)) :
    Calls Try.prog 58 #[recV a A c, recV b B d] w fun e w' => e = .returned (.bool (sameB a b)) ∧ Below w.heap.size w w' := by
  obtain ⟨s1, p1, e1, y1, n1, l1⟩ := a
  obtain ⟨s2, p2, e2, y2, n2, l2⟩ := b
  have hla := ha.len
  have hlb := hb.len
  unfold maxLen at hla hlb
  unfold recV
  dsimp only at hla hlb hra hrb ⊢
  have hb2 : ∀ o o' : Obj, Below w.heap.size w ((w.alloc o).alloc o') := fun o o' => ((Below.refl _ w).alloc (Nat.le_refl _) _).alloc (by simp) _
  have HB2 := Lib.hid hb2
  clear hb2 ha hb
  by_cases h : s1 = s2
  case neg =>
    have hs : sameB ⟨s1, p1, e1, y1, n1, l1⟩ ⟨s2, p2, e2, y2, n2, l2⟩ = false := by simp [sameB, headE, h]
    have ht : ((s1 : Int) != (s2 : Int)) = true := by simp; omega
    clear h
    rw [hs]
    clear hs
    go_enter Try.func58, Try.ntmps58
    go_wp2_with fail
    go_ret
    exact ⟨rfl, HB2.out _ _⟩
  subst h
  by_cases h : p1 = p2
  case neg =>
    have hs : sameB ⟨s1, p1, e1, y1, n1, l1⟩ ⟨s1, p2, e2, y2, n2, l2⟩ = false := by simp [sameB, headE, h]
    have ht : ((p1 : Int) != (p2 : Int)) = true := by simp; omega
    clear h
    rw [hs]
    clear hs
    go_enter Try.func58, Try.ntmps58
    go_wp2_with fail
    go_ret
    exact ⟨rfl, HB2.out _ _⟩
  subst h
  by_cases h : e1 = e2
  case neg =>
    have hs : sameB ⟨s1, p1, e1, y1, n1, l1⟩ ⟨s1, p1, e2, y2, n2, l2⟩ = false := by simp [sameB, headE, h]
    rw [hs]
    clear hs
    go_enter Try.func58, Try.ntmps58
    go_wp2_with fail
    go_ret
    exact ⟨rfl, HB2.out _ _⟩
  subst h
  by_cases h : y1 = y2
  case neg =>
    have hs : sameB ⟨s1, p1, e1, y1, n1, l1⟩ ⟨s1, p1, e1, y2, n2, l2⟩ = false := by simp [sameB, headE, h]
    rw [hs]
    clear hs
    go_enter Try.func58, Try.ntmps58
    go_wp2_with fail
    go_ret
    exact ⟨rfl, HB2.out _ _⟩
  subst h
  by_cases h : n1 = n2
  case neg =>
    have hs : sameB ⟨s1, p1, e1, y1, n1, l1⟩ ⟨s1, p1, e1, y1, n2, l2⟩ = false := by simp [sameB, headE, h]
    rw [hs]
    clear hs
    go_enter Try.func58, Try.ntmps58
    go_wp2_with fail
    go_ret
    exact ⟨rfl, HB2.out _ _⟩
  subst h
  by_cases h6 : l1.length = l2.length
  case neg =>
    have hs : sameB ⟨s1, p1, e1, y1, n1, l1⟩ ⟨s1, p1, e1, y1, n1, l2⟩ = false := by simp [sameB, headE, h6]
    have ht : ((l1.length : Int) != (l2.length : Int)) = true := by simp; omega
    rw [hs]
    clear hs h6
    go_enter Try.func58, Try.ntmps58
    go_wp2_with fail
    go_ret
    exact ⟨rfl, HB2.out _ _⟩
  have t6 : ((l1.length : Int) != (l2.length : Int)) = false := by simp; omega
  have hhe : headE ⟨s1, p1, e1, y1, n1, l1⟩ ⟨s1, p1, e1, y1, n1, l2⟩ = true := by simp [headE, h6]
  have HHE := Lib.hid hhe
  have HL := Lib.hid h6
  obtain ⟨W, hW⟩ : ∃ W, W = (w.alloc (.cells #[.int .u64 s1, .int .u64 p1, .bool e1, .bool y1, .int .i64 n1, .slice A l1.length c] 79)).alloc (.cells #[.int .u64 s1, .int .u64 p1, .bool e1, .bool y1, .int .i64 n1, .slice B l2.length d] 79) := ⟨_, rfl⟩
  have hbW : Below w.heap.size w W := by rw [hW]; exact HB2.out _ _
  have ra := hra.kept (Fr.of_below hbW) (fun k hk => by omega)
  have rb := hrb.kept (Fr.of_below hbW) (fun k hk => by omega)
  have xa : W.cell? ⟨w.heap.size, 5, none⟩ = some (.slice A l1.length c) := by
    rw [hW]
    exact blk_cell (old_alloc (heap_alloc_new w _) _) 5
  have xb : W.cell? ⟨w.heap.size + 1, 5, none⟩ = some (.slice B l2.length d) := by
    rw [hW]
    have := blk_cell (heap_alloc_new (w.alloc (.cells #[.int .u64 s1, .int .u64 p1, .bool e1, .bool y1, .int .i64 n1, .slice A l1.length c] 79)) (.cells #[.int .u64 s1, .int .u64 p1, .bool e1, .bool y1, .int .i64 n1, .slice B l2.length d] 79)) 5
    rw [World.size_alloc] at this
    exact this
  have HW := Lib.hid hW
  have RA := Lib.hid ra
  have RB := Lib.hid rb
  have XA := Lib.hid xa
  have XB := Lib.hid xb
  clear h6 hhe hW ra rb xa xb hra hrb
  go_enter Try.func58, Try.ntmps58
  go_wp2_with fail
  rw [← HW.out]
  clear t6
  go_loopg [5] l1.length (RcSame W ⟨s1, p1, e1, y1, n1, l1⟩ ⟨s1, p1, e1, y1, n1, l2⟩)
  case atStart => exact ⟨0, rfl, rfl, Nat.zero_le _, fun j _ _ hj => by omega, 0, rfl⟩
  case round =>
    obtain ⟨q, rfl, rfl, hq, hall, n, rfl⟩ := hrel
    dsimp only at hq hall
    have xa : W.cell? ⟨w.heap.size, 5, none⟩ = some (.slice A l1.length c) := XA.out
    have xb : W.cell? ⟨w.heap.size + 1, 5, none⟩ = some (.slice B l2.length d) := XB.out
    by_cases hlt : q < l1.length
    · have hqi : (q : Int) < (l1.length : Int) := by omega
      have hqb : (q : Int) < (l2.length : Int) := by rw [← HL.out]; exact hqi
      obtain ⟨x, hx⟩ : ∃ x, l1[q]? = some x := ⟨_, List.getElem?_eq_getElem hlt⟩
      obtain ⟨y, hy⟩ : ∃ y, l2[q]? = some y := ⟨_, List.getElem?_eq_getElem (by rw [← HL.out]; exact hlt)⟩
      obtain ⟨ad, rfl, e0, e1', e2, e3⟩ := ent_cells RA.out q x hx hlt
      obtain ⟨bd, rfl, g0, g1, g2, g3⟩ := ent_cells RB.out q y hy (by rw [← HL.out]; exact hlt)
      obtain ⟨k1, f1, i1, v1⟩ := x
      obtain ⟨k2, f2, i2, v2⟩ := y
      dsimp only at e0 e1' e2 e3 g0 g1 g2 g3
      have HX := Lib.hid hx
      have HY := Lib.hid hy
      have HALL := Lib.hid hall
      clear hx hy hall
      by_cases h : (⟨k1, f1, i1, v1⟩ : Ent) = ⟨k2, f2, i2, v2⟩
      case pos =>
        rw [Ent.mk.injEq] at h
        obtain ⟨rfl, rfl, rfl, rfl⟩ := h
        go_wp2_with fail
        refine wp_region_quiet_lit (by kernel_rfl) (by kernel_rfl) ?_
        repeat (go_big_quiet_step (fail))
        refine wpQuiet_nil ?_
        rintro w' ⟨nq, rfl⟩
        go_simp
        go_wp2_with fail
        go_roundg (l1.length - (q + 1))
        case measure => omega
        case rel =>
          refine ⟨q + 1, rfl, by simp, (by show q + 1 ≤ l1.length; omega), fun j x y hj hx hy => ?_, n + nq, by simp⟩
          by_cases hjq : j < q
          · exact HALL.out j x y hjq hx hy
          · obtain rfl : j = q := by omega
            have h1 := HX.out
            have h2 := HY.out
            rw [h1] at hx
            rw [h2] at hy
            injection hx with hx
            injection hy with hy
            rw [← hx, ← hy]
            exact (entE_iff _ _).2 rfl
      have hne : entE ⟨k1, f1, i1, v1⟩ ⟨k2, f2, i2, v2⟩ = false := by
        cases he : entE ⟨k1, f1, i1, v1⟩ ⟨k2, f2, i2, v2⟩ with
        | false => rfl
        | true => exact absurd ((entE_iff _ _).1 he) h
      have hs : sameB ⟨s1, p1, e1, y1, n1, l1⟩ ⟨s1, p1, e1, y1, n1, l2⟩ = false := sameB_false HX.out HY.out hne
      have HS := Lib.hid hs
      clear hne hs
      by_cases d1 : k1 = k2
      case' neg => clear h HX HY
      case' pos =>
        subst d1
        by_cases d2 : f1 = f2
        case' neg =>
          have d2' : ¬ (f1 : Int) = (f2 : Int) := by omega
          clear h d2 HX HY
        case' pos =>
          subst d2
          by_cases d3 : i1 = i2
          case' neg =>
            have d3' : ¬ (i1 : Int) = (i2 : Int) := by omega
            clear h d3 HX HY
          case' pos =>
            subst d3
            have d4 : ¬ (v1 : Int) = (v2 : Int) := fun e => h (by rw [show v1 = v2 by omega])
            clear h HX HY
      all_goals
        go_wp2_with fail
        refine wp_region_quiet_lit (by kernel_rfl) (by kernel_rfl) ?_
        repeat (go_big_quiet_step (fail))
        refine wpQuiet_nil ?_
        rintro w' ⟨nq, rfl⟩
        go_simp
        go_wp2_with fail
        go_ret
        exact ⟨by rw [HS.out]; rfl, below_drewN hbW (n + nq)⟩
    · obtain rfl : q = l1.length := by omega
      have hs : sameB ⟨s1, p1, e1, y1, n1, l1⟩ ⟨s1, p1, e1, y1, n1, l2⟩ = true := sameB_true HHE.out (fun q x y hx hy => hall q x y (List.getElem?_eq_some_iff.1 hx).1 hx hy)
      have HS := Lib.hid hs
      clear hs hall
      go_wp2_with fail
      go_ret
      exact ⟨by rw [HS.out]; rfl, below_drewN hbW n⟩
end Go.Proofs.Ytjmfeoenbncibaa
namespace Go.Proofs.Ytjmfeoenbncibaa
open Go.RowKit Go.Nau Go.Shelf

theorem takeL_bytes : ∀ (k n : Nat), takeL (bytesL n k) = n % 256 ^ k
  | 0, n => by simp [bytesL, takeL, Nat.mod_one]
  | k + 1, n => by
    rw [bytesL_snoc, takeL_snoc, takeL_bytes k n, bytesL_length]
    have h1 : (UInt8.ofNat (hi n k)).toNat = hi n k % 256 := by simp
    rw [h1]
    unfold hi
    rw [Nat.pow_succ, Nat.mod_mul, Nat.mul_comm]
theorem takeL_bytes_of {n k : Nat} (h : n < 256 ^ k) : takeL (bytesL n k) = n := by rw [takeL_bytes, Nat.mod_eq_of_lt h]

/-- What of a text is a list's, from a place on. -/
theorem takeN_list {s : ByteArray} {p k m : Nat} {l : List UInt8} (hm : s.data.toList.take m = l) (hs : s.size = 512) (hm5 : m ≤ 512) (hp : p + k ≤ m) : takeN s p k = takeL ((l.drop p).take k) := by
  unfold takeN
  rw [if_pos (by omega)]
  congr 1
  unfold partS
  rw [← hm, List.drop_take, List.take_take, Nat.min_eq_left (by omega)]

theorem drop_ents : ∀ (l : List Ent) (i : Nat) (x : Ent) (z : List UInt8), l[i]? = some x → ∃ t, (l.flatMap entBy ++ z).drop (13 * i) = entBy x ++ t
  | [], i, x, z, h => by simp at h
  | y :: l, 0, x, z, h => by
    simp at h
    subst h
    exact ⟨l.flatMap entBy ++ z, by simp⟩
  | y :: l, i + 1, x, z, h => by
    simp only [List.getElem?_cons_succ] at h
    obtain ⟨t, ht⟩ := drop_ents l i x z h
    refine ⟨t, ?_⟩
    rw [List.flatMap_cons, List.append_assoc, show 13 * (i + 1) = (entBy y).length + 13 * i by rw [entBy_length]; omega, ← List.drop_drop, List.drop_left]
    exact ht

theorem dropB (n k : Nat) (t : List UInt8) : (bytesL n k ++ t).drop k = t := by
  have := List.drop_left (l₁ := bytesL n k) (l₂ := t)
  rwa [bytesL_length] at this
theorem takeB (n k : Nat) (t : List UInt8) : (bytesL n k ++ t).take k = bytesL n k := by
  have := List.take_left (l₁ := bytesL n k) (l₂ := t)
  rwa [bytesL_length] at this
theorem dropB2 (n k m : Nat) (t : List UInt8) : (bytesL n k ++ t).drop (k + m) = t.drop m := by rw [← List.drop_drop, dropB]

theorem ent_take (x : Ent) (t : List UInt8) (hk : 0 ≤ x.kind ∧ x.kind < 256) (hw : x.wf) :
    (takeL ((entBy x ++ t).take 1) : Int) = x.kind ∧ takeL (((entBy x ++ t).drop 1).take 4) = x.file ∧ takeL (((entBy x ++ t).drop 5).take 4) = x.idx ∧ takeL (((entBy x ++ t).drop 9).take 4) = x.vbn := by
  have e : entBy x ++ t = bytesL x.kind.toNat 1 ++ (bytesL x.file 4 ++ (bytesL x.idx 4 ++ (bytesL x.vbn 4 ++ t))) := by simp only [entBy, List.append_assoc]
  rw [e]
  refine ⟨?_, ?_, ?_, ?_⟩
  · rw [takeB, takeL_bytes_of (by omega)]
    omega
  · rw [dropB, takeB, takeL_bytes_of (by have := hw.file; omega)]
  · rw [dropB2 _ 1 4, dropB, takeB, takeL_bytes_of (by have := hw.idx; omega)]
  · rw [dropB2 _ 1 8, dropB2 _ 4 4, dropB, takeB, takeL_bytes_of (by have := hw.vbn; omega)]

theorem head_take (r : Rec) (t : List UInt8) (h1 : r.seq < 281474976710656) (h2 : r.cp < 281474976710656) (h3 : 0 ≤ r.next ∧ r.next ≤ 255) (h4 : r.l.length ≤ 15) :
    takeL (((headBy r ++ t).drop 1).take 6) = r.seq ∧ takeL (((headBy r ++ t).drop 7).take 6) = r.cp ∧ takeL (((headBy r ++ t).drop 13).take 1) = flagN r ∧ (takeL (((headBy r ++ t).drop 14).take 2) : Int) = r.next ∧ takeL (((headBy r ++ t).drop 16).take 1) = r.l.length := by
  have hfl : flagN r < 256 := by unfold flagN; split <;> (try split) <;> omega
  have e : ∀ m, (headBy r ++ t).drop (1 + m) = (bytesL r.seq 6 ++ (bytesL r.cp 6 ++ (bytesL (flagN r) 1 ++ (bytesL r.next.toNat 2 ++ (bytesL r.l.length 1 ++ t))))).drop m := by
    intro m
    rw [← List.drop_drop]
    congr 1
  refine ⟨?_, ?_, ?_, ?_, ?_⟩
  · rw [show (1 : Nat) = 1 + 0 from rfl, e, List.drop_zero, takeB, takeL_bytes_of (by omega)]
  · rw [show (7 : Nat) = 1 + 6 from rfl, e, dropB, takeB, takeL_bytes_of (by omega)]
  · rw [show (13 : Nat) = 1 + (6 + 6) from rfl, e, dropB2, dropB, takeB, takeL_bytes_of (by omega)]
  · rw [show (14 : Nat) = 1 + (6 + (6 + 1)) from rfl, e, dropB2, dropB2, dropB, takeB, takeL_bytes_of (by omega)]
    omega
  · rw [show (16 : Nat) = 1 + (6 + (6 + (1 + 2))) from rfl, e, dropB2, dropB2, dropB2, dropB, takeB, takeL_bytes_of (by omega)]

/-- **A right record is read as it was, whatever the second sector is.** -/
theorem back {r : Rec} (hr : rightB r = true) (hwf : r.wf) {s : ByteArray} (hs : s.size = 512) (h : s.extract 0 256 = sec256 r) : decR s = r ∧ okDec s = true := by
  obtain ⟨f1, f2, f3, f4, f5, f6, f7, f8, f9, f10⟩ := right_facts hr
  have hl : s.data.toList.take 256 = secL r ++ List.replicate (256 - (secL r).length) 0 := by
    have := congrArg (fun x : ByteArray => x.data.toList) h
    simp only [Lib.extract_data] at this
    simp only [Nat.sub_zero, List.drop_zero] at this
    rw [this]
    simp [sec256, strL, zeroN]
  have hsl := secL_length r
  have tk := fun p k (hp : p + k ≤ 256) => takeN_list (p := p) (k := k) hl hs (by omega) hp
  have he : secL r ++ List.replicate (256 - (secL r).length) 0 = headBy r ++ (r.l.flatMap entBy ++ List.replicate (256 - (secL r).length) 0) := by simp only [secL, List.append_assoc]
  obtain ⟨t1, t2, t3, t4, t5⟩ := head_take r (r.l.flatMap entBy ++ List.replicate (256 - (secL r).length) 0) f2 f4 ⟨f5, f6⟩ f8
  rw [← he] at t1 t2 t3 t4 t5
  have hN : entN s = r.l.length := by unfold entN; rw [tk 16 1 (by omega), t5]
  have hents : entsL s = r.l := by
    apply List.ext_getElem?
    intro i
    by_cases hi : i < r.l.length
    · rw [entsL_get (by rw [hN]; exact hi)]
      obtain ⟨x, hx⟩ : ∃ x, r.l[i]? = some x := ⟨_, List.getElem?_eq_getElem hi⟩
      rw [hx]
      obtain ⟨t, ht⟩ := drop_ents r.l i x (List.replicate (256 - (secL r).length) 0) hx
      have hd : ∀ p, (secL r ++ List.replicate (256 - (secL r).length) 0).drop (17 + 13 * i + p) = (entBy x ++ t).drop p := by
        intro p
        rw [he, ← List.drop_drop, ← List.drop_drop, show (17 : Nat) = (headBy r).length by rw [headBy_length], List.drop_left, ht]
      have hk := elem_kind (f10 i x hx)
      obtain ⟨g1, g2, g3, g4⟩ := ent_take x t ⟨by omega, by omega⟩ (hwf.l x (List.mem_of_getElem? hx))
      congr 1
      obtain ⟨k, f, ix, v⟩ := x
      simp only [entAt, Ent.mk.injEq]
      refine ⟨?_, ?_, ?_, ?_⟩
      · rw [tk (17 + 13 * i) 1 (by omega), show 17 + 13 * i = 17 + 13 * i + 0 from rfl, hd 0, List.drop_zero]
        exact g1
      · rw [tk (17 + 13 * i + 1) 4 (by omega), hd 1]
        exact g2
      · rw [tk (17 + 13 * i + 5) 4 (by omega), hd 5]
        exact g3
      · rw [tk (17 + 13 * i + 9) 4 (by omega), hd 9]
        exact g4
    · rw [List.getElem?_eq_none (by rw [entsL_length, hN]; omega), List.getElem?_eq_none (by omega)]
  have hdec : decR s = r := by
    have e1 := tk 1 6 (by omega)
    have e2 := tk 7 6 (by omega)
    have e3 := tk 13 1 (by omega)
    have e4 := tk 14 2 (by omega)
    rw [t1] at e1
    rw [t2] at e2
    rw [t3] at e3
    unfold decR
    rw [hents, List.take_of_length_le (by omega), e1, e2, e3]
    obtain ⟨sq, cp, en, sy, nx, L⟩ := r
    simp only [Rec.mk.injEq, true_and, and_true]
    refine ⟨?_, ?_, ?_⟩
    · cases en <;> cases sy <;> first | rfl | exact absurd ⟨rfl, rfl⟩ f9
    · cases en <;> cases sy <;> first | rfl | exact absurd ⟨rfl, rfl⟩ f9
    · rw [e4]
      exact t4
  refine ⟨hdec, ?_⟩
  unfold okDec
  rw [hdec, hr, sec_of_enc r f8, h]
  simp [hs]
theorem back_enc {r : Rec} (hr : rightB r = true) (hwf : r.wf) : decR (encS r) = r ∧ okDec (encS r) = true :=
  back hr hwf (encS_size r (by have := (right_facts hr).2.2.2.2.2.2.2.1; omega)) (sec_of_enc r ((right_facts hr).2.2.2.2.2.2.2.1))
theorem enc_inj {a b : Rec} (ha : rightB a = true) (hb : rightB b = true) (wa : a.wf) (wb : b.wf) (h : encS a = encS b) : a = b := by
  have h1 := (back_enc ha wa).1
  have h2 := (back_enc hb wb).1
  rw [← h1, ← h2, h]

theorem okDec_first {s : ByteArray} (h : okDec s = true) : s.data.toList[0]? = some 82 := by
  unfold okDec at h
  simp only [Bool.and_eq_true, decide_eq_true_eq] at h
  obtain ⟨h5, hr, he⟩ := h
  have hl := (right_facts hr).2.2.2.2.2.2.2.1
  rw [sec_of_enc _ hl] at he
  have := congrArg (fun x : ByteArray => x.data.toList[0]?) he
  simp only [Lib.extract_data, Nat.sub_zero, List.drop_zero] at this
  rw [List.getElem?_take, if_pos (by omega)] at this
  rw [← this]
  simp [sec256, strL, secL, headBy]
theorem isWrap_first {s : ByteArray} (h : isWrap s = true) : s.data.toList[0]? = some 80 := by
  unfold isWrap at h
  simp only [Bool.and_eq_true, decide_eq_true_eq] at h
  have := congrArg (fun l : List UInt8 => l[0]?) h.2
  simp only [List.getElem?_take] at this
  simpa using this
theorem apart (s : ByteArray) : okDec s = true → isWrap s = true → False := by
  intro h1 h2
  have := (okDec_first h1).symm.trans (isWrap_first h2)
  simp at this
theorem wrapS_size {c : ByteArray} (h : c.size ≤ 508) : (wrapS c).size = 512 := by
  unfold wrapS
  rw [ByteArray.size_append, ByteArray.size_append, pMark_size, zeroN_size]
  omega
theorem wrapS_list (c : ByteArray) : (wrapS c).data.toList = [80, 0, 0, 0] ++ (c.data.toList ++ List.replicate (508 - c.size) 0) := by
  simp [wrapS, pMark, zeroN]
theorem isWrap_wrap {c : ByteArray} (h : c.size ≤ 508) : isWrap (wrapS c) = true := by
  unfold isWrap
  rw [wrapS_size h, wrapS_list]
  simp
theorem unw_wrap {c : ByteArray} (h : c.size ≤ 508) : unwO (wrapS c) = c ++ zeroN (508 - c.size) := by
  unfold unwO
  rw [isWrap_wrap h, if_pos rfl, wrapS_list]
  apply ByteArray.ext
  simp [zeroN]
end Go.Proofs.Ytjmfeoenbncibaa

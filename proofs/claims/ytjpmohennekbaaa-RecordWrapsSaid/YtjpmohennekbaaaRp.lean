/- The reference's Same: contract over the given program. -/
import Derived.Test.YtjpmohennekbaaaRo
namespace Go.Proofs.Ytjpmohennekbaaa
open Go.RowKit Go.Nau Go.Shelf
attribute [local go_sem] Oper.semAt_some

def entE (x y : Ent) : Bool := decide (x.kind = y.kind) && (decide (x.file = y.file) && (decide (x.idx = y.idx) && decide (x.vbn = y.vbn)))
theorem entE_iff (x y : Ent) : entE x y = true ↔ x = y := by
  obtain ⟨a, b, c, d⟩ := x
  obtain ⟨a', b', c', d'⟩ := y
  simp [entE]
def headE (a b : Rec) : Bool := decide (a.seq = b.seq) && (decide (a.cp = b.cp) && ((a.ends == b.ends) && ((a.sync == b.sync) && (decide (a.next = b.next) && decide (a.l.length = b.l.length)))))
def sameB (a b : Rec) : Bool := headE a b && (a.l.zip b.l).all fun p => entE p.1 p.2
theorem sameB_iff (a b : Rec) : sameB a b = true ↔ a = b := by
  obtain ⟨s1, c1, e1, y1, n1, l1⟩ := a
  obtain ⟨s2, c2, e2, y2, n2, l2⟩ := b
  simp only [sameB, headE, Bool.and_eq_true, decide_eq_true_eq, beq_iff_eq, Rec.mk.injEq, List.all_eq_true]
  constructor
  · rintro ⟨⟨h1, h2, h3, h4, h5, h6⟩, h7⟩
    refine ⟨h1, h2, h3, h4, h5, List.ext_getElem h6 (fun i hi hi2 => ?_)⟩
    have := h7 (l1[i], l2[i]) (by rw [List.mem_iff_getElem]; exact ⟨i, by simp; omega, by simp⟩)
    exact (entE_iff _ _).1 this
  · rintro ⟨rfl, rfl, rfl, rfl, rfl, rfl⟩
    refine ⟨⟨rfl, rfl, rfl, rfl, rfl, rfl⟩, fun p hp => ?_⟩
    obtain ⟨i, hi, rfl⟩ := List.mem_iff_getElem.1 hp
    simp only [List.getElem_zip]
    exact (entE_iff _ _).2 rfl
theorem sameB_false {a b : Rec} {q : Nat} {x y : Ent} (hx : a.l[q]? = some x) (hy : b.l[q]? = some y) (h : entE x y = false) : sameB a b = false := by
  unfold sameB
  have : ((a.l.zip b.l).all fun p => entE p.1 p.2) = false := by
    rw [List.all_eq_false]
    obtain ⟨hxl, rfl⟩ := List.getElem?_eq_some_iff.1 hx
    obtain ⟨hyl, rfl⟩ := List.getElem?_eq_some_iff.1 hy
    exact ⟨(a.l[q], b.l[q]), by rw [List.mem_iff_getElem]; exact ⟨q, by simp; omega, by simp⟩, by simp [h]⟩
  rw [this, Bool.and_false]
theorem sameB_true {a b : Rec} (hh : headE a b = true) (h : ∀ (q : Nat) (x y : Ent), a.l[q]? = some x → b.l[q]? = some y → entE x y = true) : sameB a b = true := by
  unfold sameB
  rw [hh, Bool.true_and, List.all_eq_true]
  intro p hp
  obtain ⟨i, hi, rfl⟩ := List.mem_iff_getElem.1 hp
  simp at hi
  simp only [List.getElem_zip]
  exact h i _ _ (List.getElem?_eq_getElem (by omega)) (List.getElem?_eq_getElem (by omega))

def SameRel (w0 : World) (a b : Rec) (k : Nat) (i : Value) (wr : World) : Prop :=
  ∃ q : Nat, k = a.l.length - q ∧ i = .int .i64 q ∧ q ≤ a.l.length ∧ (∀ (j : Nat) (x y : Ent), j < q → a.l[j]? = some x → b.l[j]? = some y → entE x y = true) ∧ ∃ n, wr = w0.drewN n

set_option maxHeartbeats 4000000 in
set_option maxRecDepth 100000 in
theorem rsame_any (a b : Rec) (ha : a.wf) (hb : b.wf) (A B : Option Addr) (c d : Nat) (w : World) (hra : Rd (· < w.heap.size) w 4 A a.l.length (entC a.l)) (hrb : Rd (· < w.heap.size) w 4 B b.l.length (entC b.l)) :
    Calls Try.prog 41 #[recV a A c, recV b B d] w fun e w' => e = .returned (.bool (sameB a b)) ∧ Below w.heap.size w w' := by
  obtain ⟨s1, p1, e1, y1, n1, l1⟩ := a
  obtain ⟨s2, p2, e2, y2, n2, l2⟩ := b
  have hla := ha.len
  have hlb := hb.len
  unfold maxLen at hla hlb
  unfold recV
  dsimp only at hla hlb hra hrb ⊢
  have hb2 : ∀ o o' : Obj, Below w.heap.size w ((w.alloc o).alloc o') := fun o o' => ((Below.refl _ w).alloc (Nat.le_refl _) _).alloc (by simp) _
  have HB2 := Lib.hid hb2
  clear hb2 ha hb
  by_cases h : s1 = s2
  case neg =>
    have hs : sameB ⟨s1, p1, e1, y1, n1, l1⟩ ⟨s2, p2, e2, y2, n2, l2⟩ = false := by simp [sameB, headE, h]
    have ht : ((s1 : Int) != (s2 : Int)) = true := by simp; omega
    clear h
    rw [hs]
    clear hs
    go_enter Try.func41, Try.ntmps41
    go_wp2_with fail
    go_ret
    exact ⟨rfl, HB2.out _ _⟩
  subst h
  by_cases h : p1 = p2
  case neg =>
    have hs : sameB ⟨s1, p1, e1, y1, n1, l1⟩ ⟨s1, p2, e2, y2, n2, l2⟩ = false := by simp [sameB, headE, h]
    have ht : ((p1 : Int) != (p2 : Int)) = true := by simp; omega
    clear h
    rw [hs]
    clear hs
    go_enter Try.func41, Try.ntmps41
    go_wp2_with fail
    go_ret
    exact ⟨rfl, HB2.out _ _⟩
  subst h
  by_cases h : e1 = e2
  case neg =>
    have hs : sameB ⟨s1, p1, e1, y1, n1, l1⟩ ⟨s1, p1, e2, y2, n2, l2⟩ = false := by simp [sameB, headE, h]
    rw [hs]
    clear hs
    go_enter Try.func41, Try.ntmps41
    go_wp2_with fail
    go_ret
    exact ⟨rfl, HB2.out _ _⟩
  subst h
  by_cases h : y1 = y2
  case neg =>
    have hs : sameB ⟨s1, p1, e1, y1, n1, l1⟩ ⟨s1, p1, e1, y2, n2, l2⟩ = false := by simp [sameB, headE, h]
    rw [hs]
    clear hs
    go_enter Try.func41, Try.ntmps41
    go_wp2_with fail
    go_ret
    exact ⟨rfl, HB2.out _ _⟩
  subst h
  by_cases h : n1 = n2
  case neg =>
    have hs : sameB ⟨s1, p1, e1, y1, n1, l1⟩ ⟨s1, p1, e1, y1, n2, l2⟩ = false := by simp [sameB, headE, h]
    rw [hs]
    clear hs
    go_enter Try.func41, Try.ntmps41
    go_wp2_with fail
    go_ret
    exact ⟨rfl, HB2.out _ _⟩
  subst h
  by_cases h6 : l1.length = l2.length
  case neg =>
    have hs : sameB ⟨s1, p1, e1, y1, n1, l1⟩ ⟨s1, p1, e1, y1, n1, l2⟩ = false := by simp [sameB, headE, h6]
    have ht : ((l1.length : Int) != (l2.length : Int)) = true := by simp; omega
    rw [hs]
    clear hs h6
    go_enter Try.func41, Try.ntmps41
    go_wp2_with fail
    go_ret
    exact ⟨rfl, HB2.out _ _⟩
  have t6 : ((l1.length : Int) != (l2.length : Int)) = false := by simp; omega
  have hhe : headE ⟨s1, p1, e1, y1, n1, l1⟩ ⟨s1, p1, e1, y1, n1, l2⟩ = true := by simp [headE, h6]
  have HHE := Lib.hid hhe
  have HL := Lib.hid h6
  obtain ⟨W, hW⟩ : ∃ W, W = (w.alloc (.cells #[.int .u64 s1, .int .u64 p1, .bool e1, .bool y1, .int .i64 n1, .slice A l1.length c] 63)).alloc (.cells #[.int .u64 s1, .int .u64 p1, .bool e1, .bool y1, .int .i64 n1, .slice B l2.length d] 63) := ⟨_, rfl⟩
  have hbW : Below w.heap.size w W := by rw [hW]; exact HB2.out _ _
  have ra := hra.kept (Fr.of_below hbW) (fun k hk => by omega)
  have rb := hrb.kept (Fr.of_below hbW) (fun k hk => by omega)
  have xa : W.cell? ⟨w.heap.size, 5, none⟩ = some (.slice A l1.length c) := by
    rw [hW]
    exact blk_cell (old_alloc (heap_alloc_new w _) _) 5
  have xb : W.cell? ⟨w.heap.size + 1, 5, none⟩ = some (.slice B l2.length d) := by
    rw [hW]
    have := blk_cell (heap_alloc_new (w.alloc (.cells #[.int .u64 s1, .int .u64 p1, .bool e1, .bool y1, .int .i64 n1, .slice A l1.length c] 63)) (.cells #[.int .u64 s1, .int .u64 p1, .bool e1, .bool y1, .int .i64 n1, .slice B l2.length d] 63)) 5
    rw [World.size_alloc] at this
    exact this
  have HW := Lib.hid hW
  have RA := Lib.hid ra
  have RB := Lib.hid rb
  have XA := Lib.hid xa
  have XB := Lib.hid xb
  clear h6 hhe hW ra rb xa xb hra hrb
  go_enter Try.func41, Try.ntmps41
  go_wp2_with fail
  rw [← HW.out]
  clear t6
  go_loopg [5] l1.length (SameRel W ⟨s1, p1, e1, y1, n1, l1⟩ ⟨s1, p1, e1, y1, n1, l2⟩)
  case atStart => exact ⟨0, rfl, rfl, Nat.zero_le _, fun j _ _ hj => by omega, 0, rfl⟩
  case round =>
    obtain ⟨q, rfl, rfl, hq, hall, n, rfl⟩ := hrel
    dsimp only at hq hall
    have xa : W.cell? ⟨w.heap.size, 5, none⟩ = some (.slice A l1.length c) := XA.out
    have xb : W.cell? ⟨w.heap.size + 1, 5, none⟩ = some (.slice B l2.length d) := XB.out
    by_cases hlt : q < l1.length
    · have hqi : (q : Int) < (l1.length : Int) := by omega
      have hqb : (q : Int) < (l2.length : Int) := by rw [← HL.out]; exact hqi
      obtain ⟨x, hx⟩ : ∃ x, l1[q]? = some x := ⟨_, List.getElem?_eq_getElem hlt⟩
      obtain ⟨y, hy⟩ : ∃ y, l2[q]? = some y := ⟨_, List.getElem?_eq_getElem (by rw [← HL.out]; exact hlt)⟩
      obtain ⟨ad, rfl, e0, e1', e2, e3⟩ := ent_cells RA.out q x hx hlt
      obtain ⟨bd, rfl, g0, g1, g2, g3⟩ := ent_cells RB.out q y hy (by rw [← HL.out]; exact hlt)
      obtain ⟨k1, f1, i1, v1⟩ := x
      obtain ⟨k2, f2, i2, v2⟩ := y
      dsimp only at e0 e1' e2 e3 g0 g1 g2 g3
      have HX := Lib.hid hx
      have HY := Lib.hid hy
      have HALL := Lib.hid hall
      clear hx hy hall
      by_cases h : (⟨k1, f1, i1, v1⟩ : Ent) = ⟨k2, f2, i2, v2⟩
      case pos =>
        rw [Ent.mk.injEq] at h
        obtain ⟨rfl, rfl, rfl, rfl⟩ := h
        go_wp2_with fail
        refine wp_region_quiet_lit (by kernel_rfl) (by kernel_rfl) ?_
        repeat (go_big_quiet_step (fail))
        refine wpQuiet_nil ?_
        rintro w' ⟨nq, rfl⟩
        go_simp
        go_wp2_with fail
        go_roundg (l1.length - (q + 1))
        case measure => omega
        case rel =>
          refine ⟨q + 1, rfl, by simp, (by show q + 1 ≤ l1.length; omega), fun j x y hj hx hy => ?_, n + nq, by simp⟩
          by_cases hjq : j < q
          · exact HALL.out j x y hjq hx hy
          · obtain rfl : j = q := by omega
            have h1 := HX.out
            have h2 := HY.out
            rw [h1] at hx
            rw [h2] at hy
            injection hx with hx
            injection hy with hy
            rw [← hx, ← hy]
            exact (entE_iff _ _).2 rfl
      have hne : entE ⟨k1, f1, i1, v1⟩ ⟨k2, f2, i2, v2⟩ = false := by
        cases he : entE ⟨k1, f1, i1, v1⟩ ⟨k2, f2, i2, v2⟩ with
        | false => rfl
        | true => exact absurd ((entE_iff _ _).1 he) h
      have hs : sameB ⟨s1, p1, e1, y1, n1, l1⟩ ⟨s1, p1, e1, y1, n1, l2⟩ = false := sameB_false HX.out HY.out hne
      have HS := Lib.hid hs
      clear hne hs
      by_cases d1 : k1 = k2
      case' neg => clear h HX HY
      case' pos =>
        subst d1
        by_cases d2 : f1 = f2
        case' neg =>
          have d2' : ¬ (f1 : Int) = (f2 : Int) := by omega
          clear h d2 HX HY
        case' pos =>
          subst d2
          by_cases d3 : i1 = i2
          case' neg =>
            have d3' : ¬ (i1 : Int) = (i2 : Int) := by omega
            clear h d3 HX HY
          case' pos =>
            subst d3
            have d4 : ¬ (v1 : Int) = (v2 : Int) := fun e => h (by rw [show v1 = v2 by omega])
            clear h HX HY
      all_goals
        go_wp2_with fail
        refine wp_region_quiet_lit (by kernel_rfl) (by kernel_rfl) ?_
        repeat (go_big_quiet_step (fail))
        refine wpQuiet_nil ?_
        rintro w' ⟨nq, rfl⟩
        go_simp
        go_wp2_with fail
        go_ret
        exact ⟨by rw [HS.out]; rfl, below_drewN hbW (n + nq)⟩
    · obtain rfl : q = l1.length := by omega
      have hs : sameB ⟨s1, p1, e1, y1, n1, l1⟩ ⟨s1, p1, e1, y1, n1, l2⟩ = true := sameB_true HHE.out (fun q x y hx hy => hall q x y (List.getElem?_eq_some_iff.1 hx).1 hx hy)
      have HS := Lib.hid hs
      clear hs hall
      go_wp2_with fail
      go_ret
      exact ⟨by rw [HS.out]; rfl, below_drewN hbW n⟩
end Go.Proofs.Ytjpmohennekbaaa

/- Texts of this proof, joined: Dk Dl Dm Do. They hold under no condition beyond what each theorem states. -/
import Derived.Test.YtjmfeoenbncibaaM17
import Derived.Deep.RegionHeld3
import Derived.Deep.RegionWith
namespace Go.Proofs.Ytjmfeoenbncibaa
open Go.RowKit Go.Nau Go.Shelf
attribute [local go_sem] Oper.semAt_some

theorem settledL_none : ∀ (l : List (Nat × ByteArray)) (b : List ByteArray) (k : Nat), (∀ x ∈ l, x.1 ≠ k) → (settledL b l)[k]? = b[k]?
  | [], _, _, _ => rfl
  | x :: l, b, k, h => by
    show (settledL (b.set x.1 x.2) l)[k]? = _
    rw [settledL_none l _ k (fun y hy => h y (List.mem_cons_of_mem _ hy)), List.getElem?_set_ne (h x List.mem_cons_self)]
theorem settledL_append (b : List ByteArray) (l m : List (Nat × ByteArray)) : settledL b (l ++ m) = settledL (settledL b l) m := by simp [settledL]
theorem settledL_last (b : List ByteArray) (l : List (Nat × ByteArray)) (q k : Nat) (y : ByteArray) (hq : l[q]? = some (k, y)) (hk : k < b.length) (h : ∀ j x, q < j → l[j]? = some x → x.1 ≠ k) : (settledL b l)[k]? = some y := by
  have hl : q < l.length := (List.getElem?_eq_some_iff.1 hq).1
  have e : l = l.take (q + 1) ++ l.drop (q + 1) := (List.take_append_drop _ _).symm
  rw [e, settledL_append, settledL_none]
  · rw [List.take_add_one, hq, show (some (k, y)).toList = [(k, y)] from rfl, settledL_snoc]
    rw [List.getElem?_set_self (by rw [settledL_length]; exact hk)]
  · intro x hx
    obtain ⟨j, hj⟩ := List.mem_iff_getElem?.1 hx
    rw [List.getElem?_drop] at hj
    exact h _ x (by omega) hj

section
variable {w : World} {G : Nat → Prop} {r : Nat} {s : DS}

set_option maxHeartbeats 400000 in
theorem rread_bad (h : RDsk w G r s) (k : Int) (hk : k < 0 ∨ (s.safe.length : Int) ≤ k) : Calls Try.prog 81 #[.pointer (some ⟨r, 0, none⟩), .int .i64 k] w fun e w' => e = .returned (.tuple #[.string ⟨#[]⟩, .int .i64 41]) ∧ w = w' := by
  obtain ⟨bb, bc, L, hd, _⟩ := h
  have c0 := blk_cell hd 0
  simp [rcells] at c0
  rcases hk with hk | hk
  · go_enter Try.func81, Try.ntmps81
    go_wp2_with fail
    go_ret2
    exact ⟨rfl, rfl⟩
  · have hk0 : ¬ k < 0 := by omega
    go_enter Try.func81, Try.ntmps81
    go_wp2_with fail
    go_ret2
    exact ⟨rfl, rfl⟩

def RdRel (w0 : World) (l : List (Nat × ByteArray)) (at_ : Nat) (k : Nat) (i : Value) (wr : World) : Prop :=
  wr = w0 ∧ ∃ q : Nat, q = k ∧ i = .int .i64 ((q : Int) - 1) ∧ q ≤ l.length ∧ ∀ j x, q ≤ j → l[j]? = some x → x.1 ≠ at_

set_option maxHeartbeats 1000000 in
set_option maxRecDepth 100000 in
theorem rread_ok (h : RDsk w G r s) (at_ : Nat) (x : ByteArray) (hx : (settledL s.safe s.loose)[at_]? = some x) (hll : s.loose.length ≤ 1073741824) :
    Calls Try.prog 81 #[.pointer (some ⟨r, 0, none⟩), .int .i64 at_] w fun e w' => e = .returned (.tuple #[.string x, .int .i64 0]) ∧ w = w' := by
  obtain ⟨bb, bc, L, hd, o1, o2, _⟩ := h
  have c0 := blk_cell hd 0
  have c1 := blk_cell hd 1
  simp [rcells] at c0 c1
  have hat : at_ < s.safe.length := by have := (List.getElem?_eq_some_iff.1 hx).1; rwa [settledL_length] at this
  have hati : (at_ : Int) < (s.safe.length : Int) := by omega
  have hlli : (s.loose.length : Int) ≤ 1073741824 := by omega
  obtain ⟨A, c, rfl, _, _, hrd⟩ := Rd.of_own o2
  obtain ⟨y, hy⟩ : ∃ y, s.safe[at_]? = some y := ⟨_, List.getElem?_eq_getElem hat⟩
  obtain ⟨m0, _⟩ := own_at o1 (strs_at hy)
  clear o1 o2 hd
  go_enter Try.func81, Try.ntmps81
  go_wp2_with fail
  go_loopg [6] s.loose.length (RdRel w s.loose at_)
  case atStart =>
    refine ⟨rfl, _, rfl, rfl, Nat.le_refl _, fun j x hj hx => ?_⟩
    have := (List.getElem?_eq_some_iff.1 hx).1
    omega
  case round =>
    obtain ⟨rfl, q, rfl, rfl, hq, hnone⟩ := hrel
    by_cases hq0 : 0 < q
    · have hqi : (0 : Int) ≤ (q : Int) - 1 := by omega
      have hqi2 : (q : Int) - 1 < (s.loose.length : Int) := by omega
      obtain ⟨p, rfl⟩ : ∃ p, q = p + 1 := ⟨q - 1, by omega⟩
      obtain ⟨ad, rfl, _, hcell⟩ := hrd.2 (by omega)
      obtain ⟨z, hz⟩ : ∃ z, s.loose[p]? = some z := ⟨_, List.getElem?_eq_getElem (by omega)⟩
      obtain ⟨g0, g1⟩ := wcells_get _ _ _ hz
      have e0 := hcell _ _ g0
      have e1 := hcell _ _ g1
      rw [← Go.Nau.add_add] at e1
      have e1' : wr.cell? ⟨(ad.add (p * 2)).block, (ad.add (p * 2)).off + 1, none⟩ = some (.string z.2) := e1
      have ep : ((p + 1 : Nat) : Int) - 1 = (p : Int) := by omega
      rw [ep] at hqi hqi2
      rw [ep]
      by_cases hza : z.1 = at_
      · have hxz : x = z.2 := by
          have := settledL_last s.safe s.loose p at_ z.2 (by rw [hz, ← hza]) hat (fun j y hj hy => hnone j y (by omega) hy)
          rw [hx] at this
          injection this
        have hzi : ((z.1 : Int) == (at_ : Int)) = true := by simp; omega
        have HX := Lib.hid hxz
        clear hxz hza hnone hcell g0 g1 hx e1 ep hz
        go_wp2_with fail
        go_ret2
        exact ⟨by rw [HX.out]; rfl, rfl⟩
      · have hzi : ((z.1 : Int) == (at_ : Int)) = false := by simp; omega
        have hnew : ∀ j y, p ≤ j → s.loose[j]? = some y → y.1 ≠ at_ := by
          intro j y hj hy
          rcases Nat.lt_or_ge p j with h | h
          · exact hnone j y (by omega) hy
          · obtain rfl : j = p := by omega
            rw [hz] at hy
            injection hy with hy
            rw [← hy]
            exact hza
        have HN := Lib.hid hnew
        clear hza hnone hcell g0 g1 hx e1 ep hz hnew
        go_wp2_with fail
        go_roundg p
        case measure => omega
        case rel => exact ⟨rfl, p, rfl, rfl, by omega, HN.out⟩
    · obtain rfl : q = 0 := by omega
      have hxy : x = y := by
        have := settledL_none s.loose s.safe at_ (fun z hz => by obtain ⟨j, hj⟩ := List.mem_iff_getElem?.1 hz; exact hnone j z (Nat.zero_le _) hj)
        rw [hx, hy] at this
        injection this
      have HX := Lib.hid hxy
      clear hxy hnone hx hy
      go_wp2_with fail
      go_ret2
      exact ⟨by rw [HX.out]; rfl, rfl⟩
end

def SameRel (w0 : World) (n : Nat) (k : Nat) (i : Value) (wr : World) : Prop :=
  ∃ q nq : Nat, k = n - q ∧ i = .int .i64 q ∧ q ≤ n ∧ wr = w0.drewN nq

set_option maxHeartbeats 1000000 in
set_option maxRecDepth 100000 in
theorem same_any (T T' : Nat → Prop) (A A' : Option Addr) (n c c' : Nat) (xs : List ByteArray) (w : World) (hr : Rd T w 1 A n (strs xs)) (hr' : Rd T' w 1 A' n (strs xs)) (hn : n ≤ 1073741824) :
    Calls Try.prog 26 #[.slice A n c, .slice A' n c'] w fun e w' => e = .returned (.bool true) ∧ ∃ q, w' = w.drewN q := by
  have hni : (n : Int) ≤ 1073741824 := by omega
  have hxl : xs.length = n := by have := hr.1; simpa using this
  have HR := Lib.hid hr
  have HR' := Lib.hid hr'
  clear hr hr'
  go_enter Try.func26, Try.ntmps26
  go_wp2_with fail
  go_loopg [5] n (SameRel w n)
  case atStart => exact ⟨0, 0, rfl, rfl, Nat.zero_le _, rfl⟩
  case round =>
    obtain ⟨q, nq, rfl, rfl, hq, rfl⟩ := hrel
    by_cases hlt : q < n
    · have hlti : (q : Int) < (n : Int) := by omega
      obtain ⟨ad, rfl, _, hcell⟩ := HR.out.2 (by omega)
      obtain ⟨ad', rfl, _, hcell'⟩ := HR'.out.2 (by omega)
      obtain ⟨x, hx⟩ : ∃ x, xs[q]? = some x := ⟨_, List.getElem?_eq_getElem (by omega)⟩
      have e0 := hcell _ _ (strs_at hx)
      have e0' := hcell' _ _ (strs_at hx)
      clear hcell hcell' hx
      go_wp2_with fail
      go_quiet (fail)
      rename_i nq2
      go_wp2_with fail
      go_roundg (n - (q + 1))
      case measure => omega
      case rel => exact ⟨q + 1, _, rfl, by simp, by omega, rfl⟩
    · obtain rfl : q = n := by omega
      go_wp2_with fail
      go_ret
      exact ⟨rfl, _, rfl⟩
end Go.Proofs.Ytjmfeoenbncibaa
namespace Go.Proofs.Ytjmfeoenbncibaa
open Go.RowKit Go.Nau Go.Shelf
attribute [local go_sem] Oper.semAt_some

section
variable {w : World} {G : Nat → Prop} {r : Nat} {s : DS}

theorem Rd.lt_own {w : World} {e : TypeId} {size n : Nat} {v : Value} {xs : List Value} (h : w.ownsRow 0 e size v n xs) : ∃ A c, v = .slice A n c ∧ Rd (· < w.heap.size) w size A n xs := by
  obtain ⟨A, c, rfl, _, _, hrd⟩ := Rd.of_own h
  refine ⟨A, c, rfl, hrd.1, fun hn => ?_⟩
  obtain ⟨ad, rfl, _, hc⟩ := hrd.2 hn
  rcases h.2 with ⟨h0, _⟩ | ⟨g, cap, cur, hv, _, hh, _⟩
  · cases h0
  · simp only [Value.slice.injEq, Option.some.injEq, true_and] at hv
    obtain ⟨rfl, _⟩ := hv
    exact ⟨_, rfl, (Array.getElem?_eq_some_iff.1 hh).1, hc⟩

set_option maxHeartbeats 1000000 in
set_option maxRecDepth 100000 in
theorem rimage_dsk (h : RDsk w G r s) (hl : ∀ x ∈ s.loose, x.1 < s.safe.length) (hn : s.safe.length ≤ 8192) (hm : s.loose.length ≤ 1073741824) :
    Calls Try.prog 32 #[.pointer (some ⟨r, 0, none⟩)] w (SetPost w s.safe.length (settledL s.safe s.loose)) := by
  obtain ⟨bb, bc, L, hd, o1, o2, g0, g1, g2, h0⟩ := h
  have c0 := blk_cell hd 0
  have c1 := blk_cell hd 1
  have hlt := (Array.getElem?_eq_some_iff.1 hd).1
  simp [rcells] at c0 c1
  obtain ⟨A, ca, ev, hrd⟩ := Rd.lt_own o1
  obtain ⟨A2, c2, rfl, hrd2⟩ := Rd.lt_own o2
  simp only [Value.slice.injEq, true_and] at ev
  obtain ⟨rfl, rfl⟩ := ev
  have hs := fun q => settled_any (some ⟨bb, 0, none⟩) A2 s.safe.length bc c2 s.safe s.loose (w.drewN q) (hrd.kept (Fr.drewN (fun _ => False) w q) (fun _ _ => id)) (hrd2.kept (Fr.drewN (fun _ => False) w q) (fun _ _ => id)) hl h0 hn hm
  have HS := Lib.hid hs
  clear hs hrd hrd2 o1 o2 hd
  go_enter Try.func32, Try.ntmps32
  go_wp2_with fail
  go_region_held3 (fun w' => w'.cell? ⟨r, 0, none⟩ = some (.slice (some ⟨bb, 0, none⟩) s.safe.length bc) ∧ w'.cell? ⟨r, 1, none⟩ = some (.slice A2 s.loose.length c2)) (first | (exact ⟨by assumption, by assumption⟩) | (simp [c0, c1]; done)) ((go_at_call 65; refine (HS.out _).mono ?_; rintro e w2 ⟨g, gc, rfl, hg, hown, hb⟩; have K0 := (hb.cell (p := ⟨r, 0, none⟩) (by simpa using hlt)).trans c0; have K1 := (hb.cell (p := ⟨r, 1, none⟩) (by simpa using hlt)).trans c1))
  go_wp2_with fail
  go_ret
  exact ⟨g, gc, rfl, hg, hown, (below_drewN (Below.refl w.heap.size w) 1).trans hb⟩

set_option maxHeartbeats 400000 in
theorem rflush_off (h : RDsk w G r s) (ho : offB s = true) : Calls Try.prog 105 #[.pointer (some ⟨r, 0, none⟩)] w fun e w' => e = .returned (.int .i64 43) ∧ RPost w G r { s with gone := true } w' := by
  have hoff := roff_dsk h
  rw [ho] at hoff
  have HO := Lib.hid hoff
  clear hoff
  go_enter Try.func105, Try.ntmps105
  go_wp2_with fail
  refine HO.out.mono ?_
  rintro e w1 ⟨rfl, hD⟩
  go_wp2_with fail
  go_ret
  exact ⟨rfl, hD⟩

def rflushed (s : DS) : DS := { s with safe := settledL s.safe s.loose, now := settledL s.safe s.loose, loose := [], ops := s.ops + 1, gone := false }

set_option maxHeartbeats 1000000 in
set_option maxRecDepth 100000 in
theorem rflush_ok (h : RDsk w G r s) (ho : offB s = false) (hl : ∀ x ∈ s.loose, x.1 < s.safe.length) (hn : s.safe.length ≤ 8192) (hm : s.loose.length ≤ 1073741824) (hops : s.ops ≤ 4611686018427387904) :
    Calls Try.prog 105 #[.pointer (some ⟨r, 0, none⟩)] w fun e w' => e = .returned (.int .i64 0) ∧ RPost w G r (rflushed s) w' := by
  have hoff := roff_dsk h
  rw [ho] at hoff
  have HO := Lib.hid hoff
  clear hoff
  have hopi : (s.ops : Int) ≤ 4611686018427387904 := by omega
  have hop0 : (0 : Int) ≤ (s.ops : Int) := by omega
  go_enter Try.func105, Try.ntmps105
  go_wp2_with fail
  refine HO.out.mono ?_
  rintro e w1 ⟨rfl, G1, hD, hG1, hf1⟩
  obtain ⟨bb, bc, L, hd, o1, o2, g0, g1, g2, h0⟩ := hD
  have c0 := blk_cell hd 0
  have c1 := blk_cell hd 1
  have z0 := blk_frozen hd 0
  have hlt := (Array.getElem?_eq_some_iff.1 hd).1
  simp [rcells] at c0 c1
  obtain ⟨A, ca, ev, hrd⟩ := Rd.lt_own o1
  obtain ⟨A2, c2, rfl, hrd2⟩ := Rd.lt_own o2
  simp only [Value.slice.injEq, true_and] at ev
  obtain ⟨rfl, rfl⟩ := ev
  dsimp only at hrd hrd2 c0 c1 h0 hd
  have hs := fun q => settled_any (some ⟨bb, 0, none⟩) A2 s.safe.length bc c2 s.safe s.loose (w1.drewN q) (hrd.kept (Fr.drewN (fun _ => False) w1 q) (fun _ _ => id)) (hrd2.kept (Fr.drewN (fun _ => False) w1 q) (fun _ _ => id)) hl h0 hn hm
  have HS := Lib.hid hs
  clear hs hrd hrd2 o1 o2
  go_wp2_with fail
  go_region_with ((go_at_call 65; refine (HS.out 1).mono ?_; rintro e w2 ⟨g, gc, rfl, hg, hown, hb⟩; have K0 := (hb.cell (p := ⟨r, 0, none⟩) (by simpa using hlt)).trans c0; have K1 := (hb.cell (p := ⟨r, 1, none⟩) (by simpa using hlt)).trans c1; have Z0 := (hb.frozen (p := ⟨r, 0, none⟩) (by simpa using hlt)).trans z0))
  all_goals
    have hd2 := (hb.block r (by simpa using hlt)).trans hd
    have hown' := own_base hown (Nat.zero_le _)
    have hne := own_ne hown' hd2 (by decide) g rfl
    have hs2 := hb.size
    have hg' : w1.heap.size ≤ g := hg
    have hs2' : w1.heap.size ≤ w2.heap.size := hs2
    have hgl := (hown.lt g rfl).2
    have K2 := blk_cell hd2 2
    have Z1 := blk_frozen hd2 1
    have Z2 := blk_frozen hd2 2
    simp [rcells] at K2
    have hd3 := blk_set hd2 0 (.slice (some ⟨g, 0, none⟩) s.safe.length gc)
    have hd4 := blk_set hd3 1 (.slice none 0 0)
    have hd5 := blk_set hd4 2 (.int .i64 ((s.ops : Int) + 1))
    have hf5 : Fr (· = r) w2 (((w2.setCell ⟨r, 0, none⟩ (.slice (some ⟨g, 0, none⟩) s.safe.length gc)).setCell ⟨r, 1, none⟩ (.slice none 0 0)).setCell ⟨r, 2, none⟩ (.int .i64 ((s.ops : Int) + 1))) := ((Fr.set1 _ _ _ _).trans (Fr.set1 _ _ _ _)).trans (Fr.set1 _ _ _ _)
    have hfin : RPost w G r (rflushed s) (((w2.setCell ⟨r, 0, none⟩ (.slice (some ⟨g, 0, none⟩) s.safe.length gc)).setCell ⟨r, 1, none⟩ (.slice none 0 0)).setCell ⟨r, 2, none⟩ (.int .i64 ((s.ops : Int) + 1))) := by
      have hlen : (rflushed s).safe.length = s.safe.length := settledL_length _ _
      refine RPost.trans hG1 hf1 (s2 := rflushed s) ⟨fun k => G1 k ∨ (w1.heap.size ≤ k ∧ k < w2.heap.size), ⟨g, gc, .slice none 0 0, ?_, ?_, World.ownsRow_nil _ _ _ _, .inl g0, .inr ⟨hg', hgl⟩, by simp [Value.ownBlock], ?_⟩, fun k hk => ?_, ?_⟩
      · rw [hlen, hd5]
        rfl
      · rw [hlen]
        exact Fr.own hown' hf5 (fun k hk e => own_ne hown' hd2 (by decide) k hk e)
      · rw [hlen]
        exact h0
      · rcases hk with h | h
        · exact .inl h
        · refine .inr ⟨h.1, ?_⟩
          simp [World.setCell]
          exact h.2
      · have hbb : Below w1.heap.size w1 w2 := (below_drewN (Below.refl w1.heap.size w1) 1).trans hb
        exact (Fr.new hbb G1).trans (hf5.mono (fun k hk => by subst hk; exact g0))
    have HF := Lib.hid hfin
    clear hfin hd3 hd4 hd5 hf5 hown hown' hd2 hb
    go_wp2_with fail
    go_ret
    exact ⟨rfl, HF.out⟩
end
end Go.Proofs.Ytjmfeoenbncibaa
namespace Go.Proofs.Ytjmfeoenbncibaa
open Go.RowKit Go.Nau Go.Shelf
attribute [local go_sem] Oper.semAt_some

theorem infoRW : (Try.prog.info? 149).map (fun i => (i.zero, i.size, i.bytes)) = some (some (.agg #[.int .i64 0, .string ⟨#[]⟩]), 2, 24) := by kernel_rfl

section
variable {w : World} {G : Nat → Prop} {r : Nat} {s : DS}

set_option maxHeartbeats 400000 in
theorem rwrite_off (h : RDsk w G r s) (ho : offB s = true) (n : Int) (x : ByteArray) : Calls Try.prog 104 #[.pointer (some ⟨r, 0, none⟩), .int .i64 n, .string x] w fun e w' => e = .returned (.int .i64 43) ∧ RPost w G r { s with gone := true } w' := by
  have hoff := roff_dsk h
  rw [ho] at hoff
  have HO := Lib.hid hoff
  clear hoff
  go_enter Try.func104, Try.ntmps104
  go_wp2_with fail
  refine HO.out.mono ?_
  rintro e w1 ⟨rfl, hD⟩
  go_wp2_with fail
  go_ret
  exact ⟨rfl, hD⟩

set_option maxHeartbeats 400000 in
theorem rwrite_bad (h : RDsk w G r s) (ho : offB s = false) (n : Int) (hn : n < 0 ∨ (s.safe.length : Int) ≤ n) (x : ByteArray) : Calls Try.prog 104 #[.pointer (some ⟨r, 0, none⟩), .int .i64 n, .string x] w fun e w' => e = .returned (.int .i64 41) ∧ RPost w G r { s with gone := false } w' := by
  have hoff := roff_dsk h
  rw [ho] at hoff
  have HO := Lib.hid hoff
  clear hoff
  rcases hn with hn | hn
  case' inr => have hn0 : ¬ n < 0 := by omega
  all_goals
    go_enter Try.func104, Try.ntmps104
    go_wp2_with fail
    refine HO.out.mono ?_
    rintro e w1 ⟨rfl, F1, hD, hF1, hf1⟩
    have hD0 := hD
    obtain ⟨bb, bc, L, hd, _⟩ := hD
    have c1 := blk_cell hd 0
    simp [rcells] at c1
    go_wp2_with fail
    go_ret
    exact ⟨rfl, F1, hD0, hF1, hf1⟩

set_option maxHeartbeats 400000 in
theorem rwrite_len (h : RDsk w G r s) (ho : offB s = false) (k : Nat) (hk : k < s.safe.length) (x : ByteArray) (hx : x.size ≠ 512) (_hxm : x.size ≤ maxLen) : Calls Try.prog 104 #[.pointer (some ⟨r, 0, none⟩), .int .i64 k, .string x] w fun e w' => e = .returned (.int .i64 42) ∧ RPost w G r { s with gone := false } w' := by
  have hoff := roff_dsk h
  rw [ho] at hoff
  have HO := Lib.hid hoff
  clear hoff
  have hki : (k : Int) < (s.safe.length : Int) := by omega
  have hk0 : ¬ (k : Int) < 0 := by omega
  have hx1 : ((x.size : Int) != 512) = true := by simp; omega
  go_enter Try.func104, Try.ntmps104
  go_wp2_with fail
  refine HO.out.mono ?_
  rintro e w1 ⟨rfl, F1, hD, hF1, hf1⟩
  have hD0 := hD
  obtain ⟨bb, bc, L, hd, _⟩ := hD
  have c1 := blk_cell hd 0
  simp [rcells] at c1
  go_wp2_with fail
  go_ret
  exact ⟨rfl, F1, hD0, hF1, hf1⟩

set_option maxHeartbeats 1000000 in
set_option maxRecDepth 100000 in
theorem rwrite_ok (h : RDsk w G r s) (ho : offB s = false) (k : Nat) (hk : k < s.safe.length) (x : ByteArray) (hx : x.size = 512) (hops : s.ops ≤ 4611686018427387904) (hll : s.loose.length ≤ 1073741824) :
    Calls Try.prog 104 #[.pointer (some ⟨r, 0, none⟩), .int .i64 k, .string x] w fun e w' => e = .returned (.int .i64 0) ∧ RPost w G r (wrote s k x) w' := by
  obtain ⟨i0, hi, hz0, hz1, hz2⟩ := info_parts infoRW
  have hoff := roff_dsk h
  rw [ho] at hoff
  have HO := Lib.hid hoff
  clear hoff
  have hki : (k : Int) < (s.safe.length : Int) := by omega
  have hk0 : ¬ (k : Int) < 0 := by omega
  have hx1 : ((x.size : Int) != 512) = false := by simp; omega
  have Hx := Lib.hid hx
  clear hx
  have hopi : (s.ops : Int) ≤ 4611686018427387904 := by omega
  have hop0 : (0 : Int) ≤ (s.ops : Int) := by omega
  go_enter Try.func104, Try.ntmps104
  go_wp2_with fail
  refine HO.out.mono ?_
  rintro e w1 ⟨rfl, F1, hD, hF1, hf1⟩
  obtain ⟨bb, bc, L, hd, o1, o3, f0, f1, f3, h4⟩ := hD
  dsimp only at hd o1 o3 h4
  have hn2 := own_ne o3 hd (by decide)
  have hlt := (Array.getElem?_eq_some_iff.1 hd).1
  have c0 := blk_cell hd 0
  have c1 := blk_cell hd 1
  simp [rcells] at c0 c1
  have hrd : Rd (fun _ => True) (w1.alloc (.cells #[.int .i64 k, .string x] 149)) 2 (some ⟨w1.heap.size, 0, none⟩) 1 [.int .i64 k, .string x] := by
    refine ⟨rfl, fun _ => ⟨_, rfl, trivial, fun j u hu => ?_⟩⟩
    have hj : j < 2 := by have := (List.getElem?_eq_some_iff.1 hu).1; simpa using this
    have hnew := heap_alloc_new w1 (.cells #[.int .i64 k, .string x] 149)
    have : (⟨w1.heap.size, 0, none⟩ : Addr).add j = ⟨w1.heap.size, j, none⟩ := by unfold Addr.add; split <;> simp_all
    rw [this, cell_of_row _ w1.heap.size j _ _ _ hnew]
    simpa using hu
  go_wp2_with (at_builtin; refine wpList_append_rd _ rfl (.tmp 27) (.tmp 31) 68 rfl 0 149 i0 _ 2 24 Try.underlying68 hi hz0 hz1 hz2 rfl (by decide) L s.loose.length (wcells s.loose) rfl (o3.alloc _) _ (some ⟨w1.heap.size, 0, none⟩) 1 1 [.int .i64 k, .string x] rfl hrd ?c2 ?c3 ?c4 (Nat.zero_le _) ?_)
  case c2 => simp [Value.oneCell']
  case c3 => unfold maxLen; omega
  case c4 => omega
  intro v0 w2 hown2 hg2 hat
  obtain ⟨vg, vc, cur, hv0, _⟩ := own_form hown2 (by omega)
  obtain ⟨v', hv'⟩ : ∃ v', v' = Value.slice (some ⟨vg, 0, none⟩) (s.loose.length + 1) vc := ⟨_, rfl⟩
  rw [hv0, ← hv'] at hown2 hat
  have hfr : Fr (fun j => L.ownBlock = some j) w1 w2 := ((Fr.refl _ w1).alloc _).grown hg2 (fun k hk _ => hk)
  have hnL : ¬ L.ownBlock = some r := fun e => hn2 r e rfl
  have hd2 := hfr.get hnL hd
  have p1 := Fr.own o1 hfr (fun k hk e => own_own_ne o1 o3 (by decide) k hk e)
  have hvd := own_ne hown2 hd2 (by decide)
  have hd3 := blk_set hd2 1 v'
  have hd5 := blk_set hd3 2 (.int .i64 ((s.ops : Int) + 1))
  have y1 := blk_frozen hd2 1
  have d2 := blk_cell hd2 2
  have y2 := blk_frozen hd2 2
  have d1 := blk_cell hd2 1
  simp [rcells] at d1 d2
  have hf5 : Fr (· = r) w2 ((w2.setCell ⟨r, 1, none⟩ v').setCell ⟨r, 2, none⟩ (.int .i64 ((s.ops : Int) + 1))) := (Fr.set1 _ _ _ _).trans (Fr.set1 _ _ _ _)
  have r1 := Fr.own p1 hf5 (fun k hk e => own_ne p1 hd2 (by decide) k hk e)
  have r3 := Fr.own hown2 hf5 (fun k hk e => hvd k hk e)
  have hz1 : w1.heap.size ≤ w2.heap.size := hfr.size
  have hatF : ∀ j, v'.ownBlock = some j → F1 j ∨ (w1.heap.size ≤ j ∧ j < w2.heap.size) := by
    intro j hj
    have hl2 := (hown2.lt j hj).2
    rcases hat with e | e
    · rw [e] at hj
      exact .inl (f3 j hj)
    · rw [e] at hj
      have h9 := Option.some.inj hj
      try simp at h9
      exact .inr ⟨by omega, hl2⟩
  have hfin : RPost w G r (wrote s k x) ((w2.setCell ⟨r, 1, none⟩ v').setCell ⟨r, 2, none⟩ (.int .i64 ((s.ops : Int) + 1))) := by
    refine RPost.trans hF1 hf1 (s2 := wrote s k x) ⟨fun j => F1 j ∨ (w1.heap.size ≤ j ∧ j < w2.heap.size), ⟨bb, bc, v', ?_, ?_, ?_, .inl f0, .inl f1, hatF, h4⟩, fun j hj => ?_, ?_⟩
    · show _ = some (Obj.cells (rcells s.safe.length bb bc v' ((s.ops + 1 : Nat)) s.cut false) 70 (0, 0))
      rw [hd5]
      rfl
    · exact r1
    · show World.ownsRow _ 0 149 2 v' (s.loose ++ [(k, x)]).length (wcells (s.loose ++ [(k, x)]))
      rw [List.length_append, wcells_snoc]
      exact r3
    · rcases hj with h | h
      · exact .inl h
      · refine .inr ⟨h.1, ?_⟩
        simp [World.setCell]
        exact h.2
    · refine (hfr.mono (fun j hj => f3 j hj)).trans (hf5.mono (fun j hj => ?_))
      subst hj; exact f0
  have HF := Lib.hid hfin
  subst hv0
  subst hv'
  clear hfin r1 r3 hatF hat hd3 hd5 p1 hown2 hg2 o1 o3 hd2 hvd hf5
  go_wp2_with fail
  go_ret
  exact ⟨rfl, HF.out⟩
end
end Go.Proofs.Ytjmfeoenbncibaa
namespace Go.Proofs.Ytjmfeoenbncibaa
open Go.RowKit Go.Nau Go.Shelf
attribute [local go_sem] Oper.semAt_some

theorem fates_at (l : List (Nat × ByteArray)) (keep torn : Int) (k : Nat) (x : Nat × ByteArray) (h : l[k]? = some x) : (fates l keep torn)[k]? = some (x, stays k keep torn) := by
  unfold fates
  simp [List.getElem?_zipIdx, h]
theorem fates_length (l : List (Nat × ByteArray)) (keep torn : Int) : (fates l keep torn).length = l.length := by simp [fates]
def crashTo (s : DS) (keep torn : Int) (q : Nat) : List ByteArray := ((fates s.loose keep torn).take q).foldl torn1 s.safe
theorem crashTo_succ (s : DS) (keep torn : Int) (q : Nat) (x : Nat × ByteArray) (h : s.loose[q]? = some x) : crashTo s keep torn (q + 1) = torn1 (crashTo s keep torn q) (x, stays q keep torn) := by
  unfold crashTo
  rw [List.take_add_one, fates_at _ _ _ _ _ h]
  simp
theorem crashTo_all (s : DS) (keep torn : Int) : crashTo s keep torn s.loose.length = crashed s keep torn := by
  unfold crashTo crashed
  rw [← fates_length s.loose keep torn, List.take_length]
theorem foldl_torn1_length (l : List ((Nat × ByteArray) × Int)) (b : List ByteArray) : (l.foldl torn1 b).length = b.length := by
  induction l generalizing b with
  | nil => rfl
  | cons x l ih => rw [List.foldl_cons, ih, torn1_length]
theorem crashTo_length (s : DS) (keep torn : Int) (q : Nat) : (crashTo s keep torn q).length = s.safe.length := foldl_torn1_length _ _
theorem crashed_length (s : DS) (keep torn : Int) : (crashed s keep torn).length = s.safe.length := foldl_torn1_length _ _

theorem foldl_torn1_size (l : List ((Nat × ByteArray) × Int)) (b : List ByteArray) (hb : ∀ x ∈ b, x.size = 512) (hl : ∀ x ∈ l, x.1.1 < b.length ∧ x.1.2.size = 512 ∧ (x.2 = 0 ∨ x.2 = 256 ∨ x.2 = 512)) : ∀ x ∈ l.foldl torn1 b, x.size = 512 := by
  induction l generalizing b with
  | nil => exact hb
  | cons y l ih =>
    rw [List.foldl_cons]
    obtain ⟨h1, h2, h3⟩ := hl y List.mem_cons_self
    refine ih _ (fun x hx => ?_) (fun x hx => by rw [torn1_length]; exact hl x (List.mem_cons_of_mem _ hx))
    unfold torn1 at hx
    split at hx
    · exact hb x hx
    · rcases List.mem_or_eq_of_mem_set hx with hx | hx
      · exact hb x hx
      · subst hx
        have hg : (b.getD y.1.1 ⟨#[]⟩).size = 512 := by
          rw [List.getD, List.getElem?_eq_getElem h1]
          exact hb _ (List.getElem_mem h1)
        rw [ByteArray.size_append, ByteArray.size_extract, ByteArray.size_extract, h2, hg]
        rcases h3 with h3 | h3 | h3 <;> simp [h3]
theorem crashTo_size (s : DS) (keep torn : Int) (q : Nat) (hs : ∀ x ∈ s.safe, x.size = 512) (hl : ∀ x ∈ s.loose, x.1 < s.safe.length ∧ x.2.size = 512) : ∀ x ∈ crashTo s keep torn q, x.size = 512 :=
  foldl_torn1_size _ _ hs fun x hx => fates_ok s.loose keep torn hl x (List.mem_of_mem_take hx)
theorem crashed_size (s : DS) (keep torn : Int) (hs : ∀ x ∈ s.safe, x.size = 512) (hl : ∀ x ∈ s.loose, x.1 < s.safe.length ∧ x.2.size = 512) : ∀ x ∈ crashed s keep torn, x.size = 512 :=
  foldl_torn1_size _ _ hs fun x hx => fates_ok s.loose keep torn hl x hx

def RcRel (w0 : World) (bx g gc n : Nat) (s : DS) (keep torn : Int) (k : Nat) (i : Value) (wr : World) : Prop :=
  ∃ q : Nat, k = s.loose.length - q ∧ i = .int .i64 q ∧ q ≤ s.loose.length ∧ wr.ownsRow 0 9 1 (.slice (some ⟨g, 0, none⟩) n gc) n (strs (crashTo s keep torn q)) ∧ wr.heap[bx]? = some (.cells #[.int .u64 keep, .int .i64 torn] 73 (0, 0)) ∧ Below w0.heap.size w0 wr

def RcPost (w : World) (b : List ByteArray) (e : Ending) (w' : World) : Prop :=
  ∃ r', e = .returned (.pointer (some ⟨r', 0, none⟩)) ∧ RDsk w' (fun k => w.heap.size ≤ k ∧ k < w'.heap.size) r' ⟨b, b, [], 0, -1, false⟩ ∧ w.heap.size ≤ r' ∧ Below w.heap.size w w'

section
variable {w : World} {G : Nat → Prop} {r : Nat} {s : DS}

end
end Go.Proofs.Ytjmfeoenbncibaa

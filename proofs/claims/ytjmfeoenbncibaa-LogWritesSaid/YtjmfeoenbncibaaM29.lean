/- Texts of this proof, joined: Lo Lp. They hold under no condition beyond what each theorem states. -/
import Derived.Test.YtjmfeoenbncibaaM28
namespace Go.Proofs.Ytjmfeoenbncibaa
open Go.RowKit Go.Nau Go.Shelf
attribute [local go_sem] Oper.semAt_some

set_option maxRecDepth 100000 in
theorem wclo_any (g d b5 b19 : Nat) (p : Int) (head : ByteArray) (W : World) (Q : Int → World → Prop) (h5 : W.cell? ⟨b5, 0, none⟩ = some (.pointer (some ⟨g, 0, none⟩))) (h19 : W.cell? ⟨b19, 0, none⟩ = some (.string head))
    (h0 : W.cell? ⟨g, 0, none⟩ = some (.pointer (some ⟨d, 0, none⟩))) (h1 : W.cell? ⟨g, 1, none⟩ = some (.int .i64 p))
    (hW : ∀ k, Calls Try.prog 48 #[.pointer (some ⟨d, 0, none⟩), .int .i64 p, .string head] (W.drewN k) fun e w' => ∃ ec, e = .returned (.int .i64 ec) ∧ Q ec w') :
    Calls Try.prog 51 #[.pointer (some ⟨b5, 0, none⟩), .pointer (some ⟨b19, 0, none⟩)] W fun e w' => ∃ ec, e = .returned (.int .i64 ec) ∧ Q ec w' := by
  have HW := Lib.hid hW
  clear hW
  go_enter Try.func51, Try.ntmps51
  go_wp2_with fail
  refine wp_row_drew 9 [] [9, 10] (by kernel_rfl) (by kernel_rfl) (fun _ _ _ _ e h => ⟨e ▸ h.1, h.2⟩) ?_
  simp only [floatQ, opsAt, List.filterMap_cons, List.filterMap_nil, List.getElem?_toArray, List.getElem?_cons_succ, List.getElem?_cons_zero, List.take_succ_cons, List.take_zero]
  repeat (show wpQuiet _ _ _ _ (_ :: _) _; go_big_quiet_step (fail))
  refine wpQuiet_nil ?_
  intro nq
  show wpList _ _ _ (_ :: _) _ _
  go_wp2_with fail
  refine (HW.out _).mono ?_
  rintro e w1 ⟨ec, rfl, hq⟩
  have HQ := Lib.hid hq
  clear hq
  go_wp2_with fail
  go_ret
  exact ⟨ec, rfl, HQ.out⟩

def FirstRel (b : Nat) (v0 v1 v2 : Value) (St : Nat → World → Prop) (k : Nat) (i : Value) (wr : World) : Prop :=
  ∃ q : Nat, k = 3 - q ∧ i = .int .i64 q ∧ q ≤ 3 ∧ St q wr

set_option maxHeartbeats 2000000 in
set_option maxRecDepth 100000 in
theorem first_core (b g d b5 b19 : Nat) (w : World) (St : Nat → World → Prop) (Q : Int → World → Prop) (h0 : St 0 w)
    (hc : ∀ q W, St q W → W.cell? ⟨b, 0, none⟩ = some (.func (.func 50) #[.pointer (some ⟨d, 0, none⟩)] #[]) ∧ W.cell? ⟨b, 1, none⟩ = some (.func (.func 51) #[] #[.pointer (some ⟨b5, 0, none⟩), .pointer (some ⟨b19, 0, none⟩)]) ∧
      W.cell? ⟨b, 2, none⟩ = some (.func (.func 50) #[.pointer (some ⟨d, 0, none⟩)] #[]))
    (hF0 : ∀ W, St 0 W → Calls Try.prog 50 #[.pointer (some ⟨d, 0, none⟩)] W fun e w' => ∃ ec, e = .returned (.int .i64 ec) ∧ (ec = 0 ∧ St 1 w' ∨ ec ≠ 0 ∧ Q ec w'))
    (hF1 : ∀ W, St 1 W → Calls Try.prog 51 #[.pointer (some ⟨b5, 0, none⟩), .pointer (some ⟨b19, 0, none⟩)] W fun e w' => ∃ ec, e = .returned (.int .i64 ec) ∧ (ec = 0 ∧ St 2 w' ∨ ec ≠ 0 ∧ Q ec w'))
    (hF2 : ∀ W, St 2 W → Calls Try.prog 50 #[.pointer (some ⟨d, 0, none⟩)] W fun e w' => ∃ ec, e = .returned (.int .i64 ec) ∧ (ec = 0 ∧ St 3 w' ∨ ec ≠ 0 ∧ Q ec w'))
    (h3 : ∀ W, St 3 W → Q 0 W) :
    Calls Try.prog 49 #[.slice (some ⟨b, 0, none⟩) 3 3] w fun e w' => ∃ ec, e = .returned (.int .i64 ec) ∧ Q ec w' := by
  have HC := Lib.hid hc
  have HF0 := Lib.hid hF0
  have HF1 := Lib.hid hF1
  have HF2 := Lib.hid hF2
  have H3 := Lib.hid h3
  have H0 := Lib.hid h0
  clear hc hF0 hF1 hF2 h3 h0
  go_enter Try.func49, Try.ntmps49
  go_wp2_with fail
  go_loopg [8] 3 (FirstRel b undef undef undef St)
  case atStart => exact ⟨0, rfl, rfl, by omega, H0.out⟩
  case round =>
    obtain ⟨q, rfl, rfl, hq, hst⟩ := hrel
    obtain ⟨c0, c1, c2⟩ := HC.out q wr hst
    rcases (by omega : q = 0 ∨ q = 1 ∨ q = 2 ∨ q = 3) with rfl | rfl | rfl | rfl
    · have hf := HF0.out wr hst
      have HF := Lib.hid hf
      clear hf hst c1 c2
      go_wp2_with fail
      refine HF.out.mono ?_
      rintro e w1 ⟨ec, rfl, (⟨rfl, hs⟩ | ⟨hne, hQ⟩)⟩
      · have HS := Lib.hid hs
        clear hs
        go_wp2_with fail
        go_roundg 2
        case measure => omega
        case rel => exact ⟨1, rfl, rfl, by omega, HS.out⟩
      · have hne' : (ec != 0) = true := by simpa using hne
        have HQ := Lib.hid hQ
        clear hQ hne
        go_wp2_with fail
        go_ret
        exact ⟨ec, rfl, HQ.out⟩
    · have hf := HF1.out wr hst
      have HF := Lib.hid hf
      clear hf hst c0 c2
      go_wp2_with fail
      refine HF.out.mono ?_
      rintro e w1 ⟨ec, rfl, (⟨rfl, hs⟩ | ⟨hne, hQ⟩)⟩
      · have HS := Lib.hid hs
        clear hs
        go_wp2_with fail
        go_roundg 1
        case measure => omega
        case rel => exact ⟨2, rfl, rfl, by omega, HS.out⟩
      · have hne' : (ec != 0) = true := by simpa using hne
        have HQ := Lib.hid hQ
        clear hQ hne
        go_wp2_with fail
        go_ret
        exact ⟨ec, rfl, HQ.out⟩
    · have hf := HF2.out wr hst
      have HF := Lib.hid hf
      clear hf hst c0 c1
      go_wp2_with fail
      refine HF.out.mono ?_
      rintro e w1 ⟨ec, rfl, (⟨rfl, hs⟩ | ⟨hne, hQ⟩)⟩
      · have HS := Lib.hid hs
        clear hs
        go_wp2_with fail
        go_roundg 0
        case measure => omega
        case rel => exact ⟨3, rfl, rfl, by omega, HS.out⟩
      · have hne' : (ec != 0) = true := by simpa using hne
        have HQ := Lib.hid hQ
        clear hQ hne
        go_wp2_with fail
        go_ret
        exact ⟨ec, rfl, HQ.out⟩
    · have hq3 := H3.out wr hst
      have HQ := Lib.hid hq3
      clear hq3 hst c0 c1 c2
      go_wp2_with fail
      go_ret
      exact ⟨0, rfl, HQ.out⟩
end Go.Proofs.Ytjmfeoenbncibaa
namespace Go.Proofs.Ytjmfeoenbncibaa
open Go.RowKit Go.Nau Go.Shelf
attribute [local go_sem] Oper.semAt_some

theorem infoI : (Try.prog.info? 3).map (fun i => (i.zero, i.size, i.bytes)) = some (some (.int .i64 0), 1, 8) := by kernel_rfl
theorem rd_newI (W : World) (x : Int) : Rd (fun _ => True) (W.alloc (.cells #[.int .i64 x] 3)) 1 (some ⟨W.heap.size, 0, none⟩) 1 [.int .i64 x] := by
  refine ⟨rfl, fun _ => ⟨_, rfl, trivial, fun j u hu => ?_⟩⟩
  have hn := heap_alloc_new W (.cells #[.int .i64 x] 3)
  have ha : (⟨W.heap.size, 0, none⟩ : Addr).add j = ⟨W.heap.size, j, none⟩ := by unfold Addr.add; split <;> simp_all
  rw [ha, cell_of_row _ W.heap.size j _ _ _ hn]
  simpa using hu
theorem rd_newE (W : World) (x : Ent) : Rd (fun _ => True) (W.alloc (.cells #[.int .i64 x.kind, .int .u32 x.file, .int .u32 x.idx, .int .u32 x.vbn] 85)) 4 (some ⟨W.heap.size, 0, none⟩) 1 (entL x) := by
  refine ⟨rfl, fun _ => ⟨_, rfl, trivial, fun j u hu => ?_⟩⟩
  exact rd_ent W x j u hu
theorem entL_one (x : Ent) : ∀ u ∈ entL x, u.oneCell' = true := by
  intro u hu
  simp [entL] at hu
  rcases hu with rfl | rfl | rfl | rfl <;> rfl

/-- Places of blocks, so many. -/
def atC (p : Int) (q : Nat) : List Value := (List.range q).map fun (i : Nat) => Value.int .i64 (p + 1 + (i : Int))
theorem atC_succ (p : Int) (q : Nat) : atC p (q + 1) = atC p q ++ [.int .i64 (p + 1 + (q : Int))] := by simp [atC, List.range_succ]
theorem atC_length (p : Int) (q : Nat) : (atC p q).length = q := by simp [atC]
theorem atC_get {p : Int} {n q : Nat} (h : q < n) : (atC p n)[q]? = some (.int .i64 (p + 1 + (q : Int))) := by
  unfold atC
  rw [List.getElem?_map, List.getElem?_range h]
  rfl
def bsL (bs : Nat → ByteArray) (q : Nat) : List ByteArray := (List.range q).map bs
theorem bsL_succ (bs : Nat → ByteArray) (q : Nat) : strs (bsL bs (q + 1)) = strs (bsL bs q) ++ [.string (bs q)] := by simp [bsL, strs, List.range_succ]
theorem bsL_length (bs : Nat → ByteArray) (q : Nat) : (bsL bs q).length = q := by simp [bsL]
theorem bsL_get {bs : Nat → ByteArray} {n q : Nat} (h : q < n) : (bsL bs n)[q]? = some (bs q) := by
  unfold bsL
  rw [List.getElem?_map, List.getElem?_range h]
  rfl

/-- What Write leaves. -/
def WrOut (w : World) (F : Nat → Prop) (g d : Nat) (P : Nat → Int → Int → Int → Int → DS → Prop) (p : Int) (e : Ending) (w' : World) : Prop :=
  ∃ (n : Nat) (code p' sq' nx' : Int) (ds : DS) (A : Option Addr) (c : Nat), e = .returned (.tuple #[.slice A n c, .int .i64 code]) ∧ P n code p' sq' nx' ds ∧ n ≤ c ∧ Rd (fun k => w.heap.size ≤ k ∧ k < w'.heap.size) w' 1 A n (atC p n) ∧
    w'.heap[g]? = some (.cells #[.pointer (some ⟨d, 0, none⟩), .int .i64 p', .int .u64 sq', .int .i64 nx'] 95 (0, 0)) ∧ (∃ F', Dsk w' F' d ds ∧ (∀ k, F' k → F k ∨ (w.heap.size ≤ k ∧ k < w'.heap.size))) ∧ Fr (fun k => F k ∨ k = g) w w'

def W1Rel (w : World) (n : Nat) (p sq cp nx : Int) (en sy : Bool) (its : List (Ent × ByteArray)) (bs : Nat → ByteArray) (we : Nat → Int) (g0 : Nat) (k : Nat) (v13 v14 i : Value) (wr : World) : Prop :=
  ∃ (q : Nat) (A1 A2 A3 : Option Addr) (c1 c2 c3 : Nat), k = n - q ∧ i = .int .i64 q ∧ q ≤ n ∧ v13 = .slice A1 q c1 ∧ v14 = .slice A2 q c2 ∧ (∀ j, j < q → we j = 0) ∧
    wr.heap[w.heap.size + 1]? = some (.cells #[.int .u64 sq, .int .u64 cp, .bool en, .bool sy, .int .i64 nx, .slice A3 q c3] 79 (0, 0)) ∧
    wr.ownsRow (w.heap.size + 2) 3 1 (.slice A1 q c1) q (atC p q) ∧ wr.ownsRow (w.heap.size + 2) 9 1 (.slice A2 q c2) q (strs (bsL bs q)) ∧ wr.ownsRow (w.heap.size + 2) 85 4 (.slice A3 q c3) q (entC ((its.take q).map (·.1))) ∧ Below w.heap.size w wr ∧ w.heap.size + 2 ≤ wr.heap.size ∧
    wr.heap[w.heap.size]? = some (.cells #[.pointer (some ⟨g0, 0, none⟩)] 28 (0, 0))
end Go.Proofs.Ytjmfeoenbncibaa

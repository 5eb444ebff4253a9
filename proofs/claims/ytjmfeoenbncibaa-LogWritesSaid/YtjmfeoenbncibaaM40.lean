/- Texts of this proof, joined: Mn Mo Yb. They hold under no condition beyond what each theorem states. -/
import Derived.Test.YtjmfeoenbncibaaM39
import Derived.Test.YtjmfeoenbncibaaM31
import Derived.Test.YtjmfeoenbncibaaM35
import Derived.Test.YtjmfeoenbncibaaM25
namespace Go.Proofs.Ytjmfeoenbncibaa
open Go.RowKit Go.Nau Go.Shelf

theorem rput_any {w : World} {G : Nat → Prop} {g d n c B : Nat} {A : Option Addr} {s : DS} {l : LS} (hd : RDsk w G d s) (hB : ∀ k, G k → B ≤ k) (hgG : ¬ G g) (hg : RLg w g d l) (lo : LOk s.now.length l) (hi : DInv s) (hops : s.ops ≤ 500000) (hll : s.loose.length ≤ 500000)
    (its : List (Ent × ByteArray)) (hl : its.length = n) (hn : n ≤ 15) (hr : Rd (· < B) w 5 A n (itC its)) (hsz : ∀ x ∈ its, x.2.size ≤ 508) (head : ByteArray) (hh : head.size ≤ maxLen) :
    Calls Try.prog 85 #[.pointer (some ⟨g, 0, none⟩), .slice A n c, .string head] w fun e w' => e = .returned (.int .i64 (putD s l.pos (its.map (·.2)) head).1) ∧ RPost w G d (putD s l.pos (its.map (·.2)) head).2 w' := by
  obtain ⟨cs, hcs⟩ : ∃ cs, cs = its.map (·.2) := ⟨_, rfl⟩
  have hcl : cs.length = n := by rw [hcs, List.length_map]; exact hl
  have hcn : cs.take n = cs := List.take_of_length_le (by omega)
  have hci : ∀ (q : Nat) (x : Ent × ByteArray), its[q]? = some x → cs[q]? = some x.2 := fun q x hx => by rw [hcs, List.getElem?_map, hx]; rfl
  rw [← hcs]
  have hlo := lo.hi
  have hln := lo.n256
  have inv := fun q => wBlocks_inv (cs.take q) s (l.pos + 1) hi
  have lenq : ∀ q, (cs.take q).length ≤ 15 := fun q => by rw [List.length_take]; omega
  have inv2 := fun q => by
    obtain ⟨i1, i2, i3, i4⟩ := inv q
    have h15 := lenq q
    exact (⟨i1, i2, by omega, by omega⟩ : DInv (wBlocks s (l.pos + 1) (cs.take q)).2 ∧ (wBlocks s (l.pos + 1) (cs.take q)).2.now.length = s.now.length ∧ (wBlocks s (l.pos + 1) (cs.take q)).2.ops ≤ 500015 ∧ (wBlocks s (l.pos + 1) (cs.take q)).2.loose.length ≤ 500015)
  obtain ⟨j1, j2, j3, j4⟩ := inv2 n
  have fi := fres_inv j1
  have wi := wres_inv fi.1 (l.pos : Int) head
  refine rput_core w G g d n c B l.pos l.seq l.next A its (fun q => wrapS (cs.getD q ⟨#[]⟩)) (fun q => wBlocks s (l.pos + 1) (cs.take q)) head (putD s l.pos cs head) (fres (wBlocks s (l.pos + 1) (cs.take n)).2) (wres (fres (wBlocks s (l.pos + 1) (cs.take n)).2).2 l.pos head) (fres (wres (fres (wBlocks s (l.pos + 1) (cs.take n)).2).2 l.pos head).2)
    hgG hB hg ⟨by omega, by omega⟩ hl (by omega) hr ?_ ?_ ?_ ?_ ?_ ?_ ?_ ?_ ?_ ?_
  · refine ⟨?_, ?_⟩
    · show (wBlocks s (l.pos + 1) (cs.take 0)).1 = 0
      rw [List.take_zero, wBlocks_nil]
    · show RPost w G d (wBlocks s (l.pos + 1) (cs.take 0)).2 w
      rw [List.take_zero, wBlocks_nil]
      exact RPost.start hd
  · intro q x W hx
    have hs := hsz x (List.mem_of_getElem? hx)
    have := rwrap_any x.2 (by unfold maxLen; omega) W
    have e1 : wrapO x.2 = wrapS (cs.getD q ⟨#[]⟩) := by
      unfold wrapO
      rw [if_pos hs, List.getD, hci q x hx]
      rfl
    have e2 : wrapE x.2 = 0 := by unfold wrapE; rw [if_pos hs]
    rw [e1, e2] at this
    exact this
  · intro q W hq h0 hP
    obtain ⟨y, hy⟩ : ∃ y, cs[q]? = some y := ⟨_, List.getElem?_eq_getElem (by omega)⟩
    have hsn := wBlocks_snoc hy h0
    obtain ⟨i1, i2, i3, i4⟩ := inv2 q
    obtain ⟨x, hx⟩ : ∃ x, its[q]? = some x := ⟨_, List.getElem?_eq_getElem (by omega)⟩
    have hyx : y = x.2 := by have := hci q x hx; rw [hy] at this; injection this
    have hys : (wrapS y).size = 512 := wrapS_size (by rw [hyx]; exact hsz x (List.mem_of_getElem? hx))
    have := RPost.write hP i1 ((l.pos + 1 + q : Nat) : Int) (wrapS y) (by rw [hys]; unfold maxLen; omega) (by omega) (by omega)
    rw [← hsn] at this
    have e : (cs.getD q ⟨#[]⟩) = y := by rw [List.getD, hy]; rfl
    show Calls Try.prog _ #[_, .int .i64 ((l.pos : Int) + 1 + (q : Int)), .string (wrapS (cs.getD q ⟨#[]⟩))] W _
    rw [e, show ((l.pos : Int) + 1 + (q : Int)) = ((l.pos + 1 + q : Nat) : Int) by omega]
    exact this
  · intro q hq hne
    have hst := wBlocks_stop hne
    unfold putD
    rw [hst, if_neg hne]
  · intro W h0 hP
    exact RPost.flush hP j1 (by omega) (by omega)
  · intro h0 hne
    rw [hcn] at h0 hne ⊢
    unfold putD
    rw [if_pos h0]
    unfold fin3
    rw [if_neg hne]
  · intro W hP
    exact RPost.write hP fi.1 l.pos head hh (by have := fi.2.2.1; omega) (by have := fi.2.2.2; omega)
  · intro h0 h1 hne
    rw [hcn] at h0 h1 hne ⊢
    unfold putD
    rw [if_pos h0]
    unfold fin3
    rw [if_pos h1, if_neg hne]
  · intro W hP
    exact RPost.flush hP wi.1 (by have := fi.2.2.1; have := wi.2.2.1; omega) (by have := fi.2.2.2; have := wi.2.2.2; omega)
  · intro h0 h1 h2
    rw [hcn] at h0 h1 h2 ⊢
    unfold putD
    rw [if_pos h0]
    unfold fin3
    rw [if_pos h1, if_pos h2]

def RwPost (w : World) (G : Nat → Prop) (g d : Nat) (r : WrRes) (e : Ending) (w' : World) : Prop :=
  ∃ (A : Option Addr) (c : Nat), e = .returned (.tuple #[.slice A r.at_.length c, .int .i64 r.e]) ∧ r.at_.length ≤ c ∧ Rd (fun k => w.heap.size ≤ k ∧ k < w'.heap.size) w' 1 A r.at_.length (r.at_.map fun (i : Nat) => Value.int .i64 (i : Int)) ∧ RLg w' g d r.l ∧
    (∃ G', RDsk w' G' d r.s ∧ (∀ k, G' k → G k ∨ (w.heap.size ≤ k ∧ k < w'.heap.size))) ∧ Fr (fun k => G k ∨ k = g) w w'

theorem rwrite15_any {w : World} {G : Nat → Prop} {g d n c B : Nat} {A : Option Addr} {s : DS} {l : LS} (hd : RDsk w G d s) (hG : ∀ k, G k → B ≤ k ∧ k < w.heap.size) (hgG : ¬ G g) (hg : RLg w g d l) (hBw : B ≤ w.heap.size) (lo : LOk s.now.length l) (hi : DInv s) (hops : s.ops ≤ 500000) (hll : s.loose.length ≤ 500000)
    (its : List (Ent × ByteArray)) (hl : its.length = n) (hr : Rd (· < B) w 5 A n (itC its)) (hn : n ≤ 1000000) (hwf : ∀ x ∈ its, x.1.wf) (cp : Nat) (hcp : cp < 18446744073709551616) (en sy : Bool) :
    Calls Try.prog 63 #[.pointer (some ⟨g, 0, none⟩), .int .u64 cp, .slice A n c, .bool en, .bool sy] w (RwPost w G g d (lwrite l s cp its en sy)) := by
  have hgl : g < w.heap.size := (Array.getElem?_eq_some_iff.1 hg).1
  have hlo := lo.hi
  have hln := lo.n256
  have hwfr := recOf_wf lo hcp hwf (by unfold maxLen; omega) en sy
  have hrl : (recOf l cp its en sy).l.length = n := by show (its.map (·.1)).length = _; rw [List.length_map]; exact hl
  have hkeep : ∀ W, Below w.heap.size w W → RLg W g d l := fun W hb => (hb.block g hgl).trans hg
  have hno : ∀ W code, Below w.heap.size w W → lwrite l s cp its en sy = ⟨[], code, l, s⟩ → RwPost w G g d (lwrite l s cp its en sy) (.returned (.tuple #[.slice none 0 0, .int .i64 code])) W := fun W code hb he => by
    rw [he]
    exact ⟨none, 0, rfl, Nat.le_refl _, Rd.nil _ _ _ _, hkeep W hb, ⟨G, hd.kept (Fr.new hb (fun _ => False)) (fun _ _ => id), fun k hk => .inl hk⟩, Fr.new hb _⟩
  refine rwrite15_core g d n c A l.pos l.seq cp l.next ((15 - l.pos % 16 : Nat) : Int) (if rightB (recOf l cp its en sy) = true then 0 else 70) en sy its (if rightB (recOf l cp its en sy) = true then encS (recOf l cp its en sy) else ⟨#[]⟩) w _
    hg (hr.mono (fun k hk => by omega)) hl (by omega) ⟨by omega, by omega⟩ ⟨by omega, by omega⟩ (fun W hb => rlroom_any (hkeep W hb)) ?_ ?_ ?_ ?_
  · intro A' c' W hb hrd
    rw [← hrl] at hrd
    have := rencode_any (recOf l cp its en sy) hwfr A' c' W hrd
    unfold recV at this
    rw [hrl] at this
    refine this.mono ?_
    rintro e w' ⟨rfl, hb'⟩
    refine ⟨?_, hb'⟩
    split <;> rfl
  · intro W hb hnx hnr hsz hee
    have hrt : rightB (recOf l cp its en sy) = true := by
      by_cases h : rightB (recOf l cp its en sy) = true
      · exact h
      · rw [if_neg h] at hee
        cases hee
    have hn0 : l.next ≠ 0 := fun h => hnx (by rw [h]; rfl)
    have hnr' : its.length ≤ 15 - l.pos % 16 := by omega
    have hnum := rightB_num hrt
    have hw : wrB l cp its en sy = true := by
      unfold wrB
      simp only [Bool.and_eq_true, decide_eq_true_eq, List.all_eq_true]
      exact ⟨hnr', hsz, hrt⟩
    rw [if_pos hrt]
    have hs1 := hb.size
    have hdW := hd.kept (Fr.new hb (fun _ => False)) (fun _ _ => id)
    have hrW : Rd (· < B) W 5 A n (itC its) := hr.kept (Fr.of_below hb) (fun k hk => by omega)
    have hes : (encS (recOf l cp its en sy)).size ≤ maxLen := by
      have := okDec_size (back_enc hrt hwfr).2
      rw [this]
      unfold maxLen
      omega
    refine (rput_any hdW (fun k hk => (hG k hk).1) hgG (hkeep W hb) lo hi hops hll its hl (by omega) hrW hsz _ hes).mono ?_
    rintro e w2 ⟨rfl, G', hD2, hG', hf2⟩
    have hs2 := hf2.size
    refine ⟨_, rfl, ?_⟩
    have hlg2 := hf2.get hgG (hkeep W hb)
    by_cases hz : (putD s l.pos (its.map (·.2)) (encS (recOf l cp its en sy))).1 = 0
    · refine .inr ⟨hz, hlg2, ?_⟩
      have hseg : 0 ≤ (l.next : Int) ∧ (l.next : Int) ≤ 255 := ⟨by omega, by have := hnum.2.2.2.2.1; exact this⟩
      refine (rgoes_any hlg2 n (l.next : Int) (by omega) lo.seq1 (by omega) hseg).mono ?_
      rintro e w3 ⟨rfl, hlg3, hf3⟩
      have hs3 := hf3.size
      refine ⟨rfl, (hf2.mono (fun k hk => (hG k hk).2)).trans (hf3.mono (fun k hk => by omega)), fun A1 c1 hc1 hra => ?_⟩
      have e : lwrite l s cp its en sy = ⟨(List.range its.length).map (fun i => l.pos + 1 + i), 0, goN l its.length l.next, (putD s l.pos (its.map (·.2)) (encS (recOf l cp its en sy))).2⟩ := by
        unfold lwrite
        rw [if_neg hn0, if_pos hw, if_pos hz]
      rw [e]
      have hal : ((List.range its.length).map (fun i => l.pos + 1 + i)).length = n := by rw [List.length_map, List.length_range]; exact hl
      refine ⟨A1, c1, by dsimp only; rw [hal], by dsimp only; rw [hal]; exact hc1, ?_, ?_, ⟨G', hD2.kept hf3 (fun k hk e => ?_), fun k hk => ?_⟩, ?_⟩
      · dsimp only
        rw [hal]
        have : ((List.range its.length).map (fun i => l.pos + 1 + i)).map (fun (i : Nat) => Value.int .i64 (i : Int)) = atC l.pos n := by
          unfold atC
          rw [List.map_map, hl]
          apply List.map_congr_left
          intro i _
          simp
        rw [this]
        exact hra
      · dsimp only
        rw [hl]
        rw [Int.toNat_natCast] at hlg3
        exact hlg3
      · rcases hG' k hk with h | h
        · exact hgG (e ▸ h)
        · omega
      · rcases hG' k hk with h | h
        · exact .inl h
        · exact .inr (by omega)
      · exact ((Fr.new hb _).trans (hf2.mono (fun k hk => .inl hk))).trans (hf3.mono (fun k hk => .inr hk))
    · refine .inl ⟨hz, ?_⟩
      have e : lwrite l s cp its en sy = ⟨[], (putD s l.pos (its.map (·.2)) (encS (recOf l cp its en sy))).1, l, (putD s l.pos (its.map (·.2)) (encS (recOf l cp its en sy))).2⟩ := by
        unfold lwrite
        rw [if_neg hn0, if_pos hw, if_neg hz]
      rw [e]
      exact ⟨none, 0, rfl, Nat.le_refl _, Rd.nil _ _ _ _, hlg2, ⟨G', hD2, fun k hk => (hG' k hk).imp id (fun h => by omega)⟩, (Fr.new hb _).trans (hf2.mono (fun k hk => .inl hk))⟩
  · intro h0
    refine hno w 152 (Below.refl _ _) ?_
    have : l.next = 0 := by omega
    unfold lwrite
    rw [if_pos this]
  · intro W hb hnx hbad
    refine hno W 2 hb ?_
    have hn0 : l.next ≠ 0 := fun h => hnx (by rw [h]; rfl)
    have hw : ¬ wrB l cp its en sy = true := fun h => by
      unfold wrB at h
      simp only [Bool.and_eq_true, decide_eq_true_eq, List.all_eq_true] at h
      exact hbad ⟨by omega, h.2.1, by rw [if_pos h.2.2]⟩
    unfold lwrite
    rw [if_neg hn0, if_neg hw]
end Go.Proofs.Ytjmfeoenbncibaa
namespace Go.Proofs.Ytjmfeoenbncibaa
open Go.RowKit Go.Nau Go.Shelf
attribute [local go_sem] Oper.semAt_some

theorem heldQ_nil {P : Program} {ops : Array Oper} {S : World → Prop} {K : Act → Prop} {a : Act} (h : K a) : heldQ P ops S K [] a := h
/-- What the kernel looks at. -/
def callrowB (ops : Array Oper) (ts es js : List Nat) (c al : Nat) (Lf L3 L4 L5 : Array Bool) : Bool :=
  heldEB' .any ops ts (c :: es ++ js) (2 + es.length + js.length) && decide (setAll (Array.replicate ops.size false) ts = Lf) && decide (Region.ready .any ops Lf = [al]) && !((c :: es ++ js).contains al) &&
  decide (Lf.setIfInBounds al true = L3) && decide (Region.ready .any ops L3 = [c]) && decide (L3.setIfInBounds c true = L4) && closedB .any ops L4 && decide (setAll L4 es = L5) && floatB .any ops es L4 && rowB .any ops js L5

/-- A region that draws its order: loads; a call whose result a second call takes; its results taken apart; a row of stores. -/
theorem wp_callrow {P : Program} {Q : Exit → Act → World → Prop} {id : Nat} {a : Act} {w : World} {l : List Oper} (S : World → Prop) (ts es js : List Nat) (c al : Nat) (Lf L3 L4 L5 : Array Bool) (hm : P.follows .mixedOrders = true) (hB : callrowB l.toArray ts es js c al Lf L3 L4 L5 = true)
    (hQ : ∀ c (a a' : Act) w, a.defers = a'.defers → Q (.panic c) a w → Q (.panic c) a' w) (hS : S (w.drewN 1))
    (h : heldQ P l.toArray S (fun a' => wpAt P l.toArray Q al (fun a1 w1 => S w1 ∧ wpAt P l.toArray Q c (fun a2 w2 => heldQ P l.toArray (fun _ => True) (fun a3 => wpList P l.toArray Q (opsAt l.toArray js) a3 w2) es a2) a1 w1) a' (w.drewN 1)) ts a) :
    (Code.region id l.toArray true).wp P Q a w := by
  simp only [callrowB, Bool.and_eq_true, decide_eq_true_eq, Bool.not_eq_true'] at hB
  obtain ⟨⟨⟨⟨⟨⟨⟨⟨⟨⟨h1, h2⟩, h3⟩, h4⟩, h10⟩, h11⟩, h12⟩, h13⟩, h14⟩, h15⟩, h16⟩ := hB
  have hsel : Region.noSelect l.toArray = true := by
    simp only [heldEB', Bool.and_eq_true] at h1
    exact h1.1.1.1
  refine wp_region_heldE' S ts (c :: es ++ js) (2 + es.length + js.length) Lf hm h1 h2 hQ hS (heldQ_mono (fun a' hL => ?_) ts a h)
  rw [show 2 + es.length + js.length = (1 + es.length + js.length) + 1 by omega]
  refine ⟨fun e => (by rw [h3] at e; cases e), fun i hi => ?_⟩
  rw [h3] at hi
  have hcE : (c :: es ++ js).contains c = true := by simp
  obtain rfl := List.mem_singleton.1 hi
  refine ⟨fun e => (by rw [h4] at e; cases e), fun _ => ?_⟩
  refine wpOp_of_at (wpAt_mono (fun a1 w1 hk => ⟨hk.1, ?_⟩) hL)
  rw [h10, show 1 + es.length + js.length = (es.length + js.length) + 1 by omega]
  refine ⟨fun e => (by rw [h11] at e; cases e), fun k hk' => ?_⟩
  rw [h11] at hk'
  obtain rfl := List.mem_singleton.1 hk'
  refine ⟨fun _ => ?_, fun e => (by rw [hcE] at e; cases e)⟩
  refine wpOp_of_at (wpAt_mono (fun a2 w2 hk2 => ?_) hk.2)
  rw [h12]
  exact wpAny_held_row hsel hQ h13 h14 h15 h16 hk2

set_option maxHeartbeats 8000000 in
set_option maxRecDepth 100000 in
theorem does15_core (gl gr d e n c m kp : Nat) (A : Option Addr) (kind N cp : Int) (en sy : Bool) (w0 w : World) (hw : w = w0.alloc (.cells #[.int .i64 kind, .int .i64 N, .int .u64 cp, .slice A n c, .bool en, .bool sy] 67)) (Q : World → Prop)
    (hP : ∀ W, Calls Try.prog 35 #[.int .i64 kind, .int .i64 5] W fun e w' => e = .returned (.int .i64 kp) ∧ w' = W)
    (hC : ∀ W, Calls Try.prog 24 #[.slice A n c] W fun e w' => e = .returned (.slice A m c) ∧ W = w')
    (h0 : kp = 0 → ∀ k, Calls Try.prog 19 #[.pointer (some ⟨gl, 0, none⟩), .int .i64 N] (w.drewN k) fun e1 w1 => ∃ r, e1 = .returned (.int .i64 r) ∧ w1.heap[w0.heap.size]? = w.heap[w0.heap.size]? ∧
      Calls Try.prog 61 #[.pointer (some ⟨gr, 0, none⟩), .int .i64 N] w1 fun e2 w2 => e2 = .returned (.int .i64 r) ∧ Q w2)
    (h4 : kp = 4 → Calls Try.prog 34 #[.pointer (some ⟨d, 0, none⟩), .int .i64 N] w fun e1 w1 => e1 = .returned (.tuple #[]) ∧ w1.heap[w0.heap.size]? = w.heap[w0.heap.size]? ∧ w1.cell? ⟨gr, 0, none⟩ = some (.pointer (some ⟨e, 0, none⟩)) ∧
      ∀ k, Calls Try.prog 62 #[.pointer (some ⟨e, 0, none⟩), .int .i64 N] (w1.drewN k) fun e2 w2 => e2 = .returned (.tuple #[]) ∧ Q w2)
    (hW : kp ≠ 0 → kp ≠ 4 → ∀ k, Calls Try.prog 17 #[.pointer (some ⟨gl, 0, none⟩), .int .u64 cp, .slice A m c, .bool en, .bool sy] (w.drewN k) fun e1 w1 => ∃ (A1 : Option Addr) (n1 c1 : Nat) (E : Int), e1 = .returned (.tuple #[.slice A1 n1 c1, .int .i64 E]) ∧ w1.heap[w0.heap.size]? = w.heap[w0.heap.size]? ∧
      ∀ k, Calls Try.prog 63 #[.pointer (some ⟨gr, 0, none⟩), .int .u64 cp, .slice A m c, .bool en, .bool sy] (w1.drewN k) fun e2 w2 => ∃ (A2 : Option Addr) (c2 : Nat), e2 = .returned (.tuple #[.slice A2 n1 c2, .int .i64 E]) ∧
        Calls Try.prog 25 #[.slice A1 n1 c1, .slice A2 n1 c2] w2 fun e3 w3 => e3 = .returned (.bool true) ∧ Q w3) :
    Calls Try.prog 30 #[.pointer (some ⟨gl, 0, none⟩), .pointer (some ⟨gr, 0, none⟩), .pointer (some ⟨d, 0, none⟩), .agg #[.int .i64 kind, .int .i64 N, .int .u64 cp, .slice A n c, .bool en, .bool sy]] w0 fun e W' => e = .returned (.bool true) ∧ Q W' := by
  have hx : w.heap[w0.heap.size]? = some (.cells #[.int .i64 kind, .int .i64 N, .int .u64 cp, .slice A n c, .bool en, .bool sy] 67 (0, 0)) := by rw [hw]; exact heap_alloc_new w0 _
  rw [hx] at h0 h4 hW
  have hcl : ∀ (V : World), V.heap[w0.heap.size]? = some (.cells #[.int .i64 kind, .int .i64 N, .int .u64 cp, .slice A n c, .bool en, .bool sy] 67 (0, 0)) → V.cell? ⟨w0.heap.size, 0, none⟩ = some (.int .i64 kind) ∧ V.cell? ⟨w0.heap.size, 1, none⟩ = some (.int .i64 N) ∧ V.cell? ⟨w0.heap.size, 2, none⟩ = some (.int .u64 cp) ∧ V.cell? ⟨w0.heap.size, 3, none⟩ = some (.slice A n c) ∧ V.cell? ⟨w0.heap.size, 4, none⟩ = some (.bool en) ∧ V.cell? ⟨w0.heap.size, 5, none⟩ = some (.bool sy) := fun V h =>
    ⟨blk_cell h 0, blk_cell h 1, blk_cell h 2, blk_cell h 3, blk_cell h 4, blk_cell h 5⟩
  obtain ⟨b0, b1, b2, b3, b4, b5⟩ := hcl w hx
  have HX := Lib.hid hx
  have HCL := Lib.hid hcl
  have HP := Lib.hid hP
  have HC := Lib.hid hC
  have H0 := Lib.hid h0
  have H4 := Lib.hid h4
  have HW := Lib.hid hW
  have HWW := Lib.hid hw
  clear hx hcl hP hC h0 h4 hW hw
  by_cases hk0 : kp = 0
  · have hc := H0.out hk0
    have HCC := Lib.hid hc
    have t1 : ((kp : Int) == 0) = true := by simp; omega
    subst hk0
    clear hc
    go_enter Try.func30, Try.ntmps30
    go_wp2_with fail
    rw [← HWW.out]
    go_wp2_with fail
    refine (HP.out _).mono ?_
    rintro e w1 ⟨rfl, rfl⟩
    go_wp2_with fail
    refine wp_rows_drew (fun V => V.cell? ⟨w0.heap.size, 1, none⟩ = some (.int .i64 N)) [0, 1, 2, 4, 5, 6] [] [3] [7, 8, 9] (by kernel_rfl) (by kernel_rfl) (fun _ _ _ _ e h => ⟨e ▸ h.1, h.2⟩) (fun k => b1) ?_
    iterate 6
      refine heldQ_step rfl (yieldsIf_of rfl (fun V hV => by go_simp; first | done | rfl)) (fun K' hK' => ?_)
      go_simp
      refine hK' _ ?_
      clear hK' K'
    simp only [heldQ, opsAt, List.filterMap_cons, List.filterMap_nil, List.getElem?_toArray, List.getElem?_cons_succ, List.getElem?_cons_zero]
    refine wpQuiet_nil ?_
    intro nq
    refine wpListS_step rfl (fun K' hK' => ?_)
    go_simp
    refine (HCC.out nq).mono ?_
    rintro e w7 ⟨r, rfl, hx7, hs7⟩
    go_simp
    refine hK' _ _ (HCL.out _ hx7).2.1 ?_
    clear hK' K'
    have HS7 := Lib.hid hs7
    clear hs7 hx7
    simp only [wpListS]
    show wpList _ _ _ (_ :: _ :: _ :: []) _ _
    go_wp2_with fail
    refine HS7.out.mono ?_
    rintro e w8 ⟨rfl, hq8⟩
    have HQ8 := Lib.hid hq8
    clear hq8
    go_wp2_with fail
    go_ret
    exact ⟨rfl, HQ8.out⟩
  by_cases hk4 : kp = 4
  · have hc := H4.out hk4
    have HCC := Lib.hid hc
    subst hk4
    clear hc hk0
    go_enter Try.func30, Try.ntmps30
    go_wp2_with fail
    rw [← HWW.out]
    go_wp2_with fail
    refine (HP.out _).mono ?_
    rintro e w1 ⟨rfl, rfl⟩
    go_wp2_with fail
    refine HCC.out.mono ?_
    rintro e w7 ⟨rfl, hx7, hgr, hs7⟩
    obtain ⟨_, c1, _⟩ := HCL.out _ hx7
    have HS7 := Lib.hid hs7
    clear hs7 hx7 b0 b1 b2 b3 b4 b5
    go_wp2_with fail
    refine wp_row_drew 6 [] [6] (by kernel_rfl) (by kernel_rfl) (fun _ _ _ _ e h => ⟨e ▸ h.1, h.2⟩) ?_
    simp only [floatQ, opsAt, List.filterMap_cons, List.filterMap_nil, List.getElem?_toArray, List.getElem?_cons_succ, List.getElem?_cons_zero, List.take_succ_cons, List.take_zero]
    repeat (show wpQuiet _ _ _ _ (_ :: _) _; go_big_quiet_step (fail))
    refine wpQuiet_nil ?_
    intro nq2
    show wpList _ _ _ (_ :: []) _ _
    go_wp2_with fail
    refine (HS7.out nq2).mono ?_
    rintro e w8 ⟨rfl, hq8⟩
    have HQ8 := Lib.hid hq8
    clear hq8 c1 hgr
    go_wp2_with fail
    go_ret
    exact ⟨rfl, HQ8.out⟩
  have hc := HW.out hk0 hk4
  have HCC := Lib.hid hc
  have t0 : ((kp : Int) == 0) = false := by simp; omega
  have t4 : ((kp : Int) == 4) = false := by simp; omega
  clear hc hk0 hk4
  go_enter Try.func30, Try.ntmps30
  go_wp2_with fail
  rw [← HWW.out]
  go_wp2_with fail
  refine (HP.out _).mono ?_
  rintro e w1 ⟨rfl, rfl⟩
  go_wp2_with fail
  refine wp_callrow (fun V => V.cell? ⟨w0.heap.size, 2, none⟩ = some (.int .u64 cp) ∧ V.cell? ⟨w0.heap.size, 3, none⟩ = some (.slice A n c) ∧ V.cell? ⟨w0.heap.size, 4, none⟩ = some (.bool en) ∧ V.cell? ⟨w0.heap.size, 5, none⟩ = some (.bool sy)) [0, 1, 2, 3, 4, 6, 7, 8, 9] [11, 12, 13] [14, 15] 10 5 #[true, true, true, true, true, false, true, true, true, true, false, false, false, false, false, false] #[true, true, true, true, true, true, true, true, true, true, false, false, false, false, false, false] #[true, true, true, true, true, true, true, true, true, true, true, false, false, false, false, false] #[true, true, true, true, true, true, true, true, true, true, true, true, true, true, false, false] (by kernel_rfl) (by kernel_rfl) (fun _ _ _ _ e h => ⟨e ▸ h.1, h.2⟩) ⟨b2, b3, b4, b5⟩ ?_
  iterate 9
    refine heldQ_step rfl (yieldsIf_of rfl (fun V hV => by obtain ⟨s1, s2, s3, s4⟩ := hV; go_simp; first | done | rfl)) (fun K' hK' => ?_)
    go_simp
    refine hK' _ ?_
    clear hK' K'
  refine heldQ_nil ?_
  refine wpAt_step rfl rfl (fun K' hK' => ?_)
  go_simp
  refine (HC.out _).mono ?_
  rintro e wc ⟨rfl, rfl⟩
  refine hK' _ _ ⟨⟨b2, b3, b4, b5⟩, ?_⟩
  clear hK' K'
  refine wpAt_step rfl rfl (fun K' hK' => ?_)
  go_simp
  refine (HCC.out 1).mono ?_
  rintro e w7 ⟨A1, n1, c1, E, rfl, hx7, hs7⟩
  refine hK' _ _ ?_
  clear hK' K'
  iterate 3
    refine heldQ_step rfl (yieldsIf_of rfl (fun V hV => by go_simp; first | done | rfl)) (fun K' hK' => ?_)
    go_simp
    refine hK' _ ?_
    clear hK' K'
  simp only [heldQ, opsAt, List.filterMap_cons, List.filterMap_nil, List.getElem?_toArray, List.getElem?_cons_succ, List.getElem?_cons_zero]
  have HS7 := Lib.hid hs7
  clear b0 b1 b2 b3 b4 b5
  obtain ⟨b0, b1, b2, b3, b4, b5⟩ := HCL.out _ hx7
  show wpList _ _ _ (_ :: _ :: []) _ _
  clear hs7 hx7
  go_wp2_with fail
  refine wp_callrow (fun V => V.cell? ⟨w0.heap.size, 2, none⟩ = some (.int .u64 cp) ∧ V.cell? ⟨w0.heap.size, 3, none⟩ = some (.slice A n c) ∧ V.cell? ⟨w0.heap.size, 4, none⟩ = some (.bool en) ∧ V.cell? ⟨w0.heap.size, 5, none⟩ = some (.bool sy)) [0, 1, 2, 3, 4, 6, 7, 8, 9] [11, 12, 13] [14, 15] 10 5 #[true, true, true, true, true, false, true, true, true, true, false, false, false, false, false, false] #[true, true, true, true, true, true, true, true, true, true, false, false, false, false, false, false] #[true, true, true, true, true, true, true, true, true, true, true, false, false, false, false, false] #[true, true, true, true, true, true, true, true, true, true, true, true, true, true, false, false] (by kernel_rfl) (by kernel_rfl) (fun _ _ _ _ e h => ⟨e ▸ h.1, h.2⟩) ⟨b2, b3, b4, b5⟩ ?_
  iterate 9
    refine heldQ_step rfl (yieldsIf_of rfl (fun V hV => by obtain ⟨s1, s2, s3, s4⟩ := hV; go_simp; first | done | rfl)) (fun K' hK' => ?_)
    go_simp
    refine hK' _ ?_
    clear hK' K'
  refine heldQ_nil ?_
  refine wpAt_step rfl rfl (fun K' hK' => ?_)
  go_simp
  refine (HC.out _).mono ?_
  rintro e wc ⟨rfl, rfl⟩
  refine hK' _ _ ⟨⟨b2, b3, b4, b5⟩, ?_⟩
  clear hK' K'
  refine wpAt_step rfl rfl (fun K' hK' => ?_)
  go_simp
  refine (HS7.out 1).mono ?_
  rintro e w8 ⟨A2, c2, rfl, hs8⟩
  refine hK' _ _ ?_
  clear hK' K'
  iterate 3
    refine heldQ_step rfl (yieldsIf_of rfl (fun V hV => by go_simp; first | done | rfl)) (fun K' hK' => ?_)
    go_simp
    refine hK' _ ?_
    clear hK' K'
  simp only [heldQ, opsAt, List.filterMap_cons, List.filterMap_nil, List.getElem?_toArray, List.getElem?_cons_succ, List.getElem?_cons_zero]
  have HS8 := Lib.hid hs8
  clear hs8 b0 b1 b2 b3 b4 b5
  show wpList _ _ _ (_ :: _ :: []) _ _
  go_wp2_with fail
  refine HS8.out.mono ?_
  rintro e w9 ⟨rfl, hq9⟩
  have HQ9 := Lib.hid hq9
  clear hq9
  go_wp2_with fail
  go_ret
  exact ⟨rfl, HQ9.out⟩
end Go.Proofs.Ytjmfeoenbncibaa
namespace Go.Nau
open Go.RowKit
section
variable {P : Program} {ops : Array Oper} {S : World → Prop} {Q : Exit → Act → World → Prop} {md : Region.Mode}

/-- Operations one behind the other, each of which keeps S. -/
def rowS (P : Program) (ops : Array Oper) (Q : Exit → Act → World → Prop) (S : World → Prop) (K : Act → World → Prop) : List Nat → Act → World → Prop
  | [], a, w => K a w
  | k :: ks, a, w => wpOp P ops Q k (fun a' w' => S w' ∧ rowS P ops Q S K ks a' w') a w
def rowR (md : Region.Mode) (ops : Array Oper) : List Nat → Array Bool → Bool
  | [], _ => true
  | k :: ks, listed => decide (Region.ready md ops listed = [k]) && rowR md ops ks (listed.setIfInBounds k true)
theorem wpAnyE_rowS {K : Act → World → Prop} {f : Nat} {Lf : Array Bool} (hK : ∀ a w, S w → K a w → wpAnyE P md ops Q S [] f Lf a w) : ∀ (js : List Nat) (listed : Array Bool) (a : Act) (w : World),
    rowR md ops js listed = true → setAll listed js = Lf → S w → rowS P ops Q S K js a w → wpAnyE P md ops Q S [] (js.length + f) listed a w
  | [], listed, a, w, _, he, hS, h => by
    rw [List.length_nil, Nat.zero_add]
    have e : listed = Lf := he
    rw [e]
    exact hK a w hS h
  | k :: ks, listed, a, w, hB, he, hS, h => by
    simp only [rowR, Bool.and_eq_true, decide_eq_true_eq] at hB
    rw [show (k :: ks).length + f = (ks.length + f) + 1 by simp only [List.length_cons]; omega]
    refine ⟨fun e => (by rw [hB.1] at e; cases e), fun i hi => ?_⟩
    rw [hB.1] at hi
    obtain rfl := List.mem_singleton.1 hi
    refine ⟨fun e => (by simp at e), fun _ => ?_⟩
    exact wpOp_mono (fun a' w' h' => ⟨h'.1, wpAnyE_rowS hK ks _ a' w' hB.2 he h'.1 h'.2⟩) h

def stQ (P : Program) (ops : Array Oper) (Q : Exit → Act → World → Prop) (S : World → Prop) : List (List Nat × List Nat) → Act → World → Prop
  | [], a, w => Q .normal a w
  | (ts, js) :: r, a, w => heldQ P ops S (fun a' => rowS P ops Q S (fun a'' w'' => stQ P ops Q S r a'' w'') js a' w) ts a
def stB (md : Region.Mode) (ops : Array Oper) : List (List Nat × List Nat) → Array Bool → Bool
  | [], listed => decide (Region.ready md ops listed = [])
  | (ts, js) :: r, listed => closedB md ops listed && floatB md ops ts listed && rowR md ops js (setAll listed ts) && stB md ops r (setAll (setAll listed ts) js)
def stN : List (List Nat × List Nat) → Nat
  | [] => 0
  | (ts, js) :: r => ts.length + (js.length + stN r)
theorem wpAnyE_stages (hsel : Region.noSelect ops = true) (hQ : ∀ c (a a' : Act) w, a.defers = a'.defers → Q (.panic c) a w → Q (.panic c) a' w) : ∀ (sts : List (List Nat × List Nat)) (listed : Array Bool) (a : Act) (w : World),
    stB md ops sts listed = true → S w → stQ P ops Q S sts a w → wpAnyE P md ops Q S [] (stN sts) listed a w
  | [], listed, a, w, hB, _, h => ⟨by simpa [stB] using hB, h⟩
  | (ts, js) :: r, listed, a, w, hB, hS, h => by
    simp only [stB, Bool.and_eq_true] at hB
    obtain ⟨⟨⟨h1, h2⟩, h3⟩, h4⟩ := hB
    exact wpAnyE_of_held (d := 0) (f := js.length + stN r) (Lf := setAll listed ts) hsel hQ hS (fun a' hk => wpAnyE_rowS (fun a'' w'' hs hk' => wpAnyE_stages hsel hQ r _ a'' w'' h4 hs hk') js _ a' w h3 rfl hS hk) ts listed a rfl h2 (by simp) (closed_of_B h1) h

/-- **In stages.** -/
theorem wp_stages {id : Nat} {a : Act} {w : World} {l : List Oper} (S : World → Prop) (sts : List (List Nat × List Nat)) (hm : P.follows .mixedOrders = true) (hB : (Region.noSelect l.toArray && decide (stN sts = l.toArray.size) && stB .any l.toArray sts (Array.replicate l.toArray.size false)) = true)
    (hQ : ∀ c (a a' : Act) w, a.defers = a'.defers → Q (.panic c) a w → Q (.panic c) a' w) (hS : S (w.drewN 1)) (h : stQ P l.toArray Q S sts a (w.drewN 1)) : (Code.region id l.toArray true).wp P Q a w := by
  simp only [Bool.and_eq_true, decide_eq_true_eq] at hB
  obtain ⟨⟨h1, h2⟩, h3⟩ := hB
  refine wp_region_any hm (wpAny_of_E (S := S) (E := []) _ _ _ _ ?_)
  have H := wpAnyE_stages h1 hQ sts (Array.replicate l.toArray.size false) a (w.drewN 1) h3 hS h
  rw [h2] at H
  exact H
theorem stQ_cons {ts js : List Nat} {r : List (List Nat × List Nat)} {a : Act} {w : World} (h : heldQ P ops S (fun a' => rowS P ops Q S (fun a'' w'' => stQ P ops Q S r a'' w'') js a' w) ts a) : stQ P ops Q S ((ts, js) :: r) a w := h
theorem stQ_nil {a : Act} {w : World} (h : Q .normal a w) : stQ P ops Q S [] a w := h
theorem rowS_nil {K : Act → World → Prop} {a : Act} {w : World} (h : K a w) : rowS P ops Q S K [] a w := h
theorem rowS_step {K : Act → World → Prop} {k : Nat} {ks : List Nat} {o : Oper} {a : Act} {w : World} (ho : ops[k]? = some o) (hw : Region.wanted o (yielded ops a.tmps) = true)
    (h : ∀ K' : Act → World → Prop, (∀ a' w', S w' → rowS P ops Q S K ks a' w' → K' a' w') → Oper.wp P o a w K' Q) : rowS P ops Q S K (k :: ks) a w := by
  show wpOp P ops Q k _ a w
  unfold wpOp
  simp only [ho]
  rw [if_pos hw]
  exact .inl (h _ (fun a' w' h1 h2 => ⟨h1, h2⟩))
theorem heldQ_end {K : Act → Prop} {a : Act} (h : K a) : heldQ P ops S K [] a := h
end
end Go.Nau

/- Texts of this proof, joined: Lr Ls. They hold under no condition beyond what each theorem states. -/
import Derived.Test.YtjmfeoenbncibaaM30
import Derived.Test.YtjmfeoenbncibaaM28
namespace Go.Proofs.Ytjmfeoenbncibaa
open Go.RowKit Go.Nau Go.Shelf
attribute [local go_sem] Oper.semAt_some

def LwPost (w : World) (F : Nat → Prop) (g d : Nat) (r : WrRes) (e : Ending) (w' : World) : Prop :=
  ∃ (A : Option Addr) (c : Nat), e = .returned (.tuple #[.slice A r.at_.length c, .int .i64 r.e]) ∧ r.at_.length ≤ c ∧ Rd (fun k => w.heap.size ≤ k ∧ k < w'.heap.size) w' 1 A r.at_.length (r.at_.map fun (i : Nat) => Value.int .i64 (i : Int)) ∧ Lg w' g d r.l ∧
    (∃ F', Dsk w' F' d r.s ∧ (∀ k, F' k → F k ∨ (w.heap.size ≤ k ∧ k < w'.heap.size))) ∧ Fr (fun k => F k ∨ k = g) w w'

set_option maxRecDepth 100000 in
theorem lwrite_nil (cp : Int) (v : Value) (en sy : Bool) (w : World) : Calls Try.prog 17 #[.pointer none, .int .u64 cp, v, .bool en, .bool sy] w fun e w' => e = .returned (.tuple #[.slice none 0 0, .int .i64 1]) ∧ Below w.heap.size w w' := by
  go_enter Try.func17, Try.ntmps17
  go_wp2
  go_ret2
  exact ⟨rfl, (Below.refl _ _).alloc (Nat.le_refl _) _⟩

theorem wrapE_or (c : ByteArray) : wrapE c = 0 ∨ wrapE c = 70 := by unfold wrapE; split <;> simp
theorem wrapE_ok {c : ByteArray} : wrapE c = 0 ↔ c.size ≤ 508 := by
  unfold wrapE
  split
  · rename_i h; simp [h]
  · rename_i h; simp [h]
def encE' (r : Rec) : Int := if rightB r then 0 else 70
def encH (r : Rec) : ByteArray := if rightB r then encS r else ⟨#[]⟩
theorem encode_any' (r : Rec) (hwf : r.wf) (A : Option Addr) (c : Nat) (w : World) (hr : Rd (· < w.heap.size) w 4 A r.l.length (entC r.l)) :
    Calls Try.prog 47 #[recV r A c] w fun e w' => e = .returned (.tuple #[.string (encH r), .int .i64 (encE' r)]) ∧ Below w.heap.size w w' := by
  refine (encode_any r hwf A c w hr).mono ?_
  rintro e w' ⟨rfl, hb⟩
  refine ⟨?_, hb⟩
  unfold encH encE'
  split <;> rfl
theorem encE'_ok {r : Rec} : encE' r = 0 ↔ rightB r = true := by
  unfold encE'
  split
  · rename_i h; simp [h]
  · rename_i h; simp [h]
/-- What Flush, Write, Flush of first come to. -/
theorem first_any {g d b5 b19 : Nat} {s : DS} {p : Nat} {head : ByteArray} {F : Nat → Prop} {W1 V0 : World} {sq nx : Int} (hg : W1.heap[g]? = some (.cells #[.pointer (some ⟨d, 0, none⟩), .int .i64 (p : Int), .int .u64 sq, .int .i64 nx] 95 (0, 0))) (hgF : ¬ F g) (h5l : b5 < W1.heap.size) (h19l : b19 < W1.heap.size) (h5F : ¬ F b5) (h19F : ¬ F b19)
    (h5 : W1.heap[b5]? = some (.cells #[.pointer (some ⟨g, 0, none⟩)] 28 (0, 0))) (h19 : W1.heap[b19]? = some (.cells #[.string head] 9 (0, 0))) (hD : DPost W1 F d s V0) (hFl : ∀ k, F k → k < W1.heap.size) (hi : DInv s) (hops : s.ops ≤ 1000000) (hll : s.loose.length ≤ 1000000) (hh : head.size ≤ maxLen) :
    Calls Try.prog 49 #[.slice (some ⟨V0.heap.size, 0, none⟩) 3 3] (V0.alloc (.cells #[.func (.func 50) #[.pointer (some ⟨d, 0, none⟩)] #[], .func (.func 51) #[] #[.pointer (some ⟨b5, 0, none⟩), .pointer (some ⟨b19, 0, none⟩)], .func (.func 50) #[.pointer (some ⟨d, 0, none⟩)] #[]] 107))
      fun e w' => e = .returned (.int .i64 (fin3 s p head).1) ∧ DPost W1 F d (fin3 s p head).2 w' := by
  have hgl := (Array.getElem?_eq_some_iff.1 hg).1
  obtain ⟨V1, hV1⟩ : ∃ V1, V1 = V0.alloc (.cells #[.func (.func 50) #[.pointer (some ⟨d, 0, none⟩)] #[], .func (.func 51) #[] #[.pointer (some ⟨b5, 0, none⟩), .pointer (some ⟨b19, 0, none⟩)], .func (.func 50) #[.pointer (some ⟨d, 0, none⟩)] #[]] 107) := ⟨_, rfl⟩
  rw [← hV1]
  have hb : V1.heap[V0.heap.size]? = some (.cells #[.func (.func 50) #[.pointer (some ⟨d, 0, none⟩)] #[], .func (.func 51) #[] #[.pointer (some ⟨b5, 0, none⟩), .pointer (some ⟨b19, 0, none⟩)], .func (.func 50) #[.pointer (some ⟨d, 0, none⟩)] #[]] 107 (0, 0)) := by rw [hV1]; exact heap_alloc_new V0 _
  have f01 : Fr (fun _ => False) V0 V1 := by rw [hV1]; exact (Fr.refl _ V0).alloc _
  have hz1 : V1.heap.size = V0.heap.size + 1 := by rw [hV1]; simp
  have hD1 := hD.ext f01
  obtain ⟨F', k1, k2, k3⟩ := hD
  have hs0 := k3.size
  have hF'l : ∀ k, F' k → k < V0.heap.size := fun k hk => by
    rcases k2 k hk with h | h
    · have := hFl k h; omega
    · omega
  have hF'W : ∀ k, k < W1.heap.size → ¬ F k → ¬ F' k := fun k hk hn h => by
    rcases k2 k h with h | h
    · exact hn h
    · omega
  have kd : Dsk V1 F' d s := k1.kept f01 (fun _ _ => id)
  have fr1 : Fr F W1 V1 := k3.trans (f01.mono (fun _ h => h.elim))
  have trans : ∀ {s2 : DS} {W : World}, DPost V1 F' d s2 W → DPost W1 F d s2 W := fun h => DPost.trans (F1 := F') (fun k hk => (k2 k hk).imp id (fun h => ⟨h.1, by omega⟩)) fr1 h
  obtain ⟨a1, a2, a3, a4⟩ := fres_inv hi
  obtain ⟨b1, b2, b3, b4⟩ := wres_inv a1 (p : Int) head
  have e1 : (fres s).1 ≠ 0 → fin3 s p head = fres s := fun h => by unfold fin3; rw [if_neg h]
  have e2 : (fres s).1 = 0 → (wres (fres s).2 p head).1 ≠ 0 → fin3 s p head = wres (fres s).2 p head := fun h h' => by unfold fin3; rw [if_pos h, if_neg h']
  have e3 : (fres s).1 = 0 → (wres (fres s).2 p head).1 = 0 → fin3 s p head = fres (wres (fres s).2 p head).2 := fun h h' => by unfold fin3; rw [if_pos h, if_pos h']
  refine (first_core V0.heap.size g d b5 b19 V1 (fun q V => (q = 0 ∧ DPost V1 F' d s V) ∨ (q = 1 ∧ (fres s).1 = 0 ∧ DPost V1 F' d (fres s).2 V) ∨ (q = 2 ∧ (fres s).1 = 0 ∧ (wres (fres s).2 p head).1 = 0 ∧ DPost V1 F' d (wres (fres s).2 p head).2 V) ∨ (q = 3 ∧ (fin3 s p head).1 = 0 ∧ DPost V1 F' d (fin3 s p head).2 V))
    (fun ec V => ec = (fin3 s p head).1 ∧ DPost V1 F' d (fin3 s p head).2 V) (.inl ⟨rfl, DPost.start kd⟩) ?_ ?_ ?_ ?_ ?_).mono ?_
  · intro q V hst
    have hfr : Fr F' V1 V := by
      rcases hst with ⟨_, h⟩ | ⟨_, _, h⟩ | ⟨_, _, _, h⟩ | ⟨_, _, h⟩ <;> exact h.frame
    have hbV := hfr.get (fun h => by have := hF'l _ h; omega) hb
    exact ⟨blk_cell hbV 0, blk_cell hbV 1, blk_cell hbV 2⟩
  · intro V hst
    rcases hst with ⟨_, h⟩ | ⟨h, _⟩ | ⟨h, _⟩ | ⟨h, _⟩
    · obtain ⟨F2, m1, m2, m3⟩ := h
      refine (flush_any m1 (by omega)).mono ?_
      rintro e w' ⟨rfl, hd'⟩
      have hd2 : DPost V1 F' d (fres s).2 w' := DPost.trans m2 m3 hd'
      refine ⟨_, rfl, ?_⟩
      by_cases hz : (fres s).1 = 0
      · exact .inl ⟨hz, .inr (.inl ⟨rfl, hz, hd2⟩)⟩
      · exact .inr ⟨hz, by rw [e1 hz], by rw [e1 hz]; exact hd2⟩
    · omega
    · omega
    · omega
  · intro V hst
    rcases hst with ⟨h, _⟩ | ⟨_, hz, h⟩ | ⟨h, _⟩ | ⟨h, _⟩
    · omega
    · have hfr := h.frame
      have x5 := hfr.get (hF'W _ h5l h5F) (fr1.get h5F h5)
      have x19 := hfr.get (hF'W _ h19l h19F) (fr1.get h19F h19)
      have xg := hfr.get (hF'W _ hgl hgF) (fr1.get hgF hg)
      refine wclo_any g d b5 b19 p head V _ (blk_cell x5 0) (blk_cell x19 0) (blk_cell xg 0) (blk_cell xg 1) (fun k => ?_)
      obtain ⟨F2, m1, m2, m3⟩ := h.ext (Fr.drewN _ V k)
      refine (write_any m1 (p : Int) head hh (by omega) (by omega)).mono ?_
      rintro e w' ⟨rfl, hd'⟩
      have hd2 : DPost V1 F' d (wres (fres s).2 p head).2 w' := DPost.trans m2 m3 hd'
      refine ⟨_, rfl, ?_⟩
      by_cases hz2 : (wres (fres s).2 p head).1 = 0
      · exact .inl ⟨hz2, .inr (.inr (.inl ⟨rfl, hz, hz2, hd2⟩))⟩
      · exact .inr ⟨hz2, by rw [e2 hz hz2], by rw [e2 hz hz2]; exact hd2⟩
    · omega
    · omega
  · intro V hst
    rcases hst with ⟨h, _⟩ | ⟨h, _⟩ | ⟨_, hz, hz2, h⟩ | ⟨h, _⟩
    · omega
    · omega
    · obtain ⟨F2, m1, m2, m3⟩ := h
      refine (flush_any m1 (by omega)).mono ?_
      rintro e w' ⟨rfl, hd'⟩
      have hd2 : DPost V1 F' d (fres (wres (fres s).2 p head).2).2 w' := DPost.trans m2 m3 hd'
      refine ⟨_, rfl, ?_⟩
      rw [← e3 hz hz2] at hd2 ⊢
      by_cases hz3 : (fin3 s p head).1 = 0
      · exact .inl ⟨hz3, .inr (.inr (.inr ⟨rfl, hz3, hd2⟩))⟩
      · exact .inr ⟨hz3, rfl, hd2⟩
    · omega
  · intro V hst
    rcases hst with ⟨h, _⟩ | ⟨h, _⟩ | ⟨h, _⟩ | ⟨_, h1, h2⟩
    · omega
    · omega
    · omega
    · exact ⟨h1.symm, h2⟩
  · rintro e w' ⟨ec, rfl, rfl, h⟩
    exact ⟨rfl, trans h⟩

theorem getD_map {α : Type} (f : α → ByteArray) (l : List α) (q : Nat) (x : α) (h : l[q]? = some x) : (l.map f).getD q ⟨#[]⟩ = f x := by
  rw [List.getD, List.getElem?_map, h]
  rfl
theorem range_map_take (l : List ByteArray) (n : Nat) (h : l.length = n) : l.take n = l := List.take_of_length_le (by omega)

set_option maxHeartbeats 1000000 in
theorem lwrite_any {w : World} {F : Nat → Prop} {g d n c : Nat} {A : Option Addr} {s : DS} {l : LS} (hd : Dsk w F d s) (hF : ∀ k, F k → k < w.heap.size) (hgF : ¬ F g) (hg : Lg w g d l) (lo : LOk s.now.length l) (hi : DInv s) (hops : s.ops ≤ 500000) (hll : s.loose.length ≤ 500000)
    (its : List (Ent × ByteArray)) (hl : its.length = n) (hr : Rd (· < w.heap.size) w 5 A n (itC its)) (hn : n ≤ 1000000) (hwf : ∀ x ∈ its, x.1.wf) (hsz : ∀ x ∈ its, x.2.size ≤ maxLen) (cp : Nat) (hcp : cp < 18446744073709551616) (en sy : Bool) :
    Calls Try.prog 17 #[.pointer (some ⟨g, 0, none⟩), .int .u64 cp, .slice A n c, .bool en, .bool sy] w (LwPost w F g d (lwrite l s cp its en sy)) := by
  obtain ⟨r, hrr⟩ : ∃ r, r = lwrite l s cp its en sy := ⟨_, rfl⟩
  have h256 := lo.n256
  have hhi := lo.hi
  have hs1 := lo.seq1
  have hnx4 : l.next ≤ 255 := by
    rcases lo.next with h | h
    · omega
    · have := (segB_iff.1 h).2
      omega
  have hrw : (recOf l cp its en sy).wf := ⟨by show l.seq < _; omega, hcp, by show -9223372036854775808 ≤ (l.next : Int) ∧ (l.next : Int) ≤ _; omega, by show (its.map (·.1)).length ≤ maxLen; rw [List.length_map]; unfold maxLen; omega, fun x hx => by
    obtain ⟨y, hy, rfl⟩ := List.mem_map.1 hx
    exact hwf y hy⟩
  have hrl : (recOf l cp its en sy).l.length = n := by show (its.map (·.1)).length = n; rw [List.length_map]; exact hl
  have hcl : (its.map (·.2)).length = n := by rw [List.length_map]; exact hl
  have hnext : ∀ h : l.next ≠ 0, segB s.now.length l.next = true := fun h => by
    rcases lo.next with h' | h'
    · exact absurd h' h
    · exact h'
  have hwq : ∀ (q : Nat) x, its[q]? = some x → (its.map (·.2)).getD q ⟨#[]⟩ = x.2 := fun q x h => getD_map _ its q x h
  have hgq : ∀ q, q < n → ∃ x, its[q]? = some x := fun q hq => ⟨_, List.getElem?_eq_getElem (by rw [hl]; exact hq)⟩
  have hall : (∀ j, j < n → wrapE ((its.map (·.2)).getD j ⟨#[]⟩) = 0) ↔ its.all (fun x => decide (x.2.size ≤ 508)) = true := by
    rw [List.all_eq_true]
    constructor
    · intro h x hx
      obtain ⟨j, hj, e⟩ := List.mem_iff_getElem.1 hx
      have := h j (by omega)
      rw [hwq j x (by rw [List.getElem?_eq_getElem hj, e])] at this
      exact decide_eq_true (wrapE_ok.1 this)
    · intro h j hj
      obtain ⟨x, hx⟩ := hgq j hj
      rw [hwq j x hx]
      exact wrapE_ok.2 (of_decide_eq_true (h x (List.mem_of_getElem? hx)))
  have hwrB : wrB l cp its en sy = true ↔ n ≤ 15 - l.pos % 16 ∧ (∀ j, j < n → wrapE ((its.map (·.2)).getD j ⟨#[]⟩) = 0) ∧ encE' (recOf l cp its en sy) = 0 := by
    unfold wrB
    rw [Bool.and_eq_true, Bool.and_eq_true, decide_eq_true_eq, hl, hall, encE'_ok]
  have hwb : ∀ q, DInv (wBlocks s (l.pos + 1) ((its.map (·.2)).take q)).2 ∧ (wBlocks s (l.pos + 1) ((its.map (·.2)).take q)).2.now.length = s.now.length ∧ (wBlocks s (l.pos + 1) ((its.map (·.2)).take q)).2.ops ≤ s.ops + n ∧ (wBlocks s (l.pos + 1) ((its.map (·.2)).take q)).2.loose.length ≤ s.loose.length + n := fun q => by
    obtain ⟨a1, a2, a3, a4⟩ := wBlocks_inv ((its.map (·.2)).take q) s (l.pos + 1) hi
    have : ((its.map (·.2)).take q).length ≤ n := by rw [List.length_take]; omega
    exact ⟨a1, a2, by omega, by omega⟩
  have htn : (its.map (·.2)).take n = its.map (·.2) := range_map_take _ n hcl
  obtain ⟨m1, m2⟩ := goI_goN l n l.next (by omega)
  refine (write_core g d n c A l.pos l.seq cp l.next ((15 - l.pos % 16 : Nat) : Int) (encE' (recOf l cp its en sy)) en sy its (encH (recOf l cp its en sy)) (fun q => wrapO ((its.map (·.2)).getD q ⟨#[]⟩)) (fun q => wrapE ((its.map (·.2)).getD q ⟨#[]⟩))
    (fun q => wBlocks s (l.pos + 1) ((its.map (·.2)).take q)) (fin3 (wBlocks s (l.pos + 1) (its.map (·.2))).2 l.pos (encH (recOf l cp its en sy))) (goN l n l.next).pos (goN l n l.next).next F w
    (fun k code p' sq' nx' ds => r.at_ = (List.range k).map (fun i => l.pos + 1 + i) ∧ r.e = code ∧ (r.l.pos : Int) = p' ∧ (r.l.seq : Int) = sq' ∧ (r.l.next : Int) = nx' ∧ r.s = ds) hg hgF hF (by rw [List.take_zero, wBlocks_nil]; exact hd) (by rw [List.take_zero, wBlocks_nil]) hr hl (by omega) ⟨by omega, by omega⟩ ⟨by omega, by omega⟩
    ?_ ?_ ?_ ?_ ?_ ?_ ?_ ?_ ?_ ?_ ?_).mono ?_
  · intro W hW
    exact lroom_any ((hW.block g (Array.getElem?_eq_some_iff.1 hg).1).trans hg)
  · intro q x W hx
    show Calls _ _ _ W (fun e w' => e = .returned (.tuple #[.string (wrapO ((its.map (·.2)).getD q ⟨#[]⟩)), .int .i64 (wrapE ((its.map (·.2)).getD q ⟨#[]⟩))]) ∧ _)
    rw [hwq q x hx]
    exact wrap_any x.2 (hsz x (List.mem_of_getElem? hx)) W
  · intro A' c' W _ hrd
    have := encode_any' (recOf l cp its en sy) hrw A' c' W (by rw [hrl]; exact hrd)
    unfold recV at this
    rw [hrl] at this
    exact this
  · intro q W1 W hq hnr hwe hb hz hD
    obtain ⟨x, hx⟩ := hgq q hq
    have hw0 := hwe q hq
    have hx2 := hwq q x hx
    have hcq : (its.map (·.2))[q]? = some x.2 := by rw [List.getElem?_map, hx]; rfl
    obtain ⟨F2, k1, k2, k3⟩ := hD
    obtain ⟨a1, a2, a3, a4⟩ := hwb q
    try dsimp only at hw0 hz ⊢
    rw [hx2] at hw0 ⊢
    have hsz0 := wrapE_ok.1 hw0
    have hO : wrapO x.2 = wrapS x.2 := by unfold wrapO; rw [if_pos hsz0]
    rw [hO, wBlocks_snoc hcq hz]
    have := write_any k1 ((l.pos + 1 + q : Nat) : Int) (wrapS x.2) (by rw [wrapS_size hsz0]; unfold maxLen; omega) (by omega) (by omega)
    rw [show ((l.pos + 1 + q : Nat) : Int) = (l.pos : Int) + 1 + (q : Int) by omega] at this ⊢
    refine this.mono ?_
    rintro e w' ⟨rfl, hd'⟩
    exact ⟨rfl, DPost.trans k2 k3 hd'⟩
  · intro W1 V0 b5 b19 hnr hwe he hb h5l h19l h5F h19F h5 h19 hz hD
    have hgl := (Array.getElem?_eq_some_iff.1 hg).1
    have hgW : W1.heap[g]? = _ := (hb.block g hgl).trans hg
    try dsimp only at hz hD ⊢
    rw [htn] at hz hD
    obtain ⟨a1, a2, a3, a4⟩ := hwb n
    rw [htn] at a1 a2 a3 a4
    have hb1 := hb.size
    have hes : (encH (recOf l cp its en sy)).size ≤ maxLen := by
      have hrt := encE'_ok.1 he
      unfold encH
      rw [if_pos hrt, encS_size _ (by have := (rightB_num hrt).2.2.2.2.2.2; omega)]
      unfold maxLen
      omega
    exact first_any hgW hgF h5l h19l h5F h19F h5 h19 hD (fun k hk => by have := hF k hk; omega) a1 (by omega) (by omega) hes
  · intro W A' c' hnr he hgW
    have hrt := encE'_ok.1 he
    have := goes_any (w := W) (g := g) (d := d) (l := l) hgW (recOf l cp its en sy) A' c' (by omega) hs1 (by omega) (by show 0 ≤ (l.next : Int) ∧ (l.next : Int) ≤ 255; omega)
    unfold recV at this
    rw [hrl] at this
    refine this.mono ?_
    rintro e w' ⟨rfl, h1, h2⟩
    refine ⟨rfl, ?_, h2⟩
    have e5 : (recOf l cp its en sy).next.toNat = l.next := by show ((l.next : Int)).toNat = l.next; omega
    rw [e5] at h1
    unfold Lg lgC at h1
    rw [goN_seq] at h1
    exact h1
  · intro h
    have h0 : l.next = 0 := by omega
    rw [hrr]
    unfold lwrite
    rw [if_pos h0, List.take_zero, wBlocks_nil]
    exact ⟨rfl, rfl, rfl, rfl, rfl, rfl⟩
  · intro h hh
    have h0 : l.next ≠ 0 := by omega
    have hb : ¬ wrB l cp its en sy = true := by
      rw [hwrB]
      rintro ⟨q1, q2, q3⟩
      rcases hh with hh | ⟨q, hq, hh⟩ | ⟨_, hh⟩
      · omega
      · exact hh (q2 q hq)
      · exact hh q3
    rw [hrr]
    unfold lwrite
    rw [if_neg h0, if_neg hb, List.take_zero, wBlocks_nil]
    exact ⟨rfl, rfl, rfl, rfl, rfl, rfl⟩
  · intro h hnr hwe he q hq hz hnz
    have h0 : l.next ≠ 0 := by omega
    have hb : wrB l cp its en sy = true := hwrB.2 ⟨by omega, hwe, he⟩
    try dsimp only at hnz ⊢
    have hst := wBlocks_stop hnz
    have hpd : putD s l.pos (its.map (·.2)) (encS (recOf l cp its en sy)) = wBlocks s (l.pos + 1) ((its.map (·.2)).take (q + 1)) := by
      unfold putD
      rw [if_neg (by rw [hst]; exact hnz), hst]
    rw [hrr]
    unfold lwrite
    rw [if_neg h0, if_pos hb, hpd, if_neg hnz]
    exact ⟨rfl, rfl, rfl, rfl, rfl, rfl⟩
  · intro h hnr hwe he hz hnz
    have h0 : l.next ≠ 0 := by omega
    have hb : wrB l cp its en sy = true := hwrB.2 ⟨by omega, hwe, he⟩
    try dsimp only at hz hnz ⊢
    rw [htn] at hz
    have hH : encH (recOf l cp its en sy) = encS (recOf l cp its en sy) := by unfold encH; rw [if_pos (encE'_ok.1 he)]
    rw [hH] at hnz ⊢
    have hpd : putD s l.pos (its.map (·.2)) (encS (recOf l cp its en sy)) = fin3 (wBlocks s (l.pos + 1) (its.map (·.2))).2 l.pos (encS (recOf l cp its en sy)) := by
      unfold putD
      rw [if_pos hz]
    rw [hrr]
    unfold lwrite
    rw [if_neg h0, if_pos hb, hpd, if_neg hnz]
    exact ⟨rfl, rfl, rfl, rfl, rfl, rfl⟩
  · intro h hnr hwe he hz hnz
    have h0 : l.next ≠ 0 := by omega
    have hb : wrB l cp its en sy = true := hwrB.2 ⟨by omega, hwe, he⟩
    try dsimp only at hz hnz ⊢
    rw [htn] at hz
    have hH : encH (recOf l cp its en sy) = encS (recOf l cp its en sy) := by unfold encH; rw [if_pos (encE'_ok.1 he)]
    rw [hH] at hnz ⊢
    have hpd : putD s l.pos (its.map (·.2)) (encS (recOf l cp its en sy)) = fin3 (wBlocks s (l.pos + 1) (its.map (·.2))).2 l.pos (encS (recOf l cp its en sy)) := by
      unfold putD
      rw [if_pos hz]
    rw [hrr]
    unfold lwrite
    rw [if_neg h0, if_pos hb, hpd, if_pos hnz, hl]
    exact ⟨rfl, rfl, rfl, by dsimp only; rw [goN_seq]; omega, rfl, rfl⟩
  · rintro e w' ⟨k, code, p', sq', nx', ds, A', c', rfl, ⟨q1, q2, q3, q4, q5, q6⟩, hkc, hrd, hlg, hdk, hfr⟩
    rw [← hrr]
    have hk : r.at_.length = k := by rw [q1]; simp
    have hat : (r.at_.map fun (i : Nat) => Value.int .i64 (i : Int)) = atC l.pos k := by
      rw [q1, List.map_map]
      unfold atC
      refine List.map_congr_left (fun i _ => ?_)
      show Value.int .i64 ((l.pos + 1 + i : Nat) : Int) = _
      rw [show ((l.pos + 1 + i : Nat) : Int) = (l.pos : Int) + 1 + (i : Int) by omega]
    refine ⟨A', c', by rw [hk, q2], by rw [hk]; exact hkc, by rw [hk, hat]; exact hrd, ?_, by rw [q6]; exact hdk, hfr⟩
    unfold Lg lgC
    rw [q3, q4, q5]
    exact hlg
end Go.Proofs.Ytjmfeoenbncibaa
namespace Go.Proofs.Ytjmfeoenbncibaa
open Go.RowKit Go.Nau

theorem wres_ok {s : DS} {p : Int} {x : ByteArray} (h : (wres s p x).1 = 0) : offB s = false ∧ 0 ≤ p ∧ p < s.now.length ∧ x.size = 512 ∧ (wres s p x).2 = wrote s p.toNat x := by
  unfold wres at h ⊢
  split at h
  · cases h
  · rename_i h1
    split at h
    · cases h
    · rename_i h2
      split at h
      · cases h
      · rename_i h3
        rw [if_neg h1, if_neg h2, if_neg h3]
        exact ⟨by simpa using h1, by omega, by omega, by simpa using h3, rfl⟩
theorem fres_ok {s : DS} (h : (fres s).1 = 0) : offB s = false ∧ (fres s).2 = flushed s := by
  unfold fres at h ⊢
  split at h
  · cases h
  · rename_i h1
    rw [if_neg h1]
    exact ⟨by simpa using h1, rfl⟩
theorem blkAt_set {b : List ByteArray} {p q : Nat} {x : ByteArray} (hp : p < b.length) : blkAt (b.set p x) q = if q = p then x else blkAt b q := by
  unfold blkAt
  rw [List.getD, List.getD, List.getElem?_set]
  by_cases h : p = q
  · subst h
    simp [hp]
  · rw [if_neg h, if_neg (fun e => h e.symm)]
/-- Blocks of contents, from a place on. -/
def setsB : List ByteArray → Nat → List ByteArray → List ByteArray
  | b, _, [] => b
  | b, p, c :: cs => setsB (b.set p (wrapS c)) (p + 1) cs
theorem setsB_nil (b : List ByteArray) (p : Nat) : setsB b p [] = b := by unfold setsB; rfl
theorem setsB_cons (b : List ByteArray) (p : Nat) (c : ByteArray) (cs : List ByteArray) : setsB b p (c :: cs) = setsB (b.set p (wrapS c)) (p + 1) cs := by conv => lhs; unfold setsB
theorem setsB_length : ∀ (cs : List ByteArray) (b : List ByteArray) (p : Nat), (setsB b p cs).length = b.length
  | [], b, p => by rw [setsB_nil]
  | c :: cs, b, p => by rw [setsB_cons, setsB_length cs, List.length_set]
theorem setsB_out : ∀ (cs : List ByteArray) (b : List ByteArray) (p q : Nat), p + cs.length ≤ b.length → (q < p ∨ p + cs.length ≤ q) → blkAt (setsB b p cs) q = blkAt b q
  | [], b, p, q, _, _ => by rw [setsB_nil]
  | c :: cs, b, p, q, hl, h => by
    rw [List.length_cons] at hl h
    rw [setsB_cons, setsB_out cs _ _ _ (by rw [List.length_set]; omega) (by omega), blkAt_set (by omega), if_neg (by omega)]
theorem setsB_in : ∀ (cs : List ByteArray) (b : List ByteArray) (p i : Nat) (c : ByteArray), p + cs.length ≤ b.length → cs[i]? = some c → blkAt (setsB b p cs) (p + i) = wrapS c
  | [], b, p, i, c, _, h => by simp at h
  | c' :: cs, b, p, 0, c, hl, h => by
    simp at h
    subst h
    rw [List.length_cons] at hl
    rw [setsB_cons, setsB_out cs _ _ _ (by rw [List.length_set]; omega) (by omega), blkAt_set (by omega), if_pos (by omega)]
  | c' :: cs, b, p, i + 1, c, hl, h => by
    simp only [List.getElem?_cons_succ] at h
    rw [List.length_cons] at hl
    rw [setsB_cons, show p + (i + 1) = p + 1 + i by omega]
    exact setsB_in cs _ _ i c (by rw [List.length_set]; omega) h
theorem wBlocks_now : ∀ (cs : List ByteArray) (s : DS) (p : Nat), (wBlocks s p cs).1 = 0 → (wBlocks s p cs).2.now = setsB s.now p cs ∧ (cs ≠ [] → p + cs.length ≤ s.now.length)
  | [], s, p, _ => by rw [wBlocks_nil, setsB_nil]; exact ⟨rfl, fun h => absurd rfl h⟩
  | c :: cs, s, p, h => by
    rw [wBlocks_cons] at h ⊢
    by_cases h1 : (wres s p (wrapS c)).1 = 0
    · rw [if_pos h1] at h ⊢
      obtain ⟨a1, a2, a3, a4, a5⟩ := wres_ok h1
      obtain ⟨b1, b2⟩ := wBlocks_now cs _ _ h
      have e : (wres s p (wrapS c)).2.now = s.now.set p (wrapS c) := by rw [a5, Int.toNat_natCast]; rfl
      rw [b1, e, setsB_cons]
      refine ⟨rfl, fun _ => ?_⟩
      rw [e, List.length_set] at b2
      rw [List.length_cons]
      by_cases hc : cs = []
      · subst hc; simp; omega
      · have := b2 hc; omega
    · rw [if_neg h1] at h; exact absurd h h1
/-- What was written, in the end. -/
theorem putD_now {s : DS} {p : Nat} {cs : List ByteArray} {h : ByteArray} (hz : (putD s p cs h).1 = 0) :
    (putD s p cs h).2.now = (setsB s.now (p + 1) cs).set p h ∧ (putD s p cs h).2.safe = (putD s p cs h).2.now ∧ (putD s p cs h).2.loose = [] ∧ p < s.now.length ∧ (cs ≠ [] → p + 1 + cs.length ≤ s.now.length) := by
  unfold putD at hz ⊢
  by_cases h1 : (wBlocks s (p + 1) cs).1 = 0
  · rw [if_pos h1] at hz ⊢
    obtain ⟨a1, a2⟩ := wBlocks_now cs s (p + 1) h1
    generalize (wBlocks s (p + 1) cs).2 = t at *
    unfold fin3 at hz ⊢
    by_cases h2 : (fres t).1 = 0
    · rw [if_pos h2] at hz ⊢
      obtain ⟨_, e2⟩ := fres_ok h2
      rw [e2] at hz ⊢
      by_cases h3 : (wres (flushed t) p h).1 = 0
      · rw [if_pos h3] at hz ⊢
        obtain ⟨_, c2, c3, c4, c5⟩ := wres_ok h3
        obtain ⟨_, e4⟩ := fres_ok hz
        rw [e4, c5, Int.toNat_natCast]
        have e5 : (flushed t).now = setsB s.now (p + 1) cs := a1
        rw [e5, setsB_length] at c3
        refine ⟨?_, rfl, rfl, by omega, a2⟩
        show (flushed t).now.set p h = _
        rw [e5]
      · rw [if_neg h3] at hz; exact absurd hz h3
    · rw [if_neg h2] at hz; exact absurd hz h2
  · rw [if_neg h1] at hz; exact absurd hz h1

theorem wrap_okDec {c : ByteArray} (h : c.size ≤ 508) : okDec (wrapS c) = false := by
  cases h1 : okDec (wrapS c) with
  | false => rfl
  | true => exact (apart _ h1 (isWrap_wrap h)).elim

/-- Blocks read alike below a place. -/
def Alike (P : Nat) (b b' : List ByteArray) : Prop := b'.length = b.length ∧ ∀ p, p < P → blkAt b' p = blkAt b p
theorem there_alike {P : Nat} {b b' : List ByteArray} {l : LS} (h : Alike P b b') (ht : thereT b l = true) (hp : l.pos + (recAt b l.pos).l.length < P) : thereT b' l = true ∧ recAt b' l.pos = recAt b l.pos ∧ fndAt b' l = fndAt b l ∧ goF b' l = goF b l := by
  have e0 : blkAt b' l.pos = blkAt b l.pos := h.2 _ (by omega)
  have er : recAt b' l.pos = recAt b l.pos := by unfold recAt; rw [e0]
  have ec : ∀ i, i < (recAt b l.pos).l.length → blkAt b' (l.pos + 1 + i) = blkAt b (l.pos + 1 + i) := fun i hi => h.2 _ (by omega)
  have hc : contsTo b' l.pos (recAt b l.pos).l.length = contsTo b l.pos (recAt b l.pos).l.length := by
    unfold contsTo
    refine List.map_congr_left (fun i hi => ?_)
    rw [ec i (List.mem_range.1 hi)]
  refine ⟨?_, er, ?_, ?_⟩
  · obtain ⟨h0, h1, h2, h3, h4⟩ := headT_iff.1 (thereT_head ht)
    have h5 : contT b l = true := by unfold thereT at ht; rw [Bool.and_eq_true] at ht; exact ht.2
    unfold thereT
    rw [Bool.and_eq_true]
    refine ⟨headT_iff.2 ⟨h0, by rw [e0]; exact h1, by rw [er]; exact h2, by rw [er]; exact h3, by rw [er, h.1]; exact h4⟩, ?_⟩
    unfold contT at h5 ⊢
    rw [List.all_eq_true] at h5 ⊢
    rw [er]
    intro i hi
    rw [ec i (List.mem_range.1 hi)]
    exact h5 i hi
  · unfold fndAt
    rw [er, hc]
  · unfold goF
    rw [er]

/-- So many records stand there, from where a log began, ahead of where it stands now. -/
structure Chain (b : List ByteArray) (l0 : LS) (k : Nat) (l : LS) : Prop where
  there : ∀ j, j < k → thereT b (stL b l0 j) = true ∧ (stL b l0 j).pos + (recAt b (stL b l0 j).pos).l.length < l.pos
  pos : (stL b l0 k).pos = l.pos
  seq : (stL b l0 k).seq = l.seq
  nxt : l.next = 0 → (stL b l0 k).next = 0
  fwd : l.next ≠ 0 → l.pos / 16 < l.next
/-- Of all blocks' records the numbers lie below. -/
def SeqLt (n : Nat) (b : List ByteArray) : Prop := ∀ p, okDec (blkAt b p) = true → (recAt b p).seq < n

theorem chain_st {b b' : List ByteArray} {l0 l : LS} {k : Nat} (h : Chain b l0 k l) (ha : Alike l.pos b b') : ∀ j, j ≤ k → stL b' l0 j = stL b l0 j
  | 0, _ => rfl
  | j + 1, hj => by
    have ih := chain_st h ha j (by omega)
    obtain ⟨h1, h2⟩ := h.there j (by omega)
    show goF b' (stL b' l0 j) = goF b (stL b l0 j)
    rw [ih]
    exact (there_alike ha h1 h2).2.2.2
theorem chain_alike {b b' : List ByteArray} {l0 l : LS} {k : Nat} (h : Chain b l0 k l) (ha : Alike l.pos b b') : Chain b' l0 k l ∧ ∀ j, j < k → fndAt b' (stL b' l0 j) = fndAt b (stL b l0 j) := by
  have hs := chain_st h ha
  refine ⟨⟨fun j hj => ?_, by rw [hs k (Nat.le_refl _)]; exact h.pos, by rw [hs k (Nat.le_refl _)]; exact h.seq, fun e => by rw [hs k (Nat.le_refl _)]; exact h.nxt e, h.fwd⟩, fun j hj => ?_⟩
  · obtain ⟨h1, h2⟩ := h.there j hj
    obtain ⟨a1, a2, _, _⟩ := there_alike ha h1 h2
    rw [hs j (by omega), a2]
    exact ⟨a1, h2⟩
  · obtain ⟨h1, h2⟩ := h.there j hj
    rw [hs j (by omega)]
    exact (there_alike ha h1 h2).2.2.1
theorem chain_scan {b : List ByteArray} {l0 l : LS} {k : Nat} (h : Chain b l0 k l) (hs : SeqLt l.seq b) : ScanN b l0 k := by
  refine ⟨fun j hj => (h.there j hj).1, ?_⟩
  cases ht : thereT b (stL b l0 k) with
  | false => rfl
  | true =>
    obtain ⟨_, h1, h2, _⟩ := headT_iff.1 (thereT_head ht)
    have := hs _ h1
    rw [h2, h.seq] at this
    exact absurd this (Nat.lt_irrefl _)
/-- One more may be there, and no more. -/
theorem chain_scan1 {b : List ByteArray} {l0 l : LS} {k N : Nat} (h : Chain b l0 k l) (hs : SeqLt (l.seq + 1) b) (hN : ScanN b l0 N) : N = k ∨ N = k + 1 := by
  have hk : k ≤ N := by
    rcases Nat.lt_or_ge N k with h1 | h1
    · have := (h.there N h1).1
      rw [hN.2] at this
      cases this
    · exact h1
  rcases Nat.lt_or_ge (k + 1) N with h2 | h2
  · exfalso
    have ht := hN.1 (k + 1) h2
    obtain ⟨_, h3, h4, _⟩ := headT_iff.1 (thereT_head ht)
    have := hs _ h3
    rw [h4, stL_seq] at this
    have hk2 := h.seq
    rw [stL_seq] at hk2
    omega
  · omega
end Go.Proofs.Ytjmfeoenbncibaa

/- Texts of this proof, joined: Df Dg. They hold under no condition beyond what each theorem states. -/
import Derived.Test.YtjmfeoenbncibaaM05
import Derived.Test.YtjmfeoenbncibaaM01
import Derived.Lib.SlBytesRow
import Derived.Lib.BufferRead
namespace Go.Proofs.Ytjmfeoenbncibaa
open Go.RowKit Go.Nau Go.Shelf
attribute [local go_sem] Oper.semAt_some

theorem crash_nil (keep torn : Int) (w : World) : Calls Try.prog 36 #[.pointer none, .agg #[.int .u64 keep, .int .i64 torn]] w fun e w' => e = .returned (.pointer none) ∧ Below w.heap.size w w' := by
  go_enter Try.func36, Try.ntmps36
  go_wp2
  try go_step3
  go_wp2
  try rw [Exit.noGoto_ret]
  go_ret
  exact ⟨rfl, (Below.refl _ _).alloc (Nat.le_refl _) _⟩

def encL (m : Nat) (x : LW m) : Array Value := #[.agg #[.int .i64 (x.1.1.1 : Int), .string x.1.1.2], .int .i64 x.1.2]

/-- What the rounds of a caller's body keep: all but one block, and what is new. -/
def KeepB (bb B : Nat) (W W' : World) : Prop := Fr (fun k => k = bb ∨ B ≤ k) W W'

theorem left_stops (n : Nat) (hn : 1 ≤ n) (b1 b2 d m bb : Nat) (L : Value) (zs : List (LW m)) (keep torn : Int) (hz : zs.length ≤ 1073741824)
    (hst : ∀ (k : Nat) (z : LW m), zs[k]? = some z → z.1.2 = stays k keep torn) (w0 : World) (hR : Reads w0 b1 b2 d L (told m zs) keep torn) (hb1 : b1 ≠ bb) (hb2 : b2 ≠ bb) (hd : d ≠ bb) (hL : L.ownBlock ≠ some bb) :
    SeqStopsK Fence.wide n Try.prog 86 #[.pointer (some ⟨b1, 0, none⟩), .pointer (some ⟨b2, 0, none⟩)] (encL m) (KeepB bb w0.heap.size) (fun ys => ys = zs) (fun pre => pre <+: zs) zs.length w0 := by
  intro l J Jx W hW hJ hJx hY h0
  have l1 := cell_lt hR.box1
  have l2 := cell_lt hR.keep
  have l3 := cell_lt hR.loose
  have l4 := hR.own.lt
  dsimp only at l1 l2 l3
  have keepR : ∀ A B : World, w0.heap.size ≤ A.heap.size → KeepB bb w0.heap.size A B → Reads A b1 b2 d L (told m zs) keep torn → Reads B b1 b2 d L (told m zs) keep torn := by
    intro A B _ hK hA
    exact ⟨hK.cell (by simp; omega) hA.box1, hK.cell (by simp; omega) hA.keep, hK.cell (by simp; omega) hA.torn, hK.cell (by simp; omega) hA.loose,
      Fr.own hA.own hK (fun k hk e => by
        have := (l4 k hk).2
        rcases e with e | e
        · exact hL (by rw [hk, e])
        · omega)⟩
  have hRW : Reads W b1 b2 d L (told m zs) keep torn := by
    have hf : Fr (fun k => w0.heap.size ≤ k) w0 W := Fr.of_below hW
    exact ⟨hf.cell (by simp; omega) hR.box1, hf.cell (by simp; omega) hR.keep, hf.cell (by simp; omega) hR.torn, hf.cell (by simp; omega) hR.loose, Fr.own hR.own hf (fun k hk e => by have := (l4 k hk).2; omega)⟩
  refine left1_in Fence.wide n trivial rfl hn l b1 b2 d m L zs keep torn hz hst (fun A B => w0.heap.size ≤ A.heap.size ∧ KeepB bb w0.heap.size A B) (fun A B h hA => keepR A B h.1 h.2 hA)
    (fun pre A => J pre A ∧ w0.heap.size ≤ A.heap.size) (fun pre A => Jx pre A) (fun pre A o h => ⟨hJ _ _ _ none h.1 (World.grownBy_alloc _ _ _) (by simp), by simp; omega⟩) ?_ W hRW ⟨h0, hW.size⟩ |>.mono ?_
  · intro pre x W1 h1 hlt
    refine (hY pre x W1 h1.1 hlt).mono ?_
    rintro e W' (⟨he, h2, h3⟩ | ⟨he, h2⟩)
    · exact .inl ⟨he, ⟨h2, Nat.le_trans h1.2 h3.size⟩, h1.2, h3⟩
    · exact .inr ⟨he, h2⟩
  · rintro e W' ⟨hv, ⟨ys, h1, h2⟩ | ⟨pre, h1, h2⟩⟩
    · exact ⟨hv, .inl ⟨ys, h1, h2.1⟩⟩
    · exact ⟨hv, .inr ⟨pre, h1, h2⟩⟩

/-- What may be said of a disk that calls have made. -/
structure DOk (s : DS) : Prop where
  len : s.safe.length = s.now.length
  safe : ∀ x ∈ s.safe, x.size = 512
  now : ∀ x ∈ s.now, x.size = 512
  loose : ∀ x ∈ s.loose, x.1 < s.now.length ∧ x.2.size = 512

/-- Blocks, behind a write of which so much stays. -/
def torn1 (b : List ByteArray) (x : (Nat × ByteArray) × Int) : List ByteArray :=
  if x.2 = 0 then b else b.set x.1.1 (x.1.2.extract 0 x.2.toNat ++ (b.getD x.1.1 ⟨#[]⟩).extract x.2.toNat 512)

def fates (l : List (Nat × ByteArray)) (keep torn : Int) : List ((Nat × ByteArray) × Int) := l.zipIdx.map fun x => (x.1, stays x.2 keep torn)
def crashed (s : DS) (keep torn : Int) : List ByteArray := (fates s.loose keep torn).foldl torn1 s.safe

theorem fates_get (l : List (Nat × ByteArray)) (keep torn : Int) (k : Nat) (x : (Nat × ByteArray) × Int) (h : (fates l keep torn)[k]? = some x) : l[k]? = some x.1 ∧ x.2 = stays k keep torn := by
  unfold fates at h
  simp only [List.getElem?_map, List.getElem?_zipIdx, Option.map_map] at h
  cases hl : l[k]? with
  | none => simp [hl] at h
  | some y => simp [hl] at h; subst h; simp
theorem fates_fst (l : List (Nat × ByteArray)) (keep torn : Int) : (fates l keep torn).map (·.1) = l := by
  unfold fates
  rw [List.map_map]
  exact List.zipIdx_map_fst 0 l
theorem stays_or (k : Nat) (keep torn : Int) : stays k keep torn = 0 ∨ stays k keep torn = 256 ∨ stays k keep torn = 512 := by
  unfold stays
  split
  · exact .inr (.inl rfl)
  · split
    · exact .inr (.inr rfl)
    · exact .inl rfl
theorem fates_ok {n : Nat} (l : List (Nat × ByteArray)) (keep torn : Int) (h : ∀ x ∈ l, x.1 < n ∧ x.2.size = 512) : ∀ x ∈ fates l keep torn, x.1.1 < n ∧ x.1.2.size = 512 ∧ (x.2 = 0 ∨ x.2 = 256 ∨ x.2 = 512) := by
  intro x hx
  obtain ⟨k, hk⟩ := List.mem_iff_getElem?.1 hx
  obtain ⟨h1, h2⟩ := fates_get l keep torn k x hk
  have := h _ (List.mem_of_getElem? h1)
  refine ⟨this.1, this.2, ?_⟩
  rw [h2]
  exact stays_or ..
/-- The writes, as what the iterator tells. -/
def lws (n : Nat) (l : List (Nat × ByteArray)) (keep torn : Int) (h : ∀ x ∈ l, x.1 < n ∧ x.2.size = 512) : List (LW n) := (fates l keep torn).pmap Subtype.mk (fates_ok l keep torn h)
theorem lws_val (n : Nat) (l : List (Nat × ByteArray)) (keep torn : Int) (h : ∀ x ∈ l, x.1 < n ∧ x.2.size = 512) : (lws n l keep torn h).map (·.1) = fates l keep torn := by
  unfold lws
  rw [List.map_pmap]
  simp
theorem told_lws (n : Nat) (l : List (Nat × ByteArray)) (keep torn : Int) (h : ∀ x ∈ l, x.1 < n ∧ x.2.size = 512) : told n (lws n l keep torn h) = l := by
  unfold told
  have e : (fun x : LW n => x.1.1) = (fun y : (Nat × ByteArray) × Int => y.1) ∘ (fun x : LW n => x.1) := rfl
  rw [e, ← List.map_map, lws_val, fates_fst]
theorem lws_stays (n : Nat) (l : List (Nat × ByteArray)) (keep torn : Int) (h : ∀ x ∈ l, x.1 < n ∧ x.2.size = 512) (k : Nat) (z : LW n) (hz : (lws n l keep torn h)[k]? = some z) : z.1.2 = stays k keep torn := by
  have : (fates l keep torn)[k]? = some z.1 := by rw [← lws_val n l keep torn h, List.getElem?_map, hz]; rfl
  exact (fates_get _ _ _ _ _ this).2

/-- The blocks so far. -/
def sofar (n : Nat) (b : List ByteArray) (pre : List (LW n)) : List ByteArray := (pre.map (·.1)).foldl torn1 b
theorem sofar_snoc (n : Nat) (b : List ByteArray) (pre : List (LW n)) (x : LW n) : sofar n b (pre ++ [x]) = torn1 (sofar n b pre) x.1 := by simp [sofar]
theorem torn1_length (b : List ByteArray) (x : (Nat × ByteArray) × Int) : (torn1 b x).length = b.length := by
  unfold torn1
  split <;> simp
theorem sofar_length (n : Nat) (b : List ByteArray) (pre : List (LW n)) : (sofar n b pre).length = b.length := by
  unfold sofar
  generalize pre.map (·.1) = l
  induction l generalizing b with
  | nil => rfl
  | cons x l ih => rw [List.foldl_cons, ih, torn1_length]
theorem extract_size' (a : ByteArray) (i j : Nat) : (a.extract i j).size = min j a.size - i := by simp
theorem torn1_size (b : List ByteArray) (x : (Nat × ByteArray) × Int) (hb : ∀ y ∈ b, y.size = 512) (h1 : x.1.2.size = 512) (h0 : x.1.1 < b.length) (h2 : x.2 = 0 ∨ x.2 = 256 ∨ x.2 = 512) : ∀ y ∈ torn1 b x, y.size = 512 := by
  unfold torn1
  split
  · exact hb
  · intro y hy
    rcases List.mem_or_eq_of_mem_set hy with h | rfl
    · exact hb y h
    · have hg : (b.getD x.1.1 ⟨#[]⟩).size = 512 := by
        rw [List.getD, List.getElem?_eq_getElem h0]
        exact hb _ (List.getElem_mem h0)
      rw [ByteArray.size_append, extract_size', extract_size', h1, hg]
      rcases h2 with h | h | h
      · omega
      · rw [h]; decide
      · rw [h]; decide
theorem sofar_size (n : Nat) (b : List ByteArray) (hb : ∀ y ∈ b, y.size = 512) (hn : b.length = n) (pre : List (LW n)) : ∀ y ∈ sofar n b pre, y.size = 512 := by
  unfold sofar
  induction pre generalizing b with
  | nil => exact hb
  | cons x l ih =>
    rw [List.map_cons, List.foldl_cons]
    exact ih _ (torn1_size b x.1 hb x.2.2.1 (by rw [hn]; exact x.2.1) x.2.2.2) (by rw [torn1_length]; exact hn)

theorem Dsk.kept {w w' : World} {F S : Nat → Prop} {d : Nat} {s : DS} (h : Dsk w F d s) (hf : Fr S w w') (hs : ∀ k, F k → ¬ S k) : Dsk w' F d s := by
  obtain ⟨sb, sc, mb, mc, L, h1, h2, h3, h4, f1, f2, f3, f4, h5⟩ := h
  refine ⟨sb, sc, mb, mc, L, hf.get (hs _ f1) h1, Fr.own h2 hf (fun k hk => hs k ?_), Fr.own h3 hf (fun k hk => hs k ?_), Fr.own h4 hf (fun k hk => hs k (f4 k hk)), f1, f2, f3, f4, h5⟩
  · cases hk; exact f2
  · cases hk; exact f3

def CrashPost (w : World) (b : List ByteArray) (e : Ending) (w' : World) : Prop :=
  ∃ d', e = .returned (.pointer (some ⟨d', 0, none⟩)) ∧ Dsk w' (fun k => w.heap.size ≤ k ∧ k < w'.heap.size) d' ⟨b, b, [], 0, -1, false⟩ ∧ w.heap.size ≤ d' ∧ Below w.heap.size w w'

set_option maxRecDepth 100000 in
set_option maxHeartbeats 2000000 in
theorem crash_dsk {w : World} {F : Nat → Prop} {d : Nat} {s : DS} (h : Dsk w F d s) (ok : DOk s) (hn : s.now.length ≤ 8192) (hl : s.loose.length ≤ 1073741824) (keep torn : Int) :
    Calls Try.prog 36 #[.pointer (some ⟨d, 0, none⟩), .agg #[.int .u64 keep, .int .i64 torn]] w (CrashPost w (crashed s keep torn)) := by
  obtain ⟨sb, sc, mb, mc, L, hd, o1, o2, o3, f0, f1, f2, f3, h4⟩ := h
  have hlt := (Array.getElem?_eq_some_iff.1 hd).1
  have c0 : ∀ o, (w.alloc o).cell? ⟨d, 0, none⟩ = some (.slice (some ⟨sb, 0, none⟩) s.now.length sc) := fun o => (Fr.alloc (Fr.refl (fun _ => False) w) o).cell id (by have := blk_cell hd 0; simpa using this)
  have hcl := fun W hW => Try.slices_Clone_string sb 0 s.now.length sc s.safe W (by rw [ok.len]; exact Nat.le_refl _) (by omega) hW
  rw [← ok.len, List.take_length] at hcl
  have hw1 : ∀ o, ∀ j, j < s.safe.length → (w.alloc o).cell? ⟨sb, 0 + j, none⟩ = some (.string (s.safe.getD j ByteArray.empty)) := by
    intro o j hj
    refine (Fr.alloc (Fr.refl (fun _ => False) w) o).cell id ?_
    have := (own_at o1 (strs_at (List.getElem?_eq_getElem hj))).1
    rw [Nat.zero_add, this]
    simp [List.getD, List.getElem?_eq_getElem hj]
  have hclone := hcl _ (hw1 (.cells #[.int .u64 keep, .int .i64 torn] 73))
  rw [ok.len] at hclone
  have HC := Lib.hid hclone
  clear hcl hw1 hclone
  refine (callsIn_wide (n := 7)).1 (callsIn_of_wp_marks Try.func36 rfl trivial ?_ rfl)
  simp only [Try.ntmps36, List.size_toArray, List.length_nil, List.length_cons, Nat.reduceSub, Nat.reduceAdd, Array.replicate_succ, Array.replicate_zero, List.push_toArray, List.append_toArray, List.nil_append, List.cons_append]
  refine wpIn_wide.2 ?_
  go_wp2_with fail
  go_step3
  go_wp2_with fail
  refine HC.out.mono ?_
  rintro e w2 ⟨v, rfl, hown, _, hb2⟩
  obtain ⟨bb, bc, cur, rfl, hbb, _⟩ := own_form hown h4.2
  have hbl := (hown.lt bb rfl).2
  have hnew := heap_alloc_new w (.cells #[.int .u64 keep, .int .i64 torn] 73)
  have hbox := (hb2.block w.heap.size (by simp)).trans hnew
  have kf0 : ∀ o, (w2.alloc o).cell? ⟨w.heap.size, 0, none⟩ = some (.int .u64 keep) := fun o => (Fr.alloc (Fr.refl (fun _ => False) w2) o).cell id (by have := blk_cell hbox 0; simpa using this)
  have kf1 : ∀ o, (w2.alloc o).cell? ⟨w.heap.size, 1, none⟩ = some (.int .i64 torn) := fun o => (Fr.alloc (Fr.refl (fun _ => False) w2) o).cell id (by have := blk_cell hbox 1; simpa using this)
  go_wp2_with fail
  go_step3
  go_wp2_with fail
  refine ((callsIn_wide (n := 1)).1 (left_in Fence.wide 1 trivial rfl d keep torn _)).mono ?_
  rintro e w3 ⟨rfl, rfl⟩
  go_wp2_with fail
  have hsz2 := hb2.size
  simp only [World.size_alloc] at hsz2 hbb
  have hBw : Below w.heap.size w w2 := ((Below.refl _ w).alloc (Nat.le_refl _) _).trans (hb2.mono (by simp))
  have hfo : Fr (fun _ => False) w2 (((w2.alloc (.cells #[.slice (some ⟨bb, 0, none⟩) s.now.length bc] 43)).alloc (.cells #[.pointer (some ⟨d, 0, none⟩)] 24)).alloc (.cells #[.int .u64 keep, .int .i64 torn] 73)) :=
    (((Fr.refl _ w2).alloc _).alloc _).alloc _
  have hBW0 : Below w.heap.size w (((w2.alloc (.cells #[.slice (some ⟨bb, 0, none⟩) s.now.length bc] 43)).alloc (.cells #[.pointer (some ⟨d, 0, none⟩)] 24)).alloc (.cells #[.int .u64 keep, .int .i64 torn] 73)) :=
    ((hBw.alloc (by omega) _).alloc (by simp; omega) _).alloc (by simp; omega) _
  have bB := ((Boxed.new w2 43 (.slice (some ⟨bb, 0, none⟩) s.now.length bc)).alloc (.cells #[.pointer (some ⟨d, 0, none⟩)] 24)).alloc (.cells #[.int .u64 keep, .int .i64 torn] 73)
  have bD := (Boxed.new (w2.alloc (.cells #[.slice (some ⟨bb, 0, none⟩) s.now.length bc] 43)) 24 (.pointer (some ⟨d, 0, none⟩))).alloc (.cells #[.int .u64 keep, .int .i64 torn] 73)
  have bF := heap_alloc_new ((w2.alloc (.cells #[.slice (some ⟨bb, 0, none⟩) s.now.length bc] 43)).alloc (.cells #[.pointer (some ⟨d, 0, none⟩)] 24)) (.cells #[.int .u64 keep, .int .i64 torn] 73)
  have hsz : (((w2.alloc (.cells #[.slice (some ⟨bb, 0, none⟩) s.now.length bc] 43)).alloc (.cells #[.pointer (some ⟨d, 0, none⟩)] 24)).alloc (.cells #[.int .u64 keep, .int .i64 torn] 73)).heap.size = w2.heap.size + 3 := by simp
  simp only [World.size_alloc] at bD bF
  obtain ⟨W0, hW0⟩ : ∃ W0, ((w2.alloc (.cells #[.slice (some ⟨bb, 0, none⟩) s.now.length bc] 43)).alloc (.cells #[.pointer (some ⟨d, 0, none⟩)] 24)).alloc (.cells #[.int .u64 keep, .int .i64 torn] 73) = W0 := ⟨_, rfl⟩
  rw [hW0] at bB bD bF hsz hfo hBW0 ⊢
  clear hW0
  have oB : W0.ownsRow 0 9 1 (.slice (some ⟨bb, 0, none⟩) s.now.length bc) s.now.length (strs s.safe) := Fr.own (own_base hown (Nat.zero_le _)) hfo (fun _ _ => id)
  have hd0 : W0.heap[d]? = some (.cells (dcells s.now.length sb sc mb mc L s.ops s.cut s.gone) 101 (0, 0)) := (hBW0.block d hlt).trans hd
  have oL : W0.ownsRow 0 122 2 L s.loose.length (wcells s.loose) := Fr.own o3 (Fr.of_below hBW0) (fun k hk e => by have := (o3.lt k hk).2; omega)
  have hRd : Reads W0 (w2.heap.size + 1) (w2.heap.size + 1 + 1) d L (told s.now.length (lws s.now.length s.loose keep torn ok.loose)) keep torn := by
    rw [told_lws]
    refine ⟨bD.cell, ?_, ?_, ?_, oL⟩
    · have := blk_cell bF 0; simpa using this
    · have := blk_cell bF 1; simpa using this
    · have := blk_cell hd0 2; simpa [dcells] using this
  have hzl : (lws s.now.length s.loose keep torn ok.loose).length = s.loose.length := by simp [lws, fates]
  have hLbb : L.ownBlock ≠ some bb := fun e => by have := (o3.lt bb e).2; omega
  refine wpIn_wide.1 (wpIn_rangeFunc_ownH (n := 6) rfl (by omega) (gf := 86) (lb := #[.pointer (some ⟨w2.heap.size + 1, 0, none⟩), .pointer (some ⟨w2.heap.size + 1 + 1, 0, none⟩)]) rfl trivial (enters_of Try.func86 (by kernel_rfl) rfl)
    (left_stops 5 (by omega) (w2.heap.size + 1) (w2.heap.size + 1 + 1) d s.now.length bb L (lws s.now.length s.loose keep torn ok.loose) keep torn (by rw [hzl]; exact hl) (lws_stays _ _ _ _ ok.loose) W0 hRd (by omega) (by omega) (by omega) hLbb)
    (fun h k => Fr.trans h k) (fun W l o o' hl h _ _ => (Fr.of_grown (grownBy_putObj' W l o')).mono (fun k e => .inr (by injection e with e; omega))) (Below.refl _ _) (fun _ => rfl)
    (fun pre W => (W.ownsRow 0 9 1 (.slice (some ⟨bb, 0, none⟩) s.now.length bc) s.now.length (strs (sofar s.now.length s.safe pre)) ∧ Boxed W w2.heap.size 43 (.slice (some ⟨bb, 0, none⟩) s.now.length bc)) ∧ Below w.heap.size w W)
    (fun _ _ _ => False)
    (OwnFrom.and (OwnFrom.and (fun pre A B row hs hg hr => hs.kept hg (.inr (fun e => by
        obtain ⟨g', cap', cur', hv', _, hh', _⟩ := own_form hs h4.2
        simp only [Value.slice.injEq, Option.some.injEq, Addr.mk.injEq, and_true, true_and] at hv'
        obtain ⟨rfl, rfl⟩ := hv'
        obtain ⟨_, o, ho, hc⟩ := hr bb (by rw [← e]; rfl)
        rw [hh'] at ho
        cases ho
        cases hc))) (Own.from (boxed_own _ _ _) _)) (ownFrom_below (Nat.le_refl _) (by omega)))
    (fun _ _ _ _ _ hs _ _ => hs)
    ⟨⟨oB, bB⟩, hBW0⟩
    (fun x a' W => ∃ Bx, w2.heap.size < Bx ∧ Bx ≠ bb ∧ W.heap[Bx]? = some (.cells #[.int .i64 (x.1.1.1 : Int), .string x.1.1.2] 122 (0, 0)) ∧ a' = { tmps := #[.pointer (some ⟨d, 0, none⟩), .agg #[.int .u64 keep, .int .i64 torn], undef, .pointer (some ⟨w.heap.size, 0, none⟩), .pointer none, .pointer (some ⟨w2.heap.size, 0, none⟩), .pointer (some ⟨Bx, 0, none⟩), .int .i64 x.1.2, .pointer (some ⟨d, 0, none⟩), .bool false, .pointer (some ⟨d, 0, none⟩), .pointer (some ⟨d, 0, none⟩), .pointer (some ⟨d, 0, none⟩), .slice (some ⟨sb, 0, none⟩) s.now.length sc, .slice (some ⟨bb, 0, none⟩) s.now.length bc, .pointer (some ⟨d, 0, none⟩), .agg #[.int .u64 keep, .int .i64 torn], .func (.func 86) #[] #[.pointer (some ⟨w2.heap.size + 1, 0, none⟩), .pointer (some ⟨w2.heap.size + 1 + 1, 0, none⟩)], .agg #[.int .i64 (x.1.1.1 : Int), .string x.1.1.2], .int .i64 x.1.2, undef, undef, undef, undef, undef, undef, undef, undef, undef, undef, undef, undef, undef, undef, undef, undef, undef, undef, undef, undef], defers := [] })
    (fun x a' _ X Y row hs hg hr => by
      obtain ⟨Bx, h1, h2, h3, h4⟩ := hs
      refine ⟨Bx, h1, h2, ?_, h4⟩
      rw [hg.block Bx (Array.getElem?_eq_some_iff.1 h3).1 (fun e => ?_)]
      · exact h3
      · obtain ⟨_, o, ho, hc⟩ := hr Bx e.symm
        rw [h3] at ho
        cases ho
        cases hc)
    ?assign ?body ?done ?stop)
  case assign =>
    rintro l pre x W K ⟨⟨i1, i2⟩, i3⟩ hK
    have hsW := i3.size
    have hW2 := i2.lt
    have hbW := (i1.lt bb rfl).2
    dsimp only [encL]
    gi_wp2
    refine hK _ _ ((KeepsOthers.alloc _ _).from _) ((Fr.refl _ W).alloc _) ⟨⟨i1.alloc _, i2.alloc _⟩, i3.alloc hsW _⟩ ⟨W.heap.size, hW2, by omega, heap_alloc_new W _, rfl⟩
  case body =>
    rintro l pre x a' W hlW ⟨r, hrr⟩ ⟨⟨i1, i2⟩, i3⟩ ⟨Bx, hBx, hBb, bX, rfl⟩ hlt
    have hsl := sofar_length s.now.length s.safe pre
    rw [ok.len] at hsl
    have hss := sofar_size s.now.length s.safe ok.safe ok.len pre
    have hsn := sofar_snoc s.now.length s.safe pre x
    generalize sofar s.now.length s.safe pre = cur at *
    obtain ⟨⟨⟨at_, str⟩, k⟩, hx1, hx2, hx3⟩ := x
    dsimp only at hx1 hx2 hx3 hsn bX ⊢
    have cB := i2.cell
    have x0 := blk_cell bX 0
    have x1 := blk_cell bX 1
    simp at x0 x1
    obtain ⟨old, hold⟩ : ∃ old, cur[at_]? = some old := ⟨_, List.getElem?_eq_getElem (by omega)⟩
    obtain ⟨m0, m1⟩ := own_at i1 (strs_at hold)
    have hos : old.size = 512 := hss old (List.mem_of_getElem? hold)
    have fin : ∀ (q : Nat) (b : ByteArray), KeepsFrom W0.heap.size W ((W.drewN q).setCell ⟨bb, at_, none⟩ (.string b)) ∧ KeepB bb W0.heap.size W ((W.drewN q).setCell ⟨bb, at_, none⟩ (.string b)) ∧
        (((W.drewN q).setCell ⟨bb, at_, none⟩ (.string b)).ownsRow 0 9 1 (.slice (some ⟨bb, 0, none⟩) s.now.length bc) s.now.length (strs (cur.set at_ b)) ∧ Boxed ((W.drewN q).setCell ⟨bb, at_, none⟩ (.string b)) w2.heap.size 43 (.slice (some ⟨bb, 0, none⟩) s.now.length bc)) ∧
        Below w.heap.size w ((W.drewN q).setCell ⟨bb, at_, none⟩ (.string b)) := by
      intro q b
      have hf : Fr (· = bb) W ((W.drewN q).setCell ⟨bb, at_, none⟩ (.string b)) := (Fr.drewN _ _ q).trans (Fr.set1 _ _ _ _)
      refine ⟨⟨hf.size, fun k o hB hk _ => hf.get (by omega) hk⟩, hf.mono (fun _ => .inl), ⟨?_, hf.get (by omega) i2⟩, (below_drewN i3 q).setCell (by dsimp only; omega) _⟩
      have := own_set (Fr.own i1 (Fr.drewN (fun _ => False) W q) (fun _ _ => id)) at_ (.string b)
      rw [show strs (cur.set at_ b) = (strs cur).set at_ (.string b) by simp [strs, List.map_set]]
      exact this
    have hgd : cur.getD at_ ⟨#[]⟩ = old := by simp [List.getD, hold]
    have hle3 : (512 : Int) ≤ (str.size : Int) := by omega
    have hle4 : (512 : Int) ≤ (old.size : Int) := by omega
    rcases hx3 with rfl | rfl | rfl
    · have HS := Lib.hid hsn
      clear hsn
      gi_wp2
      refine ⟨KeepsFrom.refl _ _, Fr.refl _ _, ⟨?_, i2⟩, i3⟩
      rw [HS.out]
      exact i1
    · have HS := Lib.hid hsn
      have FI := Lib.hid fin
      clear hsn fin
      have hle : (256 : Int) ≤ (str.size : Int) := by omega
      have hle2 : (256 : Int) ≤ (old.size : Int) := by omega
      have hat : (at_ : Int) < (s.now.length : Int) := by omega
      gi_wp2
      refine wpIn_region_last_round (F := Fence.wide) (by simp) (by kernel_rfl) rfl (by kernel_rfl) (by kernel_rfl) (by kernel_rfl) ?_
      dsimp only [List.dropLast, List.getLast]
      repeat (gi_big_quiet_step (fail))
      refine wpQuietIn_nil ?_
      rintro w' ⟨nq, rfl⟩
      go_simp
      obtain ⟨f1, f2, ⟨f3, f4⟩, f5⟩ := FI.out nq (str.extract 0 256 ++ old.extract 256 512)
      refine ⟨f1, f2, ⟨?_, f4⟩, f5⟩
      rw [HS.out]
      have e : torn1 cur ((at_, str), 256) = cur.set at_ (str.extract 0 256 ++ old.extract 256 512) := by
        unfold torn1
        rw [if_neg (by simp), hgd]
        rfl
      rw [e]
      exact f3
    · have HS := Lib.hid hsn
      have FI := Lib.hid fin
      clear hsn fin
      have hle : (512 : Int) ≤ (str.size : Int) := by omega
      have hle2 : (512 : Int) ≤ (old.size : Int) := by omega
      have hat : (at_ : Int) < (s.now.length : Int) := by omega
      gi_wp2
      refine wpIn_region_last_round (F := Fence.wide) (by simp) (by kernel_rfl) rfl (by kernel_rfl) (by kernel_rfl) (by kernel_rfl) ?_
      dsimp only [List.dropLast, List.getLast]
      repeat (gi_big_quiet_step (fail))
      refine wpQuietIn_nil ?_
      rintro w' ⟨nq, rfl⟩
      go_simp
      obtain ⟨f1, f2, ⟨f3, f4⟩, f5⟩ := FI.out nq (str.extract 0 512)
      refine ⟨f1, f2, ⟨?_, f4⟩, f5⟩
      rw [HS.out]
      have e : torn1 cur ((at_, str), 512) = cur.set at_ (str.extract 0 512) := by
        unfold torn1
        rw [if_neg (by simp), hgd]
        show cur.set at_ (str.extract 0 512 ++ old.extract 512 512) = _
        simp
      rw [e]
      exact f3
  case done =>
    rintro D xs W hD rfl ⟨⟨i1, i2⟩, i3⟩ hK
    have hcr : sofar s.now.length s.safe (lws s.now.length s.loose keep torn ok.loose) = crashed s keep torn := by
      unfold sofar crashed
      rw [lws_val]
    rw [hcr] at i1
    have cB := i2.cell
    have hcl : (crashed s keep torn).length = s.now.length := by rw [← hcr, sofar_length, ok.len]
    have hof := of_any bb bc (crashed s keep torn) W (by rw [hcl]; exact i1) (by omega) (by omega)
    rw [hcl] at hof
    have HO := Lib.hid hof
    clear hof
    simp only [Exit.inBlock, Exit.then]
    go_at_K
    go_wp2_with fail
    refine HO.out.mono ?_
    rintro e w4 ⟨d', rfl, h1, h2, h3⟩
    go_wp2_with fail
    have hDlt := (Array.getElem?_eq_some_iff.1 hK).1
    have hK4 := (h3.block D hDlt).trans hK
    rw [Exit.noGoto_ret]
    refine ⟨by simp, .inl ⟨_, _, rfl, run_takeDeferred hK4, ?_⟩⟩
    have hf : Fr (fun k => k = D) w4 (w4.putObj D (.deferred none)) := (Fr.of_grown (grownBy_putObj' w4 D _)).mono (fun k e => by injection e)
    have hs4 := h3.size
    have hsW := i3.size
    have hf' : (w4.putObj D (.deferred none)).heap.size = w4.heap.size := by simp [World.putObj]
    refine ⟨_, results_tmp rfl _ _ _, d', rfl, ?_, by omega, (i3.trans (h3.mono (by omega))).trans (hf.below (by omega) (fun k e => by omega))⟩
    refine (h1.kept hf (fun k hk e => ?_)).monoF (fun k hk h => ?_)
    · rcases hk with hk | hk <;> omega
    · rw [hf'] at hk ⊢
      rcases h with h | h <;> omega
  case stop =>
    rintro D c pre W _ _ h _
    exact h.elim
end Go.Proofs.Ytjmfeoenbncibaa
namespace Go.Proofs.Ytjmfeoenbncibaa
open Go.RowKit Go.Nau Go.Shelf
attribute [local go_sem] Oper.semAt_some

def pk (c : Int) (n : Nat) : Nat := ((if c < 0 then -(c + 1) else c) % (n : Int)).toNat
theorem pk_lt (c : Int) (n : Nat) (hn : 0 < n) : pk c n < n := by
  unfold pk
  have := Int.emod_lt_of_pos (if c < 0 then -(c + 1) else c) (show (0 : Int) < n by omega)
  have := Int.emod_nonneg (if c < 0 then -(c + 1) else c) (show (n : Int) ≠ 0 by omega)
  omega

/-- The first k bytes of Full. -/
def fullL (c k : Nat) : List UInt8 := (List.range k).map fun i => UInt8.ofNat (c + i)
def fullV (c k : Nat) : List Value := (fullL c k).map fun x => .int .u8 (x.toNat : Int)
def fullS (c k : Nat) : ByteArray := ⟨(fullL c k).toArray⟩
theorem fullV_snoc (c k : Nat) : fullV c (k + 1) = fullV c k ++ [.int .u8 (((c : Int) + (k : Int)) % 256)] := by
  simp [fullV, fullL, List.range_succ]
theorem fullS_size (c k : Nat) : (fullS c k).size = k := by simp [fullS, fullL, ByteArray.size]

/-- How many: at most a thousand. -/
def fullN (n : Int) : Nat := (min n 1000).toNat

theorem infoB : (Try.prog.info? 5).map (fun i => (i.zero, i.size, i.bytes)) = some (some (.int .u8 0), 1, 1) := by kernel_rfl

theorem conv_full {w : World} {base : Nat} {v : Value} {c q : Nat} (h : w.ownsRow base 5 1 v q (fullV c q)) : (convert 128 9 v).run Try.prog w = .ok (.string (fullS c q)) w := by
  rcases h.2 with ⟨rfl, h0⟩ | ⟨g, cap, cur, rfl, _, hh, _⟩
  · rw [Lib.run_convert_nil_bytes w 128 9 5 0 Try.underlying128 Try.underlying5 Try.underlying9]
    subst h0
    rfl
  · have hB : Lib.Bytes w g 0 (fullS c q) := by
      intro i hi
      rw [fullS_size] at hi
      rw [Nat.zero_add]
      have hx : (fullV c q)[i]? = some (.int .u8 ((fullS c q)[i]'(by rw [fullS_size]; exact hi)).toNat) := by
        have e : ((fullS c q)[i]'(by rw [fullS_size]; exact hi)) = UInt8.ofNat (c + i) := by
          show (fullL c q).toArray[i]'_ = _
          simp [fullL]
        rw [e]
        simp [fullV, fullL, hi]
      exact (own_at h hx).1
    have := Lib.run_convert_whole (P := Try.prog) w 128 5 9 Try.underlying128 Try.underlying5 Try.underlying9 g 0 (fullS c q) hB cap
    rw [fullS_size] at this
    exact this

def FullRel (w0 : World) (c : Nat) (N : Nat) (k : Nat) (v i : Value) (wr : World) : Prop :=
  ∃ q : Nat, k = N - q ∧ i = .int .i64 q ∧ q ≤ N ∧ wr.ownsRow w0.heap.size 5 1 v q (fullV c q) ∧ Below w0.heap.size w0 wr

end Go.Proofs.Ytjmfeoenbncibaa

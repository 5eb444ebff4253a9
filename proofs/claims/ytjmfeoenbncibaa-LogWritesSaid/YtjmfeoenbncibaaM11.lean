/- Texts of this proof, joined: Rk. They hold under no condition beyond what each theorem states. -/
import Derived.Test.YtjmfeoenbncibaaM10
import Derived.OwnWalkIn
namespace Go.Proofs.Ytjmfeoenbncibaa
open Go.RowKit Go.Nau Go.Shelf
attribute [local go_sem] Oper.semAt_some

def zeroR : Rec := ⟨0, 0, false, false, 0, []⟩
def decR (s : ByteArray) : Rec := ⟨takeN s 1 6, takeN s 7 6, decide (takeN s 13 1 = 1), decide (takeN s 13 1 = 2), takeN s 14 2, (entsL s).take 16⟩
def okDec (s : ByteArray) : Bool := decide (s.size = 512) && (rightB (decR s) && decide ((encS (decR s)).extract 0 256 = s.extract 0 256))
def decO (s : ByteArray) : Rec := if okDec s then decR s else zeroR
def decE (s : ByteArray) : Int := if okDec s then 0 else 70

def DecPost (w : World) (s : ByteArray) (e : Ending) (w' : World) : Prop :=
  ∃ A c, e = .returned (.tuple #[recV (decO s) A c, .int .i64 (decE s)]) ∧ (decO s).l.length ≤ c ∧ Rd (fun k => w.heap.size ≤ k ∧ k < w'.heap.size) w' 4 A (decO s).l.length (entC (decO s).l) ∧ Below w.heap.size w w'

theorem fr_noncells {A B : World} {base : Nat} {row : Option Nat} (hg : A.grownBy B row) (hr : ∀ r, row = some r → base ≤ r ∧ ∃ o : Obj, A.heap[r]? = some o ∧ o.isCells = false) : Fr (fun k => ∃ o : Obj, A.heap[k]? = some o ∧ o.isCells = false) A B :=
  (Fr.of_grown hg).mono (fun k e => (hr k e.symm).2)
theorem own_noncells {A B : World} {base : Nat} {e : TypeId} {size : Nat} {v : Value} {n : Nat} {xs : List Value} (h : A.ownsRow base e size v n xs) (hf : Fr (fun k => ∃ o : Obj, A.heap[k]? = some o ∧ o.isCells = false) A B) : B.ownsRow base e size v n xs := by
  refine Fr.own h hf ?_
  rintro k hk ⟨o, ho, hc⟩
  rcases h.2 with ⟨rfl, _⟩ | ⟨g, cap, cur, rfl, _, hh, _⟩
  · cases hk
  · simp [Value.ownBlock] at hk
    subst hk
    rw [hh] at ho
    injection ho with ho
    subst ho
    cases hc

/-- The record that is being read, and what has been read of its entries. -/
structure DIn (w : World) (v0 v1 v2 v3 v4 : Value) (pre : List Ent) (W : World) : Prop where
  own : ∃ v, W.heap[w.heap.size + 1]? = some (.cells #[v0, v1, v2, v3, v4, v] 79 (0, 0)) ∧ W.ownsRow (w.heap.size + 3) 85 4 v pre.length (entC pre)
  res : W.heap[w.heap.size]? = some (.cells #[.int .u64 0, .int .u64 0, .bool false, .bool false, .int .i64 0, .slice none 0 0] 79 (0, 0))
  bel : Below w.heap.size w W

section
variable {w A B : World} {v0 v1 v2 v3 v4 : Value} {pre : List Ent}
theorem DIn.noncells (h : DIn w v0 v1 v2 v3 v4 pre A) (hf : Fr (fun k => ∃ o : Obj, A.heap[k]? = some o ∧ o.isCells = false) A B) (hb : Below w.heap.size A B) : DIn w v0 v1 v2 v3 v4 pre B := by
  have hn : ∀ (k : Nat) (cs : Array Value) (t : TypeId) (fz : Nat × Nat), A.heap[k]? = some (Obj.cells cs t fz) → ¬ ∃ o : Obj, A.heap[k]? = some o ∧ o.isCells = false := by
    rintro k cs t fz hk ⟨o, ho, hc⟩
    rw [hk] at ho
    injection ho with ho
    subst ho
    cases hc
  obtain ⟨v, h1, h2⟩ := h.own
  exact ⟨⟨v, hf.get (hn _ _ _ _ h1) h1, own_noncells h2 hf⟩, hf.get (hn _ _ _ _ h.res) h.res, h.bel.trans hb⟩
theorem DIn.alloc (h : DIn w v0 v1 v2 v3 v4 pre A) (o : Obj) : DIn w v0 v1 v2 v3 v4 pre (A.alloc o) := by
  have hf : Fr (fun _ => False) A (A.alloc o) := (Fr.refl _ A).alloc o
  obtain ⟨v, h1, h2⟩ := h.own
  exact ⟨⟨v, hf.get id h1, h2.alloc _⟩, hf.get id h.res, h.bel.alloc h.bel.size o⟩
end

theorem Rd.of_own2 {w : World} {base : Nat} {e : TypeId} {size n : Nat} {v : Value} {xs : List Value} (h : w.ownsRow base e size v n xs) : ∃ A c, v = .slice A n c ∧ n ≤ c ∧ Rd (fun k => base ≤ k ∧ k < w.heap.size) w size A n xs := by
  obtain ⟨A, c, rfl, h1, _, hrd⟩ := Go.Nau.Rd.of_own h
  refine ⟨A, c, rfl, h1, hrd.1, fun hn => ?_⟩
  obtain ⟨ad, rfl, hb, hc⟩ := hrd.2 hn
  rcases h.2 with ⟨h0, _⟩ | ⟨g, cap, cur, hv, _, hh, _⟩
  · cases h0
  · simp only [Value.slice.injEq, Option.some.injEq, true_and] at hv
    obtain ⟨rfl, _⟩ := hv
    exact ⟨_, rfl, ⟨hb, (Array.getElem?_eq_some_iff.1 hh).1⟩, hc⟩
theorem decR_wf (s : ByteArray) : (decR s).wf := by
  have h1 := takeN_lt s 1 6
  have h2 := takeN_lt s 7 6
  have h3 := takeN_lt s 14 2
  refine ⟨?_, ?_, ?_, ?_, ?_⟩
  · simp only [decR]; omega
  · simp only [decR]; omega
  · simp only [decR]; omega
  · simp only [decR, List.length_take, maxLen]; omega
  · intro x hx
    obtain ⟨i, _, rfl⟩ := List.mem_map.1 (List.mem_of_mem_take (show x ∈ (entsL s).take 16 from hx))
    exact entAt_wf s i

theorem rd_ent (W : World) (x : Ent) : ∀ j u, (entL x)[j]? = some u → (W.alloc (.cells #[.int .i64 x.kind, .int .u32 x.file, .int .u32 x.idx, .int .u32 x.vbn] 85)).cell? ((⟨W.heap.size, 0, none⟩ : Addr).add j) = some u := by
  intro j u hu
  have hn := heap_alloc_new W (.cells #[.int .i64 x.kind, .int .u32 x.file, .int .u32 x.idx, .int .u32 x.vbn] 85)
  have ha : (⟨W.heap.size, 0, none⟩ : Addr).add j = ⟨W.heap.size, j, none⟩ := by unfold Addr.add; split <;> simp_all
  rw [ha, cell_of_row _ W.heap.size j _ _ _ hn]
  simpa [entL] using hu

theorem own_cells {w : World} {base : Nat} {e : TypeId} {size n : Nat} {v : Value} {xs : List Value} (h : w.ownsRow base e size v n xs) {k : Nat} (hk : some k = v.ownBlock) : ∃ cs t fz, w.heap[k]? = some (Obj.cells cs t fz) := by
  rcases h.2 with ⟨rfl, _⟩ | ⟨g, cap, cur, rfl, _, hh, _⟩
  · cases hk
  · simp [Value.ownBlock] at hk
    subst hk
    exact ⟨_, _, _, hh⟩
theorem DIn.grow {w W w2 : World} {v0 v1 v2 v3 v4 : Value} {pre : List Ent} {A A2 : Option Addr} {c c2 : Nat} {x : Ent} {o : Obj} (h : DIn w v0 v1 v2 v3 v4 pre W) (hown : W.ownsRow (w.heap.size + 3) 85 4 (.slice A pre.length c) pre.length (entC pre))
    (hg : (W.alloc o).grownBy w2 (Value.slice A pre.length c).ownBlock) (h2 : w2.ownsRow (w.heap.size + 3) 85 4 (.slice A2 (pre.length + 1) c2) (pre.length + 1) (entC pre ++ entL x))
    (hr : w2.heap[w.heap.size + 1]? = some (.cells #[v0, v1, v2, v3, v4, .slice A pre.length c] 79 (0, 0))) :
    KeepsFrom (w.heap.size + 3) W (w2.setCell ⟨w.heap.size + 1, 5, none⟩ (.slice A2 (pre.length + 1) c2)) ∧ KeepE (w.heap.size + 1 + 1) W (w2.setCell ⟨w.heap.size + 1, 5, none⟩ (.slice A2 (pre.length + 1) c2)) ∧
    DIn w v0 v1 v2 v3 v4 (pre ++ [x]) (w2.setCell ⟨w.heap.size + 1, 5, none⟩ (.slice A2 (pre.length + 1) c2)) := by
  have hlt := fun k hk => hown.lt k hk
  have fr : Fr (fun k => k = w.heap.size + 1 ∨ some k = (Value.slice A pre.length c).ownBlock) W (w2.setCell ⟨w.heap.size + 1, 5, none⟩ (.slice A2 (pre.length + 1) c2)) :=
    (((Fr.refl _ W).alloc o).trans ((Fr.of_grown hg).mono (fun _ => .inr))).trans ((Fr.set1 _ _ _ _).mono (fun _ => .inl))
  refine ⟨⟨fr.size, fun k o' hB hk ho => fr.get ?_ hk⟩, fr.mono ?_, ⟨_, blk_set hr 5 _, ?_⟩, fr.get ?_ h.res, h.bel.trans (fr.below h.bel.size ?_)⟩
  · rintro (e | e)
    · omega
    · obtain ⟨cs, t, fz, hc⟩ := own_cells hown e
      rw [hk] at hc
      injection hc with hc
      subst hc
      cases ho
  · rintro k (e | e) <;> intro e2
    · omega
    · have := (hlt k e.symm).1
      omega
  · rw [entC_snoc, List.length_append]
    refine Fr.own h2 (Fr.set1 _ _ _ _) (fun k hk e => ?_)
    have := (h2.lt k hk).1
    omega
  · rintro (e | e)
    · omega
    · have := (hlt _ e.symm).1
      omega
  · rintro k (e | e)
    · omega
    · have := (hlt _ e.symm).1
      omega

theorem set_rec {W : World} {b : Nat} {c0 c1 c2 c3 c4 c5 : Value} {t : TypeId} (h : W.heap[b]? = some (.cells #[c0, c1, c2, c3, c4, c5] t (0, 0))) (v0 v1 v2 v3 v4 v5 : Value) :
    ((((((W.setCell ⟨b, 0, none⟩ v0).setCell ⟨b, 1, none⟩ v1).setCell ⟨b, 2, none⟩ v2).setCell ⟨b, 3, none⟩ v3).setCell ⟨b, 4, none⟩ v4).setCell ⟨b, 5, none⟩ v5).heap[b]? = some (.cells #[v0, v1, v2, v3, v4, v5] t (0, 0)) ∧
    Fr (· = b) W ((((((W.setCell ⟨b, 0, none⟩ v0).setCell ⟨b, 1, none⟩ v1).setCell ⟨b, 2, none⟩ v2).setCell ⟨b, 3, none⟩ v3).setCell ⟨b, 4, none⟩ v4).setCell ⟨b, 5, none⟩ v5) := by
  refine ⟨?_, (((((Fr.set1 _ _ _ _).trans (Fr.set1 _ _ _ _)).trans (Fr.set1 _ _ _ _)).trans (Fr.set1 _ _ _ _)).trans (Fr.set1 _ _ _ _)).trans (Fr.set1 _ _ _ _)⟩
  rw [blk_set (blk_set (blk_set (blk_set (blk_set (blk_set h 0 v0) 1 v1) 2 v2) 3 v3) 4 v4) 5 v5]
  rfl
theorem rd_notAt {T : Nat → Prop} {w : World} {size n D : Nat} {A : Option Addr} {xs : List Value} {x : Option (List Deferred)} (h : Rd T w size A n xs) (hs : 0 < size) (hD : w.heap[D]? = some (.deferred x)) : Rd (fun k => T k ∧ k ≠ D) w size A n xs := by
  refine ⟨h.1, fun hn => ?_⟩
  obtain ⟨ad, e, hb, hc⟩ := h.2 hn
  refine ⟨ad, e, ⟨hb, fun e2 => ?_⟩, hc⟩
  have hl : 0 < xs.length := by rw [h.1]; exact Nat.mul_pos hn hs
  have := hc 0 _ (List.getElem?_eq_getElem hl)
  rw [show ad.add 0 = ad by unfold Addr.add; simp] at this
  simp [World.cell?, e2, hD] at this

theorem infoEnt : (Try.prog.info? 85).map (fun i => (i.zero, i.size, i.bytes)) = some (some (.agg #[.int .i64 0, .int .u32 0, .int .u32 0, .int .u32 0]), 4, 24) := by kernel_rfl

theorem encS_size (r : Rec) (h : r.l.length ≤ 16) : (encS r).size = 512 := by
  unfold encS
  rw [ByteArray.size_append, strL_size, zeroN_size, secL_length]
  omega
theorem recV_dec (s : ByteArray) (f sq cp nx : Nat) (A : Option Addr) (c : Nat) (hf : f = takeN s 13 1) (hsq : sq = takeN s 1 6) (hcp : cp = takeN s 7 6) (hnx : nx = takeN s 14 2) :
    recV (decR s) A c = .agg #[.int .u64 sq, .int .u64 cp, .bool ((f : Int) == 1), .bool ((f : Int) == 2), .int .i64 nx, .slice A ((entsL s).take 16).length c] := by
  subst hf hsq hcp hnx
  have e1 : ((takeN s 13 1 : Int) == 1) = decide (takeN s 13 1 = 1) := by rw [Bool.eq_iff_iff]; simp; omega
  have e2 : ((takeN s 13 1 : Int) == 2) = decide (takeN s 13 1 = 2) := by rw [Bool.eq_iff_iff]; simp; omega
  rw [e1, e2]
  rfl


set_option maxHeartbeats 4000000 in
set_option maxRecDepth 100000 in
theorem decode_any (s : ByteArray) (hs : s.size ≤ 9223372036854775807) (w : World) : Calls Try.prog 93 #[.string s] w (DecPost w s) := by
  obtain ⟨i0, hi0, hz0, hz1, hz2⟩ := info_parts infoEnt
  by_cases h5 : s.size = 512
  case neg =>
    clear hi0 hz0 hz1 hz2
    have h5' : ((s.size : Int) == 512) = false := by simp; omega
    have ho : okDec s = false := by unfold okDec; simp [h5]
    have HO := Lib.hid ho
    clear ho h5
    go_enter Try.func93, Try.ntmps93
    go_wp2_with fail
    try go_step3
    go_wp2_with fail
    rw [Exit.noGoto_ret]
    refine bodyPost_ret (res_rec2 rfl _ _ rfl (load_rec w.heap.size _ (.int .u64 0) (.int .u64 0) (.bool false) (.bool false) (.int .i64 0) (.slice none 0 0) (heap_alloc_new w _))) rfl ?_
    unfold DecPost decO decE
    rw [HO.out]
    exact ⟨none, 0, rfl, Nat.le_refl _, Rd.nil _ _ _ _, (Below.refl _ w).alloc (Nat.le_refl _) _⟩
  have h5' : ((s.size : Int) == 512) = true := by simp; omega
  obtain ⟨f, hf⟩ : ∃ f, f = takeN s 13 1 := ⟨_, rfl⟩
  obtain ⟨sq, hsq⟩ : ∃ x, x = takeN s 1 6 := ⟨_, rfl⟩
  obtain ⟨cp, hcp⟩ : ∃ x, x = takeN s 7 6 := ⟨_, rfl⟩
  obtain ⟨nx, hnx⟩ : ∃ x, x = takeN s 14 2 := ⟨_, rfl⟩
  have t13 := fun W => take_any s 13 1 (by omega) (by omega) hs (by omega) W
  have t1 := fun W => take_any s 1 6 (by omega) (by omega) hs (by omega) W
  have t7 := fun W => take_any s 7 6 (by omega) (by omega) hs (by omega) W
  have t14 := fun W => take_any s 14 2 (by omega) (by omega) hs (by omega) W
  have b14 : takeN s 14 2 < 65536 := takeN_lt s 14 2
  rw [← hf] at t13
  rw [← hsq] at t1
  rw [← hcp] at t7
  rw [← hnx] at t14 b14
  have HF := Lib.hid hf
  have HSQ := Lib.hid hsq
  have HCP := Lib.hid hcp
  have HNX := Lib.hid hnx
  have T13 := Lib.hid t13
  have T1 := Lib.hid t1
  have T7 := Lib.hid t7
  have T14 := Lib.hid t14
  clear hf hsq hcp hnx t13 t1 t7 t14
  refine (callsIn_wide (n := 7)).1 (callsIn_of_wp_marks Try.func93 rfl trivial ?_ rfl)
  simp only [Try.ntmps93, List.size_toArray, List.length_nil, List.length_cons, Nat.reduceSub, Nat.reduceAdd, Array.replicate_succ, Array.replicate_zero, List.push_toArray, List.append_toArray, List.nil_append, List.cons_append]
  refine wpIn_wide.2 ?_
  go_wp2_with fail
  try go_step3
  go_wp2_with fail
  refine (T13.out _).mono ?_
  rintro e w1 ⟨rfl, hw1⟩
  rw [← hw1]
  clear hw1 w1
  go_wp2_with fail
  refine (T1.out _).mono ?_
  rintro e w1 ⟨rfl, hw1⟩
  rw [← hw1]
  clear hw1 w1
  go_wp2_with fail
  refine (T7.out _).mono ?_
  rintro e w1 ⟨rfl, hw1⟩
  rw [← hw1]
  clear hw1 w1
  go_wp2_with fail
  refine (T14.out _).mono ?_
  rintro e w1 ⟨rfl, hw1⟩
  rw [← hw1]
  clear hw1 w1
  go_wp2_with fail
  try go_step3
  go_wp2_with fail
  refine (entries_any s _).mono ?_
  rintro e w1 ⟨rfl, hw1⟩
  simp only [World.size_alloc] at hw1 ⊢
  have hsz : w1.heap.size = w.heap.size + 3 := by rw [hw1]; simp
  have f1 : ∀ (W : World) o, Fr (fun _ => False) W (W.alloc o) := fun W o => (Fr.refl _ W).alloc o
  have hD0 : DIn w (.int .u64 sq) (.int .u64 cp) (.bool ((f : Int) == 1)) (.bool ((f : Int) == 2)) (.int .i64 nx) [] w1 := by
    rw [hw1]
    refine ⟨⟨.slice none 0 0, ?_, ⟨rfl, .inl ⟨rfl, rfl⟩⟩⟩, ?_, ?_⟩
    · have := heap_alloc_new (w.alloc (.cells #[.int .u64 0, .int .u64 0, .bool false, .bool false, .int .i64 0, .slice none 0 0] 79)) (.cells #[.int .u64 sq, .int .u64 cp, .bool ((f : Int) == 1), .bool ((f : Int) == 2), .int .i64 nx, .slice none 0 0] 79)
      rw [World.size_alloc] at this
      exact (f1 _ _).get id this
    · exact (f1 _ _).get id ((f1 _ _).get id (heap_alloc_new w _))
    · exact (((Below.refl _ w).alloc (Nat.le_refl _) _).alloc (by simp) _).alloc (by simp; omega) _
  have hB0 : w1.heap[w.heap.size + 1 + 1]? = some (.cells #[.string s] 9 (0, 0)) := by
    rw [hw1]
    have := heap_alloc_new ((w.alloc (.cells #[.int .u64 0, .int .u64 0, .bool false, .bool false, .int .i64 0, .slice none 0 0] 79)).alloc (.cells #[.int .u64 sq, .int .u64 cp, .bool ((f : Int) == 1), .bool ((f : Int) == 2), .int .i64 nx, .slice none 0 0] 79)) (.cells #[.string s] 9)
    simp only [World.size_alloc] at this
    exact this
  have H5 := Lib.hid h5
  clear hw1 h5
  go_wp2_with fail
  rename_i K hK0
  have htail : ∀ (D : Nat) (W : World), w.heap.size + 3 ≤ D → DIn w (.int .u64 sq) (.int .u64 cp) (.bool ((f : Int) == 1)) (.bool ((f : Int) == 2)) (.int .i64 nx) ((entsL s).take 16) W → W.heap[D]? = some (.deferred (some [])) → K { tmps := #[.string s, undef, .pointer (some ⟨w.heap.size, 0, none⟩), .int .i64 0, .int .u64 f, .pointer (some ⟨w.heap.size + 1, 0, none⟩), undef, undef, undef, .string s, .int .i64 512, .bool false, undef, .string s, .int .u64 f, .string s, .int .u64 sq, .string s, .int .u64 cp, .int .u64 f, .bool ((f : Int) == 1), .int .u64 f, .bool ((f : Int) == 2), .string s, .int .u64 nx, .int .i64 nx, .agg #[.int .u64 sq, .int .u64 cp, .bool ((f : Int) == 1), .bool ((f : Int) == 2), .int .i64 nx, .slice none 0 0], .string s, .func (.func 118) #[] #[.pointer (some ⟨w.heap.size + 1 + 1, 0, none⟩)], undef, undef, undef, undef, undef, undef, undef, undef, undef, undef, undef, undef, undef, undef, undef, undef, undef, undef, undef, undef, undef, undef, undef, undef, undef, undef, undef], defers := [{ target := .collected D, args := #[] }] } W := by
    intro D W hD i2 hK
    refine hK0 _ _ ?_
    clear hK0
    have h5 := H5.out
    obtain ⟨L, hL⟩ : ∃ L, L = (entsL s).take 16 := ⟨_, rfl⟩
    have hlen16 : L.length ≤ 16 := by rw [hL, List.length_take]; omega
    rw [← hL] at i2
    obtain ⟨v, hR, hown⟩ := i2.own
    have hsW := i2.bel.size
    have hRlt := (Array.getElem?_eq_some_iff.1 hR).1
    obtain ⟨A, c, rfl, hc, hrd⟩ := Rd.of_own2 hown
    have r0 := blk_cell hR 0
    have r1 := blk_cell hR 1
    have r2 := blk_cell hR 2
    have r3 := blk_cell hR 3
    have r4 := blk_cell hR 4
    have r5 := blk_cell hR 5
    simp at r0 r1 r2 r3 r4 r5
    have hdl : (decR s).l = L := hL.symm
    have henc := encode_any (decR s) (decR_wf s) A c W (by rw [hdl]; exact hrd.mono (fun k hk => hk.2))
    rw [recV_dec s f sq cp nx A c HF.out HSQ.out HCP.out HNX.out, ← hL] at henc
    have hrecv := recV_dec s f sq cp nx A c HF.out HSQ.out HCP.out HNX.out
    rw [← hL] at hrecv
    have HC := Lib.hid hc
    have hes := encS_size (decR s) (by rw [hdl]; exact hlen16)
    have HDL := Lib.hid hdl
    have hes' : (256 : Int) ≤ ((encS (decR s)).size : Int) := by omega
    have hss' : (256 : Int) ≤ (s.size : Int) := by simp at h5'; omega
    have HENC := Lib.hid henc
    have HI2 := Lib.hid i2
    have HRR := Lib.hid hR
    have HRD := Lib.hid hrd
    clear henc i2 hR hrd hown hes T13 T1 T7 T14 HF HSQ HCP HNX hi0 hz0 hz1 hz2 hD0 hB0 f1 hlen16 hc hL hdl
    go_wp2_with fail
    refine HENC.out.mono ?_
    rintro e W2 ⟨rfl, hb2⟩
    have hres2 := (hb2.block w.heap.size (by omega)).trans HI2.out.res
    have hrr2 := (hb2.block (w.heap.size + 1) hRlt).trans HRR.out
    have p0 := blk_cell hres2 0
    have p1 := blk_cell hres2 1
    have p2 := blk_cell hres2 2
    have p3 := blk_cell hres2 3
    have p4 := blk_cell hres2 4
    have p5 := blk_cell hres2 5
    have pz0 := blk_frozen hres2 0
    have pz1 := blk_frozen hres2 1
    have pz2 := blk_frozen hres2 2
    have pz3 := blk_frozen hres2 3
    have pz4 := blk_frozen hres2 4
    have pz5 := blk_frozen hres2 5
    have q0 := blk_cell hrr2 0
    have q1 := blk_cell hrr2 1
    have q2 := blk_cell hrr2 2
    have q3 := blk_cell hrr2 3
    have q4 := blk_cell hrr2 4
    have q5 := blk_cell hrr2 5
    simp at p0 p1 p2 p3 p4 p5 q0 q1 q2 q3 q4 q5
    have HRES := Lib.hid hres2
    have HRR2 := Lib.hid hrr2
    clear hres2 hrr2 r0 r1 r2 r3 r4 r5
    have hfr2 : Fr (fun _ => False) W W2 := Fr.new hb2 _
    have HFR2 := Lib.hid hfr2
    clear hfr2
    have fin : ∀ (nq : Nat) (v0 v1 v2 v3 v4 v5 : Value) (r : Rec) (A' : Option Addr) (c' : Nat) (en : Int), recV r A' c' = .agg #[v0, v1, v2, v3, v4, v5] → r = decO s → en = decE s → (A' = A ∧ c' = c ∧ r.l = L ∨ A' = none ∧ c' = 0 ∧ r.l = []) → ∀ tmps : Array Value, tmps.getD 2 undef = .pointer (some ⟨w.heap.size, 0, none⟩) → tmps.getD 3 undef = .int .i64 en →
        bodyPostM Fence.wide 7 Try.prog Try.f93 (DecPost w s) Exit.ret { tmps := tmps, defers := [{ target := .collected D, args := #[] }] } (((((((W2.drewN nq).setCell ⟨w.heap.size, 0, none⟩ v0).setCell ⟨w.heap.size, 1, none⟩ v1).setCell ⟨w.heap.size, 2, none⟩ v2).setCell ⟨w.heap.size, 3, none⟩ v3).setCell ⟨w.heap.size, 4, none⟩ v4).setCell ⟨w.heap.size, 5, none⟩ v5) := by
      intro nq v0 v1 v2 v3 v4 v5 r A' c' en e1 e2 e3 e4 tmps t2 t3
      obtain ⟨s1, s2⟩ := set_rec (W := W2.drewN nq) HRES.out v0 v1 v2 v3 v4 v5
      have f3 : Fr (· = w.heap.size) W (((((((W2.drewN nq).setCell ⟨w.heap.size, 0, none⟩ v0).setCell ⟨w.heap.size, 1, none⟩ v1).setCell ⟨w.heap.size, 2, none⟩ v2).setCell ⟨w.heap.size, 3, none⟩ v3).setCell ⟨w.heap.size, 4, none⟩ v4).setCell ⟨w.heap.size, 5, none⟩ v5) :=
        ((HFR2.out.mono (fun _ h => h.elim)).trans (Fr.drewN _ _ _)).trans s2
      generalize (((((((W2.drewN nq).setCell ⟨w.heap.size, 0, none⟩ v0).setCell ⟨w.heap.size, 1, none⟩ v1).setCell ⟨w.heap.size, 2, none⟩ v2).setCell ⟨w.heap.size, 3, none⟩ v3).setCell ⟨w.heap.size, 4, none⟩ v4).setCell ⟨w.heap.size, 5, none⟩ v5) = W3 at s1 s2 f3 ⊢
      have hK3 := f3.get (by omega) hK
      refine ⟨by simp, .inl ⟨_, _, rfl, run_takeDeferred hK3, ?_⟩⟩
      have f4 : Fr (fun k => k = D) W3 (W3.putObj D (.deferred none)) := (Fr.of_grown (grownBy_putObj' W3 D _)).mono (fun k e => Option.some.inj e)
      refine ⟨_, res_rec2 rfl _ _ t2 (load_rec w.heap.size _ v0 v1 v2 v3 v4 v5 (f4.get (by omega) s1)), ?_⟩
      rw [t3]
      unfold DecPost
      rw [← e2, ← e3]
      refine ⟨A', c', by rw [e1], ?_, ?_, (HI2.out.bel.trans (f3.below hsW (fun k hk => by omega))).trans (f4.below (Nat.le_trans hsW f3.size) (fun k hk => by omega))⟩
      · rcases e4 with ⟨rfl, rfl, e4⟩ | ⟨rfl, rfl, e4⟩ <;> rw [e4]
        · exact HC.out
        · exact Nat.le_refl _
      · rcases e4 with ⟨rfl, rfl, e4⟩ | ⟨rfl, rfl, e4⟩ <;> rw [e4]
        · have r3 := Rd.kept (rd_notAt HRD.out (by omega) hK) f3 (fun k hk e => by omega)
          have r4 := Rd.kept r3 f4 (fun k hk e => hk.2 e)
          refine r4.mono (fun k hk => ⟨by omega, ?_⟩)
          have := f3.size
          have := f4.size
          omega
        · exact Rd.nil _ _ _ _
    have FIN := Lib.hid fin
    clear fin
    have HRW := Lib.hid hrecv
    clear hrecv
    by_cases hrt : rightB (decR s) = true
    · rw [hrt]
      simp only [if_true]
      by_cases heq : (encS (decR s)).extract 0 256 = s.extract 0 256
      · have hok : okDec s = true := by unfold okDec; simp [hrt, heq, h5]
        have ht : (!((encS (decR s)).extract 0 256).toList == (s.extract 0 256).toList) = false := by rw [heq]; simp
        have HOK := Lib.hid hok
        clear hrt heq hok h5
        go_wp2_with fail
        go_quiet (fail)
        rename_i nq
        go_wp2_with fail
        rw [Exit.noGoto_ret]
        exact FIN.out nq _ _ _ _ _ _ (decR s) A c 0 HRW.out (by unfold decO; rw [HOK.out]; rfl) (by unfold decE; rw [HOK.out]; rfl) (.inl ⟨rfl, rfl, HDL.out⟩) _ rfl rfl
      · have hok : okDec s = false := by unfold okDec; simp [heq]
        have ht : (!((encS (decR s)).extract 0 256).toList == (s.extract 0 256).toList) = true := by
          rw [ByteArray.toList_eq, ByteArray.toList_eq]
          simp only [Bool.not_eq_true', beq_eq_false_iff_ne]
          exact fun e => heq (ByteArray.ext (Array.toList_inj.mp e))
        have HOK := Lib.hid hok
        clear hrt heq hok h5
        go_wp2_with fail
        go_quiet (fail)
        rename_i nq
        go_wp2_with fail
        rw [Exit.noGoto_ret]
        exact FIN.out nq _ _ _ _ _ _ zeroR none 0 70 rfl (by unfold decO; rw [HOK.out]; rfl) (by unfold decE; rw [HOK.out]; rfl) (.inr ⟨rfl, rfl, rfl⟩) _ rfl rfl
    · have hok : okDec s = false := by unfold okDec; simp [hrt]
      have hrt' : rightB (decR s) = false := by simpa using hrt
      rw [hrt']
      have HOK := Lib.hid hok
      clear hrt hrt' hok h5
      simp only [Bool.false_eq_true, if_false]
      go_wp2_with fail
      go_quiet (fail)
      rename_i nq
      go_wp2_with fail
      rw [Exit.noGoto_ret]
      exact FIN.out nq _ _ _ _ _ _ zeroR none 0 70 rfl (by unfold decO; rw [HOK.out]; rfl) (by unfold decE; rw [HOK.out]; rfl) (.inr ⟨rfl, rfl, rfl⟩) _ rfl rfl
  clear hK0
  refine wpIn_wide.1 (wpIn_rangeFunc_ownH (n := 6) rfl (by omega) (gf := 118) (lb := #[.pointer (some ⟨w.heap.size + 1 + 1, 0, none⟩)]) rfl trivial (enters_of Try.func118 (by kernel_rfl) rfl)
    (entries_stops 5 (by omega) (w.heap.size + 1 + 1) s hs w1 hB0)
    (fun h k => Fr.trans h k) (fun W l o o' hl h _ _ => (Fr.of_grown (grownBy_putObj' W l o')).mono (fun k e => by injection e with e; omega)) (Below.refl _ _) (fun _ => rfl)
    (fun pre W => pre.length ≤ 16 ∧ DIn w (.int .u64 sq) (.int .u64 cp) (.bool ((f : Int) == 1)) (.bool ((f : Int) == 2)) (.int .i64 nx) pre W)
    (fun c pre W => c = .exit 0 ∧ 16 < pre.length ∧ DIn w (.int .u64 sq) (.int .u64 cp) (.bool ((f : Int) == 1)) (.bool ((f : Int) == 2)) (.int .i64 nx) (pre.take 16) W)
    (fun pre A B row hs hg hr => ⟨hs.1, hs.2.noncells (fr_noncells hg hr) ((Fr.of_grown hg).below hs.2.bel.size (fun k e => by have := (hr k e.symm).1; omega))⟩)
    (fun c pre A B row hs hg hr => ⟨hs.1, hs.2.1, hs.2.2.noncells (fr_noncells hg hr) ((Fr.of_grown hg).below hs.2.2.bel.size (fun k e => by have := (hr k e.symm).1; omega))⟩)
    ⟨by simp, hD0⟩
    (fun x a' W => ∃ Bx, W.heap[Bx]? = some (.cells #[.int .i64 x.kind, .int .u32 x.file, .int .u32 x.idx, .int .u32 x.vbn] 85 (0, 0)) ∧ a' = { tmps := #[.string s, undef, .pointer (some ⟨w.heap.size, 0, none⟩), .int .i64 0, .int .u64 f, .pointer (some ⟨w.heap.size + 1, 0, none⟩), .pointer (some ⟨Bx, 0, none⟩), undef, undef, .string s, .int .i64 512, .bool false, undef, .string s, .int .u64 f, .string s, .int .u64 sq, .string s, .int .u64 cp, .int .u64 f, .bool ((f : Int) == 1), .int .u64 f, .bool ((f : Int) == 2), .string s, .int .u64 nx, .int .i64 nx, .agg #[.int .u64 sq, .int .u64 cp, .bool ((f : Int) == 1), .bool ((f : Int) == 2), .int .i64 nx, .slice none 0 0], .string s, .func (.func 118) #[] #[.pointer (some ⟨w.heap.size + 1 + 1, 0, none⟩)], entV x, undef, undef, undef, undef, undef, undef, undef, undef, undef, undef, undef, undef, undef, undef, undef, undef, undef, undef, undef, undef, undef, undef, undef, undef, undef, undef], defers := [] })
    (fun x a' _ X Y row hs hg hr => by
      obtain ⟨Bx, h3, h4⟩ := hs
      refine ⟨Bx, ?_, h4⟩
      rw [hg.block Bx (Array.getElem?_eq_some_iff.1 h3).1 (fun e => ?_)]
      · exact h3
      · obtain ⟨_, o, ho, hc⟩ := hr Bx e.symm
        rw [h3] at ho
        cases ho
        cases hc)
    ?assign ?body ?done ?stop)
  case assign =>
    rintro l pre x W K ⟨i1, i2⟩ hK
    dsimp only [encE, entV]
    gi_wp2
    refine hK _ _ ((KeepsOthers.alloc _ _).from _) ((Fr.refl _ W).alloc _) ⟨i1, i2.alloc _⟩ ⟨W.heap.size, heap_alloc_new W _, rfl⟩
  case body =>
    rintro l pre x a' W hlW ⟨r, hrr⟩ ⟨i1, i2⟩ ⟨Bx, bX, rfl⟩ hlt
    obtain ⟨v, hR, hown⟩ := i2.own
    have hsW := i2.bel.size
    have hRlt := (Array.getElem?_eq_some_iff.1 hR).1
    have r5 := blk_cell hR 5
    have z5 := blk_frozen hR 5
    have x0 := blk_cell bX 0
    have x1 := blk_cell bX 1
    have x2 := blk_cell bX 2
    have x3 := blk_cell bX 3
    simp at r5 x0 x1 x2 x3
    obtain ⟨A, c, rfl, hc, _⟩ := Rd.of_own2 hown
    by_cases h16 : pre.length ≤ 15
    · have h16i : (pre.length : Int) ≤ 15 := by omega
      have HO := Lib.hid hown
      have HR := Lib.hid hR
      have HI2 := Lib.hid i2
      have hrdx := rd_ent W x
      have HX := Lib.hid hrdx
      clear hown hR i2 hrdx bX hc
      gi_wp2_with (gi_at_builtin; refine wpListIn_append_own _ rfl (.tmp 35) (.tmp 37) 77 rfl (w.heap.size + 3) 85 i0 _ 4 24 Try.underlying77 hi0 hz0 hz1 hz2 rfl (by decide) _ pre.length (entC pre) rfl (HO.out.alloc _) ⟨W.heap.size, 0, none⟩ 1 1 (entL x) rfl rfl HX.out (by simp [entL, Value.oneCell']) (by unfold maxLen; omega) (by omega) (by simp; omega) ?_; intro v2 w2 hown2 hg2 hat2; obtain ⟨A2, c2, rfl, hc2, _⟩ := Rd.of_own2 hown2; have r52 := (Fr.of_grown hg2).get (fun e => by have := (HO.out.lt _ e.symm).1; omega) ((Fr.alloc (Fr.refl (fun _ => False) W) _).get id HR.out); have q52 := blk_cell r52 5; have z52 := blk_frozen r52 5; simp at q52)
      obtain ⟨g1, g2, g3⟩ := DIn.grow HI2.out HO.out hg2 hown2 r52
      exact ⟨g1, g2, by simp; omega, g3⟩
    · have h16i : 15 < (pre.length : Int) := by omega
      have hfin : 16 < (pre ++ [x]).length ∧ DIn w (.int .u64 sq) (.int .u64 cp) (.bool ((f : Int) == 1)) (.bool ((f : Int) == 2)) (.int .i64 nx) ((pre ++ [x]).take 16) W := by
        refine ⟨by simp; omega, ?_⟩
        have : (pre ++ [x]).take 16 = pre := by rw [List.take_append_of_le_length (by omega)]; exact List.take_of_length_le i1
        rw [this]
        exact i2
      have HFIN := Lib.hid hfin
      clear hfin hown i2 hR
      gi_wp2
      exact ⟨KeepsFrom.refl _ _, rfl, HFIN.out⟩
  case done =>
    rintro D xs W hD rfl ⟨i1, i2⟩ hK
    have e16 : (entsL s).take 16 = entsL s := List.take_of_length_le i1
    rw [← e16] at i2
    simp only [Exit.inBlock, Exit.then]
    exact htail D W (by omega) i2 hK
  case stop =>
    rintro D c pre W hD hpre ⟨rfl, i1, i2⟩ hK
    obtain ⟨t, ht⟩ := hpre
    have e16 : pre.take 16 = (entsL s).take 16 := by rw [← ht, List.take_append_of_le_length (by omega)]
    rw [e16] at i2
    have hgo := htail D W (by omega) i2 hK
    clear htail
    refine wpIn_exit ?_
    show K _ _
    exact hgo
end Go.Proofs.Ytjmfeoenbncibaa

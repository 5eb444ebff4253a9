/- Texts of this proof, joined: Dp Dq. They hold under no condition beyond what each theorem states. -/
import Derived.Test.YtjmfeoenbncibaaM18
namespace Go.Proofs.Ytjmfeoenbncibaa
open Go.RowKit Go.Nau Go.Shelf
attribute [local go_sem] Oper.semAt_some

theorem step_append_rd {P : Program} {ops : Array Oper} {o : Oper} {a : Act} {w : World} {K : Act → World → Prop} {Q : Exit → Act → World → Prop} {E : Prop} (hgd : o.guard = none) (s x : Operand) (t : TypeId)
    (ho : o.op = .call { callee := .builtin .append, args := #[s, x], argTypes := #[t, t] })
    (base : Nat) (e : TypeId) (i : TypeInfo) (z : Value) (size bytes : Nat) (ht : P.underlying t = some (.slice e)) (hi : P.info? e = some i) (hz : i.zero = some z)
    (hsize : i.size = size) (hby : i.bytes = bytes) (hzs : z.cells.size = size) (hsz : 0 < size)
    (v : Value) (n : Nat) (xs : List Value) (hs : a.eval s = v) (hown : w.ownsRow base e size v n xs)
    (T : Nat → Prop) (A : Option Addr) (m c : Nat) (news : List Value) (hx : a.eval x = .slice A m c) (hr : Rd T w size A m news) (h1 : ∀ u ∈ news, u.oneCell' = true)
    (h63 : n + m ≤ maxLen) (hbytes : (n + m) * bytes ≤ 140737488355328) (hbase : base ≤ w.heap.size)
    (h : ∀ v' w', w'.ownsRow base e size v' (n + m) (xs ++ news) → w.grownBy w' v.ownBlock → (v'.ownBlock = v.ownBlock ∨ v'.ownBlock = some w.heap.size) → K (a.put o.dst v') w') :
    if Region.wanted o (yielded ops a.tmps) = true then Oper.wp P o a w K Q else E := by
  have hw : Region.wanted o (yielded ops a.tmps) = true := by simp [Region.wanted, hgd]
  rw [if_pos hw]
  exact wp_append_rd w s x t ho base e i z size bytes ht hi hz hsize hby hzs hsz v n xs hs hown T A m c news hx hr h1 h63 hbytes hbase h

/-- A call of a Go function, as one step of a region that draws its order: by its contract. -/
theorem step_calls {P : Program} {ops : Array Oper} {o : Oper} {a : Act} {w : World} {K : Act → World → Prop} {Q : Exit → Act → World → Prop} {E : Prop} {f : FuncId} {args : Array Value} {v : Value} {R : World → Prop} (hgd : o.guard = none)
    (hrun : (execOp a.eval o).run P w = .ok (.enter f args) w) (hc : Calls P f args w fun e w' => e = .returned v ∧ R w') (h : ∀ w', R w' → K (a.put o.dst v) w') :
    if Region.wanted o (yielded ops a.tmps) = true then Oper.wp P o a w K Q else E := by
  have hw : Region.wanted o (yielded ops a.tmps) = true := by simp [Region.wanted, hgd]
  rw [if_pos hw]
  unfold Oper.wp
  rw [hrun]
  refine Calls.mono hc ?_
  rintro e w' ⟨rfl, hr⟩
  exact h w' hr

/-- The values of a new row of one text. -/
theorem rd_new1 (W : World) (x : ByteArray) : Rd (fun _ => True) (W.alloc (.cells #[.string x] 9)) 1 (some ⟨W.heap.size, 0, none⟩) 1 [.string x] := by
  refine ⟨rfl, fun _ => ⟨_, rfl, trivial, fun j u hu => ?_⟩⟩
  have hj : j = 0 := by have := (List.getElem?_eq_some_iff.1 hu).1; simpa using this
  subst hj
  have hnew := heap_alloc_new W (.cells #[.string x] 9)
  have : (⟨W.heap.size, 0, none⟩ : Addr).add 0 = ⟨W.heap.size, 0, none⟩ := by unfold Addr.add; split <;> simp_all
  rw [this, cell_of_row _ W.heap.size 0 _ _ _ hnew]
  simpa using hu

def blocksL (l : List ByteArray) : List ByteArray := l.map blockS
def freshDS (l : List ByteArray) : DS := ⟨l, l, [], 0, -1, false⟩

theorem rof_size (A : Option Addr) (n c : Nat) (w : World) (h : sizeB n = false) (hn : (n : Int) ≤ 9223372036854775807) :
    Calls Try.prog 21 #[.slice A n c] w fun e w' => e = .returned (.tuple #[.pointer none, .int .i64 40]) ∧ w = w' := by
  go_enter Try.func21, Try.ntmps21
  go_wp2_with fail
  refine (rsize_any _ _ (by omega)).mono ?_
  rintro e w1 ⟨rfl, rfl⟩
  rw [h]
  go_wp2_with fail
  go_ret2
  exact ⟨rfl, rfl⟩

def OfRel (w0 : World) (l : List ByteArray) (k : Nat) (i : Value) (wr : World) : Prop :=
  ∃ (q : Nat) (B : Value), k = l.length - q ∧ i = .int .i64 q ∧ q ≤ l.length ∧ (∀ x ∈ l.take q, x.size ≤ 512) ∧
    wr.heap[w0.heap.size]? = some (.cells #[B, .slice none 0 0, .int .i64 0, .int .i64 (-1), .bool false] 70 (0, 0)) ∧ wr.ownsRow (w0.heap.size + 1) 9 1 B q (strs (blocksL (l.take q))) ∧ Below w0.heap.size w0 wr

def OfPostR (w : World) (l : List ByteArray) (e : Ending) (w' : World) : Prop :=
  ((∀ x ∈ l, x.size ≤ 512) ∧ (∃ r, e = .returned (.tuple #[.pointer (some ⟨r, 0, none⟩), .int .i64 0]) ∧ RDsk w' (fun k => w.heap.size ≤ k ∧ k < w'.heap.size) r (freshDS (blocksL l))) ∧ Below w.heap.size w w') ∨
  ((∃ x ∈ l, 512 < x.size) ∧ e = .returned (.tuple #[.pointer none, .int .i64 40]) ∧ Below w.heap.size w w')

set_option maxHeartbeats 2000000 in
set_option maxRecDepth 100000 in
theorem rof_any (A : Option Addr) (c : Nat) (l : List ByteArray) (w : World) (hr : Rd (· < w.heap.size) w 1 A l.length (strs l)) (hsb : sizeB l.length = true) :
    Calls Try.prog 21 #[.slice A l.length c] w (OfPostR w l) := by
  obtain ⟨i0, hi, hz0, hz1, hz2⟩ := info_parts infoS
  have hb : 128 ≤ l.length ∧ l.length ≤ 4096 := by
    unfold sizeB at hsb
    simp at hsb
    omega
  have hli : (l.length : Int) ≤ 4096 := by omega
  have hsz := rsize_any l.length w (by omega)
  rw [hsb] at hsz
  have HS := Lib.hid hsz
  clear hsz
  have HR := Lib.hid hr
  clear hr
  go_enter Try.func21, Try.ntmps21
  go_wp2_with fail
  refine HS.out.mono ?_
  rintro e w1 ⟨rfl, rfl⟩
  have hnew := heap_alloc_new w (.cells #[.slice none 0 0, .slice none 0 0, .int .i64 0, .int .i64 (-1), .bool false] 70)
  have HN := Lib.hid hnew
  clear hnew
  go_wp2_with fail
  go_loopg [5] l.length (OfRel w l)
  case atStart =>
    refine ⟨0, .slice none 0 0, rfl, rfl, Nat.zero_le _, by simp, HN.out, ⟨by simp [blocksL], .inl ⟨rfl, rfl⟩⟩, (Below.refl _ w).alloc (Nat.le_refl _) _⟩
  case round =>
    obtain ⟨q, B, rfl, rfl, hq, hle, hd, hown, hbw⟩ := hrel
    clear HN
    have d0 := blk_cell hd 0
    have z0 := blk_frozen hd 0
    simp at d0
    by_cases hlt : q < l.length
    · have hqi : (q : Int) < (l.length : Int) := by omega
      obtain ⟨ad, rfl, hadb, hcell⟩ := (HR.out.kept (Fr.of_below hbw) (fun k hk => by omega)).2 (by omega)
      obtain ⟨x, hx⟩ : ∃ x, l[q]? = some x := ⟨_, List.getElem?_eq_getElem hlt⟩
      have e0 := hcell _ _ (strs_at hx)
      by_cases hxs : x.size ≤ 512
      · have hxi : (x.size : Int) ≤ 512 := by omega
        have hbk := fun W => rblock_any x hxs W
        have HBK := Lib.hid hbk
        have hbz := blockS_size x hxs
        have hdlt := (Array.getElem?_eq_some_iff.1 hd).1
        have hwz := hbw.size
        have hadl : ad.block < wr.heap.size := by omega
        have hBne : ∀ k, k ≤ w.heap.size → ¬ (some k = B.ownBlock) := fun k hk e => by have := (hown.lt k e.symm).1; omega
        have HOW := Lib.hid hown
        have HD := Lib.hid hd
        have hsn : l.take (q + 1) = l.take q ++ [x] := by rw [List.take_add_one, hx]; rfl
        have HSN := Lib.hid hsn
        have HLE := Lib.hid hle
        clear hbk hcell hx hown hd hsn hle
        generalize hbq : blockS x = bq at *
        go_wp2_with fail
        go_region_law ((first
          | (refine step_append_rd rfl (.tmp 28) (.tmp 34) 43 rfl (w.heap.size + 1) 9 i0 _ 1 16 Try.underlying43 hi hz0 hz1 hz2 rfl (by decide) B q (strs (blocksL (l.take q))) rfl ((Fr.own HOW.out ((Fr.refl (fun _ => False) wr).drew.trans (Fr.new hb2 (fun _ => False))) (fun _ _ => id)).alloc _) _ (some ⟨w2.heap.size, 0, none⟩) 1 1 [.string bq] rfl (rd_new1 w2 bq) (by simp [Value.oneCell']) (by unfold maxLen; omega) (by omega) (by have := hb2.size; simp at this; simp; omega) ?_; intro v3 w3 hown3 hg3 hat3; obtain ⟨vg, vc, cur3, rfl, _⟩ := own_form hown3 (by omega); have S3 : w3.cell? (ad.add q) = some (.string x) := (Fr.of_grown hg3).cell (hBne _ (by rw [add_block]; omega)) (S2' _); have hd3 := (Fr.of_grown hg3).get (hBne _ (Nat.le_refl _)) ((Fr.alloc (Fr.refl (fun _ => False) w2) _).get id ((hb2.block w.heap.size (by simpa using hdlt)).trans HD.out)); have D3 : w3.cell? ⟨w.heap.size, 0, none⟩ = some B := (by have := blk_cell hd3 0; simpa using this); have Z3 := blk_frozen hd3 0)
          | (refine step_calls (f := 55) (args := #[.string x]) rfl (by go_simp) (HBK.out _) ?_; intro w2 hb2; have D2 := (hb2.cell (p := ⟨w.heap.size, 0, none⟩) (by simpa using hdlt)).trans d0; have S2 := (hb2.cell (p := ad.add q) (by rw [add_block]; simpa using hadl)).trans e0; have D2' := fun o => (Fr.alloc (Fr.refl (fun _ => False) w2) o).cell id D2; have S2' := fun o => (Fr.alloc (Fr.refl (fun _ => False) w2) o).cell id S2)))
        all_goals
          have hs2 : wr.heap.size ≤ w2.heap.size := hb2.size
          have hvg := (hown3.lt vg rfl).1
          have hw2 : Below w.heap.size w (w2.alloc (.cells #[.string bq] 9)) := (hbw.drew.trans (hb2.mono (by simpa using hwz))).alloc (by omega) _
          have hw3 : Below w.heap.size w w3 := hw2.trans ((Fr.of_grown hg3).below (by simp; omega) (fun k hk => by
            have := (HOW.out.lt k hk.symm).1
            omega))
          have hfin : (w3.setCell ⟨w.heap.size, 0, none⟩ (.slice (some ⟨vg, 0, none⟩) (q + 1) vc)).ownsRow (w.heap.size + 1) 9 1 (.slice (some ⟨vg, 0, none⟩) (q + 1) vc) (q + 1) (strs (blocksL (l.take (q + 1)))) := by
            rw [HSN.out]
            have : strs (blocksL (l.take q ++ [x])) = strs (blocksL (l.take q)) ++ [.string bq] := by simp [strs, blocksL, hbq]
            rw [this]
            exact Fr.own hown3 (Fr.set1 _ _ _ _) (fun k hk e => by have e1 : vg = k := (by simpa [Value.ownBlock] using hk); omega)
          have hfin2 : ∀ y ∈ l.take (q + 1), y.size ≤ 512 := by
            rw [HSN.out]
            intro y hy
            rcases List.mem_append.1 hy with h | h
            · exact HLE.out y h
            · have : y = x := by simpa using h
              rw [this]; exact hxs
          have hfin3 := blk_set hd3 0 (.slice (some ⟨vg, 0, none⟩) (q + 1) vc)
          have hfin4 : Below w.heap.size w (w3.setCell ⟨w.heap.size, 0, none⟩ (.slice (some ⟨vg, 0, none⟩) (q + 1) vc)) := hw3.setCell (Nat.le_refl _) _
          have HF := Lib.hid hfin
          have HF2 := Lib.hid hfin2
          have HF3 := Lib.hid hfin3
          clear hfin hfin2 hfin3 hown3 hd3 hg3 hat3
          go_wp2_with fail
          go_roundg (l.length - (q + 1))
          case measure => omega
          case rel => exact ⟨q + 1, _, rfl, by simp, by omega, HF2.out, HF3.out, HF.out, hfin4⟩
      · have hxi : 512 < (x.size : Int) := by omega
        have hex : ∃ x ∈ l, 512 < x.size := ⟨x, List.mem_of_getElem? hx, by omega⟩
        clear hcell hx
        go_wp2_with fail
        go_ret2
        exact .inr ⟨hex, rfl, hbw⟩
    · obtain rfl : q = l.length := by omega
      rw [List.take_length] at hown hle
      have hlen : (blocksL l).length = l.length := by simp [blocksL]
      obtain ⟨bb, bc, cur, rfl, hbb, _⟩ := own_form hown (by omega)
      have hbl := (hown.lt bb rfl).2
      have hdl := (Array.getElem?_eq_some_iff.1 hd).1
      have hfin : RDsk wr (fun k => w.heap.size ≤ k ∧ k < wr.heap.size) w.heap.size (freshDS (blocksL l)) := by
        refine ⟨bb, bc, .slice none 0 0, ?_, ?_, World.ownsRow_nil _ _ _ _, ⟨Nat.le_refl _, hdl⟩, ⟨by omega, hbl⟩, by simp [Value.ownBlock], ?_⟩
        · show _ = some (Obj.cells (rcells (blocksL l).length bb bc (.slice none 0 0) 0 (-1) false) 70 (0, 0))
          rw [hlen]
          exact hd
        · show World.ownsRow _ 0 9 1 (.slice (some ⟨bb, 0, none⟩) (blocksL l).length bc) (blocksL l).length (strs (blocksL l))
          rw [hlen]
          exact own_base hown (Nat.zero_le _)
        · show 0 < (blocksL l).length
          omega
      have HF := Lib.hid hfin
      clear hfin hown hd d0 z0
      go_wp2_with fail
      go_ret2
      exact .inl ⟨hle, ⟨_, rfl, HF.out⟩, hbw⟩
end Go.Proofs.Ytjmfeoenbncibaa
namespace Go.Proofs.Ytjmfeoenbncibaa
open Go.RowKit Go.Nau Go.Shelf
attribute [local go_sem] Oper.semAt_some

theorem blockS_empty : blockS ⟨#[]⟩ = zero := by
  unfold blockS
  rw [zero_eq]
  show (⟨#[]⟩ : ByteArray) ++ zeroN 512 = zeroN 512
  exact ByteArray.empty_append
theorem blocksL_empty (n : Nat) : blocksL (List.replicate n ⟨#[]⟩) = List.replicate n zero := by
  simp [blocksL, blockS_empty]

set_option maxHeartbeats 400000 in
theorem rnew_bad (n : Int) (w : World) (hi : -9223372036854775808 ≤ n ∧ n ≤ 9223372036854775807) (h : sizeB n = false) :
    Calls Try.prog 28 #[.int .i64 n] w fun e w' => e = .returned (.tuple #[.pointer none, .int .i64 40]) ∧ w = w' := by
  go_enter Try.func28, Try.ntmps28
  go_wp2_with fail
  refine (rsize_any _ _ hi).mono ?_
  rintro e w1 ⟨rfl, rfl⟩
  rw [h]
  go_wp2_with fail
  go_ret2
  exact ⟨rfl, rfl⟩

def RNewPost (w : World) (n : Nat) (e : Ending) (w' : World) : Prop :=
  ∃ r, e = .returned (.tuple #[.pointer (some ⟨r, 0, none⟩), .int .i64 0]) ∧ RDsk w' (fun k => w.heap.size ≤ k ∧ k < w'.heap.size) r (freshDS (List.replicate n zero)) ∧ Below w.heap.size w w'

set_option maxHeartbeats 400000 in
theorem rnew_ok (n : Nat) (w : World) (h : sizeB n = true) :
    Calls Try.prog 28 #[.int .i64 n] w (RNewPost w n) := by
  obtain ⟨i0, hi, hz0, hz1, hz2⟩ := info_parts infoS
  have hb : 128 ≤ n ∧ n ≤ 4096 := by
    unfold sizeB at h
    simp at h
    omega
  have hS := rsize_any n w (by omega)
  rw [h] at hS
  have HS := Lib.hid hS
  clear hS
  go_enter Try.func28, Try.ntmps28
  go_wp2_with fail
  refine HS.out.mono ?_
  rintro e w1 ⟨rfl, rfl⟩
  go_wp2_with (at_make; refine wpList_make_full _ rfl _ _ 43 rfl w.heap.size 9 i0 (.string ⟨#[]⟩) 1 Try.underlying43 hi hz0 hz1 _ _ _ _ n rfl rfl rfl rfl (by rw [hz2]; omega) (by unfold maxLen; omega) (Nat.le_refl _) ?_; intro w2 hown2 hg2; have hb2 : Below w.heap.size w w2 := (Below.refl _ _).grown hg2 (Nat.le_refl _) (by simp))
  have hh := made_filled (s := ⟨#[]⟩) hown2 (by omega)
  have hf : filled ⟨#[]⟩ n 0 = strs (List.replicate n ⟨#[]⟩) := by simp [filled, strs]
  have hlt := (Array.getElem?_eq_some_iff.1 hh).1
  have hrd : Rd (· < w2.heap.size) w2 1 (some ⟨w.heap.size, 0, none⟩) (List.replicate n (⟨#[]⟩ : ByteArray)).length (strs (List.replicate n ⟨#[]⟩)) := by
    refine ⟨by simp, fun _ => ⟨_, rfl, hlt, fun j u hu => ?_⟩⟩
    have : (⟨w.heap.size, 0, none⟩ : Addr).add j = ⟨w.heap.size, j, none⟩ := by unfold Addr.add; split <;> simp_all
    rw [this, cell_of_row w2 w.heap.size j _ _ _ hh, hf, List.getElem?_toArray]
    exact hu
  have hlen : (List.replicate n (⟨#[]⟩ : ByteArray)).length = n := by simp
  have hof := rof_any (some ⟨w.heap.size, 0, none⟩) n (List.replicate n ⟨#[]⟩) w2 hrd (by rw [hlen]; exact h)
  rw [hlen] at hof
  have HO := Lib.hid hof
  clear hof hrd hh hown2 hg2
  go_wp2_with fail
  refine HO.out.mono ?_
  rintro e w3 (⟨_, ⟨r, rfl, hD⟩, hb3⟩ | ⟨⟨x, hx, hxs⟩, _⟩)
  · rw [blocksL_empty] at hD
    go_wp2_with fail
    go_ret2
    have hs2 := hb2.size
    exact ⟨r, rfl, hD.monoF (fun k hk h => ⟨by omega, h.2⟩), hb2.trans (hb3.mono hs2)⟩
  · exfalso
    have := List.eq_of_mem_replicate hx
    rw [this] at hxs
    exact absurd hxs (by decide)

theorem dof_size (A : Option Addr) (n c : Nat) (w : World) (h : sizeB n = false) (hn : (n : Int) ≤ 9223372036854775807) :
    Calls Try.prog 20 #[.slice A n c] w fun e w' => e = .returned (.tuple #[.pointer none, .int .i64 40]) ∧ w = w' := by
  go_enter Try.func20, Try.ntmps20
  go_wp2_with fail
  refine (issize_any _ _ (by omega)).mono ?_
  rintro e w1 ⟨rfl, rfl⟩
  rw [h]
  go_wp2_with fail
  go_ret2
  exact ⟨rfl, rfl⟩

def DOfRel (w0 : World) (l : List ByteArray) (k : Nat) (v i : Value) (wr : World) : Prop :=
  ∃ q : Nat, k = l.length - q ∧ i = .int .i64 q ∧ q ≤ l.length ∧ (∀ x ∈ l.take q, x.size ≤ 512) ∧ wr.ownsRow w0.heap.size 9 1 v q (strs (blocksL (l.take q))) ∧ Below w0.heap.size w0 wr

def DOfPost (w : World) (l : List ByteArray) (e : Ending) (w' : World) : Prop :=
  ((∀ x ∈ l, x.size ≤ 512) ∧ (∃ d, e = .returned (.tuple #[.pointer (some ⟨d, 0, none⟩), .int .i64 0]) ∧ Dsk w' (fun k => w.heap.size ≤ k ∧ k < w'.heap.size) d (freshDS (blocksL l))) ∧ Below w.heap.size w w') ∨
  ((∃ x ∈ l, 512 < x.size) ∧ e = .returned (.tuple #[.pointer none, .int .i64 40]) ∧ Below w.heap.size w w')

set_option maxHeartbeats 2000000 in
set_option maxRecDepth 100000 in
theorem dof_any (A : Option Addr) (c : Nat) (l : List ByteArray) (w : World) (hr : Rd (· < w.heap.size) w 1 A l.length (strs l)) (hsb : sizeB l.length = true) :
    Calls Try.prog 20 #[.slice A l.length c] w (DOfPost w l) := by
  obtain ⟨i0, hi, hz0, hz1, hz2⟩ := info_parts infoS
  have hb : 128 ≤ l.length ∧ l.length ≤ 4096 := by
    unfold sizeB at hsb
    simp at hsb
    omega
  have hli : (l.length : Int) ≤ 4096 := by omega
  have hsz := issize_any l.length w (by omega)
  rw [hsb] at hsz
  have HS := Lib.hid hsz
  clear hsz
  have HR := Lib.hid hr
  clear hr
  go_enter Try.func20, Try.ntmps20
  go_wp2_with fail
  refine HS.out.mono ?_
  rintro e w1 ⟨rfl, rfl⟩
  go_wp2_with fail
  go_loopg [4, 13] l.length (DOfRel w l)
  case atStart => exact ⟨0, rfl, rfl, Nat.zero_le _, by simp, ⟨by simp [blocksL], .inl ⟨rfl, rfl⟩⟩, Below.refl _ _⟩
  case round =>
    obtain ⟨q, rfl, rfl, hq, hle, hown, hbw⟩ := hrel
    by_cases hlt : q < l.length
    · have hqi : (q : Int) < (l.length : Int) := by omega
      obtain ⟨ad, rfl, hadb, hcell⟩ := (HR.out.kept (Fr.of_below hbw) (fun k hk => by omega)).2 (by omega)
      obtain ⟨x, hx⟩ : ∃ x, l[q]? = some x := ⟨_, List.getElem?_eq_getElem hlt⟩
      have e0 := hcell _ _ (strs_at hx)
      have hwz := hbw.size
      by_cases hxs : x.size ≤ 512
      · have hxi : (x.size : Int) ≤ 512 := by omega
        obtain ⟨m, hm⟩ : ∃ m, m = 512 - x.size := ⟨_, rfl⟩
        have hmi : (512 : Int) - (x.size : Int) = (m : Int) := by omega
        have hrep : ∀ W, Calls Try.prog 41 #[.string ⟨#[0]⟩, .int .i64 m] W fun e w' => e = .returned (.string (zeroN m)) ∧ Below W.heap.size W w' := fun W => by
          rw [← repeat_zero]
          exact Try.strings_Repeat ⟨#[0]⟩ m W (by omega) (by show 1 * m ≤ _; omega)
        have hbq : blockS x = x ++ zeroN m := by rw [hm]; rfl
        have hzm := zeroN_size m
        have hsn : l.take (q + 1) = l.take q ++ [x] := by rw [List.take_add_one, hx]; rfl
        have hnx : strs (blocksL (l.take (q + 1))) = strs (blocksL (l.take q)) ++ [.string (x ++ zeroN m)] := by rw [hsn]; simp [strs, blocksL, hbq]
        have hfin2 : ∀ y ∈ l.take (q + 1), y.size ≤ 512 := by
          rw [hsn]
          intro y hy
          rcases List.mem_append.1 hy with h | h
          · exact hle y h
          · have : y = x := by simpa using h
            rw [this]; exact hxs
        have HREP := Lib.hid hrep
        have HNX := Lib.hid hnx
        have HF2 := Lib.hid hfin2
        have HO := Lib.hid hown
        have hn6 : ¬ 9223372036854775807 < x.size + (zeroN m).size := by omega
        have hm5 : m ≤ 512 := by omega
        clear hrep hnx hfin2 hsn hbq hle hown hcell hx hzm hm
        generalize zeroN m = zm at *
        go_wp2_with fail
        refine (HREP.out _).mono ?_
        rintro e w2 ⟨rfl, hb2⟩
        have hs2 := hb2.size
        have hown2 := Fr.own HO.out (Fr.new hb2 (fun _ => False)) (fun _ _ => id)
        go_wp2_with (at_builtin; refine wpList_append_rd _ rfl (.tmp 20) (.tmp 27) 43 rfl w.heap.size 9 i0 _ 1 16 Try.underlying43 hi hz0 hz1 hz2 rfl (by decide) _ q (strs (blocksL (l.take q))) rfl (hown2.alloc _) _ (some ⟨w2.heap.size, 0, none⟩) 1 1 [.string (x ++ zm)] rfl (rd_new1 w2 (x ++ zm)) (by simp [Value.oneCell']) (by unfold maxLen; omega) (by omega) (by simp; omega) ?_; intro v3 w3 hown3 hg3 hat3)
        have hb3 : Below w.heap.size w w3 := ((hbw.trans (hb2.mono hwz)).alloc (by omega) _).trans ((Fr.of_grown hg3).below (by simp; omega) (fun k hk => (hown2.lt k hk.symm).1))
        rw [← HNX.out] at hown3
        have HO3 := Lib.hid hown3
        clear hown3 hg3 hat3 hown2
        go_roundg (l.length - (q + 1))
        case measure => omega
        case rel => exact ⟨q + 1, rfl, by simp, by omega, HF2.out, HO3.out, hb3⟩
      · have hxi : 512 < (x.size : Int) := by omega
        have hex : ∃ x ∈ l, 512 < x.size := ⟨x, List.mem_of_getElem? hx, by omega⟩
        clear hcell hx
        go_wp2_with fail
        go_ret2
        exact .inr ⟨hex, rfl, hbw⟩
    · obtain rfl : q = l.length := by omega
      rw [List.take_length] at hown hle
      have hlen : (blocksL l).length = l.length := by simp [blocksL]
      obtain ⟨bb, bc, cur, rfl, hbb, _⟩ := own_form hown (by omega)
      have hof := of_any bb bc (blocksL l) wr (by rw [hlen]; exact own_base hown (Nat.zero_le _)) (by omega) (by omega)
      rw [hlen] at hof
      have hbl := (hown.lt bb rfl).2
      have hwz := hbw.size
      have HO := Lib.hid hof
      clear hof hown
      go_wp2_with fail
      refine HO.out.mono ?_
      rintro e w2 ⟨d, rfl, hD, hd, hb2⟩
      have hs2 := hb2.size
      go_wp2_with fail
      go_ret2
      exact .inl ⟨hle, ⟨d, rfl, hD.monoF (fun k hk h => by rcases h with h | h <;> omega)⟩, hbw.trans (hb2.mono hwz)⟩
end Go.Proofs.Ytjmfeoenbncibaa

/- Texts of this proof, joined: Rl Rs Rm. They hold under no condition beyond what each theorem states. -/
import Derived.Test.YtjmfeoenbncibaaM11
import Derived.Test.YtjmfeoenbncibaaM12
import Derived.Test.YtjmfeoenbncibaaM02
import Derived.Deep.RegionLaw
namespace Go.Proofs.Ytjmfeoenbncibaa
open Go.RowKit Go.Nau Go.Shelf
attribute [local go_sem] Oper.semAt_some

def sec256 (r : Rec) : ByteArray := strL (secL r) ++ zeroN (256 - (secL r).length)
def bytesI (n wd : Int) : ByteArray := bytesS n.toNat wd.toNat
theorem rbytesI (n wd : Int) (h0 : 0 ≤ n) (h1 : n < 18446744073709551616) (h2 : 0 ≤ wd) (h3 : wd ≤ 1000) (w : World) :
    Calls Try.prog 115 #[.int .u64 n, .int .i64 wd] w fun e w' => e = .returned (.string (bytesI n wd)) ∧ Below w.heap.size w w' := by
  have := rbytes_any n.toNat wd.toNat (by omega) (by omega) w
  rw [Int.toNat_of_nonneg h0, Int.toNat_of_nonneg h2] at this
  exact this

theorem bytesI_size (n wd : Int) : (bytesI n wd).size = wd.toNat := bytesS_size _ _
theorem strL_append (a b : List UInt8) : strL a ++ strL b = strL (a ++ b) := by
  apply ByteArray.ext
  simp [strL]
theorem bytesI_eq (n k : Nat) (wd : Int) (h : wd = k) : bytesI n wd = strL (bytesL n k) := by
  subst h
  rfl
theorem headS (r : Rec) : ((((strL [82] ++ bytesI r.seq 6) ++ bytesI r.cp 6) ++ bytesI (flagN r : Nat) 1) ++ bytesI (r.next.toNat : Nat) 2) ++ bytesI (r.l.length : Nat) 1 = strL (headBy r) := by
  rw [bytesI_eq r.seq 6 6 rfl, bytesI_eq r.cp 6 6 rfl, bytesI_eq _ 1 1 rfl, bytesI_eq _ 2 2 rfl, bytesI_eq _ 1 1 rfl]
  simp only [strL_append]
  rfl
theorem entS (a : List UInt8) (x : Ent) : (((strL a ++ bytesI (x.kind.toNat : Nat) 1) ++ bytesI (x.file : Nat) 4) ++ bytesI (x.idx : Nat) 4) ++ bytesI (x.vbn : Nat) 4 = strL (a ++ entBy x) := by
  rw [bytesI_eq _ 1 1 rfl, bytesI_eq _ 4 4 rfl, bytesI_eq _ 4 4 rfl, bytesI_eq _ 4 4 rfl]
  simp only [strL_append, entBy, List.append_assoc]

def SecRel (w0 : World) (r : Rec) (A : Option Addr) (c : Nat) (k : Nat) (b i : Value) (wr : World) : Prop :=
  ∃ q : Nat, k = r.l.length - q ∧ i = .int .i64 q ∧ q ≤ r.l.length ∧ b = .string (strL (headBy r ++ (r.l.take q).flatMap entBy)) ∧
    wr.heap[w0.heap.size]? = some (.cells #[.int .u64 r.seq, .int .u64 r.cp, .bool r.ends, .bool r.sync, .int .i64 r.next, .slice A r.l.length c] 79 (0, 0)) ∧ Below w0.heap.size w0 wr

set_option maxHeartbeats 4000000 in
set_option maxRecDepth 100000 in
theorem rsector_any (r : Rec) (hwf : r.wf) (hrt : rightB r = true) (A : Option Addr) (c : Nat) (w : World) (hr : Rd (· < w.heap.size) w 4 A r.l.length (entC r.l)) :
    Calls Try.prog 102 #[recV r A c] w fun e w' => e = .returned (.string (sec256 r)) ∧ Below w.heap.size w w' := by
  obtain ⟨i0, hi, hz0, hz1, hz2⟩ := info_parts infoB
  have hcz : ∀ {W W' : World} {n : Nat}, W'.ownsRow W.heap.size 5 1 (.slice (some ⟨W.heap.size, 0, none⟩) n n) n (madeCells (Value.int .u8 0).cells (n * 1)).toList → (convert 128 9 (.slice (some ⟨W.heap.size, 0, none⟩) n n)).run Try.prog W' = .ok (.string (zeroN n)) W' := fun h => conv_made h
  obtain ⟨f1, f2, f3, f4, f5, f6, f7, f8, f9, f10⟩ := right_facts hrt
  have f8' : (r.l.length : Int) ≤ 15 := by omega
  have f2' : (r.seq : Int) < 281474976710656 := by omega
  have f4' : (r.cp : Int) < 281474976710656 := by omega
  have hh := headS r
  rw [Int.toNat_of_nonneg f5] at hh
  have HH := Lib.hid hh
  have F10 := Lib.hid f10
  have HR := Lib.hid hr
  have HRT := Lib.hid hrt
  have hbox := heap_alloc_new w (.cells #[.int .u64 r.seq, .int .u64 r.cp, .bool r.ends, .bool r.sync, .int .i64 r.next, .slice A r.l.length c] 79)
  have HB := Lib.hid hbox
  clear hh f10 hr hrt hbox
  unfold recV
  obtain ⟨en, hen⟩ : ∃ en, en = r.ends := ⟨_, rfl⟩
  obtain ⟨sy, hsy⟩ : ∃ sy, sy = r.sync := ⟨_, rfl⟩
  have hfl : flagN r = if en then 1 else if sy then 2 else 0 := by rw [hen, hsy]; rfl
  rw [← hen, ← hsy] at f9 HB ⊢
  have HEN := Lib.hid hen
  have HSY := Lib.hid hsy
  have HFL := Lib.hid hfl
  clear hen hsy hfl
  rcases en with _ | _ <;> rcases sy with _ | _
  case true.true => exact absurd ⟨rfl, rfl⟩ f9
  all_goals
    clear f9
    go_enter Try.func102, Try.ntmps102
    go_wp2_with fail
    generalize hW1 : w.alloc _ = W1 at HB ⊢
    have hb1 : Below w.heap.size w W1 := by rw [← hW1]; exact (Below.refl _ w).alloc (Nat.le_refl _) _
    have cc : ∀ i u, (#[Value.int .u64 r.seq, .int .u64 r.cp, .bool _, .bool _, .int .i64 r.next, .slice A r.l.length c] : Array Value)[i]? = some u → ∀ d os, (Go.Sort.grow (redrawn W1 d) os).cell? ⟨w.heap.size, i, none⟩ = some u := fun i u hu d os => cell_regrown ((blk_cell HB.out i).trans hu) d os
    have c0 := cc 0 _ rfl
    have c1 := cc 1 _ rfl
    have c4 := cc 4 _ rfl
    have c5 := cc 5 _ rfl
    have hcb : ∀ (n wd : Int) (d : Nat) (os : Array Obj), 0 ≤ n → n < 18446744073709551616 → 0 ≤ wd → wd ≤ 1000 → Calls Try.prog 115 #[.int .u64 n, .int .i64 wd] (Go.Sort.grow (redrawn W1 d) os) fun e w'' => e = .returned (.string (bytesI n wd)) ∧ ∃ p : Regrown, w'' = Go.Sort.grow (redrawn W1 p.d) p.os := fun n wd d os h1 h2 h3 h4 => Calls.regrown_of (rbytesI n wd h1 h2 h3 h4 _)
    have z1 : ∀ n, (bytesI n 1).size = 1 := fun n => bytesI_size n 1
    have z2 : ∀ n, (bytesI n 2).size = 2 := fun n => bytesI_size n 2
    have z6 : ∀ n, (bytesI n 6).size = 6 := fun n => bytesI_size n 6
    have HCB := Lib.hid hcb
    clear hcb cc
    refine wp_region_quiet_below (by kernel_rfl) (by kernel_rfl) ?_
    repeat (go_big_quiet_step (exact HCB.out _ _ _ _ (by omega) (by omega) (by omega) (by omega)))
    refine wpQuiet_nil ?_
    intro _ hw'
    obtain ⟨⟨dq, osq⟩, hw''⟩ := hw'
    subst hw''
    generalize hW2 : Go.Sort.grow _ _ = W2
    have hb2 : Below W1.heap.size W1 W2 := by rw [← hW2]; exact below_regrown W1 dq osq
    have hx2 := (hb2.block w.heap.size (Array.getElem?_eq_some_iff.1 HB.out).1).trans HB.out
    have hbw2 : Below w.heap.size w W2 := hb1.trans (hb2.mono hb1.size)
    have hh := HH.out
    rw [HFL.out] at hh
    have hh2 : ∃ s, s = strL (headBy r) := ⟨_, rfl⟩
    obtain ⟨s0, hs0⟩ := hh2
    rw [← hs0] at hh
    simp only [Bool.false_eq_true, if_false, if_true] at hh
    change ((((⟨#[82]⟩ : ByteArray) ++ bytesI _ _) ++ bytesI _ _ ++ bytesI _ _) ++ bytesI _ _) ++ bytesI _ _ = s0 at hh
    first | rw [hh] | (rw [show ((0 : Nat) : Int) = 0 from rfl] at hh; rw [hh]) | (rw [show ((1 : Nat) : Int) = 1 from rfl] at hh; rw [hh]) | (rw [show ((2 : Nat) : Int) = 2 from rfl] at hh; rw [hh])
    have HS0 := Lib.hid hs0
    have HX2 := Lib.hid hx2
    clear hh hs0 hx2 hb2 hW2 hW1 c0 c1 c4 c5 HCB hb1 z1 z2 z6 HB
    go_wp2_with fail
    go_loopg [4, 5] r.l.length (SecRel w r A c)
    case atStart =>
      refine ⟨0, rfl, rfl, Nat.zero_le _, by rw [HS0.out]; simp, ?_, hbw2⟩
      rw [← HEN.out, ← HSY.out]
      exact HX2.out
    case round =>
      obtain ⟨q, rfl, rfl, hq, rfl, hx, hbw⟩ := hrel
      clear hbw2 HS0 HX2
      have d5 := blk_cell hx 5
      simp at d5
      have hwz := hbw.size
      have hxl := (Array.getElem?_eq_some_iff.1 hx).1
      by_cases hlt : q < r.l.length
      · have hqi : (q : Int) < (r.l.length : Int) := by omega
        obtain ⟨x, hxq⟩ : ∃ x, r.l[q]? = some x := ⟨_, List.getElem?_eq_getElem hlt⟩
        obtain ⟨ad, rfl, e0, e1, e2, e3⟩ := ent_cells (HR.out.kept (Fr.of_below hbw) (fun k hk => by omega)) q x hxq hlt
        have hk := elem_kind (F10.out q x hxq)
        have hk1 := hk.1
        have hk2 := hk.2
        have hxw := hwf.l x (List.mem_of_getElem? hxq)
        have g1 : (x.file : Int) < 4294967296 := by have := hxw.file; omega
        have g2 : (x.idx : Int) < 4294967296 := by have := hxw.idx; omega
        have g3 : (x.vbn : Int) < 4294967296 := by have := hxw.vbn; omega
        have hes := entS (headBy r ++ (r.l.take q).flatMap entBy) x
        rw [List.append_assoc, ← take_flat hxq, Int.toNat_of_nonneg (by omega)] at hes
        have hsz : (strL (headBy r ++ (r.l.take q).flatMap entBy)).size ≤ 212 := by
          rw [strL_size, List.length_append, headBy_length, ents_length, List.length_take]
          omega
        have HES := Lib.hid hes
        have HX := Lib.hid hx
        clear hes hx hk hxw hxq
        generalize strL (headBy r ++ (r.l.take q).flatMap entBy) = s0 at *
        obtain ⟨W1, hW1⟩ : ∃ W1, W1 = wr.alloc (.cells #[.int .i64 x.kind, .int .u32 x.file, .int .u32 x.idx, .int .u32 x.vbn] 85) := ⟨_, rfl⟩
        have hxb : W1.heap[wr.heap.size]? = some (.cells #[.int .i64 x.kind, .int .u32 x.file, .int .u32 x.idx, .int .u32 x.vbn] 85 (0, 0)) := by rw [hW1]; exact heap_alloc_new wr _
        have hxr := old_alloc HX.out (.cells #[.int .i64 x.kind, .int .u32 x.file, .int .u32 x.idx, .int .u32 x.vbn] 85)
        rw [← hW1] at hxr
        have hbw1 : Below w.heap.size w W1 := by rw [hW1]; exact hbw.alloc hbw.size _
        have HW1 := Lib.hid hW1
        have HXR := Lib.hid hxr
        clear hW1 hxr HX
        go_wp2_with fail
        rw [← HW1.out]
        clear d5 e0 e1 e2 e3
        have cc : ∀ i u, (#[Value.int .i64 x.kind, .int .u32 x.file, .int .u32 x.idx, .int .u32 x.vbn] : Array Value)[i]? = some u → ∀ d os, (Go.Sort.grow (redrawn W1 d) os).cell? ⟨wr.heap.size, i, none⟩ = some u := fun i u hu d os => cell_regrown ((blk_cell hxb i).trans hu) d os
        have c0 := cc 0 _ rfl
        have c1 := cc 1 _ rfl
        have c2 := cc 2 _ rfl
        have c3 := cc 3 _ rfl
        have hcb : ∀ (n wd : Int) (d : Nat) (os : Array Obj), 0 ≤ n → n < 18446744073709551616 → 0 ≤ wd → wd ≤ 1000 → Calls Try.prog 115 #[.int .u64 n, .int .i64 wd] (Go.Sort.grow (redrawn W1 d) os) fun e w'' => e = .returned (.string (bytesI n wd)) ∧ ∃ p : Regrown, w'' = Go.Sort.grow (redrawn W1 p.d) p.os := fun n wd d os h1 h2 h3 h4 => Calls.regrown_of (rbytesI n wd h1 h2 h3 h4 _)
        have z1 : ∀ n, (bytesI n 1).size = 1 := fun n => bytesI_size n 1
        have z4 : ∀ n, (bytesI n 4).size = 4 := fun n => bytesI_size n 4
        have zz1 : ¬ 9223372036854775807 < s0.size + 1 := by omega
        have zz2 : ¬ 9223372036854775807 < s0.size + 1 + 4 := by omega
        have zz3 : ¬ 9223372036854775807 < s0.size + 1 + 4 + 4 := by omega
        have zz4 : ¬ 9223372036854775807 < s0.size + 1 + 4 + 4 + 4 := by omega
        have HCB := Lib.hid hcb
        clear hcb cc
        refine wp_region_quiet_below (by kernel_rfl) (by kernel_rfl) ?_
        repeat (go_big_quiet_step (exact HCB.out _ _ _ _ (by omega) (by omega) (by omega) (by omega)))
        refine wpQuiet_nil ?_
        intro _ hw'
        obtain ⟨⟨dq, osq⟩, hw''⟩ := hw'
        subst hw''
        clear z1 z4 zz1 zz2 zz3 zz4 c0 c1 c2 c3
        rw [HES.out]
        generalize hW2 : Go.Sort.grow _ _ = W2
        have hb2 : Below W1.heap.size W1 W2 := by rw [← hW2]; exact below_regrown W1 dq osq
        have hx2 := (hb2.block w.heap.size (Array.getElem?_eq_some_iff.1 HXR.out).1).trans HXR.out
        have hbw2 : Below w.heap.size w W2 := hbw1.trans (hb2.mono hbw1.size)
        have HX2 := Lib.hid hx2
        clear hx2 hW2 HXR hb2 HCB
        go_wp2_with fail
        go_roundg (r.l.length - (q + 1))
        case measure => omega
        case rel => exact ⟨q + 1, rfl, by simp, by omega, rfl, HX2.out, hbw2⟩
      · obtain rfl : q = r.l.length := by omega
        rw [List.take_length]
        have hsl := secL_length r
        have hs2 : sec256 r = strL (secL r) ++ zeroN (256 - (strL (secL r)).size) := by rw [strL_size]; rfl
        have hs3 : (strL (secL r)).size ≤ 212 := by rw [strL_size]; omega
        rw [show strL (headBy r ++ r.l.flatMap entBy) = strL (secL r) from rfl]
        have HS := Lib.hid hs2
        obtain ⟨n, hn⟩ : ∃ n, n = 256 - (strL (secL r)).size := ⟨_, rfl⟩
        rw [← hn] at HS
        have hni : (256 : Int) - ((strL (secL r)).size : Int) = (n : Int) := by omega
        have hn5 : n ≤ 256 := by omega
        have hzs := zeroN_size n
        clear hs2 hsl hx
        generalize strL (secL r) = s0 at *
        have hn6 : ¬ 9223372036854775807 < s0.size + n := by omega
        clear hn
        go_wp2_with (at_make; refine wpList_make_full _ rfl _ _ 128 rfl wr.heap.size 5 i0 (.int .u8 0) 1 Try.underlying128 hi hz0 hz1 _ _ _ _ n rfl rfl rfl rfl (by rw [hz2]; omega) (by unfold maxLen; omega) (Nat.le_refl _) ?_; intro w2 hown2 hg2; have hb2 : Below wr.heap.size wr w2 := (Below.refl _ _).grown hg2 (Nat.le_refl _) (by simp); have hcv := hcz hown2; clear hown2 hg2)
        go_ret
        exact ⟨by rw [HS.out]; rfl, hbw.trans (hb2.mono hbw.size)⟩
end Go.Proofs.Ytjmfeoenbncibaa
namespace Go.Nau
open Go.RowKit
theorem step_append_rd {P : Program} {ops : Array Oper} {o : Oper} {a : Act} {w : World} {K : Act → World → Prop} {Q : Exit → Act → World → Prop} {E : Prop} (hgd : o.guard = none) (s x : Operand) (t : TypeId)
    (ho : o.op = .call { callee := .builtin .append, args := #[s, x], argTypes := #[t, t] })
    (base : Nat) (e : TypeId) (i : TypeInfo) (z : Value) (size bytes : Nat) (ht : P.underlying t = some (.slice e)) (hi : P.info? e = some i) (hz : i.zero = some z)
    (hsize : i.size = size) (hby : i.bytes = bytes) (hzs : z.cells.size = size) (hsz : 0 < size)
    (v : Value) (n : Nat) (xs : List Value) (hs : a.eval s = v) (hown : w.ownsRow base e size v n xs)
    (T : Nat → Prop) (A : Option Addr) (m c : Nat) (news : List Value) (hx : a.eval x = .slice A m c) (hr : Rd T w size A m news) (h1 : ∀ u ∈ news, u.oneCell' = true)
    (h63 : n + m ≤ maxLen) (hbytes : (n + m) * bytes ≤ 140737488355328) (hbase : base ≤ w.heap.size)
    (h : ∀ v' w', w'.ownsRow base e size v' (n + m) (xs ++ news) → w.grownBy w' v.ownBlock → (v'.ownBlock = v.ownBlock ∨ v'.ownBlock = some w.heap.size) → K (a.put o.dst v') w') :
    if Region.wanted o (yielded ops a.tmps) = true then Oper.wp P o a w K Q else E := by
  have hw : Region.wanted o (yielded ops a.tmps) = true := by simp [Region.wanted, hgd]
  rw [if_pos hw]
  exact wp_append_rd w s x t ho base e i z size bytes ht hi hz hsize hby hzs hsz v n xs hs hown T A m c news hx hr h1 h63 hbytes hbase h

/-- A call of a Go function, as one step of a region that draws its order: by its contract. -/
theorem step_calls {P : Program} {ops : Array Oper} {o : Oper} {a : Act} {w : World} {K : Act → World → Prop} {Q : Exit → Act → World → Prop} {E : Prop} {f : FuncId} {args : Array Value} {v : Value} {R : World → Prop} (hgd : o.guard = none)
    (hrun : (execOp a.eval o).run P w = .ok (.enter f args) w) (hc : Calls P f args w fun e w' => e = .returned v ∧ R w') (h : ∀ w', R w' → K (a.put o.dst v) w') :
    if Region.wanted o (yielded ops a.tmps) = true then Oper.wp P o a w K Q else E := by
  have hw : Region.wanted o (yielded ops a.tmps) = true := by simp [Region.wanted, hgd]
  rw [if_pos hw]
  unfold Oper.wp
  rw [hrun]
  refine Calls.mono hc ?_
  rintro e w' ⟨rfl, hr⟩
  exact h w' hr

end Go.Nau
namespace Go.Proofs.Ytjmfeoenbncibaa
open Go.RowKit Go.Nau Go.Shelf
attribute [local go_sem] Oper.semAt_some

theorem zeroN_add (a b : Nat) : zeroN (a + b) = zeroN a ++ zeroN b := by
  apply ByteArray.ext
  simp only [zeroN, ByteArray.data_append]
  rw [← List.replicate_append_replicate]
  simp
theorem enc_sec (r : Rec) (h : r.l.length ≤ 15) : encS r = sec256 r ++ zeroN 256 := by
  have hl := secL_length r
  unfold encS sec256
  rw [show 512 - (secL r).length = (256 - (secL r).length) + 256 by omega, zeroN_add, ByteArray.append_assoc]
theorem made_heap {W W' : World} {n base : Nat} (h : W'.ownsRow base 5 1 (.slice (some ⟨W.heap.size, 0, none⟩) n n) n (madeCells (Value.int .u8 0).cells (n * 1)).toList) : W'.heap[W.heap.size]? = some (.cells (madeCells #[.int .u8 0] n) 5 (0, 0)) := by
  rcases h.2 with ⟨h0, _⟩ | ⟨g, cap, cur, hv, _, hh, _, _, hsz, ht⟩
  · cases h0
  · simp only [Value.slice.injEq, Option.some.injEq, Addr.mk.injEq, and_true, true_and] at hv
    obtain ⟨rfl, rfl⟩ := hv
    rw [hh]
    congr 2
    rw [List.take_of_length_le (by simp; omega)] at ht
    have : cur = cur.toList.toArray := by simp
    rw [this, ht, Nat.mul_one]
    rfl

set_option maxHeartbeats 4000000 in
set_option maxRecDepth 100000 in
theorem rencode_any (r : Rec) (hwf : r.wf) (A : Option Addr) (c : Nat) (w : World) (hr : Rd (· < w.heap.size) w 4 A r.l.length (entC r.l)) :
    Calls Try.prog 84 #[recV r A c] w fun e w' => e = .returned (if rightB r then .tuple #[.string (encS r), .int .i64 0] else .tuple #[.string ⟨#[]⟩, .int .i64 70]) ∧ Below w.heap.size w w' := by
  obtain ⟨i0, hi, hz0, hz1, hz2⟩ := info_parts infoB
  have hcz : ∀ {W W' : World} {n : Nat}, W'.ownsRow W.heap.size 5 1 (.slice (some ⟨W.heap.size, 0, none⟩) n n) n (madeCells (Value.int .u8 0).cells (n * 1)).toList → (convert 128 9 (.slice (some ⟨W.heap.size, 0, none⟩) n n)).run Try.prog W' = .ok (.string (zeroN n)) W' := fun h => conv_made h
  obtain ⟨W1, hW1⟩ : ∃ W1, W1 = w.alloc (.cells #[.int .u64 r.seq, .int .u64 r.cp, .bool r.ends, .bool r.sync, .int .i64 r.next, .slice A r.l.length c] 79) := ⟨_, rfl⟩
  have hx1 : W1.heap[w.heap.size]? = some (.cells #[.int .u64 r.seq, .int .u64 r.cp, .bool r.ends, .bool r.sync, .int .i64 r.next, .slice A r.l.length c] 79 (0, 0)) := by rw [hW1]; exact heap_alloc_new w _
  have hb1 : Below w.heap.size w W1 := by rw [hW1]; exact (Below.refl _ w).alloc (Nat.le_refl _) _
  have hs1 : W1.heap.size = w.heap.size + 1 := by rw [hW1]; simp
  have hr1 : Rd (· < W1.heap.size) W1 4 A r.l.length (entC r.l) := (hr.kept (Fr.of_below hb1) (fun k hk => by omega)).mono (fun k hk => by omega)
  have hri := rright_any r hwf A c W1 hr1
  have HRI := Lib.hid hri
  have HW1 := Lib.hid hW1
  by_cases hrt : rightB r = true
  case neg =>
    have hrt : rightB r = false := by simpa using hrt
    rw [hrt] at HRI ⊢
    clear hrt hx1 hr hr1 hW1 hri
    unfold recV at *
    go_enter Try.func84, Try.ntmps84
    go_wp2_with fail
    rw [← HW1.out]
    refine HRI.out.mono ?_
    rintro e w1 ⟨rfl, hb2⟩
    go_wp2_with fail
    go_ret2
    exact ⟨rfl, hb1.trans (hb2.mono (by omega))⟩
  have hsec := fun W h => rsector_any r hwf hrt A c W h
  have HRT := Lib.hid hrt
  rw [hrt] at HRI ⊢
  have HSEC := Lib.hid hsec
  have HR1 := Lib.hid hr1
  have HX1 := Lib.hid hx1
  clear hrt hx1 hr hr1 hW1 hri hsec
  unfold recV at *
  go_enter Try.func84, Try.ntmps84
  go_wp2_with fail
  rw [← HW1.out]
  refine HRI.out.mono ?_
  rintro e W2 ⟨rfl, hb2⟩
  have hx2 := (hb2.block w.heap.size (by omega)).trans HX1.out
  have hr2 := (HR1.out.kept (Fr.of_below hb2) (fun k hk => by omega)).mono (T' := (· < W2.heap.size)) (fun k hk => by have := hb2.size; omega)
  have q0 := blk_cell hx2 0
  have q1 := blk_cell hx2 1
  have q2 := blk_cell hx2 2
  have q3 := blk_cell hx2 3
  have q4 := blk_cell hx2 4
  have q5 := blk_cell hx2 5
  simp at q0 q1 q2 q3 q4 q5
  have HX2 := Lib.hid hx2
  have HR2 := Lib.hid hr2
  clear hx2 hr2
  have hsec2 : ∀ V : World, Below W2.heap.size W2 V → Calls Try.prog 102 #[.agg #[.int .u64 r.seq, .int .u64 r.cp, .bool r.ends, .bool r.sync, .int .i64 r.next, .slice A r.l.length c]] V fun e w' => e = .returned (.string (sec256 r)) ∧ (Below W2.heap.size W2 w' ∧ ∀ (b : Nat) (o : Obj), V.heap[b]? = some o → w'.heap[b]? = some o) := fun V hV =>
    (HSEC.out V ((HR2.out.kept (Fr.of_below hV) (fun k hk => by omega)).mono (fun k hk => by have := hV.size; omega))).mono fun e w' ⟨he, hb⟩ => ⟨he, hV.trans (hb.mono hV.size), fun b o h => (hb.block b (Array.getElem?_eq_some_iff.1 h).1).trans h⟩
  have HS2 := Lib.hid hsec2
  clear hsec2
  obtain ⟨mk, hmk⟩ := Classical.axiomOfChoice (fun V : World => run_make_full (P := Try.prog) V 0 128 5 i0 (.int .u8 0) 1 Try.underlying128 hi hz0 hz1 .i64 .i64 256 (by rw [hz2]; omega) (by unfold maxLen; omega) (Nat.zero_le _))
  have e1 : ∀ V : World, (Instr.makeSlice 128 (.int .i64 256) (.int .i64 256)).run Try.prog V = .ok (.slice (some ⟨V.heap.size, 0, none⟩) 256 256) (mk V) := fun V => (hmk V).1
  have bm : ∀ V : World, Below W2.heap.size W2 V → Below W2.heap.size W2 (mk V) := fun V hV => hV.trans (((Fr.of_grown (hmk V).2.2)).below (S := fun k => some k = none) hV.size (fun k hk => by cases hk))
  have hh : ∀ V : World, (mk V).heap[V.heap.size]? = some (.cells (madeCells #[.int .u8 0] 256) 5 (0, 0)) := fun V => made_heap (n := 256) (hmk V).2.1
  have hh1 : (mk W2.drew).heap[W2.heap.size]? = some (.cells (madeCells #[.int .u8 0] 256) 5 (0, 0)) := hh W2.drew
  have b0 : Below W2.heap.size W2 W2.drew := (Below.refl _ _).drew
  have sk : ∀ V : World, Below W2.heap.size W2 V → V.cell? ⟨w.heap.size, 0, none⟩ = some (.int .u64 r.seq) ∧ V.cell? ⟨w.heap.size, 1, none⟩ = some (.int .u64 r.cp) ∧ V.cell? ⟨w.heap.size, 2, none⟩ = some (.bool r.ends) ∧ V.cell? ⟨w.heap.size, 3, none⟩ = some (.bool r.sync) ∧ V.cell? ⟨w.heap.size, 4, none⟩ = some (.int .i64 r.next) ∧ V.cell? ⟨w.heap.size, 5, none⟩ = some (.slice A r.l.length c) := fun V hV => by
    have hx3 := (hV.block w.heap.size (Array.getElem?_eq_some_iff.1 HX2.out).1).trans HX2.out
    exact ⟨blk_cell hx3 0, blk_cell hx3 1, blk_cell hx3 2, blk_cell hx3 3, blk_cell hx3 4, blk_cell hx3 5⟩
  have cv : ∀ (b : Nat) (V : World), V.heap[b]? = some (.cells (madeCells #[.int .u8 0] 256) 5 (0, 0)) → (convert 128 9 (.slice (some ⟨b, 0, none⟩) 256 256)).run Try.prog V = .ok (.string (zeroN 256)) V := fun b V h => conv_zeroN V b 256 h 256
  have SK := Lib.hid sk
  have BM := Lib.hid bm
  have B0 := Lib.hid b0
  clear sk bm b0 hmk hcz
  have hes := enc_sec r ((right_facts HRT.out).2.2.2.2.2.2.2.1)
  have HES := Lib.hid hes
  clear hes
  have hss : (sec256 r).size = 256 := by
    unfold sec256
    rw [ByteArray.size_append, strL_size, zeroN_size, secL_length]
    have : r.l.length ≤ 15 := (right_facts HRT.out).2.2.2.2.2.2.2.1
    omega
  have hzs : (zeroN 256).size = 256 := zeroN_size 256
  go_wp2_with fail
  obtain ⟨u0, u1, u2, u3, u4, u5⟩ := SK.out _ (BM.out _ B0.out)
  go_region_law ((refine step_calls (f := 102) rfl (by go_simp) (HS2.out _ (by first | exact B0.out | exact BM.out _ B0.out)) ?_; intro w3 hb3'; have hb3 := hb3'.1; (try (have hc3 : w3.heap[W2.heap.size]? = some (.cells (madeCells #[.int .u8 0] 256) 5 (0, 0)) := hb3'.2 _ _ (hh _))); clear hb3'))
  all_goals
    have hbf := BM.out _ hb3
    clear u0 u1 u2 u3 u4 u5 q0 q1 q2 q3 q4 q5 SK HS2 HX2 HR2 HSEC HR1 HX1 HRI hss hzs e1 cv hh hh1
    go_wp2_with fail
    go_ret2
    have hbw2 : Below w.heap.size w W2 := hb1.trans (hb2.mono (by omega))
    refine ⟨by rw [HES.out]; rfl, hbw2.trans (Below.mono (by first | exact hb3 | exact hbf) hbw2.size)⟩
end Go.Proofs.Ytjmfeoenbncibaa

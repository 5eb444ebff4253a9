/- Texts of this proof, joined: Rh Ri Rj. They hold under no condition beyond what each theorem states. -/
import Derived.Test.YtjmfeoenbncibaaM09
import Derived.Deep.RegionHeld3
namespace Go.Proofs.Ytjmfeoenbncibaa
open Go.RowKit Go.Nau Go.Shelf
attribute [local go_sem] Oper.semAt_some

def EncRel (w0 : World) (r : Rec) (_A : Option Addr) (_c b : Nat) (k : Nat) (i : Value) (wr : World) : Prop :=
  ∃ q : Nat, k = r.l.length - q ∧ i = .int .i64 q ∧ q ≤ r.l.length ∧ Bld b (headBy r ++ (r.l.take q).flatMap entBy) wr ∧ Below w0.heap.size w0 wr

theorem take_flat {l : List Ent} {q : Nat} {x : Ent} (hx : l[q]? = some x) : (l.take (q + 1)).flatMap entBy = (l.take q).flatMap entBy ++ entBy x := by
  rw [List.take_add_one, hx]
  simp

set_option maxHeartbeats 4000000 in
set_option maxRecDepth 100000 in
theorem encode_any (r : Rec) (hwf : r.wf) (A : Option Addr) (c : Nat) (w : World) (hr : Rd (· < w.heap.size) w 4 A r.l.length (entC r.l)) :
    Calls Try.prog 47 #[recV r A c] w fun e w' => e = .returned (if rightB r then .tuple #[.string (encS r), .int .i64 0] else .tuple #[.string ⟨#[]⟩, .int .i64 70]) ∧ Below w.heap.size w w' := by
  have hlen := hwf.len
  obtain ⟨W0, hW0⟩ : ∃ W0, W0 = w.alloc (.cells #[.int .u64 r.seq, .int .u64 r.cp, .bool r.ends, .bool r.sync, .int .i64 r.next, .slice A r.l.length c] 79) := ⟨_, rfl⟩
  have hbox : W0.heap[w.heap.size]? = some (.cells #[.int .u64 r.seq, .int .u64 r.cp, .bool r.ends, .bool r.sync, .int .i64 r.next, .slice A r.l.length c] 79 (0, 0)) := by rw [hW0]; exact heap_alloc_new w _
  have hb0 : Below w.heap.size w W0 := by rw [hW0]; exact (Below.refl _ w).alloc (Nat.le_refl _) _
  have hs0 : W0.heap.size = w.heap.size + 1 := by rw [hW0]; simp
  have hr0 : Rd (· < W0.heap.size) W0 4 A r.l.length (entC r.l) := (hr.kept (Fr.of_below hb0) (fun k hk => by omega)).mono (fun k hk => by omega)
  have hri := right_any r hwf A c W0 hr0
  have HRI := Lib.hid hri
  have HW := Lib.hid hW0
  have HR := Lib.hid hr
  have HB := Lib.hid hbox
  have hfl := flag_any r A c
  have HFL := Lib.hid hfl
  clear hri hW0 hr hr0 hfl hbox
  by_cases hrt : rightB r = true
  case neg =>
    have hrt : rightB r = false := by simpa using hrt
    rw [hrt] at HRI ⊢
    clear hlen HFL hrt
    unfold recV at *
    go_enter Try.func47, Try.ntmps47
    go_wp2_with fail
    try go_step3
    go_wp2_with fail
    rw [← HW.out]
    refine HRI.out.mono ?_
    rintro e w1 ⟨rfl, hb1⟩
    go_wp2_with fail
    go_ret2
    exact ⟨rfl, hb0.trans (hb1.mono (by omega))⟩
  have hfacts := right_facts hrt
  rw [hrt] at HRI ⊢
  obtain ⟨f1, f2, f3, f4, f5, f6, f7, f8, f9, f10⟩ := hfacts
  have f8' : (r.l.length : Int) ≤ 15 := by omega
  have f8'' : (r.l.length : Int) < 18446744073709551616 := by omega
  have F10 := Lib.hid f10
  have hst : (((([82] ++ bytesL r.seq 6) ++ bytesL r.cp 6) ++ bytesL (flagN r) 1) ++ bytesL r.next.toNat 2) ++ bytesL r.l.length 1 = headBy r := rfl
  have hflt : flagN r < 256 := by
    unfold flagN
    split
    · omega
    · split <;> omega
  have hpn := fun b l W hB hl => put1_any b l r.next.toNat 2 W (by omega) (by omega) (by omega) (by omega) hB hl
  rw [Int.toNat_of_nonneg f5] at hpn
  have hpq := fun b l W hB hl => put1_any b l r.seq 6 W (by omega) (by omega) (by omega) (by omega) hB hl
  have hpc := fun b l W hB hl => put1_any b l r.cp 6 W (by omega) (by omega) (by omega) (by omega) hB hl
  have hpf := fun b l W hB hl => put1_any b l (flagN r) 1 W (by omega) (by omega) (by omega) (by omega) hB hl
  have hpl := fun b l W hB hl => put1_any b l r.l.length 1 W (by omega) (by omega) (by omega) (by omega) hB hl
  have HPN := Lib.hid hpn
  have HPQ := Lib.hid hpq
  have HPC := Lib.hid hpc
  have HPF := Lib.hid hpf
  have HPL := Lib.hid hpl
  have HST := Lib.hid hst
  clear hpn hpq hpc hpf hpl hst
  clear f9 f10 hrt
  unfold recV at *
  go_enter Try.func47, Try.ntmps47
  go_wp2_with fail
  try go_step3
  go_wp2_with fail
  rw [← HW.out]
  refine HRI.out.mono ?_
  rintro e w1 ⟨rfl, hb1⟩
  have hs1 := hb1.size
  obtain ⟨W1, hW1⟩ : ∃ W1, W1 = w1.alloc (.cells #[.pointer none, .slice none 0 0] 130) := ⟨_, rfl⟩
  have hB1 : Bld w1.heap.size [] W1 := by rw [hW1]; exact Bld.new w1
  have hbx1 : W1.heap[w.heap.size]? = some (.cells #[.int .u64 r.seq, .int .u64 r.cp, .bool r.ends, .bool r.sync, .int .i64 r.next, .slice A r.l.length c] 79 (0, 0)) := by
    rw [hW1]
    exact (Fr.alloc (Fr.refl (fun _ => False) w1) _).get id ((hb1.block w.heap.size (by omega)).trans HB.out)
  have hbW1 : Below w.heap.size w W1 := by rw [hW1]; exact (hb0.trans (hb1.mono (by omega))).alloc (by omega) _
  obtain ⟨b, hb⟩ : ∃ b, b = w1.heap.size := ⟨_, rfl⟩
  rw [← hb] at hB1
  have HW1 := Lib.hid hW1
  clear hW1
  go_wp2_with fail
  have hws := writeString_any b [] ⟨#[82]⟩ W1 hB1 (by simp) (by decide)
  have hbb : w.heap.size < b := by omega
  rw [← HW1.out, ← hb]
  clear hb HW1
  refine hws.mono ?_
  rintro e w2 ⟨rfl, hB2, hb2, ho2⟩
  have hx2 := kept_others ho2 hbx1 (by omega) (by decide)
  have q2 := blk_cell hx2 0
  simp at q2
  have hbw2 := hbW1.trans (hb2.mono (by omega))
  clear hws hB1 hbx1 hbW1 hb2 ho2 hb1 HRI HB HW hb0 hs0 hs1
  go_wp2_with fail
  refine (HPQ.out _ _ _ hB2 (by simp)).mono ?_
  rintro e w3 ⟨⟨v3, rfl⟩, hB3, hb3, ho3⟩
  have hx3 := kept_others ho3 hx2 (by omega) (by decide)
  have q3 := blk_cell hx3 1
  simp at q3
  have hbw3 := hbw2.trans (hb3.mono (by omega))
  clear hB2 hx2 q2 hbw2 hb3 ho3
  go_wp2_with fail
  refine (HPC.out _ _ _ hB3 (by simp [bytesL_length])).mono ?_
  rintro e w4 ⟨⟨v4, rfl⟩, hB4, hb4, ho4⟩
  have hx4 := kept_others ho4 hx3 (by omega) (by decide)
  have q40 := blk_cell hx4 0
  have q41 := blk_cell hx4 1
  have q42 := blk_cell hx4 2
  have q43 := blk_cell hx4 3
  have q44 := blk_cell hx4 4
  have q45 := blk_cell hx4 5
  simp at q40 q41 q42 q43 q44 q45
  have hbw4 := hbw3.trans (hb4.mono (by omega))
  clear hB3 hx3 q3 hbw3 hb4 ho4
  go_wp2_with fail
  try go_step3
  go_wp2_with fail
  refine (HFL.out _).mono ?_
  rintro e w5 ⟨rfl, hb5⟩
  have hx5 := (hb5.block w.heap.size (Array.getElem?_eq_some_iff.1 hx4).1).trans hx4
  have hB5 := hB4.kept (Fr.new hb5 (fun _ => False)) (fun _ _ _ _ _ _ => id)
  have hbw5 := hbw4.trans (hb5.mono hbw4.size)
  clear hB4 hx4 q40 q41 q42 q43 q44 q45 hbw4 hb5
  go_wp2_with fail
  refine (HPF.out _ _ _ hB5 (by simp [bytesL_length])).mono ?_
  rintro e w6 ⟨⟨v6, rfl⟩, hB6, hb6, ho6⟩
  have hx6 := kept_others ho6 hx5 (by omega) (by decide)
  have q6 := blk_cell hx6 4
  simp at q6
  have hbw6 := hbw5.trans (hb6.mono (by omega))
  clear hB5 hx5 hbw5 hb6 ho6
  go_wp2_with fail
  refine (HPN.out _ _ _ hB6 (by simp [bytesL_length])).mono ?_
  rintro e w7 ⟨⟨v7, rfl⟩, hB7, hb7, ho7⟩
  have hx7 := kept_others ho7 hx6 (by omega) (by decide)
  have q7 := blk_cell hx7 5
  simp at q7
  have hbw7 := hbw6.trans (hb7.mono (by omega))
  clear hB6 hx6 q6 hbw6 hb7 ho7
  go_wp2_with fail
  refine (HPL.out _ _ _ hB7 (by simp [bytesL_length])).mono ?_
  rintro e w8 ⟨⟨v8, rfl⟩, hB8, hb8, ho8⟩
  have hx8 := kept_others ho8 hx7 (by omega) (by decide)
  have q8 := blk_cell hx8 5
  simp at q8
  have hbw8 := hbw7.trans (hb8.mono (by omega))
  have hB8' : Bld b (headBy r) w8 := hB8
  clear hB7 hx7 q7 hbw7 hb8 ho8 hB8 hx8
  go_wp2_with fail
  clear q8
  go_loopg [39] r.l.length (EncRel w r A c b)
  case atStart => exact ⟨0, rfl, rfl, Nat.zero_le _, by simpa using hB8', hbw8⟩
  case round =>
    obtain ⟨q, rfl, rfl, hq, hB, hbw⟩ := hrel
    clear hB8' hbw8
    by_cases hlt : q < r.l.length
    · have hqi : (q : Int) < (r.l.length : Int) := by omega
      obtain ⟨x, hx⟩ : ∃ x, r.l[q]? = some x := ⟨_, List.getElem?_eq_getElem hlt⟩
      obtain ⟨ad, rfl, e0, e1, e2, e3⟩ := ent_cells (HR.out.kept (Fr.of_below hbw) (fun k hk => by omega)) q x hx hlt
      have hk := elem_kind (F10.out q x hx)
      have hk1 := hk.1
      have hk2 := hk.2
      have hxw := hwf.l x (List.mem_of_getElem? hx)
      have g1 := hxw.file
      have g2 := hxw.idx
      have g3 := hxw.vbn
      have hlb := hB.lt
      obtain ⟨w1, hw1⟩ : ∃ w1, w1 = wr.alloc (.cells #[.int .i64 x.kind, .int .u32 x.file, .int .u32 x.idx, .int .u32 x.vbn] 85) := ⟨_, rfl⟩
      have hx1 : w1.heap[wr.heap.size]? = some (.cells #[.int .i64 x.kind, .int .u32 x.file, .int .u32 x.idx, .int .u32 x.vbn] 85 (0, 0)) := by rw [hw1]; exact heap_alloc_new wr _
      have hbw1 : Below w.heap.size w w1 := by rw [hw1]; exact hbw.alloc hbw.size _
      have hB1 : Bld b (headBy r ++ (r.l.take q).flatMap entBy) w1 := by rw [hw1]; exact hB.kept (Fr.alloc (Fr.refl (fun _ => False) wr) _) (fun _ _ _ _ _ _ => id)
      have hll : ((r.l.take q).flatMap entBy).length ≤ 195 := by rw [ents_length, List.length_take]; omega
      have hlh := headBy_length r
      have hkk := fun b l W hB hl => put1_any b l x.kind.toNat 1 W (by omega) (by omega) (by omega) (by omega) hB hl
      rw [Int.toNat_of_nonneg (by omega)] at hkk
      have hff := fun b l W hB hl => put1_any b l x.file 4 W (by omega) (by omega) (by omega) (by omega) hB hl
      have hii := fun b l W hB hl => put1_any b l x.idx 4 W (by omega) (by omega) (by omega) (by omega) hB hl
      have hvv := fun b l W hB hl => put1_any b l x.vbn 4 W (by omega) (by omega) (by omega) (by omega) hB hl
      have hnx : (((headBy r ++ (r.l.take q).flatMap entBy) ++ bytesL x.kind.toNat 1) ++ bytesL x.file 4) ++ bytesL x.idx 4 ++ bytesL x.vbn 4 = headBy r ++ (r.l.take (q + 1)).flatMap entBy := by
        rw [take_flat hx]
        simp only [entBy, List.append_assoc]
      have HK := Lib.hid hkk
      have HFI := Lib.hid hff
      have HI := Lib.hid hii
      have HV := Lib.hid hvv
      have HN := Lib.hid hnx
      have HW1 := Lib.hid hw1
      clear hkk hff hii hvv hw1 hB hbw hk hnx hx
      generalize hl0 : headBy r ++ (r.l.take q).flatMap entBy = l0 at *
      have hl0l : l0.length ≤ 212 := by rw [← hl0, List.length_append]; omega
      clear hl0 hll
      go_wp2_with fail
      try go_step3
      go_wp2_with fail
      rw [← HW1.out]
      refine (HK.out _ _ _ hB1 (by first | omega | (simp [bytesL_length]; omega))).mono ?_
      rintro e wa ⟨⟨va, rfl⟩, hBa, hba, hoa⟩
      have hxa := kept_others hoa hx1 (by omega) (by decide)
      have hbwa := hbw1.trans (hba.mono (by omega))
      have qa := blk_cell hxa 1
      simp at qa
      clear hB1 hx1 hbw1 hba hoa HW1 e0 e1 e2 e3
      go_wp2_with fail
      refine (HFI.out _ _ _ hBa (by first | omega | (simp [bytesL_length]; omega))).mono ?_
      rintro e wb ⟨⟨vb, rfl⟩, hBb, hbb, hob⟩
      have hxb := kept_others hob hxa (by omega) (by decide)
      have hbwb := hbwa.trans (hbb.mono (by omega))
      have qb := blk_cell hxb 2
      simp at qb
      clear hBa hxa hbwa hbb hob qa
      go_wp2_with fail
      refine (HI.out _ _ _ hBb (by first | omega | (simp [bytesL_length]; omega))).mono ?_
      rintro e wc ⟨⟨vc, rfl⟩, hBc, hbc, hoc⟩
      have hxc := kept_others hoc hxb (by omega) (by decide)
      have hbwc := hbwb.trans (hbc.mono (by omega))
      have qc := blk_cell hxc 3
      simp at qc
      clear hBb hxb hbwb hbc hoc qb
      go_wp2_with fail
      refine (HV.out _ _ _ hBc (by first | omega | (simp [bytesL_length]; omega))).mono ?_
      rintro e wd ⟨⟨vd, rfl⟩, hBd, hbd, hod⟩
      have hxd := kept_others hod hxc (by omega) (by decide)
      have hbwd := hbwc.trans (hbd.mono (by omega))
      rw [HN.out] at hBd
      clear hBc hxc hbwc hbd hod qc
      go_wp2_with fail
      go_roundg (r.l.length - (q + 1))
      case measure => omega
      case rel => exact ⟨q + 1, rfl, by simp, by omega, hBd, hbwd⟩
    · obtain rfl : q = r.l.length := by omega
      rw [List.take_length] at hB
      have hBs : Bld b (secL r) wr := hB
      have hsl := secL_length r
      have hst := string_any b (secL r) wr hBs
      rw [show (⟨(secL r).toArray⟩ : ByteArray) = strL (secL r) from rfl] at hst
      have hfit := fit_any (strL (secL r)) 512 (by rw [strL_size]; omega) (by omega)
      rw [strL_size] at hfit
      have hes : encS r = strL (secL r) ++ zeroN (512 - (secL r).length) := rfl
      rw [← hes] at hfit
      have HS := Lib.hid hst
      have HFT := Lib.hid hfit
      clear hB hBs hsl hst hfit hlt hes
      generalize strL (secL r) = ss at *
      go_wp2_with fail
      refine HS.out.mono ?_
      rintro e wa ⟨rfl, hBa, hba, hoa⟩
      have hbwa := hbw.trans (hba.mono (by omega))
      go_wp2_with fail
      refine (HFT.out _).mono ?_
      rintro e wb ⟨rfl, hbb⟩
      clear HS HFT hBa HPN HPQ HPC HPF HPL HST F10 HR HFL f1 f2 f3 f4 f5 f6 f7 f8 f8' f8'' hflt hlen hq hwf
      go_wp2_with fail
      go_ret2
      exact ⟨rfl, hbwa.trans (hbb.mono hbwa.size)⟩
end Go.Proofs.Ytjmfeoenbncibaa
namespace Go.Proofs.Ytjmfeoenbncibaa
open Go.RowKit Go.Nau Go.Shelf
attribute [local go_sem] Oper.semAt_some

def entAt (s : ByteArray) (i : Nat) : Ent := ⟨takeN s (17 + 13 * i) 1, takeN s (17 + 13 * i + 1) 4, takeN s (17 + 13 * i + 5) 4, takeN s (17 + 13 * i + 9) 4⟩
def entN (s : ByteArray) : Nat := takeN s 16 1
def entsL (s : ByteArray) : List Ent := (List.range (entN s)).map (entAt s)
theorem takeN_lt (s : ByteArray) (p k : Nat) : takeN s p k < 256 ^ k := by
  unfold takeN
  split
  · rename_i h
    have := takeL_lt (partS s p k)
    rwa [partS_length s p k h] at this
  · exact Nat.pow_pos (by omega)
theorem entN_lt (s : ByteArray) : entN s < 256 := takeN_lt s 16 1
theorem entsL_length (s : ByteArray) : (entsL s).length = entN s := by simp [entsL]
theorem entsL_get {s : ByteArray} {q : Nat} (h : q < entN s) : (entsL s)[q]? = some (entAt s q) := by simp [entsL, h]
theorem entAt_wf (s : ByteArray) (i : Nat) : (entAt s i).wf := by
  have h1 := takeN_lt s (17 + 13 * i) 1
  have h2 := takeN_lt s (17 + 13 * i + 1) 4
  have h3 := takeN_lt s (17 + 13 * i + 5) 4
  have h4 := takeN_lt s (17 + 13 * i + 9) 4
  exact ⟨by simp only [entAt]; omega, h2, h3, h4⟩

theorem entries_any (s : ByteArray) (w : World) : Calls Try.prog 109 #[.string s] w fun e w' => e = .returned (.func (.func 118) #[] #[.pointer (some ⟨w.heap.size, 0, none⟩)]) ∧ w' = w.alloc (.cells #[.string s] 9) := by
  go_enter Try.func109, Try.ntmps109
  go_wp2
  go_ret
  exact ⟨rfl, rfl⟩

/-- takeN, its place and width as whole numbers. -/
def takeI (s : ByteArray) (p wd : Int) : Int := (takeN s p.toNat wd.toNat : Int)
theorem takeI_lt (s : ByteArray) (p wd : Int) : 0 ≤ takeI s p wd ∧ takeI s p wd < 256 ^ wd.toNat := by
  unfold takeI
  have := takeN_lt s p.toNat wd.toNat
  refine ⟨by omega, ?_⟩
  have e : ((256 : Int) ^ wd.toNat) = ((256 ^ wd.toNat : Nat) : Int) := by simp
  rw [e]
  omega

def encE (x : Ent) : Array Value := #[entV x]
def KeepE (B0 : Nat) (W W' : World) : Prop := Fr (· ≠ B0) W W'

set_option maxHeartbeats 2000000 in
set_option maxRecDepth 100000 in
theorem entries_stops (n : Nat) (hn : 1 ≤ n) (B0 : Nat) (s : ByteArray) (hs : s.size ≤ 9223372036854775807) (w0 : World) (hB : w0.heap[B0]? = some (.cells #[.string s] 9 (0, 0))) :
    SeqStopsK Fence.wide n Try.prog 118 #[.pointer (some ⟨B0, 0, none⟩)] encE (KeepE B0) (fun ys => ys = entsL s) (fun pre => pre <+: entsL s) (entN s) w0 := by
  intro l J Jx W hW hJ hJx hY h0
  have hB1 := (hW.block B0 (Array.getElem?_eq_some_iff.1 hB).1).trans hB
  have c1 := blk_cell hB1 0
  simp at c1
  have ht := take_any s 16 1 (by omega) (by omega) hs (by omega) W
  have hN := entN_lt s
  have hll := entsL_length s
  have hge := fun q h => @entsL_get s q h
  rw [show takeN s 16 1 = entN s from rfl] at ht
  have HT := Lib.hid ht
  have HL := Lib.hid hll
  have HG := Lib.hid hge
  clear ht hll hge
  have hKy : ∀ (A : World) o, A.grownBy (A.alloc o).drew none := fun A o => ⟨rfl, rfl, rfl, by simp, fun i hi _ => Below.heap_alloc _ _ _ hi⟩
  have HKY := Lib.hid hKy
  clear hKy
  generalize entN s = N at *
  refine callsIn_of_wp Try.func118 rfl trivial ?_ rfl
  simp only [Try.ntmps118, List.size_toArray, List.length_cons, List.length_nil, Nat.reduceAdd, Nat.reduceSub, Array.replicate_succ, Array.replicate_zero, List.push_toArray, List.append_toArray, List.nil_append, List.cons_append]
  gi_wp2
  refine ⟨trivial, (callsIn_wide.2 HT.out).mono ?_⟩
  rintro e w1 ⟨rfl, hw1⟩
  rw [← hw1]
  clear hw1 w1
  gi_wp2
  gi_loopw [11] (fun i wr => ∃ q : Nat, q ≤ N ∧ i = .int .i64 q ∧ J ((entsL s).take q) wr ∧ wr.heap[B0]? = some (.cells #[.string s] 9 (0, 0))) (fun i _ => N - (intOf i).toNat)
  case atStart => exact ⟨0, Nat.zero_le _, rfl, h0, hB1⟩
  case round =>
    obtain ⟨q, hq, rfl, hJs, hb⟩ := hrel
    clear c1 hB1 h0 HT
    have c2 := blk_cell hb 0
    simp at c2
    by_cases hlt : q < N
    · have hqi : (q : Int) < (N : Int) := by omega
      obtain ⟨x, hx⟩ : ∃ x, x = entAt s q := ⟨_, rfl⟩
      have hxg := HG.out q hlt
      rw [← hx] at hxg
      have hpl : ((entsL s).take q).length = q := by rw [List.length_take, HL.out]; omega
      have hsn : (entsL s).take q ++ [x] = (entsL s).take (q + 1) := by rw [List.take_add_one, hxg]; rfl
      have tt : ∀ (p wd : Int) (W : World), 0 ≤ p → p ≤ 1000000 → 1 ≤ wd → wd ≤ 8 → Calls Try.prog 108 #[.string s, .int .i64 p, .int .i64 wd] W fun e w' => e = .returned (.int .u64 (takeI s p wd)) ∧ W = w' := fun p wd W h1 h2 h3 h4 => by
        have := take_any s p.toNat wd.toNat (by omega) (by omega) hs (by omega) W
        rwa [Int.toNat_of_nonneg h1, Int.toNat_of_nonneg (by omega : 0 ≤ wd)] at this
      have b0 := takeI_lt s (17 + 13 * (q : Int)) 1
      have b1 := takeI_lt s (17 + 13 * (q : Int) + 1) 4
      have b2 := takeI_lt s (17 + 13 * (q : Int) + 5) 4
      have b3 := takeI_lt s (17 + 13 * (q : Int) + 9) 4
      have hxe : encE x = #[.agg #[.int .i64 (takeI s (17 + 13 * (q : Int)) 1), .int .u32 (takeI s (17 + 13 * (q : Int) + 1) 4), .int .u32 (takeI s (17 + 13 * (q : Int) + 5) 4), .int .u32 (takeI s (17 + 13 * (q : Int) + 9) 4)]] := by
        rw [hx]
        rfl
      have HSN := Lib.hid hsn
      clear hsn hxg
      have hyy := fun W h => hY ((entsL s).take q) x W h (by rw [hpl]; exact hlt)
      rw [hxe] at hyy
      have HY := Lib.hid hyy
      have HTT := Lib.hid tt
      clear hyy hpl hx hxe tt
      generalize takeI s = g at *
      have b0' : 0 ≤ g (17 + 13 * (q : Int)) 1 ∧ g (17 + 13 * (q : Int)) 1 < 256 := b0
      have b1' : 0 ≤ g (17 + 13 * (q : Int) + 1) 4 ∧ g (17 + 13 * (q : Int) + 1) 4 < 4294967296 := b1
      have b2' : 0 ≤ g (17 + 13 * (q : Int) + 5) 4 ∧ g (17 + 13 * (q : Int) + 5) 4 < 4294967296 := b2
      have b3' : 0 ≤ g (17 + 13 * (q : Int) + 9) 4 ∧ g (17 + 13 * (q : Int) + 9) 4 < 4294967296 := b3
      clear b0 b1 b2 b3
      obtain ⟨b00, b01⟩ := b0'
      obtain ⟨b10, b11⟩ := b1'
      obtain ⟨b20, b21⟩ := b2'
      obtain ⟨b30, b31⟩ := b3'
      have e1 : IntKind.i64.wrap (17 + 13 * (q : Int) + 1) = 17 + 13 * (q : Int) + 1 := by rw [IntKind.wrap_i64]; omega
      have e5 : IntKind.i64.wrap (17 + 13 * (q : Int) + 5) = 17 + 13 * (q : Int) + 5 := by rw [IntKind.wrap_i64]; omega
      have e9 : IntKind.i64.wrap (17 + 13 * (q : Int) + 9) = 17 + 13 * (q : Int) + 9 := by rw [IntKind.wrap_i64]; omega
      have f0 : IntKind.i64.wrap (g (17 + 13 * (q : Int)) 1) = g (17 + 13 * (q : Int)) 1 := by rw [IntKind.wrap_i64]; omega
      have f1 : IntKind.u32.wrap (g (17 + 13 * (q : Int) + 1) 4) = g (17 + 13 * (q : Int) + 1) 4 := by rw [IntKind.wrap_u32]; omega
      have f2 : IntKind.u32.wrap (g (17 + 13 * (q : Int) + 5) 4) = g (17 + 13 * (q : Int) + 5) 4 := by rw [IntKind.wrap_u32]; omega
      have f3 : IntKind.u32.wrap (g (17 + 13 * (q : Int) + 9) 4) = g (17 + 13 * (q : Int) + 9) 4 := by rw [IntKind.wrap_u32]; omega
      gi_wp2
      refine wpIn_wide.2 ?_
      go_region_held3 (fun w' => w'.cell? ⟨B0, 0, none⟩ = some (.string s)) (first | assumption | (simp; done) | exact (Fr.alloc (Fr.refl (fun _ => False) _) _).cell id (by first | assumption | (simp [c2]; done))) ((go_at_call 108; refine (HTT.out _ _ _ (by omega) (by omega) (by omega) (by omega)).mono ?_; rintro e w2 ⟨rfl, hw2⟩; subst hw2))
      all_goals
        have hJ1 := hJ _ _ _ none hJs (HKY.out wr (.cells #[.int .i64 (g (17 + 13 * (q : Int)) 1), .int .u32 (g (17 + 13 * (q : Int) + 1) 4), .int .u32 (g (17 + 13 * (q : Int) + 5) 4), .int .u32 (g (17 + 13 * (q : Int) + 9) 4)] 85)) (by simp)
        have hb1 := (HKY.out wr (.cells #[.int .i64 (g (17 + 13 * (q : Int)) 1), .int .u32 (g (17 + 13 * (q : Int) + 1) 4), .int .u32 (g (17 + 13 * (q : Int) + 5) 4), .int .u32 (g (17 + 13 * (q : Int) + 9) 4)] 85)).block B0 (Array.getElem?_eq_some_iff.1 hb).1 (by simp)
        rw [hb] at hb1
        obtain ⟨fn, tmps, assign, body, hy, hRR⟩ := HY.out _ hJ1
        gi_wp2
        refine hRR.mono ?_
        rintro e W3 (⟨rfl, hJ3, hk3⟩ | ⟨rfl, hJx3⟩)
        · have hb3 := hk3.get (by simp) hb1
          rw [HSN.out] at hJ3
          gi_wp2
          go_roundw
          case rel => exact ⟨q + 1, by omega, by go_num, hJ3, hb3⟩
          case measure => simp [intOf]; omega
        · rw [HSN.out] at hJx3
          gi_wp2
          refine bodyPost_ret (results_none rfl _ _ _) rfl ?_
          exact ⟨⟨_, rfl⟩, .inr ⟨_, List.take_prefix _ _, hJx3⟩⟩
    · obtain rfl : q = N := by omega
      gi_wp2
      go_end0
      refine ⟨⟨_, rfl⟩, .inl ⟨_, rfl, ?_⟩⟩
      rwa [List.take_of_length_le (by rw [HL.out]; omega)] at hJs
end Go.Proofs.Ytjmfeoenbncibaa
namespace Go.Proofs.Ytjmfeoenbncibaa
open Go.RowKit Go.Nau Go.Shelf
attribute [local go_sem] Oper.semAt_some

def firstR : Rec := ⟨1, 1, false, false, 2, [⟨1, 3, 0, 5⟩]⟩

/-- A record's box, read whole. -/
theorem load_rec (a : Nat) (w : World) (v0 v1 v2 v3 v4 v5 : Value) (h : w.heap[a]? = some (.cells #[v0, v1, v2, v3, v4, v5] 79 (0, 0))) :
    (loadVar 79 ⟨a, 0, none⟩).run Try.prog w = .ok (.agg #[v0, v1, v2, v3, v4, v5]) w := by
  have q0 := blk_cell h 0
  have q1 := blk_cell h 1
  have q2 := blk_cell h 2
  have q3 := blk_cell h 3
  have q4 := blk_cell h 4
  have q5 := blk_cell h 5
  simp at q0 q1 q2 q3 q4 q5
  simp [loadVar, Try.isAgg79, Try.sizeOf79, go_sem, loadCells, q0, q1, q2, q3, q4, q5]
theorem res_rec {fn : Func} {c : Tmp} (h : fn.results = #[.cell c 79]) (tmps : Array Value) (w : World) {a : Nat} {v : Value} (ha : tmps.getD c undef = .pointer (some ⟨a, 0, none⟩))
    (hl : (loadVar 79 ⟨a, 0, none⟩).run Try.prog w = .ok v w) : (results fn tmps).run Try.prog w = .ok v w := by
  rw [Array.getD_eq_getD_getElem?] at ha
  simp [results, h, ha, asAddr, hl]
theorem res_rec2 {fn : Func} {c u : Tmp} (h : fn.results = #[.cell c 79, .tmp u]) (tmps : Array Value) (w : World) {a : Nat} {v : Value} (ha : tmps.getD c undef = .pointer (some ⟨a, 0, none⟩))
    (hl : (loadVar 79 ⟨a, 0, none⟩).run Try.prog w = .ok v w) : (results fn tmps).run Try.prog w = .ok (.tuple #[v, tmps.getD u undef]) w := by
  rw [Array.getD_eq_getD_getElem?] at ha
  simp [results, h, ha, asAddr, hl]

end Go.Proofs.Ytjmfeoenbncibaa

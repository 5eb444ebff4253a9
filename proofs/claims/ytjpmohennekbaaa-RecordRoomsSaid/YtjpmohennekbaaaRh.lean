/- record.Encode: contract over the given program. -/
import Derived.Test.YtjpmohennekbaaaRg
namespace Go.Proofs.Ytjpmohennekbaaa
open Go.RowKit Go.Nau Go.Shelf
attribute [local go_sem] Oper.semAt_some

def EncRel (w0 : World) (r : Rec) (_A : Option Addr) (_c b : Nat) (k : Nat) (i : Value) (wr : World) : Prop :=
  ∃ q : Nat, k = r.l.length - q ∧ i = .int .i64 q ∧ q ≤ r.l.length ∧ Bld b (headBy r ++ (r.l.take q).flatMap entBy) wr ∧ Below w0.heap.size w0 wr

theorem take_flat {l : List Ent} {q : Nat} {x : Ent} (hx : l[q]? = some x) : (l.take (q + 1)).flatMap entBy = (l.take q).flatMap entBy ++ entBy x := by
  rw [List.take_add_one, hx]
  simp

set_option maxHeartbeats 4000000 in
set_option maxRecDepth 100000 in
theorem encode_any (r : Rec) (hwf : r.wf) (A : Option Addr) (c : Nat) (w : World) (hr : Rd (· < w.heap.size) w 4 A r.l.length (entC r.l)) :
    Calls Try.prog 35 #[recV r A c] w fun e w' => e = .returned (if rightB r then .tuple #[.string (encS r), .int .i64 0] else .tuple #[.string ⟨#[]⟩, .int .i64 70]) ∧ Below w.heap.size w w' := by
  have hlen := hwf.len
  obtain ⟨W0, hW0⟩ : ∃ W0, W0 = w.alloc (.cells #[.int .u64 r.seq, .int .u64 r.cp, .bool r.ends, .bool r.sync, .int .i64 r.next, .slice A r.l.length c] 63) := ⟨_, rfl⟩
  have hbox : W0.heap[w.heap.size]? = some (.cells #[.int .u64 r.seq, .int .u64 r.cp, .bool r.ends, .bool r.sync, .int .i64 r.next, .slice A r.l.length c] 63 (0, 0)) := by rw [hW0]; exact heap_alloc_new w _
  have hb0 : Below w.heap.size w W0 := by rw [hW0]; exact (Below.refl _ w).alloc (Nat.le_refl _) _
  have hs0 : W0.heap.size = w.heap.size + 1 := by rw [hW0]; simp
  have hr0 : Rd (· < W0.heap.size) W0 4 A r.l.length (entC r.l) := (hr.kept (Fr.of_below hb0) (fun k hk => by omega)).mono (fun k hk => by omega)
  have hri := right_any r hwf A c W0 hr0
  have HRI := Lib.hid hri
  have HW := Lib.hid hW0
  have HR := Lib.hid hr
  have HB := Lib.hid hbox
  have hfl := flag_any r A c
  have HFL := Lib.hid hfl
  clear hri hW0 hr hr0 hfl hbox
  by_cases hrt : rightB r = true
  case neg =>
    have hrt : rightB r = false := by simpa using hrt
    rw [hrt] at HRI ⊢
    clear hlen HFL hrt
    unfold recV at *
    go_enter Try.func35, Try.ntmps35
    go_wp2_with fail
    try go_step3
    go_wp2_with fail
    rw [← HW.out]
    refine HRI.out.mono ?_
    rintro e w1 ⟨rfl, hb1⟩
    go_wp2_with fail
    go_ret2
    exact ⟨rfl, hb0.trans (hb1.mono (by omega))⟩
  have hfacts := right_facts hrt
  rw [hrt] at HRI ⊢
  obtain ⟨f1, f2, f3, f4, f5, f6, f7, f8, f9, f10⟩ := hfacts
  have f8' : (r.l.length : Int) ≤ 15 := by omega
  have f8'' : (r.l.length : Int) < 18446744073709551616 := by omega
  have F10 := Lib.hid f10
  have hst : (((([82] ++ bytesL r.seq 6) ++ bytesL r.cp 6) ++ bytesL (flagN r) 1) ++ bytesL r.next.toNat 2) ++ bytesL r.l.length 1 = headBy r := rfl
  have hflt : flagN r < 256 := by
    unfold flagN
    split
    · omega
    · split <;> omega
  have hpn := fun b l W hB hl => put1_any b l r.next.toNat 2 W (by omega) (by omega) (by omega) (by omega) hB hl
  rw [Int.toNat_of_nonneg f5] at hpn
  have hpq := fun b l W hB hl => put1_any b l r.seq 6 W (by omega) (by omega) (by omega) (by omega) hB hl
  have hpc := fun b l W hB hl => put1_any b l r.cp 6 W (by omega) (by omega) (by omega) (by omega) hB hl
  have hpf := fun b l W hB hl => put1_any b l (flagN r) 1 W (by omega) (by omega) (by omega) (by omega) hB hl
  have hpl := fun b l W hB hl => put1_any b l r.l.length 1 W (by omega) (by omega) (by omega) (by omega) hB hl
  have HPN := Lib.hid hpn
  have HPQ := Lib.hid hpq
  have HPC := Lib.hid hpc
  have HPF := Lib.hid hpf
  have HPL := Lib.hid hpl
  have HST := Lib.hid hst
  clear hpn hpq hpc hpf hpl hst
  clear f9 f10 hrt
  unfold recV at *
  go_enter Try.func35, Try.ntmps35
  go_wp2_with fail
  try go_step3
  go_wp2_with fail
  rw [← HW.out]
  refine HRI.out.mono ?_
  rintro e w1 ⟨rfl, hb1⟩
  have hs1 := hb1.size
  obtain ⟨W1, hW1⟩ : ∃ W1, W1 = w1.alloc (.cells #[.pointer none, .slice none 0 0] 95) := ⟨_, rfl⟩
  have hB1 : Bld w1.heap.size [] W1 := by rw [hW1]; exact Bld.new w1
  have hbx1 : W1.heap[w.heap.size]? = some (.cells #[.int .u64 r.seq, .int .u64 r.cp, .bool r.ends, .bool r.sync, .int .i64 r.next, .slice A r.l.length c] 63 (0, 0)) := by
    rw [hW1]
    exact (Fr.alloc (Fr.refl (fun _ => False) w1) _).get id ((hb1.block w.heap.size (by omega)).trans HB.out)
  have hbW1 : Below w.heap.size w W1 := by rw [hW1]; exact (hb0.trans (hb1.mono (by omega))).alloc (by omega) _
  obtain ⟨b, hb⟩ : ∃ b, b = w1.heap.size := ⟨_, rfl⟩
  rw [← hb] at hB1
  have HW1 := Lib.hid hW1
  clear hW1
  go_wp2_with fail
  have hws := writeString_any b [] ⟨#[82]⟩ W1 hB1 (by simp) (by decide)
  have hbb : w.heap.size < b := by omega
  rw [← HW1.out, ← hb]
  clear hb HW1
  refine hws.mono ?_
  rintro e w2 ⟨rfl, hB2, hb2, ho2⟩
  have hx2 := kept_others ho2 hbx1 (by omega) (by decide)
  have q2 := blk_cell hx2 0
  simp at q2
  have hbw2 := hbW1.trans (hb2.mono (by omega))
  clear hws hB1 hbx1 hbW1 hb2 ho2 hb1 HRI HB HW hb0 hs0 hs1
  go_wp2_with fail
  refine (HPQ.out _ _ _ hB2 (by simp)).mono ?_
  rintro e w3 ⟨⟨v3, rfl⟩, hB3, hb3, ho3⟩
  have hx3 := kept_others ho3 hx2 (by omega) (by decide)
  have q3 := blk_cell hx3 1
  simp at q3
  have hbw3 := hbw2.trans (hb3.mono (by omega))
  clear hB2 hx2 q2 hbw2 hb3 ho3
  go_wp2_with fail
  refine (HPC.out _ _ _ hB3 (by simp [bytesL_length])).mono ?_
  rintro e w4 ⟨⟨v4, rfl⟩, hB4, hb4, ho4⟩
  have hx4 := kept_others ho4 hx3 (by omega) (by decide)
  have q40 := blk_cell hx4 0
  have q41 := blk_cell hx4 1
  have q42 := blk_cell hx4 2
  have q43 := blk_cell hx4 3
  have q44 := blk_cell hx4 4
  have q45 := blk_cell hx4 5
  simp at q40 q41 q42 q43 q44 q45
  have hbw4 := hbw3.trans (hb4.mono (by omega))
  clear hB3 hx3 q3 hbw3 hb4 ho4
  go_wp2_with fail
  try go_step3
  go_wp2_with fail
  refine (HFL.out _).mono ?_
  rintro e w5 ⟨rfl, hb5⟩
  have hx5 := (hb5.block w.heap.size (Array.getElem?_eq_some_iff.1 hx4).1).trans hx4
  have hB5 := hB4.kept (Fr.new hb5 (fun _ => False)) (fun _ _ _ _ _ _ => id)
  have hbw5 := hbw4.trans (hb5.mono hbw4.size)
  clear hB4 hx4 q40 q41 q42 q43 q44 q45 hbw4 hb5
  go_wp2_with fail
  refine (HPF.out _ _ _ hB5 (by simp [bytesL_length])).mono ?_
  rintro e w6 ⟨⟨v6, rfl⟩, hB6, hb6, ho6⟩
  have hx6 := kept_others ho6 hx5 (by omega) (by decide)
  have q6 := blk_cell hx6 4
  simp at q6
  have hbw6 := hbw5.trans (hb6.mono (by omega))
  clear hB5 hx5 hbw5 hb6 ho6
  go_wp2_with fail
  refine (HPN.out _ _ _ hB6 (by simp [bytesL_length])).mono ?_
  rintro e w7 ⟨⟨v7, rfl⟩, hB7, hb7, ho7⟩
  have hx7 := kept_others ho7 hx6 (by omega) (by decide)
  have q7 := blk_cell hx7 5
  simp at q7
  have hbw7 := hbw6.trans (hb7.mono (by omega))
  clear hB6 hx6 q6 hbw6 hb7 ho7
  go_wp2_with fail
  refine (HPL.out _ _ _ hB7 (by simp [bytesL_length])).mono ?_
  rintro e w8 ⟨⟨v8, rfl⟩, hB8, hb8, ho8⟩
  have hx8 := kept_others ho8 hx7 (by omega) (by decide)
  have q8 := blk_cell hx8 5
  simp at q8
  have hbw8 := hbw7.trans (hb8.mono (by omega))
  have hB8' : Bld b (headBy r) w8 := hB8
  clear hB7 hx7 q7 hbw7 hb8 ho8 hB8 hx8
  go_wp2_with fail
  clear q8
  go_loopg [39] r.l.length (EncRel w r A c b)
  case atStart => exact ⟨0, rfl, rfl, Nat.zero_le _, by simpa using hB8', hbw8⟩
  case round =>
    obtain ⟨q, rfl, rfl, hq, hB, hbw⟩ := hrel
    clear hB8' hbw8
    by_cases hlt : q < r.l.length
    · have hqi : (q : Int) < (r.l.length : Int) := by omega
      obtain ⟨x, hx⟩ : ∃ x, r.l[q]? = some x := ⟨_, List.getElem?_eq_getElem hlt⟩
      obtain ⟨ad, rfl, e0, e1, e2, e3⟩ := ent_cells (HR.out.kept (Fr.of_below hbw) (fun k hk => by omega)) q x hx hlt
      have hk := elem_kind (F10.out q x hx)
      have hk1 := hk.1
      have hk2 := hk.2
      have hxw := hwf.l x (List.mem_of_getElem? hx)
      have g1 := hxw.file
      have g2 := hxw.idx
      have g3 := hxw.vbn
      have hlb := hB.lt
      obtain ⟨w1, hw1⟩ : ∃ w1, w1 = wr.alloc (.cells #[.int .i64 x.kind, .int .u32 x.file, .int .u32 x.idx, .int .u32 x.vbn] 105) := ⟨_, rfl⟩
      have hx1 : w1.heap[wr.heap.size]? = some (.cells #[.int .i64 x.kind, .int .u32 x.file, .int .u32 x.idx, .int .u32 x.vbn] 105 (0, 0)) := by rw [hw1]; exact heap_alloc_new wr _
      have hbw1 : Below w.heap.size w w1 := by rw [hw1]; exact hbw.alloc hbw.size _
      have hB1 : Bld b (headBy r ++ (r.l.take q).flatMap entBy) w1 := by rw [hw1]; exact hB.kept (Fr.alloc (Fr.refl (fun _ => False) wr) _) (fun _ _ _ _ _ _ => id)
      have hll : ((r.l.take q).flatMap entBy).length ≤ 195 := by rw [ents_length, List.length_take]; omega
      have hlh := headBy_length r
      have hkk := fun b l W hB hl => put1_any b l x.kind.toNat 1 W (by omega) (by omega) (by omega) (by omega) hB hl
      rw [Int.toNat_of_nonneg (by omega)] at hkk
      have hff := fun b l W hB hl => put1_any b l x.file 4 W (by omega) (by omega) (by omega) (by omega) hB hl
      have hii := fun b l W hB hl => put1_any b l x.idx 4 W (by omega) (by omega) (by omega) (by omega) hB hl
      have hvv := fun b l W hB hl => put1_any b l x.vbn 4 W (by omega) (by omega) (by omega) (by omega) hB hl
      have hnx : (((headBy r ++ (r.l.take q).flatMap entBy) ++ bytesL x.kind.toNat 1) ++ bytesL x.file 4) ++ bytesL x.idx 4 ++ bytesL x.vbn 4 = headBy r ++ (r.l.take (q + 1)).flatMap entBy := by
        rw [take_flat hx]
        simp only [entBy, List.append_assoc]
      have HK := Lib.hid hkk
      have HFI := Lib.hid hff
      have HI := Lib.hid hii
      have HV := Lib.hid hvv
      have HN := Lib.hid hnx
      have HW1 := Lib.hid hw1
      clear hkk hff hii hvv hw1 hB hbw hk hnx hx
      generalize hl0 : headBy r ++ (r.l.take q).flatMap entBy = l0 at *
      have hl0l : l0.length ≤ 212 := by rw [← hl0, List.length_append]; omega
      clear hl0 hll
      go_wp2_with fail
      try go_step3
      go_wp2_with fail
      rw [← HW1.out]
      refine (HK.out _ _ _ hB1 (by first | omega | (simp [bytesL_length]; omega))).mono ?_
      rintro e wa ⟨⟨va, rfl⟩, hBa, hba, hoa⟩
      have hxa := kept_others hoa hx1 (by omega) (by decide)
      have hbwa := hbw1.trans (hba.mono (by omega))
      have qa := blk_cell hxa 1
      simp at qa
      clear hB1 hx1 hbw1 hba hoa HW1 e0 e1 e2 e3
      go_wp2_with fail
      refine (HFI.out _ _ _ hBa (by first | omega | (simp [bytesL_length]; omega))).mono ?_
      rintro e wb ⟨⟨vb, rfl⟩, hBb, hbb, hob⟩
      have hxb := kept_others hob hxa (by omega) (by decide)
      have hbwb := hbwa.trans (hbb.mono (by omega))
      have qb := blk_cell hxb 2
      simp at qb
      clear hBa hxa hbwa hbb hob qa
      go_wp2_with fail
      refine (HI.out _ _ _ hBb (by first | omega | (simp [bytesL_length]; omega))).mono ?_
      rintro e wc ⟨⟨vc, rfl⟩, hBc, hbc, hoc⟩
      have hxc := kept_others hoc hxb (by omega) (by decide)
      have hbwc := hbwb.trans (hbc.mono (by omega))
      have qc := blk_cell hxc 3
      simp at qc
      clear hBb hxb hbwb hbc hoc qb
      go_wp2_with fail
      refine (HV.out _ _ _ hBc (by first | omega | (simp [bytesL_length]; omega))).mono ?_
      rintro e wd ⟨⟨vd, rfl⟩, hBd, hbd, hod⟩
      have hxd := kept_others hod hxc (by omega) (by decide)
      have hbwd := hbwc.trans (hbd.mono (by omega))
      rw [HN.out] at hBd
      clear hBc hxc hbwc hbd hod qc
      go_wp2_with fail
      go_roundg (r.l.length - (q + 1))
      case measure => omega
      case rel => exact ⟨q + 1, rfl, by simp, by omega, hBd, hbwd⟩
    · obtain rfl : q = r.l.length := by omega
      rw [List.take_length] at hB
      have hBs : Bld b (secL r) wr := hB
      have hsl := secL_length r
      have hst := string_any b (secL r) wr hBs
      rw [show (⟨(secL r).toArray⟩ : ByteArray) = strL (secL r) from rfl] at hst
      have hfit := fit_any (strL (secL r)) 512 (by rw [strL_size]; omega) (by omega)
      rw [strL_size] at hfit
      have hes : encS r = strL (secL r) ++ zeroN (512 - (secL r).length) := rfl
      rw [← hes] at hfit
      have HS := Lib.hid hst
      have HFT := Lib.hid hfit
      clear hB hBs hsl hst hfit hlt hes
      generalize strL (secL r) = ss at *
      go_wp2_with fail
      refine HS.out.mono ?_
      rintro e wa ⟨rfl, hBa, hba, hoa⟩
      have hbwa := hbw.trans (hba.mono (by omega))
      go_wp2_with fail
      refine (HFT.out _).mono ?_
      rintro e wb ⟨rfl, hbb⟩
      clear HS HFT hBa HPN HPQ HPC HPF HPL HST F10 HR HFL f1 f2 f3 f4 f5 f6 f7 f8 f8' f8'' hflt hlen hq hwf
      go_wp2_with fail
      go_ret2
      exact ⟨rfl, hbwa.trans (hbb.mono hbwa.size)⟩
end Go.Proofs.Ytjpmohennekbaaa

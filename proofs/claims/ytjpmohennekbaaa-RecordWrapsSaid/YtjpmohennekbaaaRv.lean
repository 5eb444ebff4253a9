/- RecordBytes, RecordWraps, RecordRooms: contracts over the given program. -/
import Derived.Test.YtjpmohennekbaaaRu
namespace Go.Proofs.Ytjpmohennekbaaa
open Go.RowKit Go.Nau Go.Shelf
attribute [local go_sem] Oper.semAt_some

def encO (r : Rec) : ByteArray := if rightB r then encS r else ⟨#[]⟩
def encN (r : Rec) : Int := if rightB r then 0 else 70
theorem enc_form (r : Rec) : (if rightB r then Value.tuple #[.string (encS r), .int .i64 0] else .tuple #[.string ⟨#[]⟩, .int .i64 70]) = .tuple #[.string (encO r), .int .i64 (encN r)] := by
  unfold encO encN
  split <;> rfl
theorem encode2_any (r : Rec) (hwf : r.wf) (A : Option Addr) (c : Nat) (w : World) (hr : Rd (· < w.heap.size) w 4 A r.l.length (entC r.l)) :
    Calls Try.prog 35 #[recV r A c] w fun e w' => e = .returned (.tuple #[.string (encO r), .int .i64 (encN r)]) ∧ Below w.heap.size w w' := by
  have := encode_any r hwf A c w hr
  rwa [enc_form] at this
theorem rencode2_any (r : Rec) (hwf : r.wf) (A : Option Addr) (c : Nat) (w : World) (hr : Rd (· < w.heap.size) w 4 A r.l.length (entC r.l)) :
    Calls Try.prog 36 #[recV r A c] w fun e w' => e = .returned (.tuple #[.string (encO r), .int .i64 (encN r)]) ∧ Below w.heap.size w w' := by
  have := rencode_any r hwf A c w hr
  rwa [enc_form] at this
theorem decO_wf (s : ByteArray) : (decO s).wf := by
  unfold decO
  split
  · exact decR_wf s
  · exact ⟨by decide, by decide, by decide, by unfold maxLen; decide, by intro x hx; simp [zeroR] at hx⟩
/-- A record's box lies in a world, and its entries. -/
structure InBox (W : World) (b : Nat) (r : Rec) (A : Option Addr) (c : Nat) : Prop where
  box : W.heap[b]? = some (.cells #[.int .u64 r.seq, .int .u64 r.cp, .bool r.ends, .bool r.sync, .int .i64 r.next, .slice A r.l.length c] 63 (0, 0))
  rd : Rd (· < W.heap.size) W 4 A r.l.length (entC r.l)
theorem InBox.lt {W : World} {b : Nat} {r : Rec} {A : Option Addr} {c : Nat} (h : InBox W b r A c) : b < W.heap.size := (Array.getElem?_eq_some_iff.1 h.box).1
theorem InBox.kept {W W' : World} {b : Nat} {r : Rec} {A : Option Addr} {c : Nat} (h : InBox W b r A c) (hb : Below W.heap.size W W') : InBox W' b r A c :=
  ⟨(hb.block b h.lt).trans h.box, (Rd.kept h.rd (Fr.new hb (fun _ => False)) (fun _ _ h => h)).mono (fun _ hk => Nat.lt_of_lt_of_le hk hb.size)⟩
theorem InBox.new {W : World} {r : Rec} {A : Option Addr} {c : Nat} (h : Rd (· < W.heap.size) W 4 A r.l.length (entC r.l)) :
    InBox (W.alloc (.cells #[.int .u64 r.seq, .int .u64 r.cp, .bool r.ends, .bool r.sync, .int .i64 r.next, .slice A r.l.length c] 63)) W.heap.size r A c :=
  ⟨heap_alloc_new W _, (Rd.kept h (Fr.new ((Below.refl _ W).alloc (Nat.le_refl _) _) (fun _ => False)) (fun _ _ h => h)).mono (fun k hk => by simp; omega)⟩
theorem InBox.grown {W : World} {b : Nat} {r : Rec} {A : Option Addr} {c : Nat} (h : InBox W b r A c) (d : Nat) (os : Array Obj) : InBox (Go.Sort.grow (redrawn W d) os) b r A c := h.kept (below_regrown W d os)

set_option maxHeartbeats 4000000 in
set_option maxRecDepth 100000 in
theorem bytes_law (x : Rec) (hwf : x.wf) (A : Option Addr) (c : Nat) (b : ByteArray) (hb : b.size ≤ maxLen) (w : World) (hr : Rd (· < w.heap.size) w 4 A x.l.length (entC x.l)) :
    Calls Try.prog 9 #[recV x A c, .string b] w fun e w' => e = .returned (.bool true) ∧ Below w.heap.size w w' := by
  have hb9 : b.size ≤ 9223372036854775807 := by unfold maxLen at hb; omega
  obtain ⟨W1, hW1⟩ : ∃ W1, W1 = w.alloc (.cells #[.int .u64 x.seq, .int .u64 x.cp, .bool x.ends, .bool x.sync, .int .i64 x.next, .slice A x.l.length c] 63) := ⟨_, rfl⟩
  have hi1 : InBox W1 w.heap.size x A c := by rw [hW1]; exact InBox.new hr
  have hb1 : Below w.heap.size w W1 := by rw [hW1]; exact (Below.refl _ _).alloc (Nat.le_refl _) _
  have HW1 := Lib.hid hW1
  have hen := fun W h => encode2_any x hwf A c W h
  have hren := fun W h => rencode2_any x hwf A c W h
  have hd := fun W => decode_any b hb9 W
  have hrd := fun W => rdecode_any b hb9 W
  have hri := fun W h => right_any x hwf A c W h
  have hrri := fun W h => rright_any x hwf A c W h
  have hsm := fun A B c d W h1 h2 => rsame_any (decO b) (decO b) (decO_wf b) (decO_wf b) A B c d W h1 h2
  rw [show sameB (decO b) (decO b) = true from (sameB_iff _ _).2 rfl] at hsm
  unfold DecPost at hd hrd
  generalize decO b = y at *
  generalize decE b = de at *
  generalize encO x = xe at *
  generalize encN x = xn at *
  generalize rightB x = rx at *
  have HEN := Lib.hid hen
  have HREN := Lib.hid hren
  have HD := Lib.hid hd
  have HRD := Lib.hid hrd
  have HRI := Lib.hid hri
  have HRRI := Lib.hid hrri
  have HSM := Lib.hid hsm
  have HI1 := Lib.hid hi1
  clear hW1 hen hren hd hrd hri hrri hsm hr hi1 hwf
  unfold recV at *
  go_enter Try.func9, Try.ntmps9
  go_wp2_with fail
  rw [← HW1.out]
  refine (shown7_any _).mono ?_
  rintro e w2 ⟨rfl, hb2⟩
  have hi2 := HI1.out.kept hb2
  have k0 := blk_cell hi2.box 0
  have k1 := blk_cell hi2.box 1
  have k2 := blk_cell hi2.box 2
  have k3 := blk_cell hi2.box 3
  have k4 := blk_cell hi2.box 4
  have k5 := blk_cell hi2.box 5
  simp at k0 k1 k2 k3 k4 k5
  have HI2 := Lib.hid hi2
  clear hi2
  go_wp2_with fail
  refine (HEN.out _ HI2.out.rd).mono ?_
  rintro e w3 ⟨rfl, hb3⟩
  have hi3 := HI2.out.kept hb3
  clear k0 k1 k2 k3 k4 k5
  have k0 := blk_cell hi3.box 0
  have k1 := blk_cell hi3.box 1
  have k2 := blk_cell hi3.box 2
  have k3 := blk_cell hi3.box 3
  have k4 := blk_cell hi3.box 4
  have k5 := blk_cell hi3.box 5
  simp at k0 k1 k2 k3 k4 k5
  have HI3 := Lib.hid hi3
  clear hi3
  go_wp2_with fail
  refine (HREN.out _ HI3.out.rd).mono ?_
  rintro e w4 ⟨rfl, hb4⟩
  have hi4 := HI3.out.kept hb4
  have HI4 := Lib.hid hi4
  clear hi4 k0 k1 k2 k3 k4 k5
  go_wp2_with fail
  refine (HD.out _).mono ?_
  rintro e w5 ⟨A5, c5, rfl, hc5, hrd5, hb5⟩
  go_wp2_with fail
  obtain ⟨W5, hW5⟩ : ∃ W5, W5 = w5.alloc (.cells #[.int .u64 y.seq, .int .u64 y.cp, .bool y.ends, .bool y.sync, .int .i64 y.next, .slice A5 y.l.length c5] 63) := ⟨_, rfl⟩
  have hbW5 : Below w5.heap.size w5 W5 := by rw [hW5]; exact (Below.refl _ _).alloc (Nat.le_refl _) _
  have hiW5 : InBox W5 w5.heap.size y A5 c5 := by rw [hW5]; exact InBox.new (hrd5.mono (fun k hk => hk.2))
  have hi5 := (HI4.out.kept hb5).kept hbW5
  rw [← hW5]
  have HIY := Lib.hid hiW5
  have HI5 := Lib.hid hi5
  clear hW5 hiW5 hi5 hrd5
  refine (HRD.out _).mono ?_
  rintro e w6 ⟨A6, c6, rfl, hc6, hrd6, hb6⟩
  go_wp2_with fail
  obtain ⟨W6, hW6⟩ : ∃ W6, W6 = w6.alloc (.cells #[.int .u64 y.seq, .int .u64 y.cp, .bool y.ends, .bool y.sync, .int .i64 y.next, .slice A6 y.l.length c6] 63) := ⟨_, rfl⟩
  have hbW6 : Below w6.heap.size w6 W6 := by rw [hW6]; exact (Below.refl _ _).alloc (Nat.le_refl _) _
  have hiz : InBox W6 w6.heap.size y A6 c6 := by rw [hW6]; exact InBox.new (hrd6.mono (fun k hk => hk.2))
  have hiy := (HIY.out.kept hb6).kept hbW6
  have hix := (HI5.out.kept hb6).kept hbW6
  rw [← hW6]
  have hbw : Below w.heap.size w W6 := by
    have s1 := hb1.size
    have s2 := hb2.size
    have s3 := hb3.size
    have s4 := hb4.size
    have s5 := hb5.size
    have s6 := hbW5.size
    have s7 := hb6.size
    have s8 := hbW6.size
    exact ((((((((hb1.trans (hb2.mono (by omega))).trans (hb3.mono (by omega))).trans (hb4.mono (by omega))).trans (hb5.mono (by omega))).trans (hbW5.mono (by omega))).trans (hb6.mono (by omega))).trans (hbW6.mono (by omega))))
  have m1 : ∀ (b : Nat) (o : Array Value) i u, W6.heap[b]? = some (.cells o 63 (0, 0)) → o[i]? = some u → ∀ d os, (Go.Sort.grow (redrawn W6 d) os).cell? ⟨b, i, none⟩ = some u := fun b o i u hb hu d os => cell_regrown ((blk_cell hb i).trans hu) d os
  have a0 := m1 _ _ 0 _ hix.box rfl
  have a1 := m1 _ _ 1 _ hix.box rfl
  have a2 := m1 _ _ 2 _ hix.box rfl
  have a3 := m1 _ _ 3 _ hix.box rfl
  have a4 := m1 _ _ 4 _ hix.box rfl
  have a5 := m1 _ _ 5 _ hix.box rfl
  have q0 := m1 _ _ 0 _ hiy.box rfl
  have q1 := m1 _ _ 1 _ hiy.box rfl
  have q2 := m1 _ _ 2 _ hiy.box rfl
  have q3 := m1 _ _ 3 _ hiy.box rfl
  have q4 := m1 _ _ 4 _ hiy.box rfl
  have q5 := m1 _ _ 5 _ hiy.box rfl
  have z0 := m1 _ _ 0 _ hiz.box rfl
  have z1 := m1 _ _ 1 _ hiz.box rfl
  have z2 := m1 _ _ 2 _ hiz.box rfl
  have z3 := m1 _ _ 3 _ hiz.box rfl
  have z4 := m1 _ _ 4 _ hiz.box rfl
  have z5 := m1 _ _ 5 _ hiz.box rfl
  have cri := fun d os => Calls.regrown_of (HRI.out (Go.Sort.grow (redrawn W6 d) os) (hix.grown d os).rd)
  have crri := fun d os => Calls.regrown_of (HRRI.out (Go.Sort.grow (redrawn W6 d) os) (hix.grown d os).rd)
  have csm := fun d os => Calls.regrown_of (HSM.out A5 A6 c5 c6 (Go.Sort.grow (redrawn W6 d) os) (hiy.grown d os).rd (hiz.grown d os).rd)
  have CRI := Lib.hid cri
  have CRRI := Lib.hid crri
  have CSM := Lib.hid csm
  clear m1 hix hiy hiz cri crri csm HRI HRRI HSM hW6 hrd6 HI5 HIY hb1 hb2 hb3 hb4 hb5 hb6 hbW5 hbW6 HI4 HI3 HI2 HI1 HW1 HEN HREN HD HRD
  refine wp_region_quiet_below (by kernel_rfl) (by kernel_rfl) ?_
  repeat (go_big_quiet_step (first | (go_at_call 39; exact CRI.out _ _) | (go_at_call 40; exact CRRI.out _ _) | (go_at_call 41; exact CSM.out _ _)))
  refine wpQuiet_nil ?_
  intro _ hw'
  obtain ⟨⟨dq, osq⟩, hw''⟩ := hw'
  subst hw''
  go_wp2_with fail
  go_ret
  refine ⟨by simp, hbw.trans ((below_regrown W6 dq osq).mono hbw.size)⟩
end Go.Proofs.Ytjpmohennekbaaa

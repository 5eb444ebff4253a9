/- What a record's bytes are; record.flag, Encode's put, Encode: contracts over the given program. -/
import Derived.Test.YtjpmohennekbaaaRf
namespace Go.Proofs.Ytjpmohennekbaaa
open Go.RowKit Go.Nau Go.Shelf
attribute [local go_sem] Oper.semAt_some

def flagN (r : Rec) : Nat := if r.ends then 1 else if r.sync then 2 else 0
def entBy (x : Ent) : List UInt8 := bytesL x.kind.toNat 1 ++ (bytesL x.file 4 ++ (bytesL x.idx 4 ++ bytesL x.vbn 4))
def headBy (r : Rec) : List UInt8 := [82] ++ bytesL r.seq 6 ++ bytesL r.cp 6 ++ bytesL (flagN r) 1 ++ bytesL r.next.toNat 2 ++ bytesL r.l.length 1
def secL (r : Rec) : List UInt8 := headBy r ++ r.l.flatMap entBy
def strL (l : List UInt8) : ByteArray := ⟨l.toArray⟩
def encS (r : Rec) : ByteArray := strL (secL r) ++ zeroN (512 - (secL r).length)

theorem strL_size (l : List UInt8) : (strL l).size = l.length := by simp [strL, ByteArray.size]
theorem entBy_length (x : Ent) : (entBy x).length = 13 := by simp [entBy, bytesL_length]
theorem headBy_length (r : Rec) : (headBy r).length = 17 := by simp [headBy, bytesL_length]
theorem ents_length (l : List Ent) : (l.flatMap entBy).length = l.length * 13 := by
  induction l with
  | nil => rfl
  | cons x l ih => rw [List.flatMap_cons, List.length_append, ih, entBy_length, List.length_cons]; omega
theorem secL_length (r : Rec) : (secL r).length = 17 + r.l.length * 13 := by rw [secL, List.length_append, headBy_length, ents_length]

/-- What is known of a right record. -/
theorem right_facts {r : Rec} (h : rightB r = true) : 0 < r.seq ∧ r.seq < 281474976710656 ∧ 0 < r.cp ∧ r.cp < 281474976710656 ∧ 0 ≤ r.next ∧ r.next ≤ 255 ∧ r.l.length ≠ 0 ∧ r.l.length ≤ 15 ∧ ¬ (r.ends = true ∧ r.sync = true) ∧
    (∀ q x, r.l[q]? = some x → elemB r q x = true) := by
  unfold rightB at h
  rw [Bool.and_eq_true] at h
  obtain ⟨h1, h2⟩ := h
  unfold headB numB at h1
  simp only [Bool.and_eq_true, decide_eq_true_eq, Bool.not_eq_true', Bool.and_eq_false_iff] at h1
  obtain ⟨⟨a1, a2⟩, ⟨a3, a4⟩, a5, a6, a7, a8, a9⟩ := h1
  refine ⟨a1, a2, a3, a4, a5, a6, a7, a8, fun ⟨e1, e2⟩ => ?_, fun q x hx => ?_⟩
  · rcases a9 with a9 | a9
    · rw [e1] at a9; cases a9
    · rw [e2] at a9; cases a9
  · rw [List.all_eq_true] at h2
    exact h2 (x, q) (by rw [List.mem_iff_getElem?]; exact ⟨q, by simp [List.getElem?_zipIdx, hx]⟩)
theorem elem_kind {r : Rec} {q : Nat} {x : Ent} (h : elemB r q x = true) : 1 ≤ x.kind ∧ x.kind ≤ 5 := by
  unfold elemB entB at h
  rw [Bool.and_eq_true] at h
  obtain ⟨h, _⟩ := h
  split at h
  · omega
  · split at h
    · omega
    · cases h

theorem others_trans {e : TypeId} {b : Option Nat} {A B C : World} (h : Lib.OthersKept e b A B) (k : Lib.OthersKept e b B C) : Lib.OthersKept e b A C :=
  fun i o hi hb ho => k i o (h i o hi hb ho) hb ho
theorem others_new {e : TypeId} {b : Option Nat} {A B : World} (h : Below A.heap.size A B) : Lib.OthersKept e b A B :=
  fun i _ hi _ _ => (h.block i (Array.getElem?_eq_some_iff.1 hi).1).trans hi

theorem flag_any (r : Rec) (A : Option Addr) (c : Nat) (w : World) : Calls Try.prog 67 #[recV r A c] w fun e w' => e = .returned (.int .u64 (flagN r)) ∧ Below w.heap.size w w' := by
  unfold recV flagN
  have hb : ∀ o, Below w.heap.size w (w.alloc o) := fun o => (Below.refl _ w).alloc (Nat.le_refl _) o
  rcases r.ends with _ | _ <;> rcases r.sync with _ | _
  all_goals
    go_enter Try.func67, Try.ntmps67
    go_wp2
    try go_step3
    go_wp2
    go_ret
    exact ⟨rfl, hb _⟩

theorem put1_any (b : Nat) (l : List UInt8) (n width : Nat) (W : World) (hn : n < 18446744073709551616) (h1 : 1 ≤ width) (h8 : width ≤ 8) (hfit : n < 256 ^ width) (hB : Bld b l W) (hl : l.length ≤ 1000000) :
    Calls Try.prog 64 #[.int .u64 n, .int .i64 width, .pointer (some ⟨b, 0, none⟩)] W fun e W' => (∃ v, e = .returned v) ∧ Bld b (l ++ bytesL n width) W' ∧ Below b W W' ∧ Lib.OthersKept 5 (some b) W W' := by
  have hp := put_any n width hn h1 h8 hfit W
  have hws := fun W hB => writeString_any b l (bytesS n width) W hB hl (by rw [bytesS_size]; omega)
  have HP := Lib.hid hp
  have HS := Lib.hid hws
  clear hp hws
  go_enter Try.func64, Try.ntmps64
  go_wp2_with fail
  refine HP.out.mono ?_
  rintro e w1 ⟨rfl, hb1⟩
  go_wp2_with fail
  refine (HS.out w1 (hB.kept (Fr.new hb1 (fun _ => False)) (fun _ _ _ _ _ _ => id))).mono ?_
  rintro e w2 ⟨rfl, hB2, hb2, ho2⟩
  go_wp2_with fail
  go_end0
  exact ⟨⟨_, rfl⟩, hB2, (hb1.mono (Nat.le_of_lt hB.lt)).trans hb2, others_trans (others_new hb1) ho2⟩
end Go.Proofs.Ytjpmohennekbaaa

/- Both disks beside each other: plain laws, and the calls of one told beside those of the other. -/
import Derived.Test.YtjpmohennekbaaaDq
import Derived.Test.YtjpmohennekbaaaP
namespace Go.Proofs.Ytjpmohennekbaaa
open Go.RowKit Go.Nau Go.Shelf
attribute [local go_sem] Oper.semAt_some

/-- What may be said of a disk that calls have made. -/
structure DInv (s : DS) : Prop where
  ok : DOk s
  set : s.now = settledL s.safe s.loose
  n0 : 0 < s.now.length
  n1 : s.now.length ≤ 4096

theorem DInv.gone {s : DS} (h : DInv s) (g : Bool) : DInv { s with gone := g } := ⟨⟨h.ok.len, h.ok.safe, h.ok.now, h.ok.loose⟩, h.set, h.n0, h.n1⟩
theorem DInv.cut {s : DS} (h : DInv s) (c : Int) (g : Bool) : DInv { s with cut := c, gone := g } := ⟨⟨h.ok.len, h.ok.safe, h.ok.now, h.ok.loose⟩, h.set, h.n0, h.n1⟩
theorem DInv.wrote {s : DS} (h : DInv s) (k : Nat) (hk : k < s.now.length) (x : ByteArray) (hx : x.size = 512) : DInv (wrote s k x) := by
  have hl : (Go.Proofs.Ytjpmohennekbaaa.wrote s k x).now.length = s.now.length := List.length_set ..
  refine ⟨⟨by rw [hl]; exact h.ok.len, h.ok.safe, fun y hy => ?_, fun y hy => ?_⟩, ?_, by rw [hl]; exact h.n0, by rw [hl]; exact h.n1⟩
  · rcases List.mem_or_eq_of_mem_set hy with hy | hy
    · exact h.ok.now y hy
    · rw [hy, hx]
  · rw [hl]
    rcases List.mem_append.1 hy with hy | hy
    · exact h.ok.loose y hy
    · have : y = (k, x) := by simpa using hy
      rw [this]
      exact ⟨hk, hx⟩
  · show s.now.set k x = settledL s.safe (s.loose ++ [(k, x)])
    rw [settledL_snoc, ← h.set]
theorem DInv.flushed {s : DS} (h : DInv s) : DInv (flushed s) := ⟨⟨rfl, h.ok.now, h.ok.now, by intro x hx; simp [Go.Proofs.Ytjpmohennekbaaa.flushed] at hx⟩, rfl, h.n0, h.n1⟩
theorem DInv.fresh {l : List ByteArray} (h : ∀ x ∈ l, x.size = 512) (h0 : 0 < l.length) (h1 : l.length ≤ 4096) : DInv (freshDS l) := ⟨⟨rfl, h, h, by intro x hx; simp [freshDS] at hx⟩, rfl, h0, h1⟩
theorem DInv.crashed {s : DS} (h : DInv s) (keep torn : Int) : DInv (freshDS (crashed s keep torn)) :=
  DInv.fresh (crashed_size s keep torn h.ok.safe (by rw [h.ok.len]; exact h.ok.loose)) (by rw [crashed_length, h.ok.len]; exact h.n0) (by rw [crashed_length, h.ok.len]; exact h.n1)
theorem rflushed_eq {s : DS} (h : DInv s) : rflushed s = flushed s := by
  unfold rflushed flushed
  rw [← h.set]

/-- What Write answers, and leaves. -/
def wres (s : DS) (p : Int) (x : ByteArray) : Int × DS :=
  if offB s = true then (43, { s with gone := true }) else if p < 0 ∨ (s.now.length : Int) ≤ p then (41, { s with gone := false }) else if x.size ≠ 512 then (42, { s with gone := false }) else (0, wrote s p.toNat x)
def fres (s : DS) : Int × DS := if offB s = true then (43, { s with gone := true }) else (0, flushed s)

theorem wres_inv {s : DS} (h : DInv s) (p : Int) (x : ByteArray) : DInv (wres s p x).2 ∧ (wres s p x).2.now.length = s.now.length ∧ (wres s p x).2.ops ≤ s.ops + 1 ∧ (wres s p x).2.loose.length ≤ s.loose.length + 1 := by
  unfold wres
  split
  · exact ⟨h.gone _, rfl, Nat.le_succ _, Nat.le_succ _⟩
  · split
    · exact ⟨h.gone _, rfl, Nat.le_succ _, Nat.le_succ _⟩
    · split
      · exact ⟨h.gone _, rfl, Nat.le_succ _, Nat.le_succ _⟩
      · rename_i h1 h2 h3
        exact ⟨h.wrote _ (by omega) x (by omega), List.length_set .., Nat.le_refl _, by simp [wrote]⟩
theorem fres_inv {s : DS} (h : DInv s) : DInv (fres s).2 ∧ (fres s).2.now.length = s.now.length ∧ (fres s).2.ops ≤ s.ops + 1 ∧ (fres s).2.loose.length ≤ s.loose.length + 1 := by
  unfold fres
  split
  · exact ⟨h.gone _, rfl, Nat.le_succ _, Nat.le_succ _⟩
  · exact ⟨h.flushed, rfl, Nat.le_refl _, by simp [flushed]⟩

section
variable {w : World} {F : Nat → Prop} {d : Nat} {s : DS}
theorem write_any (h : Dsk w F d s) (p : Int) (x : ByteArray) (hxm : x.size ≤ maxLen) (hops : s.ops ≤ 4611686018427387904) (hll : s.loose.length ≤ 1073741824) :
    Calls Try.prog 27 #[.pointer (some ⟨d, 0, none⟩), .int .i64 p, .string x] w fun e w' => e = .returned (.int .i64 (wres s p x).1) ∧ DPost w F d (wres s p x).2 w' := by
  unfold wres
  split
  · rename_i ho
    exact write_off h ho p x
  · rename_i ho
    have ho' : offB s = false := by simpa using ho
    split
    · rename_i hp
      exact write_bad h ho' p hp x
    · rename_i hp
      obtain ⟨k, rfl⟩ : ∃ k : Nat, p = k := ⟨p.toNat, by omega⟩
      split
      · rename_i hx
        exact write_len h ho' k (by omega) x hx hxm
      · rename_i hx
        have := write_ok h ho' k (by omega) x (by omega) hops hll
        simpa using this
theorem rwrite_any {G : Nat → Prop} {r : Nat} (h : RDsk w G r s) (hl : s.safe.length = s.now.length) (p : Int) (x : ByteArray) (hxm : x.size ≤ maxLen) (hops : s.ops ≤ 4611686018427387904) (hll : s.loose.length ≤ 1073741824) :
    Calls Try.prog 60 #[.pointer (some ⟨r, 0, none⟩), .int .i64 p, .string x] w fun e w' => e = .returned (.int .i64 (wres s p x).1) ∧ RPost w G r (wres s p x).2 w' := by
  unfold wres
  rw [← hl]
  split
  · rename_i ho
    exact rwrite_off h ho p x
  · rename_i ho
    have ho' : offB s = false := by simpa using ho
    split
    · rename_i hp
      exact rwrite_bad h ho' p hp x
    · rename_i hp
      obtain ⟨k, rfl⟩ : ∃ k : Nat, p = k := ⟨p.toNat, by omega⟩
      split
      · rename_i hx
        exact rwrite_len h ho' k (by omega) x hx hxm
      · rename_i hx
        have := rwrite_ok h ho' k (by omega) x (by omega) hops hll
        simpa using this
theorem flush_any (h : Dsk w F d s) (hops : s.ops ≤ 4611686018427387904) :
    Calls Try.prog 31 #[.pointer (some ⟨d, 0, none⟩)] w fun e w' => e = .returned (.int .i64 (fres s).1) ∧ DPost w F d (fres s).2 w' := by
  unfold fres
  split
  · rename_i ho
    exact flush_off h ho
  · rename_i ho
    exact flush_ok h (by simpa using ho) hops
theorem rflush_any {G : Nat → Prop} {r : Nat} (h : RDsk w G r s) (hi : DInv s) (hops : s.ops ≤ 4611686018427387904) (hll : s.loose.length ≤ 1073741824) :
    Calls Try.prog 57 #[.pointer (some ⟨r, 0, none⟩)] w fun e w' => e = .returned (.int .i64 (fres s).1) ∧ RPost w G r (fres s).2 w' := by
  unfold fres
  split
  · rename_i ho
    exact rflush_off h ho
  · rename_i ho
    rw [← rflushed_eq hi]
    exact rflush_ok h (by simpa using ho) (fun x hx => by rw [hi.ok.len]; exact (hi.ok.loose x hx).1) (by rw [hi.ok.len]; have := hi.n1; omega) hll hops
/-- What Read answers. -/
def rres (s : DS) (p : Int) : ByteArray × Int := if p < 0 ∨ (s.now.length : Int) ≤ p then (⟨#[]⟩, 41) else (s.now.getD p.toNat ⟨#[]⟩, 0)
theorem read_any (h : Dsk w F d s) (p : Int) : Calls Try.prog 25 #[.pointer (some ⟨d, 0, none⟩), .int .i64 p] w fun e w' => e = .returned (.tuple #[.string (rres s p).1, .int .i64 (rres s p).2]) ∧ w = w' := by
  unfold rres
  split
  · rename_i hp
    exact read_bad h p (by omega)
  · rename_i hp
    obtain ⟨k, rfl⟩ : ∃ k : Nat, p = k := ⟨p.toNat, by omega⟩
    exact read_ok h k _ (by simp [List.getD, List.getElem?_eq_getElem (show k < s.now.length by omega)])
theorem rread_any {G : Nat → Prop} {r : Nat} (h : RDsk w G r s) (hi : DInv s) (p : Int) (hll : s.loose.length ≤ 1073741824) : Calls Try.prog 56 #[.pointer (some ⟨r, 0, none⟩), .int .i64 p] w fun e w' => e = .returned (.tuple #[.string (rres s p).1, .int .i64 (rres s p).2]) ∧ w = w' := by
  unfold rres
  split
  · rename_i hp
    exact rread_bad h p (by rw [hi.ok.len]; omega)
  · rename_i hp
    obtain ⟨k, rfl⟩ : ∃ k : Nat, p = k := ⟨p.toNat, by omega⟩
    exact rread_ok h k _ (by rw [← hi.set]; simp [List.getD, List.getElem?_eq_getElem (show k < s.now.length by omega)]) hll
end

/-- Both disks lie there, apart from each other, above B. -/
def Both (B : Nat) (w : World) (F G : Nat → Prop) (d r : Nat) (s : DS) : Prop :=
  Dsk w F d s ∧ RDsk w G r s ∧ (∀ k, F k → ¬ G k) ∧ (∀ k, F k → B ≤ k ∧ k < w.heap.size) ∧ (∀ k, G k → B ≤ k ∧ k < w.heap.size)

section
variable {B : Nat} {w w1 w2 : World} {F G : Nat → Prop} {d r : Nat} {s s1 : DS}
theorem Both.kept {S : Nat → Prop} (h : Both B w F G d r s) (hf : Fr S w w1) (h1 : ∀ k, F k → ¬ S k) (h2 : ∀ k, G k → ¬ S k) : Both B w1 F G d r s :=
  ⟨h.1.kept hf h1, h.2.1.kept hf h2, h.2.2.1, fun k hk => ⟨(h.2.2.2.1 k hk).1, Nat.lt_of_lt_of_le (h.2.2.2.1 k hk).2 hf.size⟩, fun k hk => ⟨(h.2.2.2.2 k hk).1, Nat.lt_of_lt_of_le (h.2.2.2.2 k hk).2 hf.size⟩⟩
/-- Behind a call of the disk. -/
theorem Both.fst (h : Both B w F G d r s) (hB : B ≤ w.heap.size) (hd : DPost w F d s1 w1) : ∃ F1, Dsk w1 F1 d s1 ∧ RDsk w1 G r s ∧ (∀ k, F1 k → ¬ G k) ∧ (∀ k, F1 k → B ≤ k ∧ k < w1.heap.size) ∧ (∀ k, G k → B ≤ k ∧ k < w1.heap.size) ∧ Fr F w w1 := by
  obtain ⟨F', h1, h2, h3⟩ := hd
  obtain ⟨_, b2, b3, b4, b5⟩ := h
  have hs := h3.size
  refine ⟨fun k => F' k ∧ k < w1.heap.size, h1.monoF (fun k hk hF => ⟨hF, hk⟩), b2.kept h3 (fun k hk hF => b3 k hF hk), fun k hk hG => ?_, fun k hk => ⟨?_, hk.2⟩, fun k hk => ⟨(b5 k hk).1, Nat.lt_of_lt_of_le (b5 k hk).2 hs⟩, h3⟩
  · rcases h2 k hk.1 with h | h
    · exact b3 k h hG
    · have := (b5 k hG).2; omega
  · rcases h2 k hk.1 with h | h
    · exact (b4 k h).1
    · omega
/-- .. and of the other one. -/
theorem Both.snd {F1 : Nat → Prop} {s2 : DS} (hd : Dsk w1 F1 d s1) (h3 : ∀ k, F1 k → ¬ G k) (h4 : ∀ k, F1 k → B ≤ k ∧ k < w1.heap.size) (h5 : ∀ k, G k → B ≤ k ∧ k < w1.heap.size) (hB : B ≤ w1.heap.size) (hr : RPost w1 G r s2 w2) (he : s1 = s2) :
    ∃ G2, Both B w2 F1 G2 d r s2 ∧ Fr G w1 w2 := by
  subst he
  obtain ⟨G', r1, r2, r3⟩ := hr
  have hs := r3.size
  refine ⟨fun k => G' k ∧ k < w2.heap.size, ⟨hd.kept r3 h3, r1.monoF (fun k hk hF => ⟨hF, hk⟩), fun k hF hG => ?_, fun k hk => ⟨(h4 k hk).1, Nat.lt_of_lt_of_le (h4 k hk).2 hs⟩, fun k hk => ⟨?_, hk.2⟩⟩, r3⟩
  · rcases r2 k hG.1 with h | h
    · exact h3 k hF h
    · have := (h4 k hF).2; omega
  · rcases r2 k hk.1 with h | h
    · exact (h5 k h).1
    · omega
end
end Go.Proofs.Ytjpmohennekbaaa

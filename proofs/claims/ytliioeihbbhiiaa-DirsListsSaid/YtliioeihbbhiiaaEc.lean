/- Names with their numbers; dirs.one, the reference's Bytes: contracts over the given program. -/
import Derived.Test.YtliioeihbbhiiaaEb
namespace Go.Proofs.Ytliioeihbbhiiaa
open Go.RowKit Go.Nau Go.Shelf
attribute [local go_sem] Oper.semAt_some

structure Nm where
  name : ByteArray
  ino : Nat
instance : Inhabited Nm := ⟨⟨⟨#[]⟩, 0⟩⟩
def nmL (x : Nm) : List Value := [.string x.name, .int .u32 x.ino]
def nmC (l : List Nm) : List Value := l.flatMap nmL
def oneL (x : Nm) : List UInt8 := bytesL x.ino 4 ++ (bytesL x.name.size 2 ++ x.name.data.toList)
def strL (l : List UInt8) : ByteArray := ⟨l.toArray⟩
theorem strL_size (l : List UInt8) : (strL l).size = l.length := by simp [strL, ByteArray.size]
theorem strL_append (a b : List UInt8) : strL a ++ strL b = strL (a ++ b) := by
  apply ByteArray.ext
  simp [strL]
theorem strL_data (s : ByteArray) : strL s.data.toList = s := by
  apply ByteArray.ext
  simp [strL]
theorem bytesS_eq (n k : Nat) : bytesS n k = strL (bytesL n k) := rfl
def dirS (l : List Nm) : ByteArray := strL (l.flatMap oneL)
theorem oneL_length (x : Nm) : (oneL x).length = 6 + x.name.size := by
  have : x.name.data.toList.length = x.name.size := by simp
  simp only [oneL, List.length_append, bytesL_length, this]
  omega
theorem nmC_length (l : List Nm) : (nmC l).length = l.length * 2 := by
  unfold nmC
  induction l with
  | nil => rfl
  | cons x l ih => simp only [List.flatMap_cons, List.length_append, ih, List.length_cons, nmL, List.length_nil]; omega
theorem nmC_get : ∀ (l : List Nm) (i j : Nat) (x : Nm), l[i]? = some x → j < 2 → (nmC l)[i * 2 + j]? = (nmL x)[j]?
  | [], i, j, x, h, _ => by simp at h
  | y :: l, 0, j, x, h, hj => by
    simp at h
    subst h
    rw [show 0 * 2 + j = j by omega]
    show (nmL y ++ nmC l)[j]? = _
    rw [List.getElem?_append_left (by simp [nmL]; exact hj)]
  | y :: l, i + 1, j, x, h, hj => by
    simp only [List.getElem?_cons_succ] at h
    show (nmL y ++ nmC l)[(i + 1) * 2 + j]? = _
    rw [List.getElem?_append_right (by simp [nmL]; omega)]
    have : (i + 1) * 2 + j - (nmL y).length = i * 2 + j := by simp [nmL]; omega
    rw [this]
    exact nmC_get l i j x h hj
theorem nm_cells {T : Nat → Prop} {w : World} {A : Option Addr} {n : Nat} {l : List Nm} (hr : Rd T w 2 A n (nmC l)) (q : Nat) (x : Nm) (hx : l[q]? = some x) (hq : q < n) :
    ∃ ad, A = some ad ∧ T ad.block ∧ w.cell? (ad.add (q * 2)) = some (.string x.name) ∧ w.cell? ⟨(ad.add (q * 2)).block, (ad.add (q * 2)).off + 1, none⟩ = some (.int .u32 x.ino) := by
  obtain ⟨ad, rfl, hb, hc⟩ := hr.2 (by omega)
  have h : ∀ j, j < 2 → w.cell? ((ad.add (q * 2)).add j) = (nmL x)[j]? := by
    intro j hj
    have hg := nmC_get l q j x hx hj
    have hj' : j < (nmL x).length := by simpa [nmL] using hj
    rw [List.getElem?_eq_getElem hj'] at hg ⊢
    rw [Go.Nau.add_add]
    exact hc _ _ hg
  exact ⟨ad, rfl, hb, h 0 (by omega), h 1 (by omega)⟩

theorem one_any (x : Nm) (h1 : x.name.size ≤ 65535) (h2 : x.ino < 4294967296) (w : World) : Calls Try.prog 28 #[.string x.name, .int .u32 x.ino] w fun e w' => e = .returned (.string (strL (oneL x))) ∧ Below w.heap.size w w' := by
  have hp := fun W => put_any x.ino 4 (by omega) (by omega) (by omega) (by omega) W
  have ht := fun W => text_any x.name h1 W
  have h2i : (x.ino : Int) < 4294967296 := by omega
  have he : bytesS x.ino 4 ++ textS x.name = strL (oneL x) := by
    unfold textS oneL
    rw [bytesS_eq, bytesS_eq, ← strL_append, ← strL_append, strL_data]
  have hs1 := bytesS_size x.ino 4
  have hs2 := textS_size x.name
  have hn : ¬ 9223372036854775807 < 4 + (2 + x.name.size) := by omega
  generalize bytesS x.ino 4 = a at *
  generalize textS x.name = b at *
  have HP := Lib.hid hp
  have HT := Lib.hid ht
  have HE := Lib.hid he
  clear hp ht he h1 h2
  go_enter Try.func28, Try.ntmps28
  go_wp2_with fail
  refine (HP.out _).mono ?_
  rintro e w1 ⟨rfl, hb1⟩
  go_wp2_with fail
  refine (HT.out _).mono ?_
  rintro e w2 ⟨rfl, hb2⟩
  go_wp2_with fail
  go_ret
  exact ⟨by rw [← HE.out]; rfl, hb1.trans (hb2.mono hb1.size)⟩

def RBytesRel (w0 : World) (l : List Nm) (k : Nat) (v i : Value) (wr : World) : Prop :=
  ∃ q : Nat, k = l.length - q ∧ i = .int .i64 q ∧ q ≤ l.length ∧ v = .string (dirS (l.take q)) ∧ Below w0.heap.size w0 wr
theorem dirS_snoc {l : List Nm} {q : Nat} {x : Nm} (h : l[q]? = some x) : dirS (l.take (q + 1)) = ((dirS (l.take q) ++ bytesS x.ino 4) ++ bytesS x.name.size 2) ++ x.name := by
  unfold dirS
  rw [List.take_add_one, h]
  simp only [Option.toList_some, List.flatMap_append, List.flatMap_cons, List.flatMap_nil, List.append_nil, oneL]
  rw [bytesS_eq, bytesS_eq, ← strL_append, ← strL_append, ← strL_append, strL_data, ByteArray.append_assoc, ByteArray.append_assoc]
theorem flat_take_le (l : List Nm) (q : Nat) : ((l.take q).flatMap oneL).length ≤ (l.flatMap oneL).length := by
  have : l.flatMap oneL = (l.take q).flatMap oneL ++ (l.drop q).flatMap oneL := by rw [← List.flatMap_append, List.take_append_drop]
  rw [this, List.length_append]
  omega

def bytesI (n wd : Int) : ByteArray := bytesS n.toNat wd.toNat
theorem rbytesI (n wd : Int) (h0 : 0 ≤ n) (h1 : n < 18446744073709551616) (h2 : 0 ≤ wd) (h3 : wd ≤ 1000) (w : World) :
    Calls Try.prog 42 #[.int .u64 n, .int .i64 wd] w fun e w' => e = .returned (.string (bytesI n wd)) ∧ Below w.heap.size w w' := by
  have := rbytes_any n.toNat wd.toNat (by omega) (by omega) w
  rw [Int.toNat_of_nonneg h0, Int.toNat_of_nonneg h2] at this
  exact this
theorem bytesI_size (n wd : Int) : (bytesI n wd).size = wd.toNat := bytesS_size _ _

set_option maxHeartbeats 2000000 in
set_option maxRecDepth 100000 in
theorem rbytes11_any (l : List Nm) (A : Option Addr) (c : Nat) (w : World) (hr : Rd (· < w.heap.size) w 2 A l.length (nmC l)) (hl : (l.flatMap oneL).length ≤ 1000000) (hi : ∀ x ∈ l, x.name.size ≤ 65535 ∧ x.ino < 4294967296) (hll : l.length ≤ 1000000) :
    Calls Try.prog 29 #[.slice A l.length c] w fun e w' => e = .returned (.string (dirS l)) ∧ Below w.heap.size w w' := by
  have HR := Lib.hid hr
  have HI := Lib.hid hi
  clear hr hi
  have hli : (l.length : Int) ≤ 1000000 := by omega
  go_enter Try.func29, Try.ntmps29
  go_wp2_with fail
  go_loopg [3, 4] l.length (RBytesRel w l)
  case atStart => exact ⟨0, rfl, rfl, Nat.zero_le _, rfl, Below.refl _ _⟩
  case round =>
    obtain ⟨q, rfl, rfl, hq, rfl, hbw⟩ := hrel
    by_cases hlt : q < l.length
    · have hqi : (q : Int) < (l.length : Int) := by omega
      obtain ⟨x, hx⟩ : ∃ x, l[q]? = some x := ⟨_, List.getElem?_eq_getElem hlt⟩
      obtain ⟨ad, rfl, hadb, e0, e1⟩ := nm_cells (HR.out.kept (Fr.of_below hbw) (fun k hk => by omega)) q x hx hlt
      have hxi := HI.out x (List.mem_of_getElem? hx)
      have hsn := dirS_snoc hx
      have hle := flat_take_le l q
      have hds : (dirS (l.take q)).size ≤ 1000000 := by unfold dirS; rw [strL_size]; omega
      have x1 : (x.name.size : Int) ≤ 65535 := by omega
      have x2 : (x.ino : Int) < 4294967296 := by omega
      have c0 : ∀ d os, (Go.Sort.grow (redrawn wr d) os).cell? (ad.add (q * 2)) = some (.string x.name) := fun d os => cell_regrown e0 d os
      have c1 : ∀ d os, (Go.Sort.grow (redrawn wr d) os).cell? ⟨(ad.add (q * 2)).block, (ad.add (q * 2)).off + 1, none⟩ = some (.int .u32 x.ino) := fun d os => cell_regrown e1 d os
      have hcb : ∀ (n wd : Int) (d : Nat) (os : Array Obj), 0 ≤ n → n < 18446744073709551616 → 0 ≤ wd → wd ≤ 1000 → Calls Try.prog 42 #[.int .u64 n, .int .i64 wd] (Go.Sort.grow (redrawn wr d) os) fun e w'' => e = .returned (.string (bytesI n wd)) ∧ ∃ p : Regrown, w'' = Go.Sort.grow (redrawn wr p.d) p.os := fun n wd d os h1 h2 h3 h4 => Calls.regrown_of (rbytesI n wd h1 h2 h3 h4 _)
      have z2 : ∀ n, (bytesI n 2).size = 2 := fun n => bytesI_size n 2
      have z4 : ∀ n, (bytesI n 4).size = 4 := fun n => bytesI_size n 4
      have hsn' : ((dirS (l.take q) ++ bytesI x.ino 4) ++ bytesI x.name.size 2) ++ x.name = dirS (l.take (q + 1)) := hsn.symm
      have zz1 : ¬ 9223372036854775807 < (dirS (l.take q)).size + 4 := by omega
      have zz2 : ¬ 9223372036854775807 < (dirS (l.take q)).size + 4 + 2 := by omega
      have zz3 : ¬ 9223372036854775807 < (dirS (l.take q)).size + 4 + 2 + x.name.size := by omega
      have HCB := Lib.hid hcb
      have HSN := Lib.hid hsn'
      clear hcb hsn hsn' hxi hle hx e0 e1
      generalize dirS (l.take q) = s0 at *
      go_wp2_with fail
      refine wp_region_quiet_below (by kernel_rfl) (by kernel_rfl) ?_
      repeat (go_big_quiet_step (exact HCB.out _ _ _ _ (by omega) (by omega) (by omega) (by omega)))
      refine wpQuiet_nil ?_
      intro _ hw'
      obtain ⟨⟨dq, osq⟩, hw''⟩ := hw'
      subst hw''
      rw [HSN.out]
      have hbw2 : Below w.heap.size w (Go.Sort.grow (redrawn wr dq) osq) := hbw.trans ((below_regrown wr dq osq).mono hbw.size)
      clear c0 c1 z2 z4 zz1 zz2 zz3 HCB
      go_wp2_with fail
      go_roundg (l.length - (q + 1))
      case measure => omega
      case rel => exact ⟨q + 1, rfl, by simp, by omega, rfl, hbw2⟩
    · obtain rfl : q = l.length := by omega
      rw [List.take_length]
      go_wp2_with fail
      go_ret
      exact ⟨rfl, hbw⟩
end Go.Proofs.Ytliioeihbbhiiaa

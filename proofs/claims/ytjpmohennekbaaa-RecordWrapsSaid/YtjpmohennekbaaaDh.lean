/- The disk laws' own helper shown. -/
import Derived.Test.YtjpmohennekbaaaDg
import Derived.Lib.QuietBelow
namespace Go.Proofs.Ytjpmohennekbaaa
open Go.RowKit Go.Nau Go.Shelf
attribute [local go_sem] Oper.semAt_some

def zeroN (n : Nat) : ByteArray := ⟨(List.replicate n 0).toArray⟩
theorem repeat_zero (n : Nat) : (⟨(Lib.repeatL [0] n).toArray⟩ : ByteArray) = zeroN n := by
  have : ∀ n, Lib.repeatL [0] n = List.replicate n (0 : UInt8) := by
    intro n
    induction n with
    | zero => rfl
    | succ n ih => rw [Lib.repeatL, ih]; rfl
  unfold zeroN
  rw [← this]
theorem zero_eq : zero = zeroN 512 := repeat_zero 512
theorem zeroN_size (n : Nat) : (zeroN n).size = n := by simp [zeroN, ByteArray.size]
theorem zero_size : zero.size = 512 := by rw [zero_eq, zeroN_size]
theorem conv_zeroN (W : World) (b n : Nat) (h : W.heap[b]? = some (.cells (madeCells #[.int .u8 0] n) 5 (0, 0))) (c : Nat) : (convert 76 9 (.slice (some ⟨b, 0, none⟩) n c)).run Try.prog W = .ok (.string (zeroN n)) W := by
  have hB : Lib.Bytes W b 0 (zeroN n) := by
    intro i hi
    rw [zeroN_size] at hi
    rw [Nat.zero_add, cell_of_row W b i _ _ _ h]
    have e : ((zeroN n)[i]'(by rw [zeroN_size]; exact hi)) = 0 := by
      show (List.replicate n (0 : UInt8)).toArray[i]'_ = _
      simp
    rw [e]
    have : (madeCells #[Value.int .u8 0] n) = (List.replicate n (Value.int .u8 0)).toArray := by
      rw [← toList_madeCells_one]
    rw [this]
    simp [hi]
  have := Lib.run_convert_whole (P := Try.prog) W 76 5 9 Try.underlying76 Try.underlying5 Try.underlying9 b 0 (zeroN n) hB c
  rw [zeroN_size] at this
  exact this
theorem conv_zero (W : World) (b : Nat) (h : W.heap[b]? = some (.cells (madeCells #[.int .u8 0] 512) 5 (0, 0))) (c : Nat) : (convert 76 9 (.slice (some ⟨b, 0, none⟩) 512 c)).run Try.prog W = .ok (.string zero) W := by
  rw [zero_eq]
  exact conv_zeroN W b 512 h c

theorem conv_made {W W' : World} {n : Nat} (h : W'.ownsRow W.heap.size 5 1 (.slice (some ⟨W.heap.size, 0, none⟩) n n) n (madeCells (Value.int .u8 0).cells (n * 1)).toList) :
    (convert 76 9 (.slice (some ⟨W.heap.size, 0, none⟩) n n)).run Try.prog W' = .ok (.string (zeroN n)) W' := by
  rcases h.2 with ⟨h0, _⟩ | ⟨g, cap, cur, hv, _, hh, _, _, hsz, ht⟩
  · cases h0
  · simp only [Value.slice.injEq, Option.some.injEq, Addr.mk.injEq, and_true, true_and] at hv
    obtain ⟨rfl, rfl⟩ := hv
    refine conv_zeroN W' _ n ?_ _
    rw [hh]
    congr 2
    rw [List.take_of_length_le (by simp; omega)] at ht
    have : cur = cur.toList.toArray := by simp
    rw [this, ht, Nat.mul_one]
    rfl
theorem conv_512 {W W' : World} (h : W'.ownsRow W.heap.size 5 1 (.slice (some ⟨W.heap.size, 0, none⟩) 512 512) 512 (madeCells (Value.int .u8 0).cells (512 * 1)).toList) :
    (convert 76 9 (.slice (some ⟨W.heap.size, 0, none⟩) 512 512)).run Try.prog W' = .ok (.string zero) W' := by
  rw [zero_eq]
  exact conv_made h

theorem full_cut (c n m : Nat) (h : m ≤ n) : (fullS c n).extract 0 m = fullS c m := by
  apply ByteArray.ext
  rw [ByteArray.data_extract]
  show (fullL c n).toArray.extract 0 m = (fullL c m).toArray
  rw [List.extract_toArray]
  congr 1
  unfold fullL
  rw [List.extract_eq_take_drop, List.drop_zero, ← List.map_take, List.take_range, Nat.sub_zero, Nat.min_eq_left h]
theorem full_split : (fullS 7 512).extract 0 256 = fullS 7 256 := full_cut 7 512 256 (by decide)

def Z128 : List ByteArray := List.replicate 128 zero
def shown0 : DS := ⟨Z128, Z128, [], 0, -1, false⟩
def shownS (F : ByteArray) : DS := wrote shown0 3 F
theorem shown_ok (F : ByteArray) (h : F.size = 512) : DOk (shownS F) := by
  refine ⟨by simp [shownS, wrote, shown0], ?_, ?_, ?_⟩
  · intro x hx
    have : x = zero := List.eq_of_mem_replicate hx
    rw [this, zero_size]
  · intro x hx
    rcases List.mem_or_eq_of_mem_set hx with hx | hx
    · have : x = zero := List.eq_of_mem_replicate hx
      rw [this, zero_size]
    · rw [hx, h]
  · intro x hx
    have : x = (3, F) := by simpa [shownS, wrote, shown0] using hx
    subst this
    exact ⟨by simp [shownS, wrote, shown0, Z128], h⟩
theorem shown_c1 (F : ByteArray) : crashed (shownS F) 0 (-1) = Z128 := by
  have e : stays 0 0 (-1) = 0 := by decide
  simp [crashed, shownS, wrote, fates, torn1, e, shown0]
def Z128x (F256 : ByteArray) : List ByteArray := Z128.set 3 (F256 ++ zero.extract 256 512)
theorem shown_c2 (F : ByteArray) : crashed (shownS F) 0 0 = Z128x (F.extract 0 256) := by
  have e : stays 0 0 0 = 256 := by decide
  have g : Z128.getD 3 ⟨#[]⟩ = zero := by simp [Z128, List.getD]
  simp only [crashed, shownS, wrote, shown0, fates, torn1, List.nil_append, List.zipIdx_singleton, List.map_cons, List.map_nil, List.foldl_cons, List.foldl_nil, e]
  rw [if_neg (by decide), g]
  rfl
theorem Z128_get : Z128[3]? = some zero := by simp [Z128]
theorem Z128x_get (F256 : ByteArray) : (Z128x F256)[3]? = some (F256 ++ zero.extract 256 512) := by
  unfold Z128x
  rw [List.getElem?_set_self]
  simp [Z128]
theorem shown_len (F : ByteArray) : (shownS F).now.length ≤ 8192 ∧ (shownS F).loose.length ≤ 1073741824 := by simp [shownS, wrote, shown0, Z128]
theorem shown0_3 : 3 < shown0.now.length := by simp [shown0, Z128]

set_option maxHeartbeats 2000000 in
set_option maxRecDepth 100000 in
theorem shown_any (w : World) : Calls Try.prog 15 #[] w fun e w' => e = .returned (.bool true) ∧ Below w.heap.size w w' := by
  obtain ⟨i0, hi, hz0, hz1, hz2⟩ := info_parts infoB
  have hnew : Calls Try.prog 21 #[.int .i64 128] w fun e w' => ∃ d, e = .returned (.tuple #[.pointer (some ⟨d, 0, none⟩), .int .i64 0]) ∧ Dsk w' (fun k => w.heap.size ≤ k ∧ k < w'.heap.size) d shown0 ∧ w.heap.size ≤ d ∧ Below w.heap.size w w' := new_ok 128 w (by decide)
  have hN1 : fullN 512 = 512 := by decide
  have hN2 : fullN 256 = 256 := by decide
  have hf1 := fun W => full_any 7 (by decide) 512 (by omega) W
  have hf2 := fun W => full_any 7 (by decide) 256 (by omega) W
  rw [hN1] at hf1
  rw [hN2] at hf2
  have hs512 := fullS_size 7 512
  have hs256 := fullS_size 7 256
  have hspl := full_split
  generalize fullS 7 512 = F512 at *
  generalize fullS 7 256 = F256 at *
  have hok := shown_ok F512 hs512
  have hc1 := shown_c1 F512
  have hc2 := shown_c2 F512
  rw [hspl] at hc2
  have hbs := (shown_len F512).1
  have hbl := (shown_len F512).2
  have HN := Lib.hid hnew
  have H1 := Lib.hid hf1
  have H2 := Lib.hid hf2
  have hw3 : ∀ {W F d}, Dsk W F d shown0 → Calls Try.prog 27 #[.pointer (some ⟨d, 0, none⟩), .int .i64 3, .string F512] W fun e w' => e = .returned (.int .i64 0) ∧ DPost W F d (shownS F512) w' := fun h => write_ok h (by decide) 3 shown0_3 F512 hs512 (by simp [shown0]) (by simp [shown0])
  clear hnew hf1 hf2 hspl
  have hr1 := Z128_get
  have hr2 := Z128x_get F256
  have hzs := zero_size
  have hcz : ∀ {W W' : World}, W'.ownsRow W.heap.size 5 1 (.slice (some ⟨W.heap.size, 0, none⟩) 512 512) 512 (madeCells (Value.int .u8 0).cells (512 * 1)).toList → (convert 76 9 (.slice (some ⟨W.heap.size, 0, none⟩) 512 512)).run Try.prog W' = .ok (.string zero) W' := fun h => conv_512 h
  generalize shownS F512 = SS at *
  generalize shown0 = S0 at *
  generalize Z128x F256 = Zx at *
  generalize Z128 = Z0 at *
  generalize zero = Z at *
  have hzi : (Z.size : Int) = 512 := by omega
  have hn6 : ¬ 9223372036854775807 < F256.size + 256 := by omega
  clear hs256
  go_enter Try.func15, Try.ntmps15
  go_wp2_with fail
  refine HN.out.mono ?_
  rintro e w1 ⟨d, rfl, hd, hdd, hb1⟩
  go_wp2_with fail
  refine (H1.out w1).mono ?_
  rintro e w2 ⟨rfl, hb2⟩
  have hd2 := hd.kept (Fr.new hb2 (fun _ => False)) (fun _ _ => id)
  go_wp2_with fail
  refine (hw3 hd2).mono ?_
  rintro e w3 ⟨rfl, F3, hd3, hF3, hf3⟩
  go_wp2_with fail
  refine (crash_dsk hd3 hok hbs hbl 0 (-1)).mono ?_
  rintro e w4 ⟨d1, rfl, hd1, hdd1, hb4⟩
  rw [hc1] at hd1
  have hd34 := hd3.kept (Fr.new hb4 (fun _ => False)) (fun _ _ => id)
  go_wp2_with fail
  refine (crash_dsk hd34 hok hbs hbl 0 0).mono ?_
  rintro e w5 ⟨d2, rfl, hd2, hdd2, hb5⟩
  rw [hc2] at hd2
  have hd15 := hd1.kept (Fr.new hb5 (fun _ => False)) (fun _ _ => id)
  go_wp2_with fail
  refine (read_ok hd15 3 Z hr1).mono ?_
  rintro e w6 ⟨rfl, rfl⟩
  go_wp2_with fail
  refine (read_ok hd2 3 _ hr2).mono ?_
  rintro e w7 ⟨rfl, rfl⟩
  go_wp2_with (refine wpList_make_full _ rfl _ _ 76 rfl w5.heap.size 5 i0 (.int .u8 0) 1 Try.underlying76 hi hz0 hz1 _ _ _ _ 512 rfl rfl rfl rfl (by rw [hz2]; omega) (by unfold maxLen; omega) (Nat.le_refl _) ?_; intro w6 hown6 hg6; have hb6 : Below w5.heap.size w5 w6 := (Below.refl _ _).grown hg6 (Nat.le_refl _) (by simp); have hcv := hcz hown6; clear hown6 hg6)
  clear hcv
  have cF : ∀ d os, Calls Try.prog 28 #[.int .u8 7, .int .i64 256] (Go.Sort.grow (redrawn w6 d) os) fun e w'' => e = .returned (.string F256) ∧ ∃ p : Regrown, w'' = Go.Sort.grow (redrawn w6 p.d) p.os := fun d os => Calls.regrown_of (H2.out _)
  have HF := Lib.hid cF
  clear cF
  refine wp_region_quiet_below (by kernel_rfl) (by kernel_rfl) ?_
  repeat (go_big_quiet_step (exact HF.out _ _))
  refine wpQuiet_nil ?_
  intro _ hw'
  obtain ⟨⟨dq, osq⟩, hw''⟩ := hw'
  subst hw''
  go_wp2
  go_ret
  have s1 := hb1.size
  have s2 := hb2.size
  have s3 := hf3.size
  have s4 := hb4.size
  have s5 := hb5.size
  have s6 := hb6.size
  have b3 : Below w.heap.size w w3 := (hb1.trans (hb2.mono s1)).trans (hf3.below (by omega) (fun k hk => hk.1))
  exact ⟨rfl, (((b3.trans (hb4.mono (by omega))).trans (hb5.mono (by omega))).trans (hb6.mono (by omega))).trans ((below_regrown w6 dq osq).mono (by omega))⟩
end Go.Proofs.Ytjpmohennekbaaa

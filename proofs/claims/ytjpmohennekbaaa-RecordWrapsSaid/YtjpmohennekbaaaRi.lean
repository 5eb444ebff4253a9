/- record.entries: what its iterator tells: over the given program. -/
import Derived.Test.YtjpmohennekbaaaRh
import Derived.Deep.RegionHeld3
namespace Go.Proofs.Ytjpmohennekbaaa
open Go.RowKit Go.Nau Go.Shelf
attribute [local go_sem] Oper.semAt_some

def entAt (s : ByteArray) (i : Nat) : Ent := ⟨takeN s (17 + 13 * i) 1, takeN s (17 + 13 * i + 1) 4, takeN s (17 + 13 * i + 5) 4, takeN s (17 + 13 * i + 9) 4⟩
def entN (s : ByteArray) : Nat := takeN s 16 1
def entsL (s : ByteArray) : List Ent := (List.range (entN s)).map (entAt s)
theorem takeN_lt (s : ByteArray) (p k : Nat) : takeN s p k < 256 ^ k := by
  unfold takeN
  split
  · rename_i h
    have := takeL_lt (partS s p k)
    rwa [partS_length s p k h] at this
  · exact Nat.pow_pos (by omega)
theorem entN_lt (s : ByteArray) : entN s < 256 := takeN_lt s 16 1
theorem entsL_length (s : ByteArray) : (entsL s).length = entN s := by simp [entsL]
theorem entsL_get {s : ByteArray} {q : Nat} (h : q < entN s) : (entsL s)[q]? = some (entAt s q) := by simp [entsL, h]
theorem entAt_wf (s : ByteArray) (i : Nat) : (entAt s i).wf := by
  have h1 := takeN_lt s (17 + 13 * i) 1
  have h2 := takeN_lt s (17 + 13 * i + 1) 4
  have h3 := takeN_lt s (17 + 13 * i + 5) 4
  have h4 := takeN_lt s (17 + 13 * i + 9) 4
  exact ⟨by simp only [entAt]; omega, h2, h3, h4⟩

theorem entries_any (s : ByteArray) (w : World) : Calls Try.prog 72 #[.string s] w fun e w' => e = .returned (.func (.func 91) #[] #[.pointer (some ⟨w.heap.size, 0, none⟩)]) ∧ w' = w.alloc (.cells #[.string s] 9) := by
  go_enter Try.func72, Try.ntmps72
  go_wp2
  go_ret
  exact ⟨rfl, rfl⟩

/-- takeN, its place and width as whole numbers. -/
def takeI (s : ByteArray) (p wd : Int) : Int := (takeN s p.toNat wd.toNat : Int)
theorem takeI_lt (s : ByteArray) (p wd : Int) : 0 ≤ takeI s p wd ∧ takeI s p wd < 256 ^ wd.toNat := by
  unfold takeI
  have := takeN_lt s p.toNat wd.toNat
  refine ⟨by omega, ?_⟩
  have e : ((256 : Int) ^ wd.toNat) = ((256 ^ wd.toNat : Nat) : Int) := by simp
  rw [e]
  omega

def encE (x : Ent) : Array Value := #[entV x]
def KeepE (B0 : Nat) (W W' : World) : Prop := Fr (· ≠ B0) W W'

set_option maxHeartbeats 2000000 in
set_option maxRecDepth 100000 in
theorem entries_stops (n : Nat) (hn : 1 ≤ n) (B0 : Nat) (s : ByteArray) (hs : s.size ≤ 9223372036854775807) (w0 : World) (hB : w0.heap[B0]? = some (.cells #[.string s] 9 (0, 0))) :
    SeqStopsK Fence.wide n Try.prog 91 #[.pointer (some ⟨B0, 0, none⟩)] encE (KeepE B0) (fun ys => ys = entsL s) (fun pre => pre <+: entsL s) (entN s) w0 := by
  intro l J Jx W hW hJ hJx hY h0
  have hB1 := (hW.block B0 (Array.getElem?_eq_some_iff.1 hB).1).trans hB
  have c1 := blk_cell hB1 0
  simp at c1
  have ht := take_any s 16 1 (by omega) (by omega) hs (by omega) W
  have hN := entN_lt s
  have hll := entsL_length s
  have hge := fun q h => @entsL_get s q h
  rw [show takeN s 16 1 = entN s from rfl] at ht
  have HT := Lib.hid ht
  have HL := Lib.hid hll
  have HG := Lib.hid hge
  clear ht hll hge
  have hKy : ∀ (A : World) o, A.grownBy (A.alloc o).drew none := fun A o => ⟨rfl, rfl, rfl, by simp, fun i hi _ => Below.heap_alloc _ _ _ hi⟩
  have HKY := Lib.hid hKy
  clear hKy
  generalize entN s = N at *
  refine callsIn_of_wp Try.func91 rfl trivial ?_ rfl
  simp only [Try.ntmps91, List.size_toArray, List.length_cons, List.length_nil, Nat.reduceAdd, Nat.reduceSub, Array.replicate_succ, Array.replicate_zero, List.push_toArray, List.append_toArray, List.nil_append, List.cons_append]
  gi_wp2
  refine ⟨trivial, (callsIn_wide.2 HT.out).mono ?_⟩
  rintro e w1 ⟨rfl, hw1⟩
  rw [← hw1]
  clear hw1 w1
  gi_wp2
  gi_loopw [11] (fun i wr => ∃ q : Nat, q ≤ N ∧ i = .int .i64 q ∧ J ((entsL s).take q) wr ∧ wr.heap[B0]? = some (.cells #[.string s] 9 (0, 0))) (fun i _ => N - (intOf i).toNat)
  case atStart => exact ⟨0, Nat.zero_le _, rfl, h0, hB1⟩
  case round =>
    obtain ⟨q, hq, rfl, hJs, hb⟩ := hrel
    clear c1 hB1 h0 HT
    have c2 := blk_cell hb 0
    simp at c2
    by_cases hlt : q < N
    · have hqi : (q : Int) < (N : Int) := by omega
      obtain ⟨x, hx⟩ : ∃ x, x = entAt s q := ⟨_, rfl⟩
      have hxg := HG.out q hlt
      rw [← hx] at hxg
      have hpl : ((entsL s).take q).length = q := by rw [List.length_take, HL.out]; omega
      have hsn : (entsL s).take q ++ [x] = (entsL s).take (q + 1) := by rw [List.take_add_one, hxg]; rfl
      have tt : ∀ (p wd : Int) (W : World), 0 ≤ p → p ≤ 1000000 → 1 ≤ wd → wd ≤ 8 → Calls Try.prog 71 #[.string s, .int .i64 p, .int .i64 wd] W fun e w' => e = .returned (.int .u64 (takeI s p wd)) ∧ W = w' := fun p wd W h1 h2 h3 h4 => by
        have := take_any s p.toNat wd.toNat (by omega) (by omega) hs (by omega) W
        rwa [Int.toNat_of_nonneg h1, Int.toNat_of_nonneg (by omega : 0 ≤ wd)] at this
      have b0 := takeI_lt s (17 + 13 * (q : Int)) 1
      have b1 := takeI_lt s (17 + 13 * (q : Int) + 1) 4
      have b2 := takeI_lt s (17 + 13 * (q : Int) + 5) 4
      have b3 := takeI_lt s (17 + 13 * (q : Int) + 9) 4
      have hxe : encE x = #[.agg #[.int .i64 (takeI s (17 + 13 * (q : Int)) 1), .int .u32 (takeI s (17 + 13 * (q : Int) + 1) 4), .int .u32 (takeI s (17 + 13 * (q : Int) + 5) 4), .int .u32 (takeI s (17 + 13 * (q : Int) + 9) 4)]] := by
        rw [hx]
        rfl
      have HSN := Lib.hid hsn
      clear hsn hxg
      have hyy := fun W h => hY ((entsL s).take q) x W h (by rw [hpl]; exact hlt)
      rw [hxe] at hyy
      have HY := Lib.hid hyy
      have HTT := Lib.hid tt
      clear hyy hpl hx hxe tt
      generalize takeI s = g at *
      have b0' : 0 ≤ g (17 + 13 * (q : Int)) 1 ∧ g (17 + 13 * (q : Int)) 1 < 256 := b0
      have b1' : 0 ≤ g (17 + 13 * (q : Int) + 1) 4 ∧ g (17 + 13 * (q : Int) + 1) 4 < 4294967296 := b1
      have b2' : 0 ≤ g (17 + 13 * (q : Int) + 5) 4 ∧ g (17 + 13 * (q : Int) + 5) 4 < 4294967296 := b2
      have b3' : 0 ≤ g (17 + 13 * (q : Int) + 9) 4 ∧ g (17 + 13 * (q : Int) + 9) 4 < 4294967296 := b3
      clear b0 b1 b2 b3
      obtain ⟨b00, b01⟩ := b0'
      obtain ⟨b10, b11⟩ := b1'
      obtain ⟨b20, b21⟩ := b2'
      obtain ⟨b30, b31⟩ := b3'
      have e1 : IntKind.i64.wrap (17 + 13 * (q : Int) + 1) = 17 + 13 * (q : Int) + 1 := by rw [IntKind.wrap_i64]; omega
      have e5 : IntKind.i64.wrap (17 + 13 * (q : Int) + 5) = 17 + 13 * (q : Int) + 5 := by rw [IntKind.wrap_i64]; omega
      have e9 : IntKind.i64.wrap (17 + 13 * (q : Int) + 9) = 17 + 13 * (q : Int) + 9 := by rw [IntKind.wrap_i64]; omega
      have f0 : IntKind.i64.wrap (g (17 + 13 * (q : Int)) 1) = g (17 + 13 * (q : Int)) 1 := by rw [IntKind.wrap_i64]; omega
      have f1 : IntKind.u32.wrap (g (17 + 13 * (q : Int) + 1) 4) = g (17 + 13 * (q : Int) + 1) 4 := by rw [IntKind.wrap_u32]; omega
      have f2 : IntKind.u32.wrap (g (17 + 13 * (q : Int) + 5) 4) = g (17 + 13 * (q : Int) + 5) 4 := by rw [IntKind.wrap_u32]; omega
      have f3 : IntKind.u32.wrap (g (17 + 13 * (q : Int) + 9) 4) = g (17 + 13 * (q : Int) + 9) 4 := by rw [IntKind.wrap_u32]; omega
      gi_wp2
      refine wpIn_wide.2 ?_
      go_region_held3 (fun w' => w'.cell? ⟨B0, 0, none⟩ = some (.string s)) (first | assumption | (simp; done) | exact (Fr.alloc (Fr.refl (fun _ => False) _) _).cell id (by first | assumption | (simp [c2]; done))) ((go_at_call 71; refine (HTT.out _ _ _ (by omega) (by omega) (by omega) (by omega)).mono ?_; rintro e w2 ⟨rfl, hw2⟩; subst hw2))
      all_goals
        have hJ1 := hJ _ _ _ none hJs (HKY.out wr (.cells #[.int .i64 (g (17 + 13 * (q : Int)) 1), .int .u32 (g (17 + 13 * (q : Int) + 1) 4), .int .u32 (g (17 + 13 * (q : Int) + 5) 4), .int .u32 (g (17 + 13 * (q : Int) + 9) 4)] 105)) (by simp)
        have hb1 := (HKY.out wr (.cells #[.int .i64 (g (17 + 13 * (q : Int)) 1), .int .u32 (g (17 + 13 * (q : Int) + 1) 4), .int .u32 (g (17 + 13 * (q : Int) + 5) 4), .int .u32 (g (17 + 13 * (q : Int) + 9) 4)] 105)).block B0 (Array.getElem?_eq_some_iff.1 hb).1 (by simp)
        rw [hb] at hb1
        obtain ⟨fn, tmps, assign, body, hy, hRR⟩ := HY.out _ hJ1
        gi_wp2
        refine hRR.mono ?_
        rintro e W3 (⟨rfl, hJ3, hk3⟩ | ⟨rfl, hJx3⟩)
        · have hb3 := hk3.get (by simp) hb1
          rw [HSN.out] at hJ3
          gi_wp2
          go_roundw
          case rel => exact ⟨q + 1, by omega, by go_num, hJ3, hb3⟩
          case measure => simp [intOf]; omega
        · rw [HSN.out] at hJx3
          gi_wp2
          refine bodyPost_ret (results_none rfl _ _ _) rfl ?_
          exact ⟨⟨_, rfl⟩, .inr ⟨_, List.take_prefix _ _, hJx3⟩⟩
    · obtain rfl : q = N := by omega
      gi_wp2
      go_end0
      refine ⟨⟨_, rfl⟩, .inl ⟨_, rfl, ?_⟩⟩
      rwa [List.take_of_length_le (by rw [HL.out]; omega)] at hJs
end Go.Proofs.Ytjpmohennekbaaa

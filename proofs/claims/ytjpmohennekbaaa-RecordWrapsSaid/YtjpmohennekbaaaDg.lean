/- The disk laws' own helpers: pick, Full, shown. -/
import Derived.Test.YtjpmohennekbaaaDf
import Derived.Lib.SlBytesRow
import Derived.Lib.BufferRead
namespace Go.Proofs.Ytjpmohennekbaaa
open Go.RowKit Go.Nau Go.Shelf
attribute [local go_sem] Oper.semAt_some

def pk (c : Int) (n : Nat) : Nat := ((if c < 0 then -(c + 1) else c) % (n : Int)).toNat
theorem pk_lt (c : Int) (n : Nat) (hn : 0 < n) : pk c n < n := by
  unfold pk
  have := Int.emod_lt_of_pos (if c < 0 then -(c + 1) else c) (show (0 : Int) < n by omega)
  have := Int.emod_nonneg (if c < 0 then -(c + 1) else c) (show (n : Int) ≠ 0 by omega)
  omega

set_option maxRecDepth 100000 in
theorem pick_any (c : Int) (n : Nat) (hc : -9223372036854775808 ≤ c ∧ c < 9223372036854775808) (hn : 0 < n) (hn2 : n ≤ 1000) (w : World) :
    Calls Try.prog 23 #[.int .i64 c, .int .i64 (n : Int)] w fun e w' => e = .returned (.int .i64 (pk c n : Int)) ∧ w' = w := by
  have hp : ∀ d : Int, 0 ≤ d → d < 9223372036854775808 → 0 ≤ d % (n : Int) ∧ d % (n : Int) < n := fun d _ _ => ⟨Int.emod_nonneg _ (by omega), Int.emod_lt_of_pos _ (by omega)⟩
  by_cases h : c < 0
  · have e : (pk c n : Int) = (-(c + 1)) % (n : Int) := by
      unfold pk
      rw [if_pos h]
      have := (hp (-(c + 1)) (by omega) (by omega)).1
      omega
    rw [e]
    obtain ⟨h1, h2⟩ := hp (-(c + 1)) (by omega) (by omega)
    have e2 : Int.tmod (-(c + 1)) (n : Int) = (-(c + 1)) % (n : Int) := Int.tmod_eq_emod_of_nonneg (by omega)
    go_enter Try.func23, Try.ntmps23
    go_wp2
    go_ret
    exact ⟨rfl, rfl⟩
  · have e : (pk c n : Int) = c % (n : Int) := by
      unfold pk
      rw [if_neg h]
      have := (hp c (by omega) (by omega)).1
      omega
    rw [e]
    obtain ⟨h1, h2⟩ := hp c (by omega) (by omega)
    have e2 : Int.tmod c (n : Int) = c % (n : Int) := Int.tmod_eq_emod_of_nonneg (by omega)
    go_enter Try.func23, Try.ntmps23
    go_wp2
    go_ret
    exact ⟨rfl, rfl⟩

/-- The first k bytes of Full. -/
def fullL (c k : Nat) : List UInt8 := (List.range k).map fun i => UInt8.ofNat (c + i)
def fullV (c k : Nat) : List Value := (fullL c k).map fun x => .int .u8 (x.toNat : Int)
def fullS (c k : Nat) : ByteArray := ⟨(fullL c k).toArray⟩
theorem fullV_snoc (c k : Nat) : fullV c (k + 1) = fullV c k ++ [.int .u8 (((c : Int) + (k : Int)) % 256)] := by
  simp [fullV, fullL, List.range_succ]
theorem fullS_size (c k : Nat) : (fullS c k).size = k := by simp [fullS, fullL, ByteArray.size]

/-- How many: at most a thousand. -/
def fullN (n : Int) : Nat := (min n 1000).toNat

theorem infoB : (Try.prog.info? 5).map (fun i => (i.zero, i.size, i.bytes)) = some (some (.int .u8 0), 1, 1) := by kernel_rfl

theorem conv_full {w : World} {base : Nat} {v : Value} {c q : Nat} (h : w.ownsRow base 5 1 v q (fullV c q)) : (convert 76 9 v).run Try.prog w = .ok (.string (fullS c q)) w := by
  rcases h.2 with ⟨rfl, h0⟩ | ⟨g, cap, cur, rfl, _, hh, _⟩
  · rw [Lib.run_convert_nil_bytes w 76 9 5 0 Try.underlying76 Try.underlying5 Try.underlying9]
    subst h0
    rfl
  · have hB : Lib.Bytes w g 0 (fullS c q) := by
      intro i hi
      rw [fullS_size] at hi
      rw [Nat.zero_add]
      have hx : (fullV c q)[i]? = some (.int .u8 ((fullS c q)[i]'(by rw [fullS_size]; exact hi)).toNat) := by
        have e : ((fullS c q)[i]'(by rw [fullS_size]; exact hi)) = UInt8.ofNat (c + i) := by
          show (fullL c q).toArray[i]'_ = _
          simp [fullL]
        rw [e]
        simp [fullV, fullL, hi]
      exact (own_at h hx).1
    have := Lib.run_convert_whole (P := Try.prog) w 76 5 9 Try.underlying76 Try.underlying5 Try.underlying9 g 0 (fullS c q) hB cap
    rw [fullS_size] at this
    exact this

def FullRel (w0 : World) (c : Nat) (N : Nat) (k : Nat) (v i : Value) (wr : World) : Prop :=
  ∃ q : Nat, k = N - q ∧ i = .int .i64 q ∧ q ≤ N ∧ wr.ownsRow w0.heap.size 5 1 v q (fullV c q) ∧ Below w0.heap.size w0 wr

set_option maxHeartbeats 1000000 in
set_option maxRecDepth 100000 in
theorem full_any (c : Nat) (_hc : c < 256) (n : Int) (hn : -9223372036854775808 ≤ n ∧ n ≤ 9223372036854775807) (w : World) :
    Calls Try.prog 28 #[.int .u8 (c : Int), .int .i64 n] w fun e w' => e = .returned (.string (fullS c (fullN n))) ∧ Below w.heap.size w w' := by
  obtain ⟨i0, hi, hz0, hz1, hz2⟩ := info_parts infoB
  have HI := Lib.hid hi
  clear hi
  obtain ⟨N, hN⟩ : ∃ N, N = fullN n := ⟨_, rfl⟩
  rw [← hN]
  have hN1 : N ≤ 1000 := by rw [hN]; unfold fullN; omega
  have hN2 : (0 ≤ n ∧ (N : Int) ≤ n) ∨ (n < 0 ∧ N = 0) := by rw [hN]; unfold fullN; omega
  have hN3 : N = 1000 ∨ (n ≤ (N : Int)) := by rw [hN]; unfold fullN; omega
  go_enter Try.func28, Try.ntmps28
  go_wp2_with fail
  go_loopg [5, 6] N (FullRel w c N)
  case atStart => exact ⟨0, rfl, rfl, Nat.zero_le _, ⟨by simp [fullV, fullL], .inl ⟨rfl, rfl⟩⟩, Below.refl _ _⟩
  case round =>
    obtain ⟨q, rfl, rfl, hqN, hown, hb⟩ := hrel
    by_cases hlt : q < N
    · have g1 : (q : Int) < n := by omega
      have g2 : (q : Int) < 1000 := by omega
      have hrd : Rd (fun _ => True) (wr.alloc (.cells #[.int .u8 (((c : Int) + (q : Int)) % 256)] 5)) 1 (some ⟨wr.heap.size, 0, none⟩) 1 [.int .u8 (((c : Int) + (q : Int)) % 256)] := by
        refine ⟨rfl, fun _ => ⟨_, rfl, trivial, fun j u hu => ?_⟩⟩
        have hj : j < 1 := by have := (List.getElem?_eq_some_iff.1 hu).1; simpa using this
        obtain rfl : j = 0 := by omega
        have hnew := heap_alloc_new wr (.cells #[.int .u8 (((c : Int) + (q : Int)) % 256)] 5)
        have : (⟨wr.heap.size, 0, none⟩ : Addr).add 0 = ⟨wr.heap.size, 0, none⟩ := by unfold Addr.add; split <;> simp_all
        rw [this, cell_of_row _ wr.heap.size 0 _ _ _ hnew]
        simpa using hu
      have HO := Lib.hid hown
      have HR := Lib.hid hrd
      clear hown hrd hN2 hN3
      have hbs := hb.size
      go_wp2_with (at_builtin; refine wpList_append_rd _ rfl (.tmp 16) (.tmp 21) 76 rfl w.heap.size 5 i0 _ 1 1 Try.underlying76 HI.out hz0 hz1 hz2 rfl (by decide) _ q (fullV c q) rfl (HO.out.alloc _) _ (some ⟨wr.heap.size, 0, none⟩) 1 1 [.int .u8 (((c : Int) + (q : Int)) % 256)] rfl HR.out ?c2 ?c3 ?c4 (by simp; omega) ?_)
      case c2 => simp [Value.oneCell']
      case c3 => unfold maxLen; omega
      case c4 => omega
      intro v0 w2 hown2 hg2 hat
      rw [← fullV_snoc] at hown2
      have hb2 := hb.trans ((((Fr.refl (fun k => _ = some k) wr).alloc _).grown hg2 (fun k hk _ => hk)).below hbs (fun k hk => (HO.out.lt k hk).1))
      have HO2 := Lib.hid hown2
      clear hown2 hg2 hat
      have g3 : (q : Int) + 1 ≤ 1000 := by omega
      go_wp2_with fail
      go_roundg (N - (q + 1))
      case measure => omega
      case rel => exact ⟨q + 1, rfl, by simp, by omega, HO2.out, hb2⟩
    · obtain rfl : q = N := by omega
      have HC := Lib.hid (conv_full hown)
      by_cases g : (q : Int) < n
      · have g2 : ¬ ((q : Int) < 1000) := by omega
        clear hown hN hN1 hN2 hN3 hqN hlt
        go_wp2_with fail
        simp only [HC.out]
        go_wp2_with fail
        go_ret
        exact ⟨rfl, hb⟩
      · clear hown hN hN1 hN2 hN3 hqN hlt
        go_wp2_with fail
        simp only [HC.out]
        go_wp2_with fail
        go_ret
        exact ⟨rfl, hb⟩
end Go.Proofs.Ytjpmohennekbaaa

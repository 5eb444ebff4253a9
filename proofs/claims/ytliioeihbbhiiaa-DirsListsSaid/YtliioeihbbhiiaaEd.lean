/- Directories as bytes: what their iterator tells: over the given program. -/
import Derived.Test.YtliioeihbbhiiaaEc
import Derived.Deep.RegionHeld3
namespace Go.Proofs.Ytliioeihbbhiiaa
open Go.RowKit Go.Nau Go.Shelf
attribute [local go_sem] Oper.semAt_some

/-- An entry as it stands in a directory's bytes. -/
structure De where
  name : ByteArray
  ino : Nat
  fr : Nat
  en : Nat
instance : Inhabited De := ⟨⟨⟨#[]⟩, 0, 0, 0⟩⟩
def deAt (s : ByteArray) (p : Nat) : De := ⟨ttS s (p + 4), takeN s p 4, p, ttE s (p + 4)⟩
def deOk (s : ByteArray) (p : Nat) : Bool := decide (takeE s p 4 = 0) && (decide (ttN s (p + 4) = 0) && (decide (0 < takeN s p 4) && nameB (ttS s (p + 4))))
def seqD (s : ByteArray) : Nat → Nat → List (De × Bool)
  | 0, _ => []
  | f + 1, p => if p < s.size then (if deOk s p then (deAt s p, true) :: seqD s f (deAt s p).en else [(deAt s p, false)]) else []
theorem deOk_en {s : ByteArray} {p : Nat} (h : deOk s p = true) : p + 6 ≤ (deAt s p).en ∧ (deAt s p).en ≤ s.size := by
  unfold deOk at h
  simp only [Bool.and_eq_true, decide_eq_true_eq] at h
  have h1 := h.2.1
  unfold ttN at h1
  unfold deAt ttE
  split at h1
  · rename_i hb
    unfold ttB at hb
    simp only [Bool.and_eq_true, decide_eq_true_eq] at hb
    have he : (if ttB s (p + 4) = true then p + 4 + 2 + takeN s (p + 4) 2 else 0) = p + 4 + 2 + takeN s (p + 4) 2 := if_pos (by unfold ttB; simp [hb.1, hb.2])
    dsimp only
    rw [he]
    omega
  · cases h1
theorem seqD_more {s : ByteArray} : ∀ (f g p : Nat), s.size ≤ p + f → s.size ≤ p + g → seqD s f p = seqD s g p
  | 0, 0, _, _, _ => rfl
  | 0, g + 1, p, h, _ => by
    unfold seqD
    rw [if_neg (by omega)]
  | f + 1, 0, p, _, h => by
    unfold seqD
    rw [if_neg (by omega)]
  | f + 1, g + 1, p, h1, h2 => by
    unfold seqD
    split
    · split
      · rename_i hk
        have := deOk_en hk
        rw [seqD_more f g _ (by omega) (by omega)]
      · rfl
    · rfl
def seqOf (s : ByteArray) : List (De × Bool) := seqD s (s.size + 1) 0
theorem seqD_length (s : ByteArray) : ∀ (f p : Nat), (seqD s f p).length ≤ f
  | 0, _ => Nat.le_refl _
  | f + 1, p => by
    unfold seqD
    split
    · split
      · have := seqD_length s f (deAt s p).en
        simp only [List.length_cons]
        omega
      · simp
    · simp

/-- What a round is handed: an entry that is one has a short name. -/
abbrev Dx := { x : De × Bool // x.2 = true → x.1.name.size ≤ 59 }
def encD (x : Dx) : Array Value := #[.agg #[.string x.1.1.name, .int .u32 x.1.1.ino, .int .i64 x.1.1.fr, .int .i64 x.1.1.en], .bool x.1.2]
theorem nameB_le {s : ByteArray} (h : nameB s = true) : s.size ≤ 59 := by
  unfold nameB at h
  simp only [Bool.and_eq_true, decide_eq_true_eq] at h
  exact h.2.1

theorem dentries_any (s : ByteArray) (w : World) : Calls Try.prog 43 #[.string s] w fun e w' => e = .returned (.func (.func 55) #[] #[.pointer (some ⟨w.heap.size, 0, none⟩)]) ∧ w' = w.alloc (.cells #[.string s] 9) := by
  go_enter Try.func43, Try.ntmps43
  go_wp2
  go_ret
  exact ⟨rfl, rfl⟩

def KeepE (B0 : Nat) (W W' : World) : Prop := Fr (· ≠ B0) W W'

set_option maxHeartbeats 2000000 in
set_option maxRecDepth 100000 in
theorem dentries_stops (n : Nat) (hn : 1 ≤ n) (B0 : Nat) (s : ByteArray) (hs : s.size ≤ 900000) (w0 : World) (hB : w0.heap[B0]? = some (.cells #[.string s] 9 (0, 0))) :
    SeqStopsK Fence.wide n Try.prog 55 #[.pointer (some ⟨B0, 0, none⟩)] encD (KeepE B0) (fun ys => ys.map (·.1) = seqOf s) (fun pre => pre.map (·.1) <+: seqOf s) (s.size + 1) w0 := by
  intro l J Jx W hW hJ hJx hY h0
  have hB1 := (hW.block B0 (Array.getElem?_eq_some_iff.1 hB).1).trans hB
  have hs9 : s.size ≤ 9223372036854775807 := by omega
  refine callsIn_of_wp Try.func55 rfl trivial ?_ rfl
  simp only [Try.ntmps55, List.size_toArray, List.length_cons, List.length_nil, Nat.reduceAdd, Nat.reduceSub, Array.replicate_succ, Array.replicate_zero, List.push_toArray, List.append_toArray, List.nil_append, List.cons_append]
  gi_wp2
  gi_loopw [3] (fun i wr => ∃ (p : Nat) (pre : List Dx), p ≤ s.size ∧ i = .int .i64 p ∧ J pre wr ∧ pre.map (·.1) ++ seqD s (s.size + 1) p = seqOf s ∧ wr.heap[B0]? = some (.cells #[.string s] 9 (0, 0))) (fun i _ => s.size - (intOf i).toNat)
  case atStart => exact ⟨0, [], Nat.zero_le _, rfl, h0, rfl, hB1⟩
  case round =>
    obtain ⟨p, pre, hp, rfl, hJp, hseq, hb⟩ := hrel
    clear hB1 h0
    have c0 := blk_cell hb 0
    simp at c0
    by_cases hlt : p < s.size
    · have hpi : (p : Int) < (s.size : Int) := by omega
      have hpz : (p : Int) ≤ 900000 := by omega
      have t1 : Calls Try.prog 56 #[.string s, .int .i64 p, .int .i64 4] wr fun e w' => e = .returned (.tuple #[.int .u64 (takeN s p 4), .int .i64 (takeE s p 4)]) ∧ wr = w' := ntake_any s p 4 (by omega) (by omega) hs9 (by omega) wr
      have t2 : Calls Try.prog 57 #[.string s, .int .i64 ((p : Int) + 4)] wr fun e w' => e = .returned (.tuple #[.string (ttS s (p + 4)), .int .i64 (ttE s (p + 4)), .int .i64 (ttN s (p + 4))]) ∧ wr = w' := taketext_any s (p + 4) hs9 (by omega) wr
      have t3 := fun W => isname_any (ttS s (p + 4)) W
      have hino : takeN s p 4 < 4294967296 := takeN_lt' s p 4
      have T1 := Lib.hid t1
      have T2 := Lib.hid t2
      have T3 := Lib.hid t3
      clear t1 t2 t3
      by_cases hk : deOk s p = true
      · have hen := deOk_en hk
        have hk0 := hk
        unfold deOk at hk0
        simp only [Bool.and_eq_true, decide_eq_true_eq] at hk0
        obtain ⟨k1, k2, k3, k4⟩ := hk0
        rw [k1] at T1
        rw [k2] at T2
        rw [k4] at T3
        have hst : seqD s (s.size + 1) p = (deAt s p, true) :: seqD s (s.size + 1) (deAt s p).en := by
          conv => lhs; unfold seqD
          rw [if_pos hlt, if_pos hk, seqD_more s.size (s.size + 1) _ (by omega) (by omega)]
        rw [hst] at hseq
        have hnm : (deAt s p).name.size ≤ 59 := nameB_le k4
        obtain ⟨dx, hdx⟩ : ∃ dx : Dx, dx = ⟨(deAt s p, true), fun _ => hnm⟩ := ⟨_, rfl⟩
        have hyy := fun W h => hY pre dx W h (by
          have h1 : pre.length < (seqOf s).length := by rw [← hseq, List.length_append, List.length_map, List.length_cons]; omega
          have h2 := seqD_length s (s.size + 1) 0
          unfold seqOf at h1
          omega)
        have hye : encD dx = #[.agg #[.string (ttS s (p + 4)), .int .u32 (takeN s p 4), .int .i64 p, .int .i64 (ttE s (p + 4))], .bool true] := by rw [hdx]; rfl
        rw [hye] at hyy
        have hsq2 : (pre ++ [dx]).map (·.1) ++ seqD s (s.size + 1) (deAt s p).en = seqOf s := by rw [← hseq, hdx]; simp
        have hee : (deAt s p).en = ttE s (p + 4) := rfl
        rw [hee] at hen hsq2
        have k3i : (0 : Int) < (takeN s p 4 : Int) := by omega
        have hinoi : (takeN s p 4 : Int) < 4294967296 := by omega
        have heni : (ttE s (p + 4) : Int) ≤ 900000 := by omega
        have HY := Lib.hid hyy
        have HSQ := Lib.hid hsq2
        clear hyy hsq2 hye hst hseq k1 k2 k4 hk hdx hnm
        generalize ttS s (p + 4) = nm at *
        generalize hgn : takeN s p 4 = ino at *
        generalize ttE s (p + 4) = en at *
        clear hgn hee
        gi_wp2_with fail
        refine ⟨trivial, (callsIn_wide.2 T1.out).mono ?_⟩
        rintro e w1 ⟨rfl, hw1⟩
        rw [← hw1]
        clear hw1 w1
        gi_wp2_with fail
        refine ⟨trivial, (callsIn_wide.2 T2.out).mono ?_⟩
        rintro e w1 ⟨rfl, hw1⟩
        rw [← hw1]
        clear hw1 w1
        gi_wp2_with fail
        refine ⟨trivial, (callsIn_wide.2 (T3.out _)).mono ?_⟩
        rintro e w1 ⟨rfl, hw1⟩
        rw [← hw1]
        clear hw1 w1
        obtain ⟨fn, tmps, assign, body, hy, hRR⟩ := HY.out _ hJp
        gi_wp2
        refine hRR.mono ?_
        rintro e W3 (⟨rfl, hJ3, hk3⟩ | ⟨rfl, hJx3⟩)
        · have hb3 := hk3.get (by simp) hb
          have HB3 := Lib.hid hb3
          have HJ3 := Lib.hid hJ3
          clear hb3 hJ3 hk3 hRR hy c0
          gi_wp2
          go_roundw
          case rel => exact ⟨en, _, by omega, rfl, HJ3.out, HSQ.out, HB3.out⟩
          case measure => simp [intOf]; omega
        · have HJ3 := Lib.hid hJx3
          clear hJx3 hRR hy c0
          gi_wp2
          refine bodyPost_ret (results_none rfl _ _ _) rfl ?_
          exact ⟨⟨_, rfl⟩, .inr ⟨_, ⟨_, HSQ.out⟩, HJ3.out⟩⟩
      · replace hk : deOk s p = false := by simpa using hk
        have hst : seqD s (s.size + 1) p = [(deAt s p, false)] := by
          conv => lhs; unfold seqD
          rw [if_pos hlt, hk]
          rfl
        rw [hst] at hseq
        obtain ⟨dx, hdx⟩ : ∃ dx : Dx, dx = ⟨(deAt s p, false), fun h => by cases h⟩ := ⟨_, rfl⟩
        have hyy := fun W h => hY pre dx W h (by
          have h1 : pre.length < (seqOf s).length := by rw [← hseq, List.length_append, List.length_map, List.length_cons]; omega
          have h2 := seqD_length s (s.size + 1) 0
          unfold seqOf at h1
          omega)
        have hye : encD dx = #[.agg #[.string (ttS s (p + 4)), .int .u32 (takeN s p 4), .int .i64 p, .int .i64 (ttE s (p + 4))], .bool false] := by rw [hdx]; rfl
        replace hseq : (pre ++ [dx]).map (·.1) = seqOf s := by rw [← hseq, hdx]; simp
        rw [hye] at hyy
        have hinoi : (takeN s p 4 : Int) < 4294967296 := by omega
        have hcase : (takeE s p 4 = 2) ∨ (takeE s p 4 = 0 ∧ ttN s (p + 4) = 2) ∨ (takeE s p 4 = 0 ∧ ttN s (p + 4) = 0 ∧ takeN s p 4 = 0) ∨ (takeE s p 4 = 0 ∧ ttN s (p + 4) = 0 ∧ 0 < takeN s p 4 ∧ nameB (ttS s (p + 4)) = false) := by
          unfold deOk at hk
          have h1 : takeE s p 4 = 0 ∨ takeE s p 4 = 2 := by unfold takeE; split <;> simp
          have h2 : ttN s (p + 4) = 0 ∨ ttN s (p + 4) = 2 := by unfold ttN; split <;> simp
          rcases h1 with h1 | h1
          · rcases h2 with h2 | h2
            · by_cases h3 : takeN s p 4 = 0
              · exact .inr (.inr (.inl ⟨h1, h2, h3⟩))
              · refine .inr (.inr (.inr ⟨h1, h2, by omega, ?_⟩))
                simpa [h1, h2, show 0 < takeN s p 4 by omega] using hk
            · exact .inr (.inl ⟨h1, h2⟩)
          · exact .inl h1
        have HY := Lib.hid hyy
        have HSQ := Lib.hid hseq
        clear hyy hseq hye hst hk hino hdx
        generalize ttS s (p + 4) = nm at *
        generalize takeN s p 4 = ino at *
        generalize ttE s (p + 4) = en at *
        generalize takeE s p 4 = e1 at *
        generalize ttN s (p + 4) = e2 at *
        rcases hcase with rfl | ⟨rfl, rfl⟩ | ⟨rfl, rfl, rfl⟩ | ⟨rfl, rfl, k3, k4⟩
        case' inr.inr.inl =>
          rw [show ((0 : Nat) : Int) = 0 from rfl] at HY
        case' inr.inr.inr =>
          rw [k4] at T3
          have k3i : (0 : Int) < (ino : Int) := by omega
          clear k4
        all_goals
          gi_wp2_with fail
          refine ⟨trivial, (callsIn_wide.2 T1.out).mono ?_⟩
          rintro e w1 ⟨rfl, hw1⟩
          rw [← hw1]
          clear hw1 w1
          gi_wp2_with fail
          refine ⟨trivial, (callsIn_wide.2 T2.out).mono ?_⟩
          rintro e w1 ⟨rfl, hw1⟩
          rw [← hw1]
          clear hw1 w1
        gi_wp2_with fail
        refine ⟨trivial, (callsIn_wide.2 (T3.out _)).mono ?_⟩
        rintro e w1 ⟨rfl, hw1⟩
        rw [← hw1]
        clear hw1 w1
        all_goals
          obtain ⟨fn, tmps, assign, body, hy, hRR⟩ := HY.out _ hJp
          gi_wp2
          first
          | refine hRR.mono ?_
          | (refine ⟨trivial, ?_⟩
             gi_wp2
             refine hRR.mono ?_)
          rintro e W3 (⟨rfl, hJ3, hk3⟩ | ⟨rfl, hJx3⟩)
          · have HJ3 := Lib.hid hJ3
            clear hJ3 hk3 hRR hy c0
            gi_wp2
            refine bodyPost_ret (results_none rfl _ _ _) rfl ?_
            exact ⟨⟨_, rfl⟩, .inl ⟨_, HSQ.out, HJ3.out⟩⟩
          · have HJ3 := Lib.hid hJx3
            clear hJx3 hRR hy c0
            gi_wp2
            refine bodyPost_ret (results_none rfl _ _ _) rfl ?_
            exact ⟨⟨_, rfl⟩, .inr ⟨_, ⟨[], by rw [List.append_nil]; exact HSQ.out⟩, HJ3.out⟩⟩
    · obtain rfl : p = s.size := by omega
      have hst : seqD s (s.size + 1) s.size = [] := by
        unfold seqD
        rw [if_neg (by omega)]
      rw [hst, List.append_nil] at hseq
      have HSQ := Lib.hid hseq
      clear hseq
      have HJ := Lib.hid hJp
      clear hJp hst
      gi_wp2
      go_end0
      exact ⟨⟨_, rfl⟩, .inl ⟨_, HSQ.out, HJ.out⟩⟩
end Go.Proofs.Ytliioeihbbhiiaa

/- The reference's Put; the law's does: contracts over the given program. -/
import Derived.Test.YtcgphkghamcgcaaC
namespace Go.Proofs.Ytcgphkghamcgcaa
open Go.RowKit Go.Conc Go.Nau

set_option maxHeartbeats 400000 in
theorem rput_full (A : Option Addr) (n c size : Nat) (v : Int) (w : World) (h : size ≤ n) (hn : n ≤ maxLen) :
    Calls Try.prog 23 #[.slice A n c, .int .i64 size, .int .i64 v] w fun e w' => e = .returned (.tuple #[.slice A n c, .bool false]) ∧ w = w' := by
  have h' : decide (size ≤ n) = true := by simpa using h
  go_enter Try.func23, Try.ntmps23
  go_wp2
  go_ret2
  exact ⟨rfl, rfl⟩

def RputPost (w : World) (n : Nat) (l : List Int) (e : Ending) (w' : World) : Prop :=
  ∃ v', e = .returned (.tuple #[v', .bool true]) ∧ w'.ownsRow w.heap.size 2 1 v' (n + 1) (nums l) ∧ Below w.heap.size w w'

theorem nums_one (l : List Int) : ∀ u ∈ nums l, u.oneCell' = true := by
  intro u hu
  simp [nums] at hu
  obtain ⟨x, _, rfl⟩ := hu
  rfl

set_option maxHeartbeats 1000000 in
theorem rput_room (T : Nat → Prop) (A : Option Addr) (n c size : Nat) (v : Int) (l : List Int) (w : World) (h : n < size) (hs : size ≤ 1024) (hr : Rd T w 1 A n (nums l)) (hT : ∀ k, T k → k < w.heap.size) :
    Calls Try.prog 23 #[.slice A n c, .int .i64 size, .int .i64 v] w (RputPost w n (l ++ [v])) := by
  obtain ⟨i0, hi, hz0, hz1, hz2⟩ := info_parts Try.infoI
  have h' : decide (size ≤ n) = false := by simp; omega
  go_enter Try.func23, Try.ntmps23
  go_wp2_with (refine wpList_make_own _ rfl _ _ 30 rfl w.heap.size 2 i0 (.int .i64 0) 1 Try.underlying30 hi hz0 hz1 .i64 .i64 _ (n + 1) rfl rfl (by simp) (by rw [hz2]; omega) (by unfold maxLen; omega) (Nat.le_refl _) ?_)
  intro w1 hown1 hg1
  have hb1 : Below w.heap.size w w1 := (Below.refl _ _).grown hg1 (Nat.le_refl _) (by simp)
  have hr1 := hr.kept (Fr.of_below hb1) (fun k hk => by have := hT k hk; omega)
  go_wp2_with (first
    | (at_builtin; refine wpList_append_rd w1 rfl (.tmp 16) (.tmp 17) 30 rfl w.heap.size 2 i0 (.int .i64 0) 1 8 Try.underlying30 hi hz0 hz1 hz2 rfl (by omega) _ 0 [] rfl hown1 T A n c (nums l) rfl hr1 (nums_one l) (by unfold maxLen; omega) (by omega) hb1.size ?_; intro v1 w2 hown2 hg2 _)
    | (at_builtin; refine wpList_append_own _ rfl (.tmp 18) (.tmp 20) 30 rfl w.heap.size 2 i0 (.int .i64 0) 1 8 Try.underlying30 hi hz0 hz1 hz2 rfl (by decide) v1 (0 + n) ([] ++ nums l) rfl (hown2.alloc _) ⟨w2.heap.size, 0, none⟩ 1 1 [.int .i64 v] rfl rfl (cell_one_new _ _ _) (by simp [Value.oneCell']) (by unfold maxLen; omega) (by omega) (by have := hb1.size; have := hg2.size; simp; omega) ?_; intro v2 w3 hown3 hg3 _))
  go_ret2
  have hb2 : Below w.heap.size w w2 := hb1.grown hg2 hb1.size (fun k hk => (hown1.lt k hk).1)
  refine ⟨v2, rfl, ?_, (hb2.alloc hb2.size _).grown hg3 (by have := hb2.size; simp; omega) (fun k hk => (hown2.lt k hk).1)⟩
  simpa [nums] using hown3

/-- What is left to wait behind a call. -/
def doesL (l : List Int) (size : Nat) (kind v : Int) : List Int :=
  if pickOf kind = 0 ∨ pickOf kind = 1 then (if l.length < size then l ++ [v] else l) else if pickOf kind = 4 then [] else l.tail

theorem doesL_le (l : List Int) (size : Nat) (kind v : Int) (h : l.length ≤ size) : (doesL l size kind v).length ≤ size := by
  unfold doesL
  split
  · split
    · simp; omega
    · exact h
  · split
    · simp
    · simp; omega

def DoesPost (T : Nat → Prop) (w : World) (b c size : Nat) (l : List Int) (e : Ending) (w' : World) : Prop :=
  ∃ A n cc, e = .returned (.tuple #[.slice A n cc, .bool true]) ∧ Rd T w' 1 A n (nums l) ∧ n ≤ cc ∧ cc ≤ maxLen ∧ Que w' 53 b c size (nums l) ∧ Fr (· = c) w w'

set_option maxHeartbeats 400000 in
theorem does_room (T : Nat → Prop) (A : Option Addr) (b c size n cc : Nat) (l : List Int) (kind v : Int) (w : World) (hr : Rd T w 1 A n (nums l)) (hn : n ≤ cc) (hcc : cc ≤ maxLen) (hq : Que w 53 b c size (nums l))
    (hs : size ≤ 1024) (hl : n ≤ size) (hT1 : ∀ k, w.heap.size ≤ k → T k) (hT2 : ∀ k, T k → k ≠ c) (p : Int) (hp : p = 0 ∨ p = 1) (hpick : ∀ w, Calls Try.prog 22 #[.int .i64 kind, .int .i64 5] w fun e w' => e = .returned (.int .i64 p) ∧ w = w') (hroom : n < size) :
    Calls Try.prog 19 #[.pointer (some ⟨b, 0, none⟩), .slice A n cc, .int .i64 size, .agg #[.int .i64 kind, .int .i64 v]] w (DoesPost T w b c size (l ++ [v])) := by
  have hbc := hq.lt
  have hln : l.length = n := by have := hr.1; simpa using this
  have hfr : Fr (· = c) w (w.alloc (.cells #[.int .i64 kind, .int .i64 v] 43)) := (Fr.refl _ _).alloc _
  have hq' : Que (w.alloc (.cells #[.int .i64 kind, .int .i64 v] 43)) 53 b c size (nums l) := hq.kept (Fr.alloc (Fr.refl (fun _ => False) _) _) id id
  have hr' : Rd T (w.alloc (.cells #[.int .i64 kind, .int .i64 v] 43)) 1 A n (nums l) := hr.kept (Fr.alloc (Fr.refl (fun _ => False) _) _) (fun _ _ => id)
  have hlt : (nums l).length < size := by simp; omega
  clear hln
  rcases hp with rfl | rfl
  all_goals
    go_enter Try.func19, Try.ntmps19
    go_wp2_with fail
    refine (hpick _).mono ?_
    rintro e w' ⟨rfl, rfl⟩
    go_wp2_with fail
    refine (rput_room _ A n cc size v l _ hroom hs hr'.inb (fun k hk => hk.2)).mono ?_
    rintro e w2 ⟨v', rfl, hown, hb⟩
    obtain ⟨A', c', rfl, h3, h4, h5⟩ := Rd.of_own hown
    have hq2 : Que w2 53 b c size (nums l) := hq'.kept (Fr.of_below hb) (by simp; omega) (by simp; omega)
    have hf2 : Fr (· = c) w w2 := hfr.trans (Fr.new hb _)
    have hc2 : w2.cell? ⟨w.heap.size, 1, none⟩ = some (.int .i64 v) := (hb.cell (p := ⟨w.heap.size, 1, none⟩) (by simp)).trans (by have := heap_alloc_new w (.cells #[.int .i64 kind, .int .i64 v] 43); simp only [World.cell?, this]; rfl)
    go_wp2_with fail
    refine (put_consI _ _ _ _ _ _ hq2 hlt).mono ?_
    rintro e w3 ⟨rfl, hq3, hf3⟩
    go_wp2_with fail
    go_ret2
    refine ⟨A', n + 1, c', rfl, (h5.mono (T' := T) (fun k hk => hT1 k (by simp at hk; omega))).kept hf3 (fun k hk => hT2 k hk), h3, h4, by simpa [nums] using hq3, hf2.trans hf3⟩

set_option maxHeartbeats 400000 in
theorem does_full (T : Nat → Prop) (A : Option Addr) (b c size n cc : Nat) (l : List Int) (kind v : Int) (w : World) (hr : Rd T w 1 A n (nums l)) (hn : n ≤ cc) (hcc : cc ≤ maxLen) (hq : Que w 53 b c size (nums l))
    (hs : size ≤ 1024) (hl : n ≤ size) (hT1 : ∀ k, w.heap.size ≤ k → T k) (hT2 : ∀ k, T k → k ≠ c) (p : Int) (hp : p = 0 ∨ p = 1) (hpick : ∀ w, Calls Try.prog 22 #[.int .i64 kind, .int .i64 5] w fun e w' => e = .returned (.int .i64 p) ∧ w = w') (hroom : size ≤ n) :
    Calls Try.prog 19 #[.pointer (some ⟨b, 0, none⟩), .slice A n cc, .int .i64 size, .agg #[.int .i64 kind, .int .i64 v]] w (DoesPost T w b c size l) := by
  have hbc := hq.lt
  have hln : l.length = n := by have := hr.1; simpa using this
  have hfr : Fr (· = c) w (w.alloc (.cells #[.int .i64 kind, .int .i64 v] 43)) := (Fr.refl _ _).alloc _
  have hq' : Que (w.alloc (.cells #[.int .i64 kind, .int .i64 v] 43)) 53 b c size (nums l) := hq.kept (Fr.alloc (Fr.refl (fun _ => False) _) _) id id
  have hr' : Rd T (w.alloc (.cells #[.int .i64 kind, .int .i64 v] 43)) 1 A n (nums l) := hr.kept (Fr.alloc (Fr.refl (fun _ => False) _) _) (fun _ _ => id)
  have hlt : size ≤ (nums l).length := by simp; omega
  clear hln
  rcases hp with rfl | rfl
  all_goals
    go_enter Try.func19, Try.ntmps19
    go_wp2_with fail
    refine (hpick _).mono ?_
    rintro e w' ⟨rfl, rfl⟩
    go_wp2_with fail
    refine (rput_full A n cc size v _ hroom (by omega)).mono ?_
    rintro e w2 ⟨rfl, rfl⟩
    go_wp2_with fail
    refine (put_nilI' _ _ _ _ _ _ hq' hlt).mono ?_
    rintro e w3 ⟨rfl, rfl⟩
    go_wp2_with fail
    go_ret2
    exact ⟨A, n, cc, rfl, hr', hn, hcc, hq', hfr⟩

set_option maxHeartbeats 400000 in
theorem does_drain (T : Nat → Prop) (A : Option Addr) (b c size n cc : Nat) (l : List Int) (kind v : Int) (w : World) (hr : Rd T w 1 A n (nums l)) (hn : n ≤ cc) (hcc : cc ≤ maxLen) (hq : Que w 53 b c size (nums l))
    (hs : size ≤ 1024) (hl : n ≤ size) (hT1 : ∀ k, w.heap.size ≤ k → T k) (hT2 : ∀ k, T k → k ≠ c) (hpick : ∀ w, Calls Try.prog 22 #[.int .i64 kind, .int .i64 5] w fun e w' => e = .returned (.int .i64 4) ∧ w = w') :
    Calls Try.prog 19 #[.pointer (some ⟨b, 0, none⟩), .slice A n cc, .int .i64 size, .agg #[.int .i64 kind, .int .i64 v]] w (DoesPost T w b c size []) := by
  have hbc := hq.lt
  have hln : l.length = n := by have := hr.1; simpa using this
  have hfr : Fr (· = c) w (w.alloc (.cells #[.int .i64 kind, .int .i64 v] 43)) := (Fr.refl _ _).alloc _
  have hq' : Que (w.alloc (.cells #[.int .i64 kind, .int .i64 v] 43)) 53 b c size (nums l) := hq.kept (Fr.alloc (Fr.refl (fun _ => False) _) _) id id
  have hr' : Rd T (w.alloc (.cells #[.int .i64 kind, .int .i64 v] 43)) 1 A n (nums l) := hr.kept (Fr.alloc (Fr.refl (fun _ => False) _) _) (fun _ _ => id)
  have hl2 : l.length ≤ 1024 := by omega
  clear hln
  go_enter Try.func19, Try.ntmps19
  go_wp2_with fail
  refine (hpick _).mono ?_
  rintro e w' ⟨rfl, rfl⟩
  go_wp2_with fail
  refine (drainI _ _ _ _ _ hq' hl2).mono ?_
  rintro e w2 ⟨v', rfl, hown, hq2, hf2⟩
  obtain ⟨A', c', rfl, h3, h4, h5⟩ := Rd.of_own hown
  have hr2 : Rd T w2 1 A n (nums l) := hr'.kept hf2 (fun k hk => hT2 k hk)
  go_wp2_with fail
  refine (sameI _ _ _ _ _ _ _ _ _ _ _ h5 hr2 (by omega) (by omega)).mono ?_
  rintro e w3 ⟨rfl, q, rfl⟩
  go_wp2_with fail
  go_ret2
  exact ⟨none, 0, 0, by simp, Rd.nil .., Nat.le_refl _, by simp [maxLen], hq2, (hfr.trans hf2).trans (Fr.new (below_drewN (Below.refl _ _) _) _)⟩

set_option maxHeartbeats 400000 in
theorem does_none (T : Nat → Prop) (A : Option Addr) (b c size n cc : Nat) (l : List Int) (kind v : Int) (w : World) (hr : Rd T w 1 A n (nums l)) (hn : n ≤ cc) (hcc : cc ≤ maxLen) (hq : Que w 53 b c size (nums l))
    (hs : size ≤ 1024) (hl : n ≤ size) (hT1 : ∀ k, w.heap.size ≤ k → T k) (hT2 : ∀ k, T k → k ≠ c) (p : Int) (hp : p = 2 ∨ p = 3) (hpick : ∀ w, Calls Try.prog 22 #[.int .i64 kind, .int .i64 5] w fun e w' => e = .returned (.int .i64 p) ∧ w = w') (h0 : l = []) :
    Calls Try.prog 19 #[.pointer (some ⟨b, 0, none⟩), .slice A n cc, .int .i64 size, .agg #[.int .i64 kind, .int .i64 v]] w (DoesPost T w b c size []) := by
  have hbc := hq.lt
  have hln : l.length = n := by have := hr.1; simpa using this
  have hfr : Fr (· = c) w (w.alloc (.cells #[.int .i64 kind, .int .i64 v] 43)) := (Fr.refl _ _).alloc _
  have hq' : Que (w.alloc (.cells #[.int .i64 kind, .int .i64 v] 43)) 53 b c size (nums l) := hq.kept (Fr.alloc (Fr.refl (fun _ => False) _) _) id id
  have hr' : Rd T (w.alloc (.cells #[.int .i64 kind, .int .i64 v] 43)) 1 A n (nums l) := hr.kept (Fr.alloc (Fr.refl (fun _ => False) _) _) (fun _ _ => id)
  subst h0
  obtain rfl : n = 0 := by simpa using hln.symm
  clear hln
  rcases hp with rfl | rfl
  all_goals
    go_enter Try.func19, Try.ntmps19
    go_wp2_with fail
    refine (hpick _).mono ?_
    rintro e w' ⟨rfl, rfl⟩
    go_wp2_with fail
    refine (rtake_nil A cc _).mono ?_
    rintro e w2 ⟨rfl, rfl⟩
    go_wp2_with fail
    refine (take_nilI' _ _ _ _ hq').mono ?_
    rintro e w3 ⟨rfl, rfl⟩
    go_wp2_with fail
    go_ret2
    exact ⟨A, 0, cc, rfl, Rd.nil .., hn, hcc, hq', hfr⟩

set_option maxHeartbeats 400000 in
theorem does_some (T : Nat → Prop) (A : Option Addr) (b c size n cc : Nat) (l : List Int) (kind v : Int) (w : World) (hr : Rd T w 1 A n (nums l)) (hn : n ≤ cc) (hcc : cc ≤ maxLen) (hq : Que w 53 b c size (nums l))
    (hs : size ≤ 1024) (hl : n ≤ size) (hT1 : ∀ k, w.heap.size ≤ k → T k) (hT2 : ∀ k, T k → k ≠ c) (p : Int) (hp : p = 2 ∨ p = 3) (hpick : ∀ w, Calls Try.prog 22 #[.int .i64 kind, .int .i64 5] w fun e w' => e = .returned (.int .i64 p) ∧ w = w') (x : Int) (l' : List Int) (h0 : l = x :: l') :
    Calls Try.prog 19 #[.pointer (some ⟨b, 0, none⟩), .slice A n cc, .int .i64 size, .agg #[.int .i64 kind, .int .i64 v]] w (DoesPost T w b c size l') := by
  have hbc := hq.lt
  have hln : l.length = n := by have := hr.1; simpa using this
  have hfr : Fr (· = c) w (w.alloc (.cells #[.int .i64 kind, .int .i64 v] 43)) := (Fr.refl _ _).alloc _
  have hq' : Que (w.alloc (.cells #[.int .i64 kind, .int .i64 v] 43)) 53 b c size (nums l) := hq.kept (Fr.alloc (Fr.refl (fun _ => False) _) _) id id
  have hr' : Rd T (w.alloc (.cells #[.int .i64 kind, .int .i64 v] 43)) 1 A n (nums l) := hr.kept (Fr.alloc (Fr.refl (fun _ => False) _) _) (fun _ _ => id)
  subst h0
  have hn1 : 1 ≤ n := by simp at hln; omega
  have hl' : l'.length ≤ cc - 1 := by simp at hln; omega
  clear hln
  rcases hp with rfl | rfl
  all_goals
    go_enter Try.func19, Try.ntmps19
    go_wp2_with fail
    refine (hpick _).mono ?_
    rintro e w' ⟨rfl, rfl⟩
    go_wp2_with fail
    refine (rtake_cons T A n cc x l' _ hr' (by omega) hn hcc).mono ?_
    rintro e w2 ⟨A', rfl, hr2, q, rfl⟩
    have hq2 : Que ((w.alloc (.cells #[.int .i64 kind, .int .i64 v] 43)).drewN q) 53 b c size (nums (x :: l')) := hq'
    go_wp2_with fail
    refine (take_consI _ _ _ _ _ _ hq2).mono ?_
    rintro e w3 ⟨rfl, hq3, hf3⟩
    go_wp2_with fail
    go_ret2
    exact ⟨A', l'.length, cc - 1, by simp, (show Rd T ((w.alloc (.cells #[.int .i64 kind, .int .i64 v] 43)).drewN q) 1 A' l'.length (nums l') from hr2).kept hf3 (fun k hk => hT2 k hk), hl', by omega, hq3, (hfr.trans (Fr.new (below_drewN (Below.refl _ _) q) _)).trans hf3⟩

theorem doesI (T : Nat → Prop) (A : Option Addr) (b c size n cc : Nat) (l : List Int) (kind v : Int) (w : World) (hr : Rd T w 1 A n (nums l)) (hn : n ≤ cc) (hcc : cc ≤ maxLen) (hq : Que w 53 b c size (nums l))
    (hs : size ≤ 1024) (hl : n ≤ size) (hT1 : ∀ k, w.heap.size ≤ k → T k) (hT2 : ∀ k, T k → k ≠ c) (h1 : -9223372036854775808 ≤ kind) (h2 : kind ≤ 9223372036854775807) :
    Calls Try.prog 19 #[.pointer (some ⟨b, 0, none⟩), .slice A n cc, .int .i64 size, .agg #[.int .i64 kind, .int .i64 v]] w (DoesPost T w b c size (doesL l size kind v)) := by
  have hp := pick_lt kind
  have hln : l.length = n := by have := hr.1; simpa using this
  have hpick := fun w => pickI kind w h1 h2
  unfold doesL
  generalize pickOf kind = p at *
  by_cases hp1 : p = 0 ∨ p = 1
  · rw [if_pos hp1]
    by_cases hroom : l.length < size
    · rw [if_pos hroom]
      exact does_room T A b c size n cc l kind v w hr hn hcc hq hs hl hT1 hT2 p hp1 hpick (by omega)
    · rw [if_neg hroom]
      exact does_full T A b c size n cc l kind v w hr hn hcc hq hs hl hT1 hT2 p hp1 hpick (by omega)
  · rw [if_neg hp1]
    by_cases hp4 : p = 4
    · subst hp4
      rw [if_pos rfl]
      exact does_drain T A b c size n cc l kind v w hr hn hcc hq hs hl hT1 hT2 hpick
    · rw [if_neg hp4]
      have hp2 : p = 2 ∨ p = 3 := by omega
      cases l with
      | nil => exact does_none T A b c size n cc [] kind v w hr hn hcc hq hs hl hT1 hT2 p hp2 hpick rfl
      | cons x l' => exact does_some T A b c size n cc _ kind v w hr hn hcc hq hs hl hT1 hT2 p hp2 hpick x l' rfl
end Go.Proofs.Ytcgphkghamcgcaa

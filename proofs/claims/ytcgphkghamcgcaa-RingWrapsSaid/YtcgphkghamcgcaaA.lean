/- The queue: what New, Put, Take, Len and Size do, said of blocks: contracts over the given program, at numbers and at texts. -/
import Derived.Test.YtcgphkghamcgcaaRows
import Derived.WalkKit
import Derived.WalkSpells
import Derived.WalkLawsBesides
import Derived.Conc.LoneCalls
import Derived.Conc.LoneSelect
import Derived.Conc.LoneSelectN
import Derived.KernelRfl
import Derived.Laws.Rows
namespace Go.Proofs.Ytcgphkghamcgcaa
open Go.RowKit Go.Conc

/-- A queue at block b over the channel at block c: its size, and what waits. -/
def Que (w : World) (t b c size : Nat) (l : List Value) : Prop :=
  w.heap[b]? = some (.cells #[.chan (some c)] t (0, 0)) ∧ ∃ s r, w.heap[c]? = some (.chan size l.toArray false s r false)

theorem Que.put {w : World} {t b c size s r s' r' : Nat} {l m : List Value} (hb : w.heap[b]? = some (.cells #[.chan (some c)] t (0, 0))) (hc : w.heap[c]? = some (.chan size l.toArray false s r false)) :
    Que (w.setChan c size m.toArray false s' r' false) t b c size m := by
  have hbc : c ≠ b := by
    intro e
    rw [e, hb] at hc
    cases hc
  have hlt : c < w.heap.size := (Array.getElem?_eq_some_iff.1 hc).1
  refine ⟨?_, s', r', heap_setChan _ _ _ _ _ _ _ _ hlt⟩
  simp [World.setChan, Array.getElem?_setIfInBounds_ne hbc, hb]

theorem bytesI : ∃ i, Try.prog.info? 2 = some i ∧ i.bytes = 8 := by
  have h : (Try.prog.info? 2).map (·.bytes) = some 8 := by kernel_rfl
  obtain ⟨i, hi, hb⟩ := Option.map_eq_some_iff.1 h
  exact ⟨i, hi, hb⟩
theorem mkI (n : Int) (h0 : 0 ≤ n) (h1 : n ≤ 1024) (w : World) : (Instr.makeChan 51 (.int .i64 n)).run Try.prog w = .ok (.chan (some w.heap.size)) (w.alloc (.chan n.toNat #[] false 0 0 false)) := by
  obtain ⟨i, hi, hb⟩ := bytesI
  obtain ⟨k, rfl⟩ := Int.eq_ofNat_of_zero_le h0
  simpa using run_makeChan (P := Try.prog) (w := w) Try.underlying51 hi .i64 k (by omega) (by rw [hb]; omega)

set_option maxHeartbeats 400000 in
theorem new_badI (n : Int) (w : World) (h : n < 1 ∨ 1024 < n) :
    Calls Try.prog 13 #[.int .i64 n] w fun e w' => e = .returned (.pointer none) ∧ w = w' := by
  rcases h with h | h
  · go_enter Try.func13, Try.ntmps13
    go_wp2
    go_ret
    exact ⟨rfl, rfl⟩
  · have h' : ¬ n < 1 := by omega
    go_enter Try.func13, Try.ntmps13
    go_wp2
    go_ret
    exact ⟨rfl, rfl⟩

def NewPostI (w : World) (n : Nat) (e : Ending) (w' : World) : Prop :=
  ∃ b c, e = .returned (.pointer (some ⟨b, 0, none⟩)) ∧ w.heap.size ≤ b ∧ w.heap.size ≤ c ∧ b ≠ c ∧ b < w'.heap.size ∧ c < w'.heap.size ∧ Que w' 53 b c n [] ∧ Below w.heap.size w w'

set_option maxHeartbeats 400000 in
theorem new_okI (n : Int) (w : World) (h1 : 1 ≤ n) (h2 : n ≤ 1024) :
    Calls Try.prog 13 #[.int .i64 n] w (NewPostI w n.toNat) := by
  have hmk := mkI n (by omega) h2
  go_enter Try.func13, Try.ntmps13
  go_wp2
  go_ret
  refine ⟨_, _, rfl, by omega, Nat.le_refl _, by omega, by simp, by simp; omega, ⟨?_, 0, 0, ?_⟩, ((Below.refl _ w).alloc (Nat.le_refl _) _).alloc (by simp) _⟩
  · have := heap_alloc_new (w.alloc (.chan n.toNat #[] false 0 0 false)) (.cells #[.chan (some w.heap.size)] 53)
    simpa only [World.size_alloc] using this
  · rw [Below.heap_alloc _ _ _ (by simp)]
    exact heap_alloc_new w _
theorem len_nilI (w : World) : Calls Try.prog 14 #[.pointer none] w fun e w' => e = .returned (.int .i64 0) ∧ w = w' := by
  go_enter Try.func14, Try.ntmps14
  go_wp2
  go_ret
  exact ⟨rfl, rfl⟩

theorem size_nilI (w : World) : Calls Try.prog 20 #[.pointer none] w fun e w' => e = .returned (.int .i64 0) ∧ w = w' := by
  go_enter Try.func20, Try.ntmps20
  go_wp2
  go_ret
  exact ⟨rfl, rfl⟩

theorem put_nilI (v : Value) (w : World) : Calls Try.prog 16 #[.pointer none, v] w fun e w' => e = .returned (.bool false) ∧ w = w' := by
  go_enter Try.func16, Try.ntmps16
  go_wp2
  go_ret
  exact ⟨rfl, rfl⟩

theorem take_nilI (w : World) : Calls Try.prog 15 #[.pointer none] w fun e w' => e = .returned (.tuple #[.int .i64 0, .bool false]) ∧ w = w' := by
  go_enter Try.func15, Try.ntmps15
  go_wp2
  go_ret2
  exact ⟨rfl, rfl⟩

theorem len_queI (w : World) (b c size : Nat) (l : List Value) (h : Que w 53 b c size l) : Calls Try.prog 14 #[.pointer (some ⟨b, 0, none⟩)] w fun e w' => e = .returned (.int .i64 l.length) ∧ w = w' := by
  obtain ⟨hb, s, r, hc⟩ := h
  have hcell : w.cell? ⟨b, 0, none⟩ = some (.chan (some c)) := by simp [World.cell?, hb]
  have hlen := fun ty => run_len_chan (P := Try.prog) 51 ty Try.underlying51 hc
  go_enter Try.func14, Try.ntmps14
  go_wp2
  go_ret
  exact ⟨rfl, rfl⟩

theorem size_queI (w : World) (b c size : Nat) (l : List Value) (h : Que w 53 b c size l) : Calls Try.prog 20 #[.pointer (some ⟨b, 0, none⟩)] w fun e w' => e = .returned (.int .i64 size) ∧ w = w' := by
  obtain ⟨hb, s, r, hc⟩ := h
  have hcell : w.cell? ⟨b, 0, none⟩ = some (.chan (some c)) := by simp [World.cell?, hb]
  have hlen := fun ty => run_cap_chan (P := Try.prog) 51 ty Try.underlying51 hc
  go_enter Try.func20, Try.ntmps20
  go_wp2
  go_ret
  exact ⟨rfl, rfl⟩
set_option maxRecDepth 100000 in
set_option maxHeartbeats 1000000 in
theorem put_roomI (v : Value) (w : World) (b c size s r : Nat) (l : List Value) (hb : w.heap[b]? = some (.cells #[.chan (some c)] 53 (0, 0))) (hc : w.heap[c]? = some (.chan size l.toArray false s r false)) (hl : l.length < size) :
    Calls Try.prog 16 #[.pointer (some ⟨b, 0, none⟩), v] w fun e w' => e = .returned (.bool true) ∧ w' = w.setChan c size (l.toArray.push v) false (s + 1) r false := by
  refine calls_of_loneTo fun cs => ?_
  have hcell : w.cell? ⟨b, 0, none⟩ = some (.chan (some c)) := by simp [World.cell?, hb]
  have e : Frame.enter Try.prog 16 #[.pointer (some ⟨b, 0, none⟩), v] .normal = (base 16).at ⟨#[.pointer (some ⟨b, 0, none⟩), v, undef, undef, undef, undef, undef, undef, undef, undef, undef, undef, undef, undef, undef], []⟩ [.code (Try.f16.body.getD .skip)] := by
    simp [Frame.enter, Frame.at, Try.func16, base, Try.f16]
  rw [e]
  refine LoneTo.goes (n := 24) ?_
  simp only [Try.f16, Option.getD_some]
  s_c stepG_seq
  s_reg
  s_op
  s_c stepG_region_end
  s_c stepG_seq
  s_c stepG_seq
  s_reg
  s_op
  s_op
  s_c stepG_region_end
  s_cond false
  s_c stepG_skip
  s_c stepG_seq
  s_c stepG_seq
  s_reg
  s_op
  s_op
  s_op
  s_op
  s_c stepG_region_end
  s_reg
  s_op
  s_c stepG_region_end
  s_c stepG_seq
  s_stop
  refine LoneTo.goes (n := 1) ?_
  s_reg
  s_stop
  refine LoneTo.step (step_lone_select_send_room (c := c) (v := v) (z' := .int .i64 0) (cap := size) (buf := l.toArray) (s := s) (r := r) (tm := false) (stepG_comm (cases := #[scase c v (.int .i64 0)]) (blocking := false) (shape := .select) (w' := w) rfl rfl (by decide) (by simp [go_sem, execOp, scase, Act.eval])) hc (by simpa using hl)) ?_
  rw [Frame.finish_at]
  walk_nrm
  refine LoneTo.goes (n := 9) ?_
  s_op
  s_op
  s_c stepG_region_end
  s_c stepG_block
  s_cond true
  s_c stepG_seq
  s_reg
  s_op
  s_c stepG_region_end
  s_stop
  refine LoneTo.goes (n := 1) ?_
  s_c stepG_ret'
  s_stop
  refine LoneTo.done ⟨.returned (.bool true), _, rfl, ⟨rfl, ?_⟩, rfl, rfl, rfl, rfl, _, Try.func16, by simp [results, Try.f16, Frame.at]⟩
  rfl

set_option maxRecDepth 100000 in
set_option maxHeartbeats 1000000 in
theorem put_fullI (v : Value) (w : World) (b c size s r : Nat) (l : List Value) (hb : w.heap[b]? = some (.cells #[.chan (some c)] 53 (0, 0))) (hc : w.heap[c]? = some (.chan size l.toArray false s r false)) (hl : size ≤ l.length) :
    Calls Try.prog 16 #[.pointer (some ⟨b, 0, none⟩), v] w fun e w' => e = .returned (.bool false) ∧ w' = w := by
  refine calls_of_loneTo fun cs => ?_
  have hcell : w.cell? ⟨b, 0, none⟩ = some (.chan (some c)) := by simp [World.cell?, hb]
  have e : Frame.enter Try.prog 16 #[.pointer (some ⟨b, 0, none⟩), v] .normal = (base 16).at ⟨#[.pointer (some ⟨b, 0, none⟩), v, undef, undef, undef, undef, undef, undef, undef, undef, undef, undef, undef, undef, undef], []⟩ [.code (Try.f16.body.getD .skip)] := by
    simp [Frame.enter, Frame.at, Try.func16, base, Try.f16]
  rw [e]
  refine LoneTo.goes (n := 24) ?_
  simp only [Try.f16, Option.getD_some]
  s_c stepG_seq
  s_reg
  s_op
  s_c stepG_region_end
  s_c stepG_seq
  s_c stepG_seq
  s_reg
  s_op
  s_op
  s_c stepG_region_end
  s_cond false
  s_c stepG_skip
  s_c stepG_seq
  s_c stepG_seq
  s_reg
  s_op
  s_op
  s_op
  s_op
  s_c stepG_region_end
  s_reg
  s_op
  s_c stepG_region_end
  s_c stepG_seq
  s_stop
  refine LoneTo.goes (n := 1) ?_
  s_reg
  s_stop
  refine LoneTo.step (step_lone_select_send_full (c := c) (v := v) (z' := .int .i64 0) (cap := size) (buf := l.toArray) (s := s) (r := r) (tm := false) (stepG_comm (cases := #[scase c v (.int .i64 0)]) (blocking := false) (shape := .select) (w' := w) rfl rfl (by decide) (by simp [go_sem, execOp, scase, Act.eval])) hc (by simpa using hl)) ?_
  rw [Frame.finish_at]
  walk_nrm
  refine LoneTo.goes (n := 9) ?_
  s_op
  s_op
  s_c stepG_region_end
  s_c stepG_block
  s_cond false
  s_c stepG_seq
  s_reg
  s_op
  s_c stepG_region_end
  s_stop
  refine LoneTo.goes (n := 1) ?_
  s_c stepG_ret'
  s_stop
  refine LoneTo.done ⟨.returned (.bool false), _, rfl, ⟨rfl, ?_⟩, rfl, rfl, rfl, rfl, _, Try.func16, by simp [results, Try.f16, Frame.at]⟩
  rfl

set_option maxRecDepth 100000 in
set_option maxHeartbeats 1000000 in
theorem take_someI (w : World) (b c size s r : Nat) (x : Value) (l : List Value) (hb : w.heap[b]? = some (.cells #[.chan (some c)] 53 (0, 0))) (hc : w.heap[c]? = some (.chan size (x :: l).toArray false s r false)) :
    Calls Try.prog 15 #[.pointer (some ⟨b, 0, none⟩)] w fun e w' => e = .returned (.tuple #[x, .bool true]) ∧ w' = w.setChan c size l.toArray false s (r + 1) false := by
  refine calls_of_loneTo fun cs => ?_
  have hcell : w.cell? ⟨b, 0, none⟩ = some (.chan (some c)) := by simp [World.cell?, hb]
  have e : Frame.enter Try.prog 15 #[.pointer (some ⟨b, 0, none⟩)] .normal = (base 15).at ⟨#[.pointer (some ⟨b, 0, none⟩), undef, undef, undef, undef, undef, undef, undef, undef, undef, undef, undef, undef, undef, undef, undef, undef, undef, undef], []⟩ [.code (Try.f15.body.getD .skip)] := by
    simp [Frame.enter, Frame.at, Try.func15, base, Try.f15]
  rw [e]
  refine LoneTo.goes (n := 24) ?_
  simp only [Try.f15, Option.getD_some]
  s_c stepG_seq
  s_reg
  s_op
  s_op
  s_c stepG_region_end
  s_c stepG_seq
  s_reg
  s_op
  s_c stepG_region_end
  s_c stepG_seq
  s_c stepG_seq
  s_reg
  s_op
  s_op
  s_c stepG_region_end
  s_cond false
  s_c stepG_skip
  s_c stepG_seq
  s_reg
  s_op
  s_op
  s_op
  s_op
  s_c stepG_region_end
  s_stop
  refine LoneTo.goes (n := 2) ?_
  s_c stepG_seq
  s_reg
  s_stop
  refine LoneTo.step (step_lone_select_recv_buf (c := c) (z := .int .i64 0) (cap := size) (buf := (x :: l).toArray) (closed := false) (s := s) (r := r) (tm := false) (stepG_comm (cases := #[rcase c (.int .i64 0)]) (blocking := false) (shape := .select) (w' := w) rfl rfl (by decide) (by simp [go_sem, execOp, rcase, Act.eval])) hc (by simp)) ?_
  have ex : (x :: l).toArray.getD 0 undef = x := by simp
  have ey : (x :: l).toArray.extract 1 (x :: l).toArray.size = l.toArray := by simp
  rw [ex, ey]
  rw [Frame.finish_at]
  walk_nrm
  refine LoneTo.goes (n := 17) ?_
  s_op
  s_op
  s_c stepG_region_end
  s_c stepG_block
  s_cond true
  s_c stepG_seq
  s_reg
  s_op
  s_op
  s_c stepG_region_end
  s_c stepG_seq
  s_reg
  s_op
  s_op
  s_op
  s_c stepG_region_end
  s_c stepG_ret'
  s_stop
  refine LoneTo.done ⟨.returned (.tuple #[x, .bool true]), _, rfl, ⟨rfl, ?_⟩, rfl, rfl, rfl, rfl, _, Try.func15, by simp [results, Try.f15, Frame.at]⟩
  rfl

set_option maxRecDepth 100000 in
set_option maxHeartbeats 1000000 in
theorem take_noneI (w : World) (b c size s r : Nat) (hb : w.heap[b]? = some (.cells #[.chan (some c)] 53 (0, 0))) (hc : w.heap[c]? = some (.chan size ([] : List Value).toArray false s r false)) :
    Calls Try.prog 15 #[.pointer (some ⟨b, 0, none⟩)] w fun e w' => e = .returned (.tuple #[.int .i64 0, .bool false]) ∧ w' = w := by
  refine calls_of_loneTo fun cs => ?_
  have hcell : w.cell? ⟨b, 0, none⟩ = some (.chan (some c)) := by simp [World.cell?, hb]
  have e : Frame.enter Try.prog 15 #[.pointer (some ⟨b, 0, none⟩)] .normal = (base 15).at ⟨#[.pointer (some ⟨b, 0, none⟩), undef, undef, undef, undef, undef, undef, undef, undef, undef, undef, undef, undef, undef, undef, undef, undef, undef, undef], []⟩ [.code (Try.f15.body.getD .skip)] := by
    simp [Frame.enter, Frame.at, Try.func15, base, Try.f15]
  rw [e]
  refine LoneTo.goes (n := 24) ?_
  simp only [Try.f15, Option.getD_some]
  s_c stepG_seq
  s_reg
  s_op
  s_op
  s_c stepG_region_end
  s_c stepG_seq
  s_reg
  s_op
  s_c stepG_region_end
  s_c stepG_seq
  s_c stepG_seq
  s_reg
  s_op
  s_op
  s_c stepG_region_end
  s_cond false
  s_c stepG_skip
  s_c stepG_seq
  s_reg
  s_op
  s_op
  s_op
  s_op
  s_c stepG_region_end
  s_stop
  refine LoneTo.goes (n := 2) ?_
  s_c stepG_seq
  s_reg
  s_stop
  refine LoneTo.step (step_lone_select_default (c := c) (z := .int .i64 0) (cap := size) (s := s) (r := r) (tm := false) (stepG_comm (cases := #[rcase c (.int .i64 0)]) (blocking := false) (shape := .select) (w' := w) rfl rfl (by decide) (by simp [go_sem, execOp, rcase, Act.eval])) hc) ?_
  rw [Frame.finish_at]
  walk_nrm
  refine LoneTo.goes (n := 12) ?_
  s_op
  s_op
  s_c stepG_region_end
  s_c stepG_block
  s_cond false
  s_c stepG_seq
  s_reg
  s_op
  s_op
  s_op
  s_c stepG_region_end
  s_c stepG_ret'
  s_stop
  refine LoneTo.done ⟨.returned (.tuple #[.int .i64 0, .bool false]), _, rfl, ⟨rfl, ?_⟩, rfl, rfl, rfl, rfl, _, Try.func15, by simp [results, Try.f15, Frame.at]⟩
  rfl


theorem bytesS : ∃ i, Try.prog.info? 9 = some i ∧ i.bytes = 16 := by
  have h : (Try.prog.info? 9).map (·.bytes) = some 16 := by kernel_rfl
  obtain ⟨i, hi, hb⟩ := Option.map_eq_some_iff.1 h
  exact ⟨i, hi, hb⟩
theorem mkS (n : Int) (h0 : 0 ≤ n) (h1 : n ≤ 1024) (w : World) : (Instr.makeChan 46 (.int .i64 n)).run Try.prog w = .ok (.chan (some w.heap.size)) (w.alloc (.chan n.toNat #[] false 0 0 false)) := by
  obtain ⟨i, hi, hb⟩ := bytesS
  obtain ⟨k, rfl⟩ := Int.eq_ofNat_of_zero_le h0
  simpa using run_makeChan (P := Try.prog) (w := w) Try.underlying46 hi .i64 k (by omega) (by rw [hb]; omega)

set_option maxHeartbeats 400000 in
theorem new_badS (n : Int) (w : World) (h : n < 1 ∨ 1024 < n) :
    Calls Try.prog 9 #[.int .i64 n] w fun e w' => e = .returned (.pointer none) ∧ w = w' := by
  rcases h with h | h
  · go_enter Try.func9, Try.ntmps9
    go_wp2
    go_ret
    exact ⟨rfl, rfl⟩
  · have h' : ¬ n < 1 := by omega
    go_enter Try.func9, Try.ntmps9
    go_wp2
    go_ret
    exact ⟨rfl, rfl⟩

def NewPostS (w : World) (n : Nat) (e : Ending) (w' : World) : Prop :=
  ∃ b c, e = .returned (.pointer (some ⟨b, 0, none⟩)) ∧ w.heap.size ≤ b ∧ w.heap.size ≤ c ∧ b ≠ c ∧ b < w'.heap.size ∧ c < w'.heap.size ∧ Que w' 48 b c n [] ∧ Below w.heap.size w w'

set_option maxHeartbeats 400000 in
theorem new_okS (n : Int) (w : World) (h1 : 1 ≤ n) (h2 : n ≤ 1024) :
    Calls Try.prog 9 #[.int .i64 n] w (NewPostS w n.toNat) := by
  have hmk := mkS n (by omega) h2
  go_enter Try.func9, Try.ntmps9
  go_wp2
  go_ret
  refine ⟨_, _, rfl, by omega, Nat.le_refl _, by omega, by simp, by simp; omega, ⟨?_, 0, 0, ?_⟩, ((Below.refl _ w).alloc (Nat.le_refl _) _).alloc (by simp) _⟩
  · have := heap_alloc_new (w.alloc (.chan n.toNat #[] false 0 0 false)) (.cells #[.chan (some w.heap.size)] 48)
    simpa only [World.size_alloc] using this
  · rw [Below.heap_alloc _ _ _ (by simp)]
    exact heap_alloc_new w _
theorem len_nilS (w : World) : Calls Try.prog 12 #[.pointer none] w fun e w' => e = .returned (.int .i64 0) ∧ w = w' := by
  go_enter Try.func12, Try.ntmps12
  go_wp2
  go_ret
  exact ⟨rfl, rfl⟩

theorem put_nilS (v : Value) (w : World) : Calls Try.prog 10 #[.pointer none, v] w fun e w' => e = .returned (.bool false) ∧ w = w' := by
  go_enter Try.func10, Try.ntmps10
  go_wp2
  go_ret
  exact ⟨rfl, rfl⟩

theorem take_nilS (w : World) : Calls Try.prog 21 #[.pointer none] w fun e w' => e = .returned (.tuple #[.string ⟨#[]⟩, .bool false]) ∧ w = w' := by
  go_enter Try.func21, Try.ntmps21
  go_wp2
  go_ret2
  exact ⟨rfl, rfl⟩

theorem len_queS (w : World) (b c size : Nat) (l : List Value) (h : Que w 48 b c size l) : Calls Try.prog 12 #[.pointer (some ⟨b, 0, none⟩)] w fun e w' => e = .returned (.int .i64 l.length) ∧ w = w' := by
  obtain ⟨hb, s, r, hc⟩ := h
  have hcell : w.cell? ⟨b, 0, none⟩ = some (.chan (some c)) := by simp [World.cell?, hb]
  have hlen := fun ty => run_len_chan (P := Try.prog) 46 ty Try.underlying46 hc
  go_enter Try.func12, Try.ntmps12
  go_wp2
  go_ret
  exact ⟨rfl, rfl⟩
set_option maxRecDepth 100000 in
set_option maxHeartbeats 1000000 in
theorem put_roomS (v : Value) (w : World) (b c size s r : Nat) (l : List Value) (hb : w.heap[b]? = some (.cells #[.chan (some c)] 48 (0, 0))) (hc : w.heap[c]? = some (.chan size l.toArray false s r false)) (hl : l.length < size) :
    Calls Try.prog 10 #[.pointer (some ⟨b, 0, none⟩), v] w fun e w' => e = .returned (.bool true) ∧ w' = w.setChan c size (l.toArray.push v) false (s + 1) r false := by
  refine calls_of_loneTo fun cs => ?_
  have hcell : w.cell? ⟨b, 0, none⟩ = some (.chan (some c)) := by simp [World.cell?, hb]
  have e : Frame.enter Try.prog 10 #[.pointer (some ⟨b, 0, none⟩), v] .normal = (base 10).at ⟨#[.pointer (some ⟨b, 0, none⟩), v, undef, undef, undef, undef, undef, undef, undef, undef, undef, undef, undef, undef, undef], []⟩ [.code (Try.f10.body.getD .skip)] := by
    simp [Frame.enter, Frame.at, Try.func10, base, Try.f10]
  rw [e]
  refine LoneTo.goes (n := 24) ?_
  simp only [Try.f10, Option.getD_some]
  s_c stepG_seq
  s_reg
  s_op
  s_c stepG_region_end
  s_c stepG_seq
  s_c stepG_seq
  s_reg
  s_op
  s_op
  s_c stepG_region_end
  s_cond false
  s_c stepG_skip
  s_c stepG_seq
  s_c stepG_seq
  s_reg
  s_op
  s_op
  s_op
  s_op
  s_c stepG_region_end
  s_reg
  s_op
  s_c stepG_region_end
  s_c stepG_seq
  s_stop
  refine LoneTo.goes (n := 1) ?_
  s_reg
  s_stop
  refine LoneTo.step (step_lone_select_send_room (c := c) (v := v) (z' := .string ⟨#[]⟩) (cap := size) (buf := l.toArray) (s := s) (r := r) (tm := false) (stepG_comm (cases := #[scase c v (.string ⟨#[]⟩)]) (blocking := false) (shape := .select) (w' := w) rfl rfl (by decide) (by simp [go_sem, execOp, scase, Act.eval])) hc (by simpa using hl)) ?_
  rw [Frame.finish_at]
  walk_nrm
  refine LoneTo.goes (n := 9) ?_
  s_op
  s_op
  s_c stepG_region_end
  s_c stepG_block
  s_cond true
  s_c stepG_seq
  s_reg
  s_op
  s_c stepG_region_end
  s_stop
  refine LoneTo.goes (n := 1) ?_
  s_c stepG_ret'
  s_stop
  refine LoneTo.done ⟨.returned (.bool true), _, rfl, ⟨rfl, ?_⟩, rfl, rfl, rfl, rfl, _, Try.func10, by simp [results, Try.f10, Frame.at]⟩
  rfl

set_option maxRecDepth 100000 in
set_option maxHeartbeats 1000000 in
theorem put_fullS (v : Value) (w : World) (b c size s r : Nat) (l : List Value) (hb : w.heap[b]? = some (.cells #[.chan (some c)] 48 (0, 0))) (hc : w.heap[c]? = some (.chan size l.toArray false s r false)) (hl : size ≤ l.length) :
    Calls Try.prog 10 #[.pointer (some ⟨b, 0, none⟩), v] w fun e w' => e = .returned (.bool false) ∧ w' = w := by
  refine calls_of_loneTo fun cs => ?_
  have hcell : w.cell? ⟨b, 0, none⟩ = some (.chan (some c)) := by simp [World.cell?, hb]
  have e : Frame.enter Try.prog 10 #[.pointer (some ⟨b, 0, none⟩), v] .normal = (base 10).at ⟨#[.pointer (some ⟨b, 0, none⟩), v, undef, undef, undef, undef, undef, undef, undef, undef, undef, undef, undef, undef, undef], []⟩ [.code (Try.f10.body.getD .skip)] := by
    simp [Frame.enter, Frame.at, Try.func10, base, Try.f10]
  rw [e]
  refine LoneTo.goes (n := 24) ?_
  simp only [Try.f10, Option.getD_some]
  s_c stepG_seq
  s_reg
  s_op
  s_c stepG_region_end
  s_c stepG_seq
  s_c stepG_seq
  s_reg
  s_op
  s_op
  s_c stepG_region_end
  s_cond false
  s_c stepG_skip
  s_c stepG_seq
  s_c stepG_seq
  s_reg
  s_op
  s_op
  s_op
  s_op
  s_c stepG_region_end
  s_reg
  s_op
  s_c stepG_region_end
  s_c stepG_seq
  s_stop
  refine LoneTo.goes (n := 1) ?_
  s_reg
  s_stop
  refine LoneTo.step (step_lone_select_send_full (c := c) (v := v) (z' := .string ⟨#[]⟩) (cap := size) (buf := l.toArray) (s := s) (r := r) (tm := false) (stepG_comm (cases := #[scase c v (.string ⟨#[]⟩)]) (blocking := false) (shape := .select) (w' := w) rfl rfl (by decide) (by simp [go_sem, execOp, scase, Act.eval])) hc (by simpa using hl)) ?_
  rw [Frame.finish_at]
  walk_nrm
  refine LoneTo.goes (n := 9) ?_
  s_op
  s_op
  s_c stepG_region_end
  s_c stepG_block
  s_cond false
  s_c stepG_seq
  s_reg
  s_op
  s_c stepG_region_end
  s_stop
  refine LoneTo.goes (n := 1) ?_
  s_c stepG_ret'
  s_stop
  refine LoneTo.done ⟨.returned (.bool false), _, rfl, ⟨rfl, ?_⟩, rfl, rfl, rfl, rfl, _, Try.func10, by simp [results, Try.f10, Frame.at]⟩
  rfl

set_option maxRecDepth 100000 in
set_option maxHeartbeats 1000000 in
theorem take_someS (w : World) (b c size s r : Nat) (x : Value) (l : List Value) (hb : w.heap[b]? = some (.cells #[.chan (some c)] 48 (0, 0))) (hc : w.heap[c]? = some (.chan size (x :: l).toArray false s r false)) :
    Calls Try.prog 21 #[.pointer (some ⟨b, 0, none⟩)] w fun e w' => e = .returned (.tuple #[x, .bool true]) ∧ w' = w.setChan c size l.toArray false s (r + 1) false := by
  refine calls_of_loneTo fun cs => ?_
  have hcell : w.cell? ⟨b, 0, none⟩ = some (.chan (some c)) := by simp [World.cell?, hb]
  have e : Frame.enter Try.prog 21 #[.pointer (some ⟨b, 0, none⟩)] .normal = (base 21).at ⟨#[.pointer (some ⟨b, 0, none⟩), undef, undef, undef, undef, undef, undef, undef, undef, undef, undef, undef, undef, undef, undef, undef, undef, undef, undef], []⟩ [.code (Try.f21.body.getD .skip)] := by
    simp [Frame.enter, Frame.at, Try.func21, base, Try.f21]
  rw [e]
  refine LoneTo.goes (n := 24) ?_
  simp only [Try.f21, Option.getD_some]
  s_c stepG_seq
  s_reg
  s_op
  s_op
  s_c stepG_region_end
  s_c stepG_seq
  s_reg
  s_op
  s_c stepG_region_end
  s_c stepG_seq
  s_c stepG_seq
  s_reg
  s_op
  s_op
  s_c stepG_region_end
  s_cond false
  s_c stepG_skip
  s_c stepG_seq
  s_reg
  s_op
  s_op
  s_op
  s_op
  s_c stepG_region_end
  s_stop
  refine LoneTo.goes (n := 2) ?_
  s_c stepG_seq
  s_reg
  s_stop
  refine LoneTo.step (step_lone_select_recv_buf (c := c) (z := .string ⟨#[]⟩) (cap := size) (buf := (x :: l).toArray) (closed := false) (s := s) (r := r) (tm := false) (stepG_comm (cases := #[rcase c (.string ⟨#[]⟩)]) (blocking := false) (shape := .select) (w' := w) rfl rfl (by decide) (by simp [go_sem, execOp, rcase, Act.eval])) hc (by simp)) ?_
  have ex : (x :: l).toArray.getD 0 undef = x := by simp
  have ey : (x :: l).toArray.extract 1 (x :: l).toArray.size = l.toArray := by simp
  rw [ex, ey]
  rw [Frame.finish_at]
  walk_nrm
  refine LoneTo.goes (n := 17) ?_
  s_op
  s_op
  s_c stepG_region_end
  s_c stepG_block
  s_cond true
  s_c stepG_seq
  s_reg
  s_op
  s_op
  s_c stepG_region_end
  s_c stepG_seq
  s_reg
  s_op
  s_op
  s_op
  s_c stepG_region_end
  s_c stepG_ret'
  s_stop
  refine LoneTo.done ⟨.returned (.tuple #[x, .bool true]), _, rfl, ⟨rfl, ?_⟩, rfl, rfl, rfl, rfl, _, Try.func21, by simp [results, Try.f21, Frame.at]⟩
  rfl

set_option maxRecDepth 100000 in
set_option maxHeartbeats 1000000 in
theorem take_noneS (w : World) (b c size s r : Nat) (hb : w.heap[b]? = some (.cells #[.chan (some c)] 48 (0, 0))) (hc : w.heap[c]? = some (.chan size ([] : List Value).toArray false s r false)) :
    Calls Try.prog 21 #[.pointer (some ⟨b, 0, none⟩)] w fun e w' => e = .returned (.tuple #[.string ⟨#[]⟩, .bool false]) ∧ w' = w := by
  refine calls_of_loneTo fun cs => ?_
  have hcell : w.cell? ⟨b, 0, none⟩ = some (.chan (some c)) := by simp [World.cell?, hb]
  have e : Frame.enter Try.prog 21 #[.pointer (some ⟨b, 0, none⟩)] .normal = (base 21).at ⟨#[.pointer (some ⟨b, 0, none⟩), undef, undef, undef, undef, undef, undef, undef, undef, undef, undef, undef, undef, undef, undef, undef, undef, undef, undef], []⟩ [.code (Try.f21.body.getD .skip)] := by
    simp [Frame.enter, Frame.at, Try.func21, base, Try.f21]
  rw [e]
  refine LoneTo.goes (n := 24) ?_
  simp only [Try.f21, Option.getD_some]
  s_c stepG_seq
  s_reg
  s_op
  s_op
  s_c stepG_region_end
  s_c stepG_seq
  s_reg
  s_op
  s_c stepG_region_end
  s_c stepG_seq
  s_c stepG_seq
  s_reg
  s_op
  s_op
  s_c stepG_region_end
  s_cond false
  s_c stepG_skip
  s_c stepG_seq
  s_reg
  s_op
  s_op
  s_op
  s_op
  s_c stepG_region_end
  s_stop
  refine LoneTo.goes (n := 2) ?_
  s_c stepG_seq
  s_reg
  s_stop
  refine LoneTo.step (step_lone_select_default (c := c) (z := .string ⟨#[]⟩) (cap := size) (s := s) (r := r) (tm := false) (stepG_comm (cases := #[rcase c (.string ⟨#[]⟩)]) (blocking := false) (shape := .select) (w' := w) rfl rfl (by decide) (by simp [go_sem, execOp, rcase, Act.eval])) hc) ?_
  rw [Frame.finish_at]
  walk_nrm
  refine LoneTo.goes (n := 12) ?_
  s_op
  s_op
  s_c stepG_region_end
  s_c stepG_block
  s_cond false
  s_c stepG_seq
  s_reg
  s_op
  s_op
  s_op
  s_c stepG_region_end
  s_c stepG_ret'
  s_stop
  refine LoneTo.done ⟨.returned (.tuple #[.string ⟨#[]⟩, .bool false]), _, rfl, ⟨rfl, ?_⟩, rfl, rfl, rfl, rfl, _, Try.func21, by simp [results, Try.f21, Frame.at]⟩
  rfl

end Go.Proofs.Ytcgphkghamcgcaa

/- The queue: Drain; beside it the reference's Same, Put, Take, and the law's pick: contracts over the given program. -/
import Derived.Test.YtcgphkghamcgcaaA
import Derived.Test.YtcgphkghamcgcaaF
import Derived.Lib.Hide
import Derived.IntWalk
import Derived.LoopTactic
namespace Go.Proofs.Ytcgphkghamcgcaa
open Go.RowKit Go.Conc Go.Nau

theorem setChan_fr (w : World) (c cap : Nat) (buf : Array Value) (closed : Bool) (s r : Nat) (tm : Bool) : Fr (· = c) w (w.setChan c cap buf closed s r tm) :=
  ⟨rfl, rfl, rfl, by simp [World.setChan], fun k _ hs => by simp [World.setChan, Array.getElem?_setIfInBounds_ne (fun e => hs e.symm)]⟩
theorem Que.kept {S : Nat → Prop} {w w' : World} {t b c size : Nat} {l : List Value} (h : Que w t b c size l) (hf : Fr S w w') (hb : ¬ S b) (hc : ¬ S c) : Que w' t b c size l := by
  obtain ⟨h1, s, r, h2⟩ := h
  exact ⟨hf.get hb h1, s, r, hf.get hc h2⟩
theorem Que.ne {w : World} {t b c size : Nat} {l : List Value} (h : Que w t b c size l) : c ≠ b := by
  obtain ⟨h1, s, r, h2⟩ := h
  intro e
  rw [e, h1] at h2
  cases h2
theorem Que.lt {w : World} {t b c size : Nat} {l : List Value} (h : Que w t b c size l) : b < w.heap.size ∧ c < w.heap.size := by
  obtain ⟨h1, s, r, h2⟩ := h
  exact ⟨(Array.getElem?_eq_some_iff.1 h1).1, (Array.getElem?_eq_some_iff.1 h2).1⟩

/-- How many wait: read off the world. -/
def left (c : Nat) (w : World) : Nat := match w.heap[c]? with | some (.chan _ buf _ _ _ _) => buf.size | _ => 0
theorem Que.left {w : World} {t b c size : Nat} {l : List Value} (h : Que w t b c size l) : left c w = l.length := by
  obtain ⟨h1, s, r, h2⟩ := h
  simp [Ytcgphkghamcgcaa.left, h2]

theorem take_consI (w : World) (b c size : Nat) (x : Value) (l : List Value) (h : Que w 53 b c size (x :: l)) :
    Calls Try.prog 15 #[.pointer (some ⟨b, 0, none⟩)] w fun e w' => e = .returned (.tuple #[x, .bool true]) ∧ Que w' 53 b c size l ∧ Fr (· = c) w w' := by
  obtain ⟨hb, s, r, hc⟩ := h
  refine (take_someI w b c size s r x l hb hc).mono ?_
  rintro e w' ⟨he, rfl⟩
  exact ⟨he, Que.put hb hc, setChan_fr ..⟩
theorem take_nilI' (w : World) (b c size : Nat) (h : Que w 53 b c size []) :
    Calls Try.prog 15 #[.pointer (some ⟨b, 0, none⟩)] w fun e w' => e = .returned (.tuple #[.int .i64 0, .bool false]) ∧ w = w' := by
  obtain ⟨hb, s, r, hc⟩ := h
  refine (take_noneI w b c size s r hb hc).mono ?_
  rintro e w' ⟨he, rfl⟩
  exact ⟨he, rfl⟩
theorem put_consI (w : World) (b c size : Nat) (v : Value) (l : List Value) (h : Que w 53 b c size l) (hl : l.length < size) :
    Calls Try.prog 16 #[.pointer (some ⟨b, 0, none⟩), v] w fun e w' => e = .returned (.bool true) ∧ Que w' 53 b c size (l ++ [v]) ∧ Fr (· = c) w w' := by
  obtain ⟨hb, s, r, hc⟩ := h
  refine (put_roomI v w b c size s r l hb hc hl).mono ?_
  rintro e w' ⟨he, rfl⟩
  refine ⟨he, ?_, setChan_fr ..⟩
  have : l.toArray.push v = (l ++ [v]).toArray := by simp
  rw [this]
  exact Que.put hb hc
theorem put_nilI' (w : World) (b c size : Nat) (v : Value) (l : List Value) (h : Que w 53 b c size l) (hl : size ≤ l.length) :
    Calls Try.prog 16 #[.pointer (some ⟨b, 0, none⟩), v] w fun e w' => e = .returned (.bool false) ∧ w = w' := by
  obtain ⟨hb, s, r, hc⟩ := h
  refine (put_fullI v w b c size s r l hb hc hl).mono ?_
  rintro e w' ⟨he, rfl⟩
  exact ⟨he, rfl⟩

theorem Try.infoI : (Try.prog.info? 2).map (fun i => (i.zero, i.size, i.bytes)) = some (some (.int .i64 0), 1, 8) := by kernel_rfl

abbrev nums (l : List Int) : List Value := l.map (Value.int .i64)

def DrainPost (w : World) (b c size : Nat) (l : List Int) (e : Ending) (w' : World) : Prop :=
  ∃ v, e = .returned v ∧ w'.ownsRow w.heap.size 2 1 v l.length (nums l) ∧ Que w' 53 b c size [] ∧ Fr (· = c) w w'

set_option maxHeartbeats 1000000 in
theorem drainI (w : World) (b c size : Nat) (l : List Int) (h : Que w 53 b c size (nums l)) (hl : l.length ≤ 1024) :
    Calls Try.prog 18 #[.pointer (some ⟨b, 0, none⟩)] w (DrainPost w b c size l) := by
  obtain ⟨i0, hi, hz0, hz1, hz2⟩ := info_parts Try.infoI
  have hcb := h.ne
  have hbc := h.lt
  go_enter Try.func18, Try.ntmps18
  go_wp2
  go_loopw [3] (fun o wr => ∃ pre rest, l = pre ++ rest ∧ wr.ownsRow w.heap.size 2 1 o pre.length (nums pre) ∧ Que wr 53 b c size (nums rest) ∧ Fr (· = c) w wr) (fun _ wr => left c wr)
  case atStart => exact ⟨[], l, rfl, World.ownsRow_nil _ _ _ _, h, Fr.refl _ _⟩
  case round =>
    obtain ⟨pre, rest, hx, hown, hq, hf⟩ := hrel
    cases rest with
    | nil =>
      go_wp2_with (go_at_call 15; refine (take_nilI' _ _ _ _ hq).mono ?_; rintro e w' ⟨rfl, rfl⟩)
      go_ret
      refine ⟨_, rfl, ?_, hq, hf⟩
      rw [hx, List.append_nil]
      exact hown
    | cons x rest =>
      have hlen : pre.length + 1 ≤ 1024 := by rw [hx] at hl; simp at hl; omega
      have hsz := hf.size
      have Hx := Lib.hid hx
      clear hx
      go_wp2_with fail
      refine (take_consI _ _ _ _ _ _ hq).mono ?_
      rintro e w1 ⟨rfl, hq1, hf1⟩
      have hown1 : w1.ownsRow w.heap.size 2 1 u3 pre.length (nums pre) := Fr.own hown hf1 (fun k hk e => by have := (hown.lt k hk).1; omega)
      have hsz1 := hf1.size
      have hleft : left c wr = rest.length + 1 := by rw [hq.left]; simp
      have Hl := Lib.hid hleft
      clear hleft
      go_wp2_with (at_builtin; refine wpList_append_own _ rfl _ _ 30 rfl w.heap.size 2 i0 (.int .i64 0) 1 8 Try.underlying30 hi hz0 hz1 hz2 rfl (by decide) _ _ _ rfl (hown1.alloc _) ⟨w1.heap.size, 0, none⟩ 1 1 [.int .i64 x] rfl rfl (cell_one_new _ _ _) ?c2 ?c3 ?c4 ?c5 ?_)
      case c2 => simp [Value.oneCell']
      case c3 => unfold maxLen; omega
      case c4 => omega
      case c5 => simp; omega
      intro v' w2 hown2 hgrow _
      have hf2 : Fr (· = c) w w2 := ((hf.trans hf1).alloc _).grown hgrow (fun k hk hlt => by have := (hown.lt k hk).1; omega)
      have hq2 : Que w2 53 b c size (nums rest) := (hq1.kept (Fr.alloc (Fr.refl (fun _ => False) _) _) id id).kept (Fr.of_grown hgrow) (fun e => by have := (hown.lt b e.symm).1; omega) (fun e => by have := (hown.lt c e.symm).1; omega)
      have hleft2 : left c w2 = rest.length := by rw [hq2.left]; simp
      have Hl2 := Lib.hid hleft2
      clear hleft2 hgrow hf1 hq1 hown1 hq hown
      go_wp2
      go_roundw
      case rel => exact ⟨pre ++ [x], rest, by rw [Hx.out]; simp, by simpa using hown2, hq2, hf2⟩
      case measure => rw [Hl2.out, Hl.out]; omega
end Go.Proofs.Ytcgphkghamcgcaa

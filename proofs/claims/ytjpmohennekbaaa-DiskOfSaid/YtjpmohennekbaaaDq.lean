/- The reference disk's New; the disk's Of: contracts over the given program. -/
import Derived.Test.YtjpmohennekbaaaDp
namespace Go.Proofs.Ytjpmohennekbaaa
open Go.RowKit Go.Nau Go.Shelf
attribute [local go_sem] Oper.semAt_some

theorem blockS_empty : blockS ⟨#[]⟩ = zero := by
  unfold blockS
  rw [zero_eq]
  show (⟨#[]⟩ : ByteArray) ++ zeroN 512 = zeroN 512
  exact ByteArray.empty_append
theorem blocksL_empty (n : Nat) : blocksL (List.replicate n ⟨#[]⟩) = List.replicate n zero := by
  simp [blocksL, blockS_empty]

set_option maxHeartbeats 400000 in
theorem rnew_bad (n : Int) (w : World) (hi : -9223372036854775808 ≤ n ∧ n ≤ 9223372036854775807) (h : sizeB n = false) :
    Calls Try.prog 22 #[.int .i64 n] w fun e w' => e = .returned (.tuple #[.pointer none, .int .i64 40]) ∧ w = w' := by
  go_enter Try.func22, Try.ntmps22
  go_wp2_with fail
  refine (rsize_any _ _ hi).mono ?_
  rintro e w1 ⟨rfl, rfl⟩
  rw [h]
  go_wp2_with fail
  go_ret2
  exact ⟨rfl, rfl⟩

def RNewPost (w : World) (n : Nat) (e : Ending) (w' : World) : Prop :=
  ∃ r, e = .returned (.tuple #[.pointer (some ⟨r, 0, none⟩), .int .i64 0]) ∧ RDsk w' (fun k => w.heap.size ≤ k ∧ k < w'.heap.size) r (freshDS (List.replicate n zero)) ∧ Below w.heap.size w w'

set_option maxHeartbeats 400000 in
theorem rnew_ok (n : Nat) (w : World) (h : sizeB n = true) :
    Calls Try.prog 22 #[.int .i64 n] w (RNewPost w n) := by
  obtain ⟨i0, hi, hz0, hz1, hz2⟩ := info_parts infoS
  have hb : 128 ≤ n ∧ n ≤ 4096 := by
    unfold sizeB at h
    simp at h
    omega
  have hS := rsize_any n w (by omega)
  rw [h] at hS
  have HS := Lib.hid hS
  clear hS
  go_enter Try.func22, Try.ntmps22
  go_wp2_with fail
  refine HS.out.mono ?_
  rintro e w1 ⟨rfl, rfl⟩
  go_wp2_with (at_make; refine wpList_make_full _ rfl _ _ 22 rfl w.heap.size 9 i0 (.string ⟨#[]⟩) 1 Try.underlying22 hi hz0 hz1 _ _ _ _ n rfl rfl rfl rfl (by rw [hz2]; omega) (by unfold maxLen; omega) (Nat.le_refl _) ?_; intro w2 hown2 hg2; have hb2 : Below w.heap.size w w2 := (Below.refl _ _).grown hg2 (Nat.le_refl _) (by simp))
  have hh := made_filled (s := ⟨#[]⟩) hown2 (by omega)
  have hf : filled ⟨#[]⟩ n 0 = strs (List.replicate n ⟨#[]⟩) := by simp [filled, strs]
  have hlt := (Array.getElem?_eq_some_iff.1 hh).1
  have hrd : Rd (· < w2.heap.size) w2 1 (some ⟨w.heap.size, 0, none⟩) (List.replicate n (⟨#[]⟩ : ByteArray)).length (strs (List.replicate n ⟨#[]⟩)) := by
    refine ⟨by simp, fun _ => ⟨_, rfl, hlt, fun j u hu => ?_⟩⟩
    have : (⟨w.heap.size, 0, none⟩ : Addr).add j = ⟨w.heap.size, j, none⟩ := by unfold Addr.add; split <;> simp_all
    rw [this, cell_of_row w2 w.heap.size j _ _ _ hh, hf, List.getElem?_toArray]
    exact hu
  have hlen : (List.replicate n (⟨#[]⟩ : ByteArray)).length = n := by simp
  have hof := rof_any (some ⟨w.heap.size, 0, none⟩) n (List.replicate n ⟨#[]⟩) w2 hrd (by rw [hlen]; exact h)
  rw [hlen] at hof
  have HO := Lib.hid hof
  clear hof hrd hh hown2 hg2
  go_wp2_with fail
  refine HO.out.mono ?_
  rintro e w3 (⟨_, ⟨r, rfl, hD⟩, hb3⟩ | ⟨⟨x, hx, hxs⟩, _⟩)
  · rw [blocksL_empty] at hD
    go_wp2_with fail
    go_ret2
    have hs2 := hb2.size
    exact ⟨r, rfl, hD.monoF (fun k hk h => ⟨by omega, h.2⟩), hb2.trans (hb3.mono hs2)⟩
  · exfalso
    have := List.eq_of_mem_replicate hx
    rw [this] at hxs
    exact absurd hxs (by decide)

theorem dof_size (A : Option Addr) (n c : Nat) (w : World) (h : sizeB n = false) (hn : (n : Int) ≤ 9223372036854775807) :
    Calls Try.prog 16 #[.slice A n c] w fun e w' => e = .returned (.tuple #[.pointer none, .int .i64 40]) ∧ w = w' := by
  go_enter Try.func16, Try.ntmps16
  go_wp2_with fail
  refine (issize_any _ _ (by omega)).mono ?_
  rintro e w1 ⟨rfl, rfl⟩
  rw [h]
  go_wp2_with fail
  go_ret2
  exact ⟨rfl, rfl⟩

def DOfRel (w0 : World) (l : List ByteArray) (k : Nat) (v i : Value) (wr : World) : Prop :=
  ∃ q : Nat, k = l.length - q ∧ i = .int .i64 q ∧ q ≤ l.length ∧ (∀ x ∈ l.take q, x.size ≤ 512) ∧ wr.ownsRow w0.heap.size 9 1 v q (strs (blocksL (l.take q))) ∧ Below w0.heap.size w0 wr

def DOfPost (w : World) (l : List ByteArray) (e : Ending) (w' : World) : Prop :=
  ((∀ x ∈ l, x.size ≤ 512) ∧ (∃ d, e = .returned (.tuple #[.pointer (some ⟨d, 0, none⟩), .int .i64 0]) ∧ Dsk w' (fun k => w.heap.size ≤ k ∧ k < w'.heap.size) d (freshDS (blocksL l))) ∧ Below w.heap.size w w') ∨
  ((∃ x ∈ l, 512 < x.size) ∧ e = .returned (.tuple #[.pointer none, .int .i64 40]) ∧ Below w.heap.size w w')

set_option maxHeartbeats 2000000 in
set_option maxRecDepth 100000 in
theorem dof_any (A : Option Addr) (c : Nat) (l : List ByteArray) (w : World) (hr : Rd (· < w.heap.size) w 1 A l.length (strs l)) (hsb : sizeB l.length = true) :
    Calls Try.prog 16 #[.slice A l.length c] w (DOfPost w l) := by
  obtain ⟨i0, hi, hz0, hz1, hz2⟩ := info_parts infoS
  have hb : 128 ≤ l.length ∧ l.length ≤ 4096 := by
    unfold sizeB at hsb
    simp at hsb
    omega
  have hli : (l.length : Int) ≤ 4096 := by omega
  have hsz := issize_any l.length w (by omega)
  rw [hsb] at hsz
  have HS := Lib.hid hsz
  clear hsz
  have HR := Lib.hid hr
  clear hr
  go_enter Try.func16, Try.ntmps16
  go_wp2_with fail
  refine HS.out.mono ?_
  rintro e w1 ⟨rfl, rfl⟩
  go_wp2_with fail
  go_loopg [4, 13] l.length (DOfRel w l)
  case atStart => exact ⟨0, rfl, rfl, Nat.zero_le _, by simp, ⟨by simp [blocksL], .inl ⟨rfl, rfl⟩⟩, Below.refl _ _⟩
  case round =>
    obtain ⟨q, rfl, rfl, hq, hle, hown, hbw⟩ := hrel
    by_cases hlt : q < l.length
    · have hqi : (q : Int) < (l.length : Int) := by omega
      obtain ⟨ad, rfl, hadb, hcell⟩ := (HR.out.kept (Fr.of_below hbw) (fun k hk => by omega)).2 (by omega)
      obtain ⟨x, hx⟩ : ∃ x, l[q]? = some x := ⟨_, List.getElem?_eq_getElem hlt⟩
      have e0 := hcell _ _ (strs_at hx)
      have hwz := hbw.size
      by_cases hxs : x.size ≤ 512
      · have hxi : (x.size : Int) ≤ 512 := by omega
        obtain ⟨m, hm⟩ : ∃ m, m = 512 - x.size := ⟨_, rfl⟩
        have hmi : (512 : Int) - (x.size : Int) = (m : Int) := by omega
        have hrep : ∀ W, Calls Try.prog 49 #[.string ⟨#[0]⟩, .int .i64 m] W fun e w' => e = .returned (.string (zeroN m)) ∧ Below W.heap.size W w' := fun W => by
          rw [← repeat_zero]
          exact Try.strings_Repeat ⟨#[0]⟩ m W (by omega) (by show 1 * m ≤ _; omega)
        have hbq : blockS x = x ++ zeroN m := by rw [hm]; rfl
        have hzm := zeroN_size m
        have hsn : l.take (q + 1) = l.take q ++ [x] := by rw [List.take_add_one, hx]; rfl
        have hnx : strs (blocksL (l.take (q + 1))) = strs (blocksL (l.take q)) ++ [.string (x ++ zeroN m)] := by rw [hsn]; simp [strs, blocksL, hbq]
        have hfin2 : ∀ y ∈ l.take (q + 1), y.size ≤ 512 := by
          rw [hsn]
          intro y hy
          rcases List.mem_append.1 hy with h | h
          · exact hle y h
          · have : y = x := by simpa using h
            rw [this]; exact hxs
        have HREP := Lib.hid hrep
        have HNX := Lib.hid hnx
        have HF2 := Lib.hid hfin2
        have HO := Lib.hid hown
        have hn6 : ¬ 9223372036854775807 < x.size + (zeroN m).size := by omega
        have hm5 : m ≤ 512 := by omega
        clear hrep hnx hfin2 hsn hbq hle hown hcell hx hzm hm
        generalize zeroN m = zm at *
        go_wp2_with fail
        refine (HREP.out _).mono ?_
        rintro e w2 ⟨rfl, hb2⟩
        have hs2 := hb2.size
        have hown2 := Fr.own HO.out (Fr.new hb2 (fun _ => False)) (fun _ _ => id)
        go_wp2_with (at_builtin; refine wpList_append_rd _ rfl (.tmp 20) (.tmp 27) 22 rfl w.heap.size 9 i0 _ 1 16 Try.underlying22 hi hz0 hz1 hz2 rfl (by decide) _ q (strs (blocksL (l.take q))) rfl (hown2.alloc _) _ (some ⟨w2.heap.size, 0, none⟩) 1 1 [.string (x ++ zm)] rfl (rd_new1 w2 (x ++ zm)) (by simp [Value.oneCell']) (by unfold maxLen; omega) (by omega) (by simp; omega) ?_; intro v3 w3 hown3 hg3 hat3)
        have hb3 : Below w.heap.size w w3 := ((hbw.trans (hb2.mono hwz)).alloc (by omega) _).trans ((Fr.of_grown hg3).below (by simp; omega) (fun k hk => (hown2.lt k hk.symm).1))
        rw [← HNX.out] at hown3
        have HO3 := Lib.hid hown3
        clear hown3 hg3 hat3 hown2
        go_roundg (l.length - (q + 1))
        case measure => omega
        case rel => exact ⟨q + 1, rfl, by simp, by omega, HF2.out, HO3.out, hb3⟩
      · have hxi : 512 < (x.size : Int) := by omega
        have hex : ∃ x ∈ l, 512 < x.size := ⟨x, List.mem_of_getElem? hx, by omega⟩
        clear hcell hx
        go_wp2_with fail
        go_ret2
        exact .inr ⟨hex, rfl, hbw⟩
    · obtain rfl : q = l.length := by omega
      rw [List.take_length] at hown hle
      have hlen : (blocksL l).length = l.length := by simp [blocksL]
      obtain ⟨bb, bc, cur, rfl, hbb, _⟩ := own_form hown (by omega)
      have hof := of_any bb bc (blocksL l) wr (by rw [hlen]; exact own_base hown (Nat.zero_le _)) (by omega) (by omega)
      rw [hlen] at hof
      have hbl := (hown.lt bb rfl).2
      have hwz := hbw.size
      have HO := Lib.hid hof
      clear hof hown
      go_wp2_with fail
      refine HO.out.mono ?_
      rintro e w2 ⟨d, rfl, hD, hd, hb2⟩
      have hs2 := hb2.size
      go_wp2_with fail
      go_ret2
      exact .inl ⟨hle, ⟨d, rfl, hD.monoF (fun k hk h => by rcases h with h | h <;> omega)⟩, hbw.trans (hb2.mono hwz)⟩
end Go.Proofs.Ytjpmohennekbaaa

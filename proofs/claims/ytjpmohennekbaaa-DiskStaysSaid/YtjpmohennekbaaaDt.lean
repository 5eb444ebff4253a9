/- The law DiskDoes walked. -/
import Derived.Test.YtjpmohennekbaaaDs
namespace Go.Proofs.Ytjpmohennekbaaa
open Go.RowKit Go.Nau Go.Shelf
attribute [local go_sem] Oper.semAt_some

theorem ops_cells {T : Nat → Prop} {w : World} {A : Option Addr} {n : Nat} {l : List DOp} (hr : Rd T w 6 A n (opsC l)) (q : Nat) (x : DOp) (hx : l[q]? = some x) (hq : q < n) :
    ∃ ad, A = some ad ∧ w.cell? (ad.add (q * 6)) = some (.int .i64 x.kind) ∧ w.cell? ⟨(ad.add (q * 6)).block, (ad.add (q * 6)).off + 1, none⟩ = some (.int .i64 x.place) ∧ w.cell? ⟨(ad.add (q * 6)).block, (ad.add (q * 6)).off + 2, none⟩ = some (.int .i64 x.n) ∧
      w.cell? ⟨(ad.add (q * 6)).block, (ad.add (q * 6)).off + 3, none⟩ = some (.int .u8 x.c) ∧ w.cell? ⟨(ad.add (q * 6)).block, (ad.add (q * 6)).off + 4, none⟩ = some (.int .u64 x.keep) ∧ w.cell? ⟨(ad.add (q * 6)).block, (ad.add (q * 6)).off + 5, none⟩ = some (.int .i64 x.torn) := by
  obtain ⟨ad, rfl, _, hc⟩ := hr.2 (by omega)
  have h : ∀ j, j < 6 → w.cell? ((ad.add (q * 6)).add j) = (ocells x)[j]? := by
    intro j hj
    have hg := opsC_get l q j x hx hj
    have hj' : j < (ocells x).length := by simpa [ocells] using hj
    rw [List.getElem?_eq_getElem hj'] at hg ⊢
    rw [Go.Nau.add_add]
    exact hc _ _ hg
  exact ⟨ad, rfl, h 0 (by omega), h 1 (by omega), h 2 (by omega), h 3 (by omega), h 4 (by omega), h 5 (by omega)⟩

def DoRel (w0 : World) (l : List DOp) (nb most : Nat) (k : Nat) (dv rv iv : Value) (wr : World) : Prop :=
  ∃ (q d r : Nat) (s : DS) (F G : Nat → Prop), k = l.length - q ∧ iv = .int .i64 q ∧ q ≤ l.length ∧ q ≤ most ∧ dv = .pointer (some ⟨d, 0, none⟩) ∧ rv = .pointer (some ⟨r, 0, none⟩) ∧
    Both w0.heap.size wr F G d r s ∧ Below w0.heap.size w0 wr ∧ DInv s ∧ s.now.length = nb ∧ s.ops ≤ q ∧ s.loose.length ≤ q

set_option maxHeartbeats 4000000 in
set_option maxRecDepth 100000 in
theorem diskdoes_any (b : Int) (hb : -9223372036854775808 ≤ b ∧ b ≤ 9223372036854775807) (A : Option Addr) (n c : Nat) (l : List DOp) (w : World) (hr : Rd (· < w.heap.size) w 6 A n (opsC l)) (hl : l.length = n) (hn : n ≤ maxLen) (hwf : ∀ x ∈ l, x.wf) :
    Calls Try.prog 6 #[.int .i64 b, .slice A n c] w fun e w' => e = .returned (.bool true) ∧ Below w.heap.size w w' := by
  subst hl
  have hni : (l.length : Int) ≤ 9223372036854775807 := by unfold maxLen at hn; omega
  have hS := Lib.hid (shown_any w)
  have HR := Lib.hid hr
  have HWF := Lib.hid hwf
  clear hr hwf
  go_enter Try.func6, Try.ntmps6
  go_wp2_with fail
  refine hS.out.mono ?_
  rintro e w1 ⟨rfl, hb1⟩
  have hs1 := hb1.size
  have htail : ∀ (hsz : sizeB b = false), Calls Try.prog 21 #[.int .i64 b] w1 (fun e w' => e = .returned (.tuple #[.pointer none, .int .i64 40]) ∧ w1 = w') := fun hsz => new_bad b w1 hb hsz
  have htail2 : ∀ (hsz : sizeB b = false), Calls Try.prog 22 #[.int .i64 b] w1 (fun e w' => e = .returned (.tuple #[.pointer none, .int .i64 40]) ∧ w1 = w') := fun hsz => rnew_bad b w1 hb hsz
  by_cases g1 : 256 < b
  · by_cases g2 : b ≤ 4096
    · go_wp2_with fail
      go_ret
      exact ⟨rfl, hb1⟩
    · have hsz : sizeB b = false := by unfold sizeB; simp [g2]
      go_wp2_with fail
      refine (htail hsz).mono ?_
      rintro e w2 ⟨rfl, rfl⟩
      go_wp2_with fail
      refine (htail2 hsz).mono ?_
      rintro e w2 ⟨rfl, rfl⟩
      go_wp2_with fail
      go_ret
      exact ⟨rfl, hb1⟩
  · by_cases hsz : sizeB b = true
    · obtain ⟨m, rfl⟩ : ∃ m : Nat, b = m := ⟨b.toNat, by unfold sizeB at hsz; simp at hsz; omega⟩
      have hnew := new_ok m w1 hsz
      have hrnew := fun W => rnew_ok m W hsz
      have hm : 128 ≤ m ∧ m ≤ 256 := by
        unfold sizeB at hsz
        simp at hsz
        omega
      have HNW := Lib.hid hnew
      have HRN := Lib.hid hrnew
      clear hnew hrnew htail htail2 hsz
      go_wp2_with fail
      refine HNW.out.mono ?_
      rintro e w2 ⟨d, rfl, hD, hd, hb2⟩
      have hs2 := hb2.size
      go_wp2_with fail
      refine (HRN.out w2).mono ?_
      rintro e w3 ⟨r, rfl, hRr, hb3⟩
      have hs3 := hb3.size
      have hi0 : DInv (freshDS (List.replicate m zero)) := DInv.fresh (fun x hx => by rw [List.eq_of_mem_replicate hx]; exact zero_size) (by simp; omega) (by simp; omega)
      have hbo : Both w.heap.size w3 (fun k => w1.heap.size ≤ k ∧ k < w2.heap.size) (fun k => w2.heap.size ≤ k ∧ k < w3.heap.size) d r (freshDS (List.replicate m zero)) :=
        ⟨hD.kept (Fr.new hb3 (fun _ => False)) (fun _ _ => id), hRr, fun k h1 h2 => by omega, fun k hk => by omega, fun k hk => by omega⟩
      have hlen0 : (freshDS (List.replicate m zero)).now.length = m := by simp [freshDS]
      have hb03 : Below w.heap.size w w3 := (hb1.trans (hb2.mono (by omega))).trans (hb3.mono (by omega))
      have ho0 : (freshDS (List.replicate m zero)).ops = 0 := rfl
      have hl0 : (freshDS (List.replicate m zero)).loose.length = 0 := rfl
      generalize freshDS (List.replicate m zero) = s0 at *
      go_wp2_with fail
      clear HNW HRN hD hRr
      go_loopg [6, 8, 10] l.length (DoRel w l m 200)
      case atStart => exact ⟨0, d, r, s0, _, _, rfl, rfl, Nat.zero_le _, Nat.zero_le _, rfl, rfl, hbo, hb03, hi0, hlen0, by omega, by omega⟩
      case round =>
        obtain ⟨q, d', r', s, F, G, rfl, rfl, hq, hq2, rfl, rfl, hbo', hbw, hi, hlen, ho, hlo⟩ := hrel
        clear hbo hb03 hi0 hlen0 ho0 hl0
        by_cases hgo : q < l.length ∧ q < 200
        · obtain ⟨hlt, hlt2⟩ := hgo
          have hqi : (q : Int) < (l.length : Int) := by omega
          have hq2i : (q : Int) < 200 := by omega
          obtain ⟨x, hx⟩ : ∃ x, l[q]? = some x := ⟨_, List.getElem?_eq_getElem hlt⟩
          obtain ⟨ad, rfl, e0, e1, e2, e3, e4, e5⟩ := ops_cells (HR.out.kept (Fr.of_below hbw) (fun k hk => by omega)) q x hx hlt
          have hdo := does_any hbo' hbw.size hi x (HWF.out x (List.mem_of_getElem? hx)) (by omega) (by omega)
          have HDO := Lib.hid hdo
          clear hdo hx
          go_wp2_with fail
          refine HDO.out.mono ?_
          rintro e w4 ⟨d2, r2, s2, F2, G2, rfl, hbo2, hbw2, hi2, hl2, ho2, hll2, _⟩
          have cO : ∀ n, Calls Try.prog 33 #[.pointer (some ⟨d2, 0, none⟩)] (w4.drewN n) fun e w'' => e = .returned (.int .i64 s2.ops) ∧ ∃ m, w'' = w4.drewN m := fun n => (ops_dsk (hbo2.1.kept (Fr.drewN (fun _ => False) w4 n) (fun _ _ => id))).mono fun e w' ⟨he, hw⟩ => ⟨he, n, hw.symm⟩
          have cL : ∀ n, Calls Try.prog 32 #[.pointer (some ⟨d2, 0, none⟩)] (w4.drewN n) fun e w'' => e = .returned (.int .i64 s2.loose.length) ∧ ∃ m, w'' = w4.drewN m := fun n => (loose_dsk (hbo2.1.kept (Fr.drewN (fun _ => False) w4 n) (fun _ _ => id))).mono fun e w' ⟨he, hw⟩ => ⟨he, n, hw.symm⟩
          have CO := Lib.hid cO
          have CL := Lib.hid cL
          obtain ⟨bb, bc, L, hrd, _, hrl, _⟩ := id hbo2.2.1
          obtain ⟨A2, c2, rfl, _⟩ := Rd.lt_own hrl
          have k1 := blk_cell hrd 1
          have k2 := blk_cell hrd 2
          simp [rcells] at k1 k2
          clear cO cL hrd hrl
          go_wp2_with fail
          go_quiet (first | exact CO.out _ | exact CL.out _)
          rename_i nq
          go_wp2_with fail
          go_roundg (l.length - (q + 1))
          case measure => omega
          case rel => exact ⟨q + 1, d2, r2, s2, F2, G2, rfl, by simp, by omega, by omega, rfl, rfl, hbo2.kept (Fr.drewN (fun _ => False) w4 nq) (fun _ _ => id) (fun _ _ => id), below_drewN (hbw.trans hbw2) nq, hi2, by omega, by omega, by omega⟩
        · have him := image_dsk hbo'.1 (by omega)
          have hrim := fun {W} (hR : RDsk W G r' s) => rimage_dsk hR (fun x hx => by rw [hi.ok.len]; exact (hi.ok.loose x hx).1) (by rw [hi.ok.len]; omega) (by omega)
          rw [← hi.set, hi.ok.len, hlen] at hrim
          rw [hlen] at him
          have hbk := fun {W} (hD : Dsk W F d' s) => blocks_dsk hD
          rw [hlen] at hbk
          have HIM := Lib.hid him
          have hwz := hbw.size
          have hgo2 : (q < l.length ∧ q = 200) ∨ q = l.length := by omega
          rcases hgo2 with ⟨hlt, rfl⟩ | rfl
          case' inl => have hqi : ((200 : Nat) : Int) < (l.length : Int) := by omega
          all_goals
            go_wp2_with fail
            refine HIM.out.mono ?_
            rintro e w4 ⟨v, rfl, hown, hb4⟩
            obtain ⟨A1, c1, rfl, hrd1⟩ := Rd.lt_own (own_base hown (Nat.zero_le _))
            have hs4 := hb4.size
            have bo4 := hbo'.kept (Fr.new hb4 (fun _ => False)) (fun _ _ => id) (fun _ _ => id)
            go_wp2_with fail
            refine (hrim bo4.2.1).mono ?_
            rintro e w5 ⟨g, gc, rfl, hg, hown5, hb5⟩
            obtain ⟨A5, c5, ev, hrd5⟩ := Rd.lt_own (own_base hown5 (Nat.zero_le _))
            simp only [Value.slice.injEq, true_and] at ev
            obtain ⟨rfl, rfl⟩ := ev
            have hs5 := hb5.size
            have bo5 := bo4.kept (Fr.new hb5 (fun _ => False)) (fun _ _ => id) (fun _ _ => id)
            have hrd15 := hrd1.kept (Fr.new hb5 (fun _ => False)) (fun _ _ => id)
            go_wp2_with fail
            refine (same_any _ _ A1 (some ⟨g, 0, none⟩) m c1 gc s.now w5 hrd15 hrd5 (by omega)).mono ?_
            rintro e w6 ⟨rfl, q6, rfl⟩
            have bo6 := bo5.kept (Fr.drewN (fun _ => False) w5 q6) (fun _ _ => id) (fun _ _ => id)
            go_wp2_with fail
            refine (hbk bo6.1).mono ?_
            rintro e w7 ⟨rfl, rfl⟩
            go_wp2_with fail
            go_ret
            exact ⟨rfl, below_drewN ((hbw.trans (hb4.mono hwz)).trans (hb5.mono (by omega))) q6⟩
    · have hsz' : sizeB b = false := by simpa using hsz
      have g1' : ¬ (256 < b ∧ b ≤ 4096) := by omega
      go_wp2_with fail
      refine (htail hsz').mono ?_
      rintro e w2 ⟨rfl, rfl⟩
      go_wp2_with fail
      refine (htail2 hsz').mono ?_
      rintro e w2 ⟨rfl, rfl⟩
      go_wp2_with fail
      go_ret
      exact ⟨rfl, hb1⟩
end Go.Proofs.Ytjpmohennekbaaa

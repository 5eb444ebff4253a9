/- Texts of this proof, joined: Lx R. They hold under no condition beyond what each theorem states. -/
import Derived.Test.YtjmfeoenbncibaaM32
import Derived.ProofKit
import Derived.Below
import Derived.ChangeSame
namespace Go.Proofs.Ytjmfeoenbncibaa
open Go.RowKit Go.Nau Go.Shelf
attribute [local go_sem] Oper.semAt_some

set_option maxHeartbeats 2000000 in
set_option maxRecDepth 100000 in
theorem none_law (p : Int) (A : Option Addr) (n c : Nat) (w : World) : Calls Try.prog 4 #[.int .i64 p, .slice A n c] w fun e w' => e = .returned (.bool true) ∧ Below w.heap.size w w' := by
  have HS := Lib.hid (shown_any w)
  go_enter Try.func4, Try.ntmps4
  go_wp2_with fail
  refine HS.out.mono ?_
  rintro e w1 ⟨rfl, hb1⟩
  go_wp2_with fail
  refine (lwrite_nil _ _ _ _ _).mono ?_
  rintro e w2 ⟨rfl, hb2⟩
  have hb := hb1.trans (hb2.mono hb1.size)
  clear hb1 hb2
  go_wp2_with fail
  refine (begin_nil _ 1 _ _).mono ?_
  rintro e w3 ⟨rfl, rfl⟩
  go_wp2_with fail
  refine (scan_nil _ 1 _ _).mono ?_
  rintro e w3 ⟨rfl, rfl⟩
  go_wp2_with fail
  refine (at_nil _).mono ?_
  rintro e w3 ⟨rfl, rfl⟩
  go_wp2_with fail
  refine (seq_nil _).mono ?_
  rintro e w3 ⟨rfl, rfl⟩
  go_wp2_with fail
  refine (next_nil _).mono ?_
  rintro e w3 ⟨rfl, rfl⟩
  go_wp2_with fail
  refine (lroom_nil _).mono ?_
  rintro e w3 ⟨rfl, rfl⟩
  go_wp2_with fail
  refine (setnext_nil _ _).mono ?_
  rintro e w3 ⟨rfl, rfl⟩
  go_wp2_with fail
  go_ret
  exact ⟨rfl, hb⟩

theorem zeros_scan (n : Nat) (l : LS) : ScanN (List.replicate n zero) l 0 := by
  refine ⟨fun j hj => absurd hj (Nat.not_lt_zero j), ?_⟩
  cases ht : thereT (List.replicate n zero) (stL (List.replicate n zero) l 0) with
  | false => rfl
  | true => exact absurd (seqLt_zeros n 0 _ (headT_iff.1 (thereT_head ht)).2.1) (Nat.not_lt_zero _)
theorem frow_nil {w : World} {base : Nat} {v : Value} (h : FRow w base v []) : ∃ A c, v = .slice A 0 c := by
  obtain ⟨xs, h1, h2, h3⟩ := h
  obtain ⟨A, c, hv, _⟩ := Rd.of_own2 h2
  exact ⟨A, c, hv⟩

set_option maxHeartbeats 2000000 in
set_option maxRecDepth 100000 in
theorem nothing_core (p q nx : Int) (w : World) (D : World → Nat → Prop)
    (hS : Calls Try.prog 9 #[] w fun e w' => e = .returned (.bool true) ∧ Below w.heap.size w w')
    (hN : ∀ W, Calls Try.prog 10 #[.int .i64 128] W fun e w' => ∃ d, e = .returned (.tuple #[.pointer (some ⟨d, 0, none⟩), .int .i64 0]) ∧ Below W.heap.size W w' ∧ D w' d)
    (hB : ∀ W d, D W d → Calls Try.prog 11 #[.pointer (some ⟨d, 0, none⟩), .int .i64 p, .int .u64 q, .int .i64 nx] W fun e w' => 
      (e = .returned (.tuple #[.pointer none, .int .i64 151]) ∧ w' = W ∧ Calls Try.prog 12 #[.pointer (some ⟨d, 0, none⟩), .int .i64 p, .int .u64 q, .int .i64 nx] W fun e w2 => e = .returned (.tuple #[.slice none 0 0, .pointer none, .int .i64 151]) ∧ w2 = W) ∨
      (∃ g, e = .returned (.tuple #[.pointer (some ⟨g, 0, none⟩), .int .i64 0]) ∧ Below W.heap.size W w' ∧ Calls Try.prog 12 #[.pointer (some ⟨d, 0, none⟩), .int .i64 p, .int .u64 q, .int .i64 nx] w' fun e w2 => ∃ g2 A c, e = .returned (.tuple #[.slice A 0 c, .pointer (some ⟨g2, 0, none⟩), .int .i64 0]) ∧ Below w'.heap.size w' w2 ∧
        Calls Try.prog 13 #[.pointer (some ⟨g2, 0, none⟩)] w2 (fun e w' => e = .returned (.int .i64 p) ∧ w2 = w') ∧ Calls Try.prog 14 #[.pointer (some ⟨g2, 0, none⟩)] w2 (fun e w' => e = .returned (.int .u64 q) ∧ w2 = w') ∧ Calls Try.prog 15 #[.pointer (some ⟨g2, 0, none⟩)] w2 (fun e w' => e = .returned (.int .i64 nx) ∧ w2 = w') ∧
        Calls Try.prog 13 #[.pointer (some ⟨g, 0, none⟩)] w2 (fun e w' => e = .returned (.int .i64 p) ∧ w2 = w') ∧ Calls Try.prog 16 #[.pointer (some ⟨d, 0, none⟩)] w2 (fun e w' => e = .returned (.int .i64 0) ∧ w2 = w'))) :
    Calls Try.prog 3 #[.int .i64 p, .int .u64 q, .int .i64 nx] w fun e w' => e = .returned (.bool true) ∧ Below w.heap.size w w' := by
  have HS := Lib.hid hS
  have HN := Lib.hid hN
  have HB := Lib.hid hB
  clear hS hN hB
  go_enter Try.func3, Try.ntmps3
  go_wp2_with fail
  refine HS.out.mono ?_
  rintro e w1 ⟨rfl, hb1⟩
  go_wp2_with fail
  refine (HN.out _).mono ?_
  rintro e w2 ⟨d, rfl, hb2, hD⟩
  have hb := hb1.trans (hb2.mono hb1.size)
  have HD := Lib.hid hD
  clear hb1 hb2 hD
  go_wp2_with fail
  refine (HB.out _ d HD.out).mono ?_
  rintro e w3 (⟨rfl, rfl, hsc⟩ | ⟨g, rfl, hb3, hsc⟩)
  · have HSC := Lib.hid hsc
    clear hsc
    go_wp2_with fail
    refine HSC.out.mono ?_
    rintro e w4 ⟨rfl, rfl⟩
    go_wp2_with fail
    go_ret
    exact ⟨rfl, hb⟩
  · have HSC := Lib.hid hsc
    clear hsc
    go_wp2_with fail
    refine HSC.out.mono ?_
    rintro e w4 ⟨g2, A, c, rfl, hb4, h1, h2, h3, h4, h5⟩
    have H1 := Lib.hid h1
    have H2 := Lib.hid h2
    have H3 := Lib.hid h3
    have H4 := Lib.hid h4
    have H5 := Lib.hid h5
    have hb' := (hb.trans (hb3.mono hb.size)).trans (hb4.mono (Nat.le_trans hb.size hb3.size))
    clear h1 h2 h3 h4 h5 hb hb3 hb4
    go_wp2_with fail
    refine H1.out.mono ?_
    rintro e w5 ⟨rfl, rfl⟩
    go_wp2_with fail
    refine H2.out.mono ?_
    rintro e w5 ⟨rfl, rfl⟩
    go_wp2_with fail
    refine H3.out.mono ?_
    rintro e w5 ⟨rfl, rfl⟩
    go_wp2_with fail
    refine H4.out.mono ?_
    rintro e w5 ⟨rfl, rfl⟩
    go_wp2_with fail
    refine H5.out.mono ?_
    rintro e w5 ⟨rfl, rfl⟩
    go_wp2_with fail
    go_ret
    exact ⟨rfl, hb'⟩

theorem nothing_law (p : Int) (q : Int) (nx : Int) (w : World) (hp : -9223372036854775808 ≤ p ∧ p ≤ 9223372036854775807) (hq : 0 ≤ q ∧ q ≤ 18446744073709551615) (hx : -9223372036854775808 ≤ nx ∧ nx ≤ 9223372036854775807) :
    Calls Try.prog 3 #[.int .i64 p, .int .u64 q, .int .i64 nx] w fun e w' => e = .returned (.bool true) ∧ Below w.heap.size w w' := by
  obtain ⟨sq, rfl⟩ : ∃ sq : Nat, q = (sq : Int) := ⟨q.toNat, by omega⟩
  have hsq : sq < 18446744073709551616 := by omega
  have hl0 : shS.now.length = 128 := zeros_len 128
  have hi0 : DInv shS := zeros_inv 128 (by decide) (by decide)
  refine nothing_core p sq nx w (fun W d => ∃ F, Dsk W F d shS ∧ ∀ k, F k → k < W.heap.size) (shown_any w) ?_ ?_
  · intro W
    refine (new_ok 128 W (by decide)).mono ?_
    rintro e w' ⟨d, rfl, hD, _, hb⟩
    exact ⟨d, rfl, hb, _, hD, fun k hk => hk.2⟩
  · rintro W d ⟨F, hD, hF⟩
    refine (begin_any hD (by rw [hl0]; decide) p sq nx hp hsq hx).mono ?_
    rintro e w1 hb
    rw [hl0] at hb
    rcases hb with ⟨hbb, rfl, hlg, hb1, hz1⟩ | ⟨hbb, rfl, rfl⟩
    · refine .inr ⟨W.heap.size, rfl, hb1, ?_⟩
      have hs1 := hb1.size
      have hD1 := hD.kept (Fr.of_below hb1) (fun k hk h2 => by have := hF k hk; omega)
      refine (scan_any hD1 (fun k hk => by have := hF k hk; omega) hi0 (by rw [hl0]) p sq nx hp hsq hx).mono ?_
      rintro e w2 (⟨hb2, _⟩ | ⟨_, N, v, hN, rfl, hfr, hlg2, hb2⟩)
      · rw [hl0, hbb] at hb2; cases hb2
      · have hN0 : N = 0 := scanN_eq hN (zeros_scan 128 _)
        subst hN0
        obtain ⟨A, c, rfl⟩ := frow_nil (show FRow w2 _ v [] from hfr)
        have hlg2' : Lg w2 w1.heap.size d (beginL p sq nx) := hlg2
        obtain ⟨e1, e2, e3⟩ := beginL_vals hbb
        have hlg1 : Lg w2 W.heap.size d (beginL p sq nx) := (hb2.block _ (Array.getElem?_eq_some_iff.1 hlg).1).trans hlg
        have a1 := at_any hlg2'
        have a2 := seq_any hlg2'
        have a3 := next_any hlg2'
        have a4 := at_any hlg1
        rw [e1] at a1 a4
        rw [e2] at a2
        rw [e3] at a3
        have a5 := ops_dsk (hD1.kept (Fr.of_below hb2) (fun k hk h2 => by have := hF k hk; omega))
        exact ⟨_, A, c, rfl, hb2, a1, a2, a3, a4, a5⟩
    · refine .inl ⟨rfl, rfl, ?_⟩
      refine (scan_any hD hF hi0 (by rw [hl0]) p sq nx hp hsq hx).mono ?_
      rintro e w2 (⟨_, rfl, rfl⟩ | ⟨hb2, _⟩)
      · exact ⟨rfl, rfl⟩
      · rw [hl0, hbb] at hb2; cases hb2
end Go.Proofs.Ytjmfeoenbncibaa
namespace Go.Nau
open Go.RowKit Go.WideShapes Go.ChangeShapes

section
variable {H : Type} {enc : TypeId × Value → H} {P : Program}
theorem trodAll_below (hl : laidOutB P = true) {W W' : World} (hb : Below W.heap.size W W') (sp : Nat → Bool) :
    ∀ {ts : List TypeId} {vs : List Value} {ds : List (DataW H)} {ps : List MemPlace}, (ts.all fun t => P.readableRec t && decide (t < P.types.size)) = true →
      DataW.TrodAll enc P W 0 (fun _ => true) true ts vs ds ps → (∀ p ∈ ps, p.block < W.heap.size) → (∀ p ∈ ps, sp p.block = true) → DataW.TrodAll enc P W' 0 sp true ts vs ds ps
  | [], [], [], _, _, h, _, _ => h
  | [], [], _ :: _, _, _, h, _, _ => h.elim
  | [], _ :: _, _, _, _, h, _, _ => h.elim
  | _ :: _, [], _, _, _, h, _, _ => h.elim
  | _ :: _, _ :: _, [], _, _, h, _, _ => h.elim
  | t :: ts, v :: vs, d :: ds, ps, hts, h, hlt, hsp => by
    obtain ⟨p, q, h1, h2, rfl⟩ := h
    simp only [List.all_cons, Bool.and_eq_true, decide_eq_true_eq] at hts
    refine ⟨p, q, WideElems.Trod_stays hl hts.1.1 hts.1.2 h1 (fun x hx => hb.same (hlt x (List.mem_append.2 (.inl hx)))) (fun x hx => hsp x (List.mem_append.2 (.inl hx))), ?_, rfl⟩
    exact trodAll_below hl hb sp hts.2 h2 (fun x hx => hlt x (List.mem_append.2 (.inr hx))) (fun x hx => hsp x (List.mem_append.2 (.inr hx)))

theorem law_post {f : Func} {s : ChangeSpec} {apart fresh handsOn again : Bool} {W W' : World} {args : Array Value} {ds gs : List (DataW H)} {before : List MemPlace} {tb : TypeId}
    (hl : laidOutB P = true) (hts : (f.params.toList.all fun t => P.readableRec t && decide (t < P.types.size)) = true) (hr : f.resultTypes = #[tb]) (hu : P.underlying tb = some .bool) (hv : s.vars = [])
    (hW : DataW.Whole enc P f.params.toList s.vars apart W args.toList ds gs before)
    (hspec : s.fn H (ds ++ gs) = { results := [.lit (.bool true)], args := ds }) (hb : Below W.heap.size W W') :
    s.post enc P f apart fresh handsOn again W args (.bool true) W' := by
  have hW0 := hW
  obtain ⟨p, q, hA, hV, rfl, hz, hn⟩ := hW
  rw [hv] at hV
  obtain ⟨rfl, rfl⟩ := trodVars_none hV
  have hlt : ∀ x ∈ p ++ [], x.block < W.heap.size := fun x hx => hW0.lt x hx
  rw [List.append_nil] at hlt
  have hres : ∀ (b : Nat) (sp : Nat → Bool) (hd : Bool), DataW.TrodAll enc P W' b sp hd f.resultTypes.toList ((Value.bool true).resultList f.resultTypes.size) (s.fn H (ds ++ [])).results [] := by
    intro b sp hd
    rw [hr, hspec]
    exact trodAll_mk1 (shut_bool hu _)
  have hargs : ∀ sp : Nat → Bool, (∀ x ∈ p, sp x.block = true) → DataW.TrodAll enc P W' 0 sp true f.params.toList args.toList (s.fn H (ds ++ [])).args p := by
    intro sp hsp
    rw [hspec]
    exact trodAll_below hl hb sp hts hA hlt hsp
  have hold : ∀ x ∈ p, (fun b => decide (b < W.heap.size)) x.block = true := fun x hx => by simpa using hlt x hx
  refine ⟨ds, [], p ++ [], [], p, [], hW0, hres _ _ _, hargs _ hold, by rw [hv, hspec]; rfl, World.keptBut_mono (fun x hx => ⟨hx, ?_⟩) (hb.frame (· ∈ p ++ [])), fun _ => ?_⟩
  · rw [List.append_nil] at hx
    exact Or.inr (by simpa using hx)
  · have hok : ∀ (j : Nat) (t : TypeId) (r : Value), f.resultTypes[j]? = some t → ((Value.bool true).resultList f.resultTypes.size)[j]? = some r → Value.okWide P W' .any 0 t r := by
      exact ok_one hr rfl (okWide_bool_mk hu _)
    refine ⟨hok, _, [], ([] ++ p) ++ [], ⟨[] ++ p, [], trodAll_append (hargs _ (fun _ _ => rfl)) (hres _ _ _), by rw [hv]; rfl, rfl, ?_, ?_⟩, ?_⟩
    · intro b off hp
      have hin : MemPlace.cell b off ∈ p := by simpa using hp
      rw [hb.frozen (hlt _ hin)]
      exact hz b off (by simpa using hin)
    · intro ha
      have := hn ha
      simpa using this
    · intro x hx _
      simpa using hx
end
end Go.Nau

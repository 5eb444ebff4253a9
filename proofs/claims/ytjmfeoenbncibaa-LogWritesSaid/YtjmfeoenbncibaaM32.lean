/- Texts of this proof, joined: Lt Lu Lv Lw. They hold under no condition beyond what each theorem states. -/
import Derived.Test.YtjmfeoenbncibaaM31
import Derived.Test.YtjmfeoenbncibaaM18
namespace Go.Proofs.Ytjmfeoenbncibaa
open Go.RowKit Go.Nau

theorem goN_same {a b : LS} (hp : a.pos = b.pos) (hs : a.seq = b.seq) (k nx : Nat) : goN a k nx = goN b k nx := by unfold goN; rw [hp, hs]

/-- What a Write that answers 0 has met. -/
theorem lwrite_ok {l : LS} {s : DS} {cp : Nat} {its : List (Ent × ByteArray)} {en sy : Bool} (he : (lwrite l s cp its en sy).e = 0) :
    l.next ≠ 0 ∧ its.length ≤ 15 - l.pos % 16 ∧ (∀ x ∈ its, x.2.size ≤ 508) ∧ rightB (recOf l cp its en sy) = true ∧ (putD s l.pos (its.map (·.2)) (encS (recOf l cp its en sy))).1 = 0 ∧
    (lwrite l s cp its en sy).l = goN l its.length l.next ∧ (lwrite l s cp its en sy).s = (putD s l.pos (its.map (·.2)) (encS (recOf l cp its en sy))).2 ∧ (lwrite l s cp its en sy).at_ = (List.range its.length).map (fun i => l.pos + 1 + i) := by
  unfold lwrite at he ⊢
  by_cases h0 : l.next = 0
  · rw [if_pos h0] at he; cases he
  · rw [if_neg h0] at he ⊢
    by_cases h1 : wrB l cp its en sy = true
    · rw [if_pos h1] at he ⊢
      have h1' := h1
      unfold wrB at h1'
      simp only [Bool.and_eq_true, decide_eq_true_eq, List.all_eq_true] at h1'
      by_cases h2 : (putD s l.pos (its.map (·.2)) (encS (recOf l cp its en sy))).1 = 0
      · rw [if_pos h2]
        exact ⟨h0, h1'.1, h1'.2.1, h1'.2.2, h2, rfl, rfl, rfl⟩
      · rw [if_neg h2] at he; exact absurd he h2
    · rw [if_neg h1] at he; cases he
theorem recOf_wf {nb : Nat} {l : LS} (lo : LOk nb l) {cp : Nat} (hcp : cp < 18446744073709551616) {its : List (Ent × ByteArray)} (hwf : ∀ x ∈ its, x.1.wf) (hn : its.length ≤ maxLen) (en sy : Bool) : (recOf l cp its en sy).wf := by
  have h1 := lo.seq1
  have hnx4 : l.next ≤ 255 := by
    have := lo.n256
    rcases lo.next with h | h
    · omega
    · have := (segB_iff.1 h).2
      omega
  exact ⟨by show l.seq < _; omega, hcp, by show -9223372036854775808 ≤ (l.next : Int) ∧ (l.next : Int) ≤ _; omega, by show (its.map (·.1)).length ≤ maxLen; rw [List.length_map]; exact hn, fun x hx => by
    obtain ⟨y, hy, rfl⟩ := List.mem_map.1 hx
    exact hwf y hy⟩
/-- A content as it is unwrapped. -/
def padB (c : ByteArray) : ByteArray := c ++ zeroN (508 - c.size)

theorem chain_write {s : DS} {l l0 : LS} {k cp : Nat} {its : List (Ent × ByteArray)} {en sy : Bool} (hc : Chain s.now l0 k l) (hs : SeqLt l.seq s.now) (lo : LOk s.now.length l) (hcp : cp < 18446744073709551616) (hwf : ∀ x ∈ its, x.1.wf) (he : (lwrite l s cp its en sy).e = 0) :
    Chain (lwrite l s cp its en sy).s.now l0 (k + 1) (lwrite l s cp its en sy).l ∧ SeqLt (lwrite l s cp its en sy).l.seq (lwrite l s cp its en sy).s.now ∧ (lwrite l s cp its en sy).s.safe = (lwrite l s cp its en sy).s.now ∧ (lwrite l s cp its en sy).s.loose = [] ∧
    stL (lwrite l s cp its en sy).s.now l0 (k + 1) = (lwrite l s cp its en sy).l ∧ (∀ j, j < k → fndAt (lwrite l s cp its en sy).s.now (stL (lwrite l s cp its en sy).s.now l0 j) = fndAt s.now (stL s.now l0 j)) ∧
    fndAt (lwrite l s cp its en sy).s.now (stL (lwrite l s cp its en sy).s.now l0 k) = ⟨l.pos, recOf l cp its en sy, its.map fun x => padB x.2⟩ := by
  obtain ⟨h0, h1, h2, h3, h4, h5, h6, h7⟩ := lwrite_ok he
  have hseg : segB s.now.length l.next = true := by
    rcases lo.next with h | h
    · exact absurd h h0
    · exact h
  have hnum := rightB_num h3
  have hrl : (recOf l cp its en sy).l.length = its.length := by show (its.map (·.1)).length = _; rw [List.length_map]
  have hrw := recOf_wf lo hcp hwf (by unfold maxLen; omega) en sy
  obtain ⟨n1, n2, n3, n4, n5⟩ := putD_now h4
  rw [List.length_map] at n5
  rw [h5, h6]
  have hfwd := hc.fwd h0
  have hlast := lo.last
  have hpr : l.pos + 1 + its.length ≤ s.now.length := by
    have := lo.n16
    have := lo.hi
    omega
  generalize (putD s l.pos (its.map (·.2)) (encS (recOf l cp its en sy))).2 = t at *
  have hlen : t.now.length = s.now.length := by rw [n1, List.length_set, setsB_length]
  have hcs : (its.map (·.2)).length = its.length := List.length_map ..
  have bk : ∀ q, blkAt t.now q = if q = l.pos then encS (recOf l cp its en sy) else blkAt (setsB s.now (l.pos + 1) (its.map (·.2))) q := fun q => by
    rw [n1, blkAt_set (by rw [setsB_length]; exact n4)]
  have bpos : blkAt t.now l.pos = encS (recOf l cp its en sy) := by rw [bk, if_pos rfl]
  have bin : ∀ i x, its[i]? = some x → blkAt t.now (l.pos + 1 + i) = wrapS x.2 := fun i x hx => by
    rw [bk, if_neg (by omega)]
    exact setsB_in _ _ _ i x.2 (by rw [hcs]; exact hpr) (by rw [List.getElem?_map, hx]; rfl)
  have bout : ∀ q, q < l.pos ∨ l.pos + its.length < q → blkAt t.now q = blkAt s.now q := fun q hq => by
    rw [bk, if_neg (by omega)]
    exact setsB_out _ _ _ q (by rw [hcs]; exact hpr) (by rw [hcs]; omega)
  have hal : Alike l.pos s.now t.now := ⟨hlen, fun p hp => bout p (.inl hp)⟩
  obtain ⟨hc', hfn⟩ := chain_alike hc hal
  obtain ⟨d1, d2⟩ := back_enc h3 hrw
  have hrec : recAt t.now l.pos = recOf l cp its en sy := by unfold recAt; rw [bpos]; exact d1
  have hst := hc'.pos
  have hsq := hc'.seq
  have hrp : recAt t.now (stL t.now l0 k).pos = recOf l cp its en sy := by rw [hst]; exact hrec
  have hth : thereT t.now (stL t.now l0 k) = true := by
    unfold thereT
    rw [Bool.and_eq_true]
    refine ⟨headT_iff.2 ⟨by rw [hsq]; exact hnum.1, by rw [hst, bpos]; exact d2, by rw [hrp, hsq]; rfl, by rw [hrp, hst, hrl]; exact h1, by rw [hrp, hlen]; exact hseg⟩, ?_⟩
    unfold contT
    rw [List.all_eq_true, hrp, hrl]
    intro i hi
    have hil := List.mem_range.1 hi
    rw [hst, bin i _ (List.getElem?_eq_getElem hil)]
    exact isWrap_wrap (h2 _ (List.getElem_mem hil))
  have hgo : stL t.now l0 (k + 1) = goN l its.length l.next := by
    show goF t.now (stL t.now l0 k) = _
    unfold goF
    rw [hrp, hrl, goN_same hst hsq]
    show goN l its.length ((l.next : Int)).toNat = _
    rw [Int.toNat_natCast]
  have hlt : l.pos + its.length < (goN l its.length l.next).pos := by
    unfold goN
    split
    · show _ < l.next * 16
      omega
    · show _ < l.pos + its.length + 1
      omega
  refine ⟨⟨fun j hj => ?_, by rw [hgo], by rw [hgo], fun h => by rw [hgo]; exact h, fun h => ?_⟩, ?_, n2, n3, hgo, fun j hj => hfn j hj, ?_⟩
  · by_cases hjk : j = k
    · subst hjk
      rw [hrp, hrl, hst]
      exact ⟨hth, hlt⟩
    · obtain ⟨a1, a2⟩ := hc'.there j (by omega)
      exact ⟨a1, by omega⟩
  · unfold goN at h ⊢
    by_cases hx : (l.pos + its.length + 1) % 16 = 0 ∨ (l.pos + its.length + 1) % 16 = 15
    · rw [if_pos hx] at h; exact absurd rfl h
    · rw [if_neg hx]
      show (l.pos + its.length + 1) / 16 < l.next
      omega
  · intro q hq
    rw [goN_seq]
    by_cases q1 : q = l.pos
    · subst q1
      rw [hrec]
      exact Nat.lt_succ_self _
    · by_cases q2 : q < l.pos ∨ l.pos + its.length < q
      · have e := bout q q2
        unfold recAt
        rw [e] at hq ⊢
        exact Nat.lt_succ_of_lt (hs q hq)
      · obtain ⟨i, rfl⟩ : ∃ i, q = l.pos + 1 + i := ⟨q - (l.pos + 1), by omega⟩
        have hil : i < its.length := by omega
        rw [bin i _ (List.getElem?_eq_getElem hil), wrap_okDec (h2 _ (List.getElem_mem hil))] at hq
        cases hq
  · unfold fndAt contsTo
    rw [hrp, hrl, hst]
    congr 1
    refine List.ext_getElem? (fun i => ?_)
    rw [List.getElem?_map, List.getElem?_map]
    rcases Nat.lt_or_ge i its.length with hi | hi
    · rw [List.getElem?_range hi, List.getElem?_eq_getElem hi, Option.map_some, Option.map_some, bin i _ (List.getElem?_eq_getElem hi), unw_wrap (h2 _ (List.getElem_mem hi))]
      rfl
    · rw [List.getElem?_eq_none (by simpa using hi), List.getElem?_eq_none hi]
      rfl

/-- With no power cut a Write that may be is done. -/
def NoCut (s : DS) : Prop := s.gone = false ∧ s.cut < 0
theorem nocut_off {s : DS} (h : NoCut s) : offB s = false := by
  unfold offB
  rw [h.1]
  have : ¬ (0 ≤ s.cut) := by have := h.2; omega
  simp [this]
theorem nocut_wres {s : DS} (h : NoCut s) {p : Nat} (hp : p < s.now.length) {x : ByteArray} (hx : x.size = 512) : (wres s p x).1 = 0 ∧ NoCut (wres s p x).2 ∧ (wres s p x).2.now.length = s.now.length := by
  have e : wres s p x = (0, wrote s p x) := by
    unfold wres
    rw [if_neg (by rw [nocut_off h]; simp), if_neg (by omega), if_neg (by omega), Int.toNat_natCast]
  rw [e]
  exact ⟨rfl, ⟨rfl, h.2⟩, by show (s.now.set p x).length = _; rw [List.length_set]⟩
theorem nocut_fres {s : DS} (h : NoCut s) : (fres s).1 = 0 ∧ NoCut (fres s).2 ∧ (fres s).2.now.length = s.now.length := by
  have e : fres s = (0, flushed s) := by
    unfold fres
    rw [if_neg (by rw [nocut_off h]; simp)]
  rw [e]
  exact ⟨rfl, ⟨rfl, h.2⟩, rfl⟩
theorem nocut_wBlocks : ∀ (cs : List ByteArray) (s : DS) (p : Nat), NoCut s → p + cs.length ≤ s.now.length → (∀ c ∈ cs, c.size ≤ 508) → (wBlocks s p cs).1 = 0 ∧ NoCut (wBlocks s p cs).2 ∧ (wBlocks s p cs).2.now.length = s.now.length
  | [], s, p, h, _, _ => by rw [wBlocks_nil]; exact ⟨rfl, h, rfl⟩
  | c :: cs, s, p, h, hl, hc => by
    rw [List.length_cons] at hl
    obtain ⟨a1, a2, a3⟩ := nocut_wres h (p := p) (by omega) (x := wrapS c) (wrapS_size (hc c List.mem_cons_self))
    rw [wBlocks_cons, if_pos a1]
    obtain ⟨b1, b2, b3⟩ := nocut_wBlocks cs _ (p + 1) a2 (by omega) (fun x hx => hc x (List.mem_cons_of_mem _ hx))
    exact ⟨b1, b2, b3.trans a3⟩
theorem nocut_putD {s : DS} (h : NoCut s) {p : Nat} {cs : List ByteArray} {hd : ByteArray} (hl : p + 1 + cs.length ≤ s.now.length) (hc : ∀ c ∈ cs, c.size ≤ 508) (hh : hd.size = 512) : (putD s p cs hd).1 = 0 ∧ NoCut (putD s p cs hd).2 := by
  obtain ⟨a1, a2, a3⟩ := nocut_wBlocks cs s (p + 1) h hl hc
  unfold putD
  rw [if_pos a1]
  obtain ⟨b1, b2, b3⟩ := nocut_fres a2
  obtain ⟨c1, c2, c3⟩ := nocut_wres b2 (p := p) (by omega) hh
  obtain ⟨d1, d2, d3⟩ := nocut_fres c2
  unfold fin3
  rw [if_pos b1, if_pos c1]
  exact ⟨d1, d2⟩
/-- With no power cut a Write is done, or changes nothing. -/
theorem nocut_lwrite {s : DS} {l : LS} (h : NoCut s) (lo : LOk s.now.length l) (cp : Nat) (its : List (Ent × ByteArray)) (en sy : Bool) :
    NoCut (lwrite l s cp its en sy).s ∧ ((lwrite l s cp its en sy).e = 0 ∨ (lwrite l s cp its en sy).s = s ∧ (lwrite l s cp its en sy).l = l ∧ (lwrite l s cp its en sy).at_ = []) := by
  unfold lwrite
  by_cases h0 : l.next = 0
  · rw [if_pos h0]; exact ⟨h, .inr ⟨rfl, rfl, rfl⟩⟩
  · rw [if_neg h0]
    by_cases h1 : wrB l cp its en sy = true
    · rw [if_pos h1]
      unfold wrB at h1
      simp only [Bool.and_eq_true, decide_eq_true_eq, List.all_eq_true] at h1
      obtain ⟨q1, q2, q3⟩ := h1
      have hnum := rightB_num q3
      have := lo.n16
      have := lo.hi
      have := lo.last
      obtain ⟨a1, a2⟩ := nocut_putD h (p := l.pos) (cs := its.map (·.2)) (hd := encS (recOf l cp its en sy)) (by rw [List.length_map]; omega) (fun c hc => by
        obtain ⟨x, hx, rfl⟩ := List.mem_map.1 hc
        exact q2 x hx) (encS_size _ (by omega))
      rw [if_pos a1]
      exact ⟨a2, .inl rfl⟩
    · rw [if_neg h1]; exact ⟨h, .inr ⟨rfl, rfl, rfl⟩⟩
end Go.Proofs.Ytjmfeoenbncibaa
namespace Go.Proofs.Ytjmfeoenbncibaa
open Go.RowKit Go.Nau Go.Shelf
attribute [local go_sem] Oper.semAt_some

def itE : Ent := ⟨1, 3, 0, 5⟩
theorem load_item (a : Nat) (w : World) (v0 v1 v2 v3 v4 : Value) (h : w.heap[a]? = some (.cells #[v0, v1, v2, v3, v4] 87 (0, 0))) :
    (loadVar 87 ⟨a, 0, none⟩).run Try.prog w = .ok (.agg #[v0, v1, v2, v3, v4]) w := by
  have q0 := blk_cell h 0
  have q1 := blk_cell h 1
  have q2 := blk_cell h 2
  have q3 := blk_cell h 3
  have q4 := blk_cell h 4
  simp at q0 q1 q2 q3 q4
  simp [loadVar, Try.isAgg87, Try.sizeOf87, go_sem, loadCells, q0, q1, q2, q3, q4]
theorem res_item {fn : Func} {c : Tmp} (h : fn.results = #[.cell c 87]) (tmps : Array Value) (w : World) {a : Nat} {v : Value} (ha : tmps.getD c undef = .pointer (some ⟨a, 0, none⟩))
    (hl : (loadVar 87 ⟨a, 0, none⟩).run Try.prog w = .ok v w) : (results fn tmps).run Try.prog w = .ok v w := by
  rw [Array.getD_eq_getD_getElem?] at ha
  simp [results, h, ha, asAddr, hl]
theorem item_any (c : ByteArray) (w : World) : Calls Try.prog 37 #[.string c] w fun e w' => e = .returned (.agg #[.int .i64 1, .int .u32 3, .int .u32 0, .int .u32 5, .string c]) ∧ Below w.heap.size w w' := by
  go_enter Try.func37, Try.ntmps37
  go_wp2
  refine bodyPost_ret (res_item rfl _ _ rfl (load_item w.heap.size _ (.int .i64 1) (.int .u32 3) (.int .u32 0) (.int .u32 5) (.string c) (heap_alloc_new w _))) rfl ?_
  exact ⟨rfl, (Below.refl _ _).alloc (Nat.le_refl _) _⟩

def shA : ByteArray := ⟨#[97]⟩
def shB : ByteArray := ⟨#[98]⟩
def shIts : List (Ent × ByteArray) := [(itE, shA), (itE, shB)]
def shS : DS := freshDS (List.replicate 128 zero)
def shL : LS := ⟨16, 1, 2⟩
def shR : WrRes := lwrite shL shS 1 shIts false false
theorem zeroN_first {n : Nat} (h : 0 < n) : (zeroN n).data.toList[0]? = some 0 := by
  unfold zeroN
  simp only [List.getElem?_replicate, if_pos h]
theorem zero_okDec : okDec zero = false := by
  cases h : okDec zero with
  | false => rfl
  | true =>
    have := okDec_first h
    rw [zero_eq] at this
    have h0 := zeroN_first (n := 512) (by decide)
    exact absurd (Option.some.inj (this.symm.trans h0)) (by decide)
theorem blkAt_zeros (n p : Nat) : blkAt (List.replicate n zero) p = zero ∨ blkAt (List.replicate n zero) p = ⟨#[]⟩ := by
  unfold blkAt
  rw [List.getD, List.getElem?_replicate]
  by_cases h : p < n
  · rw [if_pos h]; exact .inl rfl
  · rw [if_neg h]; exact .inr rfl
theorem seqLt_zeros (n k : Nat) : SeqLt k (List.replicate n zero) := by
  intro p hp
  exfalso
  rcases blkAt_zeros n p with h | h
  · rw [h, zero_okDec] at hp; cases hp
  · rw [h] at hp
    have := okDec_size hp
    simp [ByteArray.size] at this
theorem zeros_inv (n : Nat) (h0 : 0 < n) (h1 : n ≤ 4096) : DInv (freshDS (List.replicate n zero)) :=
  DInv.fresh (fun x hx => by rw [List.eq_of_mem_replicate hx]; exact zero_size) (by simpa using h0) (by simpa using h1)
theorem zeros_len (n : Nat) : (freshDS (List.replicate n zero)).now.length = n := by simp [freshDS]
theorem shL_ok (n : Nat) (h16 : n % 16 = 0) (h : 64 ≤ n) (h4 : n ≤ 4096) : LOk n shL := ⟨h16, h4, by decide, by show 16 < n; omega, by decide, by decide, by decide, .inr (segB_iff.2 ⟨by decide, by show (2 : Int) < _; omega⟩)⟩
theorem chain_start (b : List ByteArray) (l : LS) (h : l.next ≠ 0 → l.pos / 16 < l.next) : Chain b l 0 l := ⟨fun j hj => absurd hj (Nat.not_lt_zero j), rfl, rfl, fun h => h, h⟩
theorem shIts_wf : ∀ x ∈ shIts, x.1.wf := by
  intro x hx
  simp [shIts] at hx
  rcases hx with rfl | rfl <;> exact ⟨by decide, by decide, by decide, by decide⟩
theorem shR_e : shR.e = 0 := by
  have hc := nocut_lwrite (s := shS) (l := shL) ⟨rfl, by decide⟩ (by rw [show shS.now.length = 128 from zeros_len 128]; exact shL_ok 128 (by decide) (by decide) (by decide)) 1 shIts false false
  rcases hc.2 with h | h
  · exact h
  · exfalso
    have h3 := h.2.2
    have hb : wrB shL 1 shIts false false = true := by decide
    unfold lwrite at h3
    rw [if_neg (by decide), if_pos hb] at h3
    have hp := (nocut_putD (s := shS) ⟨rfl, by decide⟩ (p := shL.pos) (cs := shIts.map (·.2)) (hd := encS (recOf shL 1 shIts false false)) (by rw [show shS.now.length = 128 from zeros_len 128]; decide) (fun c hc => by
      simp [shIts] at hc
      rcases hc with rfl | rfl <;> decide) (encS_size _ (by decide))).1
    rw [if_pos hp] at h3
    simp [shIts] at h3
theorem sh_scan : ScanN shR.s.now shL 1 ∧ stL shR.s.now shL 1 = ⟨19, 2, 2⟩ ∧ fndL shR.s.now shL 1 = [⟨16, recOf shL 1 shIts false false, [padB shA, padB shB]⟩] ∧ shR.at_ = [17, 18] ∧ shR.l = ⟨19, 2, 2⟩ ∧ DInv shR.s ∧ shR.s.now.length = 128 := by
  have hl0 : shS.now.length = 128 := zeros_len 128
  have hlo : LOk shS.now.length shL := by rw [hl0]; exact shL_ok 128 (by decide) (by decide) (by decide)
  have he := shR_e
  have hi0 : DInv shS := zeros_inv 128 (by decide) (by decide)
  have hsl : SeqLt shL.seq shS.now := seqLt_zeros 128 1
  obtain ⟨S, hS⟩ : ∃ S, S = shS := ⟨_, rfl⟩
  obtain ⟨R, hR⟩ : ∃ R, R = shR := ⟨_, rfl⟩
  have hR' : R = lwrite shL S 1 shIts false false := by rw [hR, hS]; rfl
  rw [← hR] at he ⊢
  rw [← hS] at hl0 hlo hi0 hsl
  clear hS hR
  subst hR'
  obtain ⟨c1, c2, c3, c4, c5, c6, c7⟩ := chain_write (k := 0) (chain_start S.now shL (by decide)) hsl hlo (by decide) shIts_wf he
  obtain ⟨_, _, _, _, _, e6, _, e8⟩ := lwrite_ok he
  obtain ⟨i1, i2, _⟩ := lwrite_inv hi0 hlo 1 shIts false false
  have e6' : (lwrite shL S 1 shIts false false).l = ⟨19, 2, 2⟩ := e6
  have e8' : (lwrite shL S 1 shIts false false).at_ = [17, 18] := e8
  refine ⟨chain_scan c1 c2, c5.trans e6', ?_, e8', e6', i1, i2.trans hl0⟩
  generalize (lwrite shL S 1 shIts false false).s.now = b at *
  have e0 : fndL b shL 1 = fndL b shL 0 ++ [fndAt b (stL b shL 0)] := fndL_succ _ _ 0
  have e1 : fndL b shL 0 = [] := by unfold fndL; rfl
  rw [e0, e1, List.nil_append, c7]
  rfl
end Go.Proofs.Ytjmfeoenbncibaa
namespace Go.Proofs.Ytjmfeoenbncibaa
open Go.RowKit Go.Nau Go.Shelf
attribute [local go_sem] Oper.semAt_some

set_option maxHeartbeats 4000000 in
set_option maxRecDepth 100000 in
theorem shown_core (w : World) (D : World → Nat → Nat → Prop) (S1 S2 : ByteArray) (h1 : (S1.size : Int) = 508 ∧ (S2.size : Int) = 508) (h2 : ((S2.extract 0 2).toList == [98, 0]) = true)
    (hN : Calls Try.prog 10 #[.int .i64 128] w fun e w' => ∃ d, e = .returned (.tuple #[.pointer (some ⟨d, 0, none⟩), .int .i64 0]) ∧ Below w.heap.size w w' ∧ D w' d 0)
    (hB : ∀ W d, D W d 0 → Calls Try.prog 11 #[.pointer (some ⟨d, 0, none⟩), .int .i64 16, .int .u64 1, .int .i64 2] W fun e w' => ∃ g, e = .returned (.tuple #[.pointer (some ⟨g, 0, none⟩), .int .i64 0]) ∧ Below W.heap.size W w' ∧ ∀ V, Below w'.heap.size w' V → ∀ b o, V.heap.size = b →
      Calls Try.prog 17 #[.pointer (some ⟨g, 0, none⟩), .int .u64 1, .slice (some ⟨b, 0, none⟩) 2 2, .bool false, .bool false] (V.alloc (.cells #[.int .i64 1, .int .u32 3, .int .u32 0, .int .u32 5, .string ⟨#[97]⟩, .int .i64 1, .int .u32 3, .int .u32 0, .int .u32 5, .string ⟨#[98]⟩] o)) fun e w' =>
        ∃ (A : Addr) (c : Nat), e = .returned (.tuple #[.slice (some A) 2 c, .int .i64 0]) ∧ 2 ≤ c ∧ Below w.heap.size w w' ∧ w'.cell? A = some (.int .i64 17) ∧ w'.cell? ⟨A.block, A.off + 1, none⟩ = some (.int .i64 18) ∧
          Calls Try.prog 12 #[.pointer (some ⟨d, 0, none⟩), .int .i64 16, .int .u64 1, .int .i64 2] w' fun e w2 => ∃ (f c4 : Nat) (g' : Nat) (B : Addr) (c3 : Nat), e = .returned (.tuple #[.slice (some ⟨f, 0, none⟩) 1 c4, .pointer (some ⟨g', 0, none⟩), .int .i64 0]) ∧ 1 ≤ c4 ∧ 2 ≤ c3 ∧ Below w'.heap.size w' w2 ∧
            w2.cell? ⟨f, 7, none⟩ = some (.slice (some B) 2 c3) ∧ w2.cell? ⟨B.block, B.off + 1, none⟩ = some (.string S2) ∧ w2.cell? A = some (.int .i64 17) ∧ w2.cell? ⟨A.block, A.off + 1, none⟩ = some (.int .i64 18) ∧
            Calls Try.prog 13 #[.pointer (some ⟨g', 0, none⟩)] w2 (fun e w' => e = .returned (.int .i64 19) ∧ w2 = w') ∧ Calls Try.prog 14 #[.pointer (some ⟨g', 0, none⟩)] w2 (fun e w' => e = .returned (.int .u64 2) ∧ w2 = w')) :
    Calls Try.prog 9 #[] w fun e w' => e = .returned (.bool true) ∧ Below w.heap.size w w' := by
  obtain ⟨h11, h12⟩ := h1
  have HN := Lib.hid hN
  have HB := Lib.hid hB
  clear hN hB
  go_enter Try.func9, Try.ntmps9
  go_wp2_with fail
  refine HN.out.mono ?_
  rintro e w1 ⟨d, rfl, hb1, hD⟩
  have HD := Lib.hid hD
  clear hD
  go_wp2_with fail
  refine (HB.out _ d HD.out).mono ?_
  rintro e w2 ⟨g, rfl, hb2, hW⟩
  have HW := Lib.hid hW
  clear hW
  go_wp2_with fail
  refine (item_any _ _).mono ?_
  rintro e w3 ⟨rfl, hb3⟩
  go_wp2_with fail
  refine (item_any _ _).mono ?_
  rintro e w4 ⟨rfl, hb4⟩
  have hW4 := HW.out w4 (hb3.trans (hb4.mono hb3.size))
  have HW4 := Lib.hid hW4
  clear hW4 hb1 hb2 hb3 hb4
  go_wp2_with fail
  refine (HW4.out _ _ rfl).mono ?_
  rintro e w5 ⟨A, c, rfl, hc, hb5, a0, a1, hS⟩
  have HS := Lib.hid hS
  clear hS a0 a1
  go_wp2_with fail
  refine HS.out.mono ?_
  rintro e w6 ⟨f, c4, g', B, c3, rfl, hc4, hc3, hb6, f7, b1, a0, a1, hAt, hSq⟩
  have HA := Lib.hid hAt
  have HQ := Lib.hid hSq
  clear hAt hSq
  go_wp2_with fail
  refine HA.out.mono ?_
  rintro e w7 ⟨rfl, rfl⟩
  go_wp2_with fail
  refine HQ.out.mono ?_
  rintro e w7 ⟨rfl, rfl⟩
  go_wp2_with fail
  go_ret
  exact ⟨rfl, hb5.trans (hb6.mono hb5.size)⟩
end Go.Proofs.Ytjmfeoenbncibaa
namespace Go.Proofs.Ytjmfeoenbncibaa
open Go.RowKit Go.Nau Go.Shelf
attribute [local go_sem] Oper.semAt_some

theorem padB_size {c : ByteArray} (h : c.size ≤ 508) : (padB c).size = 508 := by
  unfold padB
  rw [ByteArray.size_append, zeroN_size]
  omega
theorem zeroN_list (n : Nat) : (zeroN n).data.toList = List.replicate n 0 := by unfold zeroN; rfl
theorem padB_head : ((padB shB).extract 0 2).toList = [98, 0] := by
  have e : (padB shB).data.toList = 98 :: 0 :: List.replicate 506 0 := by
    unfold padB
    rw [ByteArray.data_append, Array.toList_append, zeroN_list]
    show [98] ++ List.replicate (508 - 1) 0 = _
    rw [show 508 - 1 = 506 + 1 from rfl, List.replicate_succ]
    rfl
  rw [ByteArray.toList_eq, ByteArray.data_extract, Array.toList_extract, List.extract_eq_take_drop, e]
  rfl
theorem rd_get {T : Nat → Prop} {w : World} {A : Option Addr} {n : Nat} {xs : List Value} (h : Rd T w 1 A n xs) (hn : 0 < n) : ∃ ad, A = some ad ∧ T ad.block ∧ ∀ j u, xs[j]? = some u → w.cell? (ad.add j) = some u := h.2 hn
theorem add_zero' (a : Addr) : a.add 0 = a := by unfold Addr.add; simp
theorem add_succ' (a : Addr) (k : Nat) : a.add (k + 1) = ⟨a.block, a.off + (k + 1), none⟩ := by unfold Addr.add; simp

/-- Items two, as the cells of a block. -/
theorem sh_rd (V : World) (o : TypeId) : Rd (· < (V.alloc (.cells #[.int .i64 1, .int .u32 3, .int .u32 0, .int .u32 5, .string ⟨#[97]⟩, .int .i64 1, .int .u32 3, .int .u32 0, .int .u32 5, .string ⟨#[98]⟩] o)).heap.size) (V.alloc (.cells #[.int .i64 1, .int .u32 3, .int .u32 0, .int .u32 5, .string ⟨#[97]⟩, .int .i64 1, .int .u32 3, .int .u32 0, .int .u32 5, .string ⟨#[98]⟩] o)) 5 (some ⟨V.heap.size, 0, none⟩) 2 (itC shIts) := by
  refine ⟨rfl, fun _ => ⟨_, rfl, by simp, fun j u hu => ?_⟩⟩
  have hn := heap_alloc_new V (.cells #[.int .i64 1, .int .u32 3, .int .u32 0, .int .u32 5, .string ⟨#[97]⟩, .int .i64 1, .int .u32 3, .int .u32 0, .int .u32 5, .string ⟨#[98]⟩] o)
  have ha : (⟨V.heap.size, 0, none⟩ : Addr).add j = ⟨V.heap.size, j, none⟩ := by unfold Addr.add; split <;> simp_all
  rw [ha, cell_of_row _ V.heap.size j _ _ _ hn, ← hu, List.getElem?_toArray]
  rfl

theorem frow_one {w : World} {base : Nat} {v : Value} {f : Fnd} (h : FRow w base v [f]) : ∃ (b c4 : Nat) (x : FV), v = .slice (some ⟨b, 0, none⟩) 1 c4 ∧ 1 ≤ c4 ∧ x.f = f ∧ (∀ j u, (fvC x)[j]? = some u → w.cell? ⟨b, j, none⟩ = some u) ∧ FIn (fun k => base ≤ k ∧ k < w.heap.size) w x := by
  obtain ⟨xs, h1, h2, h3⟩ := h
  match xs, h1 with
  | [x], h1 =>
    simp at h1
    obtain ⟨A, c, rfl, hc, hrd⟩ := Rd.of_own2 h2
    obtain ⟨ad, rfl, _, hcell⟩ := hrd.2 (by simp)
    rcases h2.2 with ⟨h, _⟩ | ⟨g, cap, cur, hv, _⟩
    · cases h
    · simp only [Value.slice.injEq, Option.some.injEq] at hv
      obtain ⟨rfl, _, rfl⟩ := hv
      refine ⟨g, c, x, rfl, hc, h1, fun j u hu => ?_, (h3 x List.mem_cons_self).mono (fun k hk => ⟨hk.1, hk.2.1⟩)⟩
      have := hcell j u (by simpa [fvsC] using hu)
      rwa [show (⟨g, 0, none⟩ : Addr).add j = ⟨g, j, none⟩ by unfold Addr.add; split <;> simp_all] at this

theorem shown_any (w : World) : Calls Try.prog 9 #[] w fun e w' => e = .returned (.bool true) ∧ Below w.heap.size w w' := by
  obtain ⟨q1, q2, q3, q4, q5, q6, q7⟩ := sh_scan
  have qe := shR_e
  have hl0 : shS.now.length = 128 := zeros_len 128
  have hlo : LOk shS.now.length shL := by rw [hl0]; exact shL_ok 128 (by decide) (by decide) (by decide)
  have hi0 : DInv shS := zeros_inv 128 (by decide) (by decide)
  refine shown_core w (fun W d _ => ∃ F, Dsk W F d shS ∧ (∀ k, F k → w.heap.size ≤ k ∧ k < W.heap.size) ∧ Below w.heap.size w W ∧ w.heap.size ≤ W.heap.size) (padB shA) (padB shB) ⟨by rw [padB_size (by decide)]; rfl, by rw [padB_size (by decide)]; rfl⟩ (by rw [padB_head]; rfl) ?_ ?_
  · refine (new_ok 128 w (by decide)).mono ?_
    rintro e w' ⟨d, rfl, hD, _, hb⟩
    exact ⟨d, rfl, hb, _, hD, fun k hk => hk, hb, hb.size⟩
  · rintro W d ⟨F, hD, hF, hbW, hsW⟩
    refine (begin_any hD (by rw [hl0]; decide) 16 1 2 (by decide) (by decide) (by decide)).mono ?_
    rintro e w1 hb
    rw [hl0] at hb
    rcases hb with ⟨_, rfl, hlg, hb1, hz1⟩ | ⟨hb, _⟩
    case inr => exact absurd hb (by decide)
    refine ⟨W.heap.size, rfl, hb1, fun V hV b o hbo => ?_⟩
    subst hbo
    have hlg0 : Lg w1 W.heap.size d shL := hlg
    have hVs := hV.size
    have hgV : Lg V W.heap.size d shL := (hV.block _ (by omega)).trans hlg0
    have hb1s := hb1.size
    have hDV : Dsk V F d shS := (hD.kept (Fr.of_below hb1) (fun k hk h2 => by have := hF k hk; omega)).kept (Fr.of_below hV) (fun k hk h2 => by have := hF k hk; omega)
    obtain ⟨V', hV'⟩ : ∃ V', V' = V.alloc (.cells #[.int .i64 1, .int .u32 3, .int .u32 0, .int .u32 5, .string ⟨#[97]⟩, .int .i64 1, .int .u32 3, .int .u32 0, .int .u32 5, .string ⟨#[98]⟩] o) := ⟨_, rfl⟩
    have hrd := sh_rd V o
    rw [← hV'] at hrd ⊢
    have hf : Fr (fun _ => False) V V' := by rw [hV']; exact (Fr.refl _ V).alloc _
    have hz : V'.heap.size = V.heap.size + 1 := by rw [hV']; simp
    clear hV'
    have hbV : Below w.heap.size w V' := ((hbW.trans (hb1.mono hsW)).trans (hV.mono (by omega))).trans (hf.below (by omega) (fun _ h => h.elim))
    refine (lwrite_any (hDV.kept hf (fun _ _ => id)) (fun k hk => by have := hF k hk; omega) (fun h => by have := hF _ h; omega) (hf.get id hgV) hlo hi0 (by decide) (by decide) shIts rfl hrd (by decide) shIts_wf (fun x hx => by
      simp [shIts] at hx
      rcases hx with rfl | rfl <;> (unfold maxLen; decide)) 1 (by decide) false false).mono ?_
    rintro e w5 ⟨A, c, rfl, hc, hra, hl5, ⟨F5, hD5, hF5⟩, hfr5⟩
    change _ ≤ _ at hc
    have hat : (lwrite shL shS 1 shIts false false).at_ = [17, 18] := q4
    have hee : (lwrite shL shS 1 shIts false false).e = 0 := qe
    rw [hat] at hc hra ⊢
    rw [hee]
    obtain ⟨ad, rfl, hadT, hca⟩ := rd_get hra (by decide)
    have ca0 := hca 0 _ rfl
    have ca1 := hca 1 _ rfl
    rw [add_zero'] at ca0
    rw [add_succ'] at ca1
    have hb5 : Below w.heap.size w w5 := hbV.trans (hfr5.below (by omega) (fun k hk => by
      rcases hk with hk | rfl
      · exact (hF k hk).1
      · omega))
    have hs5 := hfr5.size
    refine ⟨ad, c, rfl, hc, hb5, ca0, ca1, ?_⟩
    have hD5' : Dsk w5 F5 d shR.s := hD5
    have hF5l : ∀ k, F5 k → k < w5.heap.size := fun k hk => by
      rcases hF5 k hk with h | h
      · have := hF k h; omega
      · exact h.2
    refine (scan_any hD5' hF5l q6 (by rw [q7]) 16 1 2 (by decide) (by decide) (by decide)).mono ?_
    rintro e w6 hsc
    rcases hsc with ⟨hb, _⟩ | ⟨_, N, v, hN, rfl, hfr, hlg6, hb6⟩
    · rw [q7] at hb
      exact absurd hb (by decide)
    have hbl : beginL 16 1 2 = shL := rfl
    rw [hbl] at hN hfr hlg6
    obtain rfl := scanN_eq hN q1
    rw [q2] at hlg6
    rw [q3] at hfr
    obtain ⟨b, c4, x, rfl, hc4, hxf, hxc, hx1, hx2, _, hrB⟩ := frow_one hfr
    have hcl : x.f.c.length = 2 := by rw [hxf]; rfl
    have hcv : x.f.c = [padB shA, padB shB] := by rw [hxf]
    rw [hcl] at hrB hx2
    rw [hcv] at hrB
    obtain ⟨bd, hbd, _, hcb⟩ := rd_get hrB (by decide)
    have cb1 := hcb 1 _ rfl
    rw [add_succ'] at cb1
    have hf7 := hxc 7 _ rfl
    rw [hbd, hcl] at hf7
    have ca0' := (hra.kept (Fr.of_below hb6) (fun k hk h => by omega)).2 (by decide)
    obtain ⟨ad', had', _, hca'⟩ := ca0'
    injection had' with had'
    subst had'
    have da0 := hca' 0 _ rfl
    have da1 := hca' 1 _ rfl
    rw [add_zero'] at da0
    rw [add_succ'] at da1
    exact ⟨b, c4, _, bd, x.c2, rfl, hc4, hx2, hb6, hf7, cb1, da0, da1, at_any hlg6, seq_any hlg6⟩
end Go.Proofs.Ytjmfeoenbncibaa

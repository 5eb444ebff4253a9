/- The reference disk: Crash: contracts over the given program. -/
import Derived.Test.YtjpmohennekbaaaDm
namespace Go.Proofs.Ytjpmohennekbaaa
open Go.RowKit Go.Nau Go.Shelf
attribute [local go_sem] Oper.semAt_some

theorem fates_at (l : List (Nat × ByteArray)) (keep torn : Int) (k : Nat) (x : Nat × ByteArray) (h : l[k]? = some x) : (fates l keep torn)[k]? = some (x, stays k keep torn) := by
  unfold fates
  simp [List.getElem?_zipIdx, h]
theorem fates_length (l : List (Nat × ByteArray)) (keep torn : Int) : (fates l keep torn).length = l.length := by simp [fates]
def crashTo (s : DS) (keep torn : Int) (q : Nat) : List ByteArray := ((fates s.loose keep torn).take q).foldl torn1 s.safe
theorem crashTo_succ (s : DS) (keep torn : Int) (q : Nat) (x : Nat × ByteArray) (h : s.loose[q]? = some x) : crashTo s keep torn (q + 1) = torn1 (crashTo s keep torn q) (x, stays q keep torn) := by
  unfold crashTo
  rw [List.take_add_one, fates_at _ _ _ _ _ h]
  simp
theorem crashTo_all (s : DS) (keep torn : Int) : crashTo s keep torn s.loose.length = crashed s keep torn := by
  unfold crashTo crashed
  rw [← fates_length s.loose keep torn, List.take_length]
theorem foldl_torn1_length (l : List ((Nat × ByteArray) × Int)) (b : List ByteArray) : (l.foldl torn1 b).length = b.length := by
  induction l generalizing b with
  | nil => rfl
  | cons x l ih => rw [List.foldl_cons, ih, torn1_length]
theorem crashTo_length (s : DS) (keep torn : Int) (q : Nat) : (crashTo s keep torn q).length = s.safe.length := foldl_torn1_length _ _
theorem crashed_length (s : DS) (keep torn : Int) : (crashed s keep torn).length = s.safe.length := foldl_torn1_length _ _

theorem foldl_torn1_size (l : List ((Nat × ByteArray) × Int)) (b : List ByteArray) (hb : ∀ x ∈ b, x.size = 512) (hl : ∀ x ∈ l, x.1.1 < b.length ∧ x.1.2.size = 512 ∧ (x.2 = 0 ∨ x.2 = 256 ∨ x.2 = 512)) : ∀ x ∈ l.foldl torn1 b, x.size = 512 := by
  induction l generalizing b with
  | nil => exact hb
  | cons y l ih =>
    rw [List.foldl_cons]
    obtain ⟨h1, h2, h3⟩ := hl y List.mem_cons_self
    refine ih _ (fun x hx => ?_) (fun x hx => by rw [torn1_length]; exact hl x (List.mem_cons_of_mem _ hx))
    unfold torn1 at hx
    split at hx
    · exact hb x hx
    · rcases List.mem_or_eq_of_mem_set hx with hx | hx
      · exact hb x hx
      · subst hx
        have hg : (b.getD y.1.1 ⟨#[]⟩).size = 512 := by
          rw [List.getD, List.getElem?_eq_getElem h1]
          exact hb _ (List.getElem_mem h1)
        rw [ByteArray.size_append, ByteArray.size_extract, ByteArray.size_extract, h2, hg]
        rcases h3 with h3 | h3 | h3 <;> simp [h3]
theorem crashTo_size (s : DS) (keep torn : Int) (q : Nat) (hs : ∀ x ∈ s.safe, x.size = 512) (hl : ∀ x ∈ s.loose, x.1 < s.safe.length ∧ x.2.size = 512) : ∀ x ∈ crashTo s keep torn q, x.size = 512 :=
  foldl_torn1_size _ _ hs fun x hx => fates_ok s.loose keep torn hl x (List.mem_of_mem_take hx)
theorem crashed_size (s : DS) (keep torn : Int) (hs : ∀ x ∈ s.safe, x.size = 512) (hl : ∀ x ∈ s.loose, x.1 < s.safe.length ∧ x.2.size = 512) : ∀ x ∈ crashed s keep torn, x.size = 512 :=
  foldl_torn1_size _ _ hs fun x hx => fates_ok s.loose keep torn hl x hx

def RcRel (w0 : World) (bx g gc n : Nat) (s : DS) (keep torn : Int) (k : Nat) (i : Value) (wr : World) : Prop :=
  ∃ q : Nat, k = s.loose.length - q ∧ i = .int .i64 q ∧ q ≤ s.loose.length ∧ wr.ownsRow 0 9 1 (.slice (some ⟨g, 0, none⟩) n gc) n (strs (crashTo s keep torn q)) ∧ wr.heap[bx]? = some (.cells #[.int .u64 keep, .int .i64 torn] 37 (0, 0)) ∧ Below w0.heap.size w0 wr

def RcPost (w : World) (b : List ByteArray) (e : Ending) (w' : World) : Prop :=
  ∃ r', e = .returned (.pointer (some ⟨r', 0, none⟩)) ∧ RDsk w' (fun k => w.heap.size ≤ k ∧ k < w'.heap.size) r' ⟨b, b, [], 0, -1, false⟩ ∧ w.heap.size ≤ r' ∧ Below w.heap.size w w'

section
variable {w : World} {G : Nat → Prop} {r : Nat} {s : DS}

set_option maxHeartbeats 2000000 in
set_option maxRecDepth 100000 in
theorem rcrash_dsk (h : RDsk w G r s) (hss : ∀ x ∈ s.safe, x.size = 512) (hl : ∀ x ∈ s.loose, x.1 < s.safe.length ∧ x.2.size = 512) (hn : s.safe.length ≤ 8192) (hm : s.loose.length ≤ 1073741824) (keep torn : Int) :
    Calls Try.prog 59 #[.pointer (some ⟨r, 0, none⟩), .agg #[.int .u64 keep, .int .i64 torn]] w (RcPost w (crashed s keep torn)) := by
  obtain ⟨bb, bc, L, hd, o1, o2, g0, g1, g2, h0⟩ := h
  have hlt := (Array.getElem?_eq_some_iff.1 hd).1
  have hd0 : (w.alloc (.cells #[.int .u64 keep, .int .i64 torn] 37)).heap[r]? = _ := (Fr.alloc (Fr.refl (fun _ => False) w) _).get id hd
  have c0 := blk_cell hd0 0
  have c1 := blk_cell hd0 1
  simp [rcells] at c0 c1
  obtain ⟨A, ca, ev, hrd⟩ := Rd.lt_own o1
  obtain ⟨A2, c2, rfl, hrd2⟩ := Rd.lt_own o2
  simp only [Value.slice.injEq, true_and] at ev
  obtain ⟨rfl, rfl⟩ := ev
  have hs := settled_any (some ⟨bb, 0, none⟩) none s.safe.length bc 0 s.safe [] (w.alloc (.cells #[.int .u64 keep, .int .i64 torn] 37)) ((hrd.kept (Fr.alloc (Fr.refl (fun _ => False) w) _) (fun _ _ => id)).mono (fun k hk => by simp; omega)) (Rd.nil _ _ _ _) (by simp) h0 hn (by simp)
  have HS := Lib.hid hs
  have hbox := heap_alloc_new w (.cells #[.int .u64 keep, .int .i64 torn] 37)
  have hmi : (s.loose.length : Int) ≤ 1073741824 := by omega
  clear hs hrd o1 o2 hd0
  go_enter Try.func59, Try.ntmps59
  go_wp2_with fail
  try go_step3
  go_wp2_with fail
  refine HS.out.mono ?_
  rintro e w2 ⟨g, gc, rfl, hg, hown, hb2⟩
  have hown' := own_base hown (Nat.zero_le _)
  rw [show settledL s.safe [] = s.safe from rfl] at hown'
  have hbox2 := (hb2.block w.heap.size (by simp)).trans hbox
  have hbb : Below w.heap.size w w2 := ((Below.refl _ w).alloc (Nat.le_refl _) _).trans (hb2.mono (by simp))
  have hgw : w.heap.size + 1 ≤ g := by simpa using hg
  have HB := Lib.hid hbb
  have HBX := Lib.hid hbox2
  have HOW := Lib.hid hown'
  clear hown hb2 hbox hbb hbox2 hown' hg c0 c1 HS
  go_wp2_with fail
  go_loopg [6] s.loose.length (RcRel w w.heap.size g gc s.safe.length s keep torn)
  case atStart => exact ⟨0, rfl, rfl, Nat.zero_le _, HOW.out, HBX.out, HB.out⟩
  case round =>
    obtain ⟨q, rfl, rfl, hq, hown, hbx, hb⟩ := hrel
    clear HB HBX HOW
    have hdr := (hb.block r hlt).trans hd
    have c1 := blk_cell hdr 1
    have c0 := blk_cell hdr 0
    simp [rcells] at c0 c1
    by_cases hlt2 : q < s.loose.length
    · have hqi : (q : Int) < (s.loose.length : Int) := by omega
      obtain ⟨ad, rfl, hadb, hcell⟩ := (hrd2.kept (Fr.of_below hb) (fun k hk => by omega)).2 (by omega)
      obtain ⟨z, hz⟩ : ∃ z, s.loose[q]? = some z := ⟨_, List.getElem?_eq_getElem hlt2⟩
      obtain ⟨x0, x1⟩ := wcells_get _ _ _ hz
      have e0 := hcell _ _ x0
      have e1 := hcell _ _ x1
      rw [← Go.Nau.add_add] at e1
      have e1' : wr.cell? ⟨(ad.add (q * 2)).block, (ad.add (q * 2)).off + 1, none⟩ = some (.string z.2) := e1
      obtain ⟨at_, str⟩ := z
      obtain ⟨hza, hzs⟩ := hl _ (List.mem_of_getElem? hz)
      have hcs := crashTo_succ s keep torn q _ hz
      have hcl := crashTo_length s keep torn q
      have hcz := crashTo_size s keep torn q hss hl
      dsimp only at e0 e1' hza hzs hcs
      generalize crashTo s keep torn q = cur at *
      obtain ⟨old, hold⟩ : ∃ old, cur[at_]? = some old := ⟨_, List.getElem?_eq_getElem (by omega)⟩
      have hos : old.size = 512 := hcz old (List.mem_of_getElem? hold)
      have hfa : Fr (fun _ => False) wr (wr.alloc (.cells #[.int .i64 at_, .string str] 122)) := (Fr.refl _ wr).alloc _
      have hnew := heap_alloc_new wr (.cells #[.int .i64 at_, .string str] 122)
      have y0 := blk_cell hnew 0
      have y1 := blk_cell hnew 1
      have hbx1 := hfa.get id hbx
      have k0 := blk_cell hbx1 0
      have k1 := blk_cell hbx1 1
      simp at y0 y1 k0 k1
      have hown1 := Fr.own hown hfa (fun _ _ => id)
      obtain ⟨m0, m1⟩ := own_at hown1 (strs_at hold)
      have hat : (at_ : Int) < (s.safe.length : Int) := by omega
      have hwz := hb.size
      have fin : ∀ W2 (b : ByteArray), Fr (fun _ => False) (wr.alloc (.cells #[.int .i64 at_, .string str] 122)) W2 →
          (W2.setCell ⟨g, at_, none⟩ (.string b)).ownsRow 0 9 1 (.slice (some ⟨g, 0, none⟩) s.safe.length gc) s.safe.length (strs (cur.set at_ b)) ∧
          (W2.setCell ⟨g, at_, none⟩ (.string b)).heap[w.heap.size]? = some (.cells #[.int .u64 keep, .int .i64 torn] 37 (0, 0)) ∧ Below w.heap.size w (W2.setCell ⟨g, at_, none⟩ (.string b)) := by
        intro W2 b hf
        refine ⟨?_, ?_, ?_⟩
        · have := own_set (Fr.own hown1 hf (fun _ _ => id)) at_ (.string b)
          rw [show strs (cur.set at_ b) = (strs cur).set at_ (.string b) by simp [strs, List.map_set]]
          exact this
        · exact (hf.trans (Fr.refl _ _) |>.mono (fun _ h => h.elim) |>.trans (Fr.set1 W2 g at_ (.string b))).get (fun e => by omega) hbx1
        · exact ((hb.alloc hwz _).trans (hf.below (by simp; omega) (fun _ h => h.elim))).setCell (by dsimp only; omega) _
      have FI := Lib.hid fin
      have HCS := Lib.hid hcs
      have hgd : cur.getD at_ ⟨#[]⟩ = old := by simp [List.getD, hold]
      have hst : stays q keep torn = (if (q : Int) = torn then 256 else if (bits BinOp.and IntKind.u64 (keep / 2 ^ (q % 64)) 1 == 1) = true then 512 else 0) := rfl
      have HST := Lib.hid hst
      have HGD := Lib.hid hgd
      have hsz1 : (256 : Int) ≤ (str.size : Int) := by omega
      have hsz2 : (256 : Int) ≤ (old.size : Int) := by omega
      have hsz3 : ((str.extract 0 256).size + (old.size - 256)) ≤ 1024 := by rw [ByteArray.size_extract]; omega
      have HB2 : Hid (wr.alloc (.cells #[.int .i64 at_, .string str] 122) = wr.alloc (.cells #[.int .i64 at_, .string str] 122)) := Lib.hid rfl
      have hkeep0 : Hid ((wr.alloc (.cells #[.int .i64 at_, .string str] 122)).ownsRow 0 9 1 (.slice (some ⟨g, 0, none⟩) s.safe.length gc) s.safe.length (strs cur) ∧ (wr.alloc (.cells #[.int .i64 at_, .string str] 122)).heap[w.heap.size]? = some (.cells #[.int .u64 keep, .int .i64 torn] 37 (0, 0)) ∧ Below w.heap.size w (wr.alloc (.cells #[.int .i64 at_, .string str] 122))) := Lib.hid ⟨hown1, hbx1, hb.alloc hwz _⟩
      clear hst x0 x1 e1 hcell hd g2 hdr fin hcs hgd hown1 hbx1 hnew hbx hown hold hcz hz hl hss
      by_cases hto : (q : Int) = torn
      · have hto' : ((q : Int) == torn) = true := by simpa using hto
        have hn1 : stays q keep torn = 256 := by rw [HST.out, if_pos hto]
        have hnx : crashTo s keep torn (q + 1) = cur.set at_ (str.extract 0 256 ++ old.extract 256 512) := by
          rw [HCS.out, hn1]
          unfold torn1
          rw [if_neg (by simp), HGD.out]
          rfl
        have HX := Lib.hid hnx
        clear hto hn1 hnx
        go_wp2_with fail
        refine wpIn_wide.1 (wpIn_region_last_lit (F := Fence.wide) (n := 1) (by simp) (by kernel_rfl) rfl (by kernel_rfl) (by kernel_rfl) ?_)
        dsimp only [List.dropLast, List.getLast]
        repeat (gi_big_quiet_step (fail))
        refine wpQuietIn_nil ?_
        rintro w' ⟨nq, rfl⟩
        go_simp
        go_wp2_with fail
        go_roundg (s.loose.length - (q + 1))
        case measure => omega
        case rel =>
          obtain ⟨f1, f2, f3⟩ := FI.out _ (str.extract 0 256 ++ old.extract 256 512) (Fr.drewN (fun _ => False) _ nq)
          exact ⟨q + 1, rfl, by simp, by omega, by rw [HX.out]; exact f1, f2, f3⟩
      · have hto' : ((q : Int) == torn) = false := by simpa using hto
        by_cases hbt : (bits BinOp.and IntKind.u64 (keep / 2 ^ (q % 64)) 1 == 1) = true
        · have hn1 : stays q keep torn = 512 := by rw [HST.out, if_neg hto, if_pos hbt]
          have hnx : crashTo s keep torn (q + 1) = cur.set at_ str := by
            rw [HCS.out, hn1]
            unfold torn1
            rw [if_neg (by simp), HGD.out]
            show cur.set at_ (str.extract 0 512 ++ old.extract 512 512) = _
            have e1 : str.extract 0 512 = str := by rw [← hzs]; simp
            rw [e1]
            simp
          have HX := Lib.hid hnx
          clear hto hn1 hnx
          go_wp2_with fail
          go_roundg (s.loose.length - (q + 1))
          case measure => omega
          case rel =>
            obtain ⟨f1, f2, f3⟩ := FI.out _ str (Fr.refl _ _)
            exact ⟨q + 1, rfl, by simp, by omega, by rw [HX.out]; exact f1, f2, f3⟩
        · have hbt' : (bits BinOp.and IntKind.u64 (keep / 2 ^ (q % 64)) 1 == 1) = false := by simpa using hbt
          have hn1 : stays q keep torn = 0 := by rw [HST.out, if_neg hto, if_neg hbt]
          have hnx : crashTo s keep torn (q + 1) = cur := by
            rw [HCS.out, hn1]
            unfold torn1
            rw [if_pos rfl]
          have HX := Lib.hid hnx
          clear hto hbt hn1 hnx
          go_wp2_with fail
          go_roundg (s.loose.length - (q + 1))
          case measure => omega
          case rel =>
            obtain ⟨f1, f2, f3⟩ := hkeep0.out
            exact ⟨q + 1, rfl, by simp, by omega, by rw [HX.out]; exact f1, f2, f3⟩
    · obtain rfl : q = s.loose.length := by omega
      rw [crashTo_all] at hown
      have hcl := crashed_length s keep torn
      generalize crashed s keep torn = cr at *
      have hnew := heap_alloc_new wr (.cells #[.slice (some ⟨g, 0, none⟩) s.safe.length gc, .slice none 0 0, .int .i64 0, .int .i64 (-1), .bool false] 57)
      have hown2 := hown.alloc (.cells #[.slice (some ⟨g, 0, none⟩) s.safe.length gc, .slice none 0 0, .int .i64 0, .int .i64 (-1), .bool false] 57)
      have hgl := (hown.lt g rfl).2
      have hwz := hb.size
      have HN := Lib.hid hnew
      have HO := Lib.hid hown2
      clear hnew hown2 hown
      go_wp2_with fail
      go_ret
      refine ⟨wr.heap.size, rfl, ⟨g, gc, .slice none 0 0, ?_, ?_, World.ownsRow_nil _ _ _ _, ⟨hwz, by simp⟩, ⟨by omega, by simp; omega⟩, by simp [Value.ownBlock], ?_⟩, hwz, hb.alloc hwz _⟩
      · dsimp only
        rw [hcl]
        exact HN.out
      · dsimp only
        rw [hcl]
        exact HO.out
      · dsimp only
        rw [hcl]
        exact h0
end
end Go.Proofs.Ytjpmohennekbaaa

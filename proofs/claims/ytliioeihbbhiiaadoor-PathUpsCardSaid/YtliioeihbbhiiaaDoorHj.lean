/- Paths: the reference's pieces: over the given program. -/
import Derived.Test.YtliioeihbbhiiaaDoorHi
namespace Go.Proofs.YtliioeihbbhiiaaDoor
open Go.RowKit Go.Nau Go.Shelf
attribute [local go_sem] Oper.semAt_some

theorem wpList_append_run {P : Program} {w : World} {ops : Array Oper} {rest : List Oper} {o : Oper} {a : Act} {Q : Exit → Act → World → Prop} (hgd : o.guard = none) (s x : Operand) (t : TypeId)
    (ho : o.op = .call { callee := .builtin .append, args := #[s, x], argTypes := #[t, t] }) (v u : Value) (hs : a.eval s = v) (hx : a.eval x = u) (v' : Value) (w' : World)
    (hrun : (Builtin.append_ #[t, t] o.type #[v, u]).run P w = .ok v' w') (h : wpList P ops Q rest (a.put o.dst v') w') : wpList P ops Q (o :: rest) a w := by
  refine wpList_plain hgd fun K hK => ?_
  unfold Oper.wp
  simp [execOp, ho, resolve, invoke, builtin, hs, hx, hrun, Result.andThen]
  exact hK _ _ h

theorem spl_app : ∀ {a : List UInt8} (r : List UInt8), (∀ c ∈ a, c ≠ 47) → spl (a ++ 47 :: r) = a :: spl r
  | [], r, _ => by simp [spl]
  | c :: a, r, h => by
    rw [List.cons_append]
    conv => lhs; unfold spl
    rw [if_neg (h c (by simp)), spl_app r (fun x hx => h x (by simp [hx]))]
theorem spl_all : ∀ {a : List UInt8}, (∀ c ∈ a, c ≠ 47) → spl a = [a]
  | [], _ => rfl
  | c :: a, h => by
    unfold spl
    rw [if_neg (h c (by simp)), spl_all (fun x hx => h x (by simp [hx]))]

/-- What the loop of pieces keeps: q bytes read, the piece begun at f. -/
def PcOk (s : ByteArray) (q f : Nat) (L : List ByteArray) : Prop :=
  (q ≤ s.size ∧ f ≤ q ∧ (∀ c ∈ (s.data.toList.drop f).take (q - f), c ≠ 47) ∧ L ++ (spl (s.data.toList.drop f)).map txt = splB s) ∨ (q = s.size + 1 ∧ L = splB s)
theorem PcOk.start (s : ByteArray) : PcOk s 0 0 [] := .inl ⟨by omega, by omega, by simp, rfl⟩
theorem PcOk.more {s : ByteArray} {q f : Nat} {L : List ByteArray} (h : PcOk s q f L) (hq : q < s.size) (hc : s[q] ≠ 47) : PcOk s (q + 1) f L := by
  rcases h with ⟨h1, h2, h3, h4⟩ | ⟨h1, _⟩
  · refine .inl ⟨by omega, by omega, ?_, h4⟩
    have e : (s.data.toList.drop f).take (q + 1 - f) = (s.data.toList.drop f).take (q - f) ++ [s[q]] := by
      rw [show q + 1 - f = (q - f) + 1 by omega, List.take_succ_eq_append_getElem (by rw [List.length_drop, dat_length]; omega)]
      congr 2
      rw [List.getElem_drop]
      have e2 : f + (q - f) = q := by omega
      simp only [e2]
      rfl
    rw [e]
    intro c hcm
    rcases List.mem_append.1 hcm with hcm | hcm
    · exact h3 c hcm
    · simp at hcm; rw [hcm]; exact hc
  · omega
theorem PcOk.cut {s : ByteArray} {q f : Nat} {L : List ByteArray} (h : PcOk s q f L) (hq : q < s.size) (hc : s[q] = 47) : PcOk s (q + 1) (q + 1) (L ++ [s.extract f q]) ∧ f ≤ q := by
  rcases h with ⟨h1, h2, h3, h4⟩ | ⟨h1, _⟩
  · refine ⟨.inl ⟨by omega, by omega, by simp, ?_⟩, h2⟩
    rw [← h4, List.append_assoc]
    congr 1
    have e : s.data.toList.drop f = (s.data.toList.drop f).take (q - f) ++ 47 :: s.data.toList.drop (q + 1) := by
      conv => lhs; rw [← List.take_append_drop (q - f) (s.data.toList.drop f)]
      congr 1
      rw [List.drop_drop, show f + (q - f) = q by omega, List.drop_eq_getElem_cons (by rw [dat_length]; exact hq)]
      congr 1
    conv => rhs; rw [e, spl_app _ h3]
    rw [List.map_cons, List.singleton_append]
    congr 1
    apply ByteArray.ext
    apply Array.toList_inj.mp
    rw [ext_list, txt_list]
  · omega
theorem PcOk.last {s : ByteArray} {f : Nat} {L : List ByteArray} (h : PcOk s s.size f L) : PcOk s (s.size + 1) (s.size + 1) (L ++ [s.extract f s.size]) ∧ f ≤ s.size := by
  rcases h with ⟨h1, h2, h3, h4⟩ | ⟨h1, _⟩
  · refine ⟨.inr ⟨rfl, ?_⟩, h2⟩
    rw [← h4]
    congr 1
    have e : (s.data.toList.drop f).take (s.size - f) = s.data.toList.drop f := by
      apply List.take_of_length_le
      rw [List.length_drop, dat_length]; omega
    rw [e] at h3
    rw [spl_all h3, List.map_cons, List.map_nil]
    congr 1
    apply ByteArray.ext
    apply Array.toList_inj.mp
    rw [ext_list, txt_list, e]
  · omega
theorem PcOk.done {s : ByteArray} {f : Nat} {L : List ByteArray} (h : PcOk s (s.size + 1) f L) : L = splB s := by
  rcases h with ⟨h1, _⟩ | ⟨_, h⟩
  · omega
  · exact h
theorem splB_length (s : ByteArray) : (splB s).length ≤ s.size + 1 := by
  unfold splB
  rw [List.length_map]
  have := spl_length s.data.toList
  rwa [dat_length] at this
theorem PcOk.len {s : ByteArray} {q f : Nat} {L : List ByteArray} (h : PcOk s q f L) : L.length ≤ s.size + 1 := by
  have h0 := splB_length s
  rcases h with ⟨_, _, _, h⟩ | ⟨_, h⟩
  · rw [← h, List.length_append] at h0; omega
  · rw [h]; exact h0

def RpRel (w : World) (s : ByteArray) (k : Nat) (v f i : Value) (wr : World) : Prop :=
  ∃ (q m : Nat) (L : List ByteArray), k = s.size + 1 - q ∧ i = .int .i64 q ∧ f = .int .i64 m ∧ q ≤ s.size + 1 ∧ PcOk s q m L ∧ OutR wr w.heap.size v L ∧ Below w.heap.size w wr

set_option maxHeartbeats 2000000 in
set_option maxRecDepth 100000 in
theorem rpieces_any (s : ByteArray) (hs : s.size ≤ 900000) (w : World) : Calls Tryd.prog 21 #[.string s] w fun e w' =>
    ∃ v, e = .returned v ∧ OutR w' w.heap.size v (splB s) ∧ Below w.heap.size w w' := by
  have hsi : (s.size : Int) ≤ 900000 := by omega
  go_enter Tryd.func21, Tryd.ntmps21
  go_wp2_with fail
  go_loopg [3, 4, 5] (s.size + 1) (RpRel w s)
  case atStart => exact ⟨0, 0, [], rfl, rfl, rfl, Nat.zero_le _, PcOk.start s, OutR.nil _ _, Below.refl _ _⟩
  case round =>
    obtain ⟨q, m, L, rfl, rfl, rfl, hq, hP, hO, hb⟩ := hrel
    by_cases hlt : q ≤ s.size
    · have hqi : (q : Int) ≤ (s.size : Int) := by omega
      have hL := hP.len
      have stepRun : ∀ (x : ByteArray), PcOk s (q + 1) (q + 1) (L ++ [x]) → ∃ v' w', (Builtin.append_ #[22, 22] 22 #[u3, .slice (some ⟨wr.heap.size, 0, none⟩) 1 1]).run Tryd.prog (wr.alloc (.cells #[.string x] 9)) = .ok v' w' ∧ RpRel w s (s.size + 1 - (q + 1)) v' (.int .i64 ((q + 1 : Nat) : Int)) (.int .i64 ((q + 1 : Nat) : Int)) w' := by
        intro x hP2
        have hnew : (wr.alloc (.cells #[.string x] 9)).cell? ⟨wr.heap.size, 0, none⟩ = some (.string x) := by
          refine (blk_cell (heap_alloc_new wr (.cells #[.string x] 9)) 0).trans ?_
          rfl
        have fa : Fr (fun _ => False) wr (wr.alloc (.cells #[.string x] 9)) := (Fr.refl _ wr).alloc _
        have hbs := hb.size
        obtain ⟨v2, w2, hrun, ho2, hf2, _⟩ := (hO.fr fa (fun _ _ _ _ => id)).append (by simp; omega) x _ hnew (by omega)
        refine ⟨v2, w2, hrun, q + 1, q + 1, _, rfl, rfl, rfl, by omega, hP2, ho2, hb.trans ?_⟩
        exact ((fa.mono (fun _ e => e.elim)).trans hf2).below hbs (fun k h => h)
      by_cases he : q = s.size
      · subst he
        obtain ⟨hP2, hm⟩ := hP.last
        obtain ⟨v2, w2, hrun, hrel2⟩ := stepRun _ hP2
        have HRUN := Lib.hid hrun
        have HREL := Lib.hid hrel2
        have hmi : (m : Int) ≤ (s.size : Int) := by omega
        clear hrun hrel2 hP2 stepRun hP hO hL hb hlt hq hqi
        go_wp2_with (at_builtin; refine wpList_append_run rfl (.tmp 22) (.tmp 27) 22 rfl _ _ rfl rfl _ _ HRUN.out ?_)
        go_roundg (s.size + 1 - (s.size + 1))
        case measure => omega
        case rel => exact HREL.out
      · have hqs : q < s.size := by omega
        have hne : ¬ (q : Int) = (s.size : Int) := by omega
        have hqi2 : (q : Int) < (s.size : Int) := by omega
        by_cases h47 : s[q] = 47
        · have hb4 : ((s[q].toNat : Int) == 47) = true := by rw [h47]; rfl
          obtain ⟨hP2, hm⟩ := hP.cut hqs h47
          obtain ⟨v2, w2, hrun, hrel2⟩ := stepRun _ hP2
          have HRUN := Lib.hid hrun
          have HREL := Lib.hid hrel2
          have hmi : (m : Int) ≤ (q : Int) := by omega
          clear hrun hrel2 hP2 stepRun hP hO hL hb hlt hq h47 he
          go_wp2_with (at_builtin; refine wpList_append_run rfl (.tmp 22) (.tmp 27) 22 rfl _ _ rfl rfl _ _ HRUN.out ?_)
          go_roundg (s.size + 1 - (q + 1))
          case measure => omega
          case rel => exact HREL.out
        · have hb4 : ((s[q].toNat : Int) == 47) = false := by
            simp only [beq_eq_false_iff_ne, ne_eq]
            intro e
            exact h47 (UInt8.toNat_inj.1 (by simpa using Int.ofNat_inj.1 e))
          have hrel2 : RpRel w s (s.size + 1 - (q + 1)) u3 (.int .i64 m) (.int .i64 ((q + 1 : Nat) : Int)) wr := ⟨q + 1, m, L, rfl, rfl, rfl, by omega, hP.more hqs h47, hO, hb⟩
          have HREL := Lib.hid hrel2
          clear hrel2 stepRun hP hO hL hb hlt hq h47 he
          go_wp2_with fail
          go_roundg (s.size + 1 - (q + 1))
          case measure => omega
          case rel => exact HREL.out
    · obtain rfl : q = s.size + 1 := by omega
      have hd := hP.done
      subst hd
      have HO := Lib.hid hO
      clear hO hP hlt
      go_wp2_with fail
      go_ret
      exact ⟨_, rfl, HO.out, hb⟩
end Go.Proofs.YtliioeihbbhiiaaDoor

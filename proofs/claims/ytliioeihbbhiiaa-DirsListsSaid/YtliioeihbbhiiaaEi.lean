/- Directories: the reference's found, Find, Right, Add, Drop, Set: contracts over the given program. -/
import Derived.Test.YtliioeihbbhiiaaEh
namespace Go.Proofs.Ytliioeihbbhiiaa
open Go.RowKit Go.Nau Go.Shelf
attribute [local go_sem] Oper.semAt_some

def foundL (s name : ByteArray) : List Nm := if findE s name = 0 ∨ findE s name = 112 then namesL s else []
def foundI (s name : ByteArray) : Nat := if findE s name = 0 then idxN (namesL s) name else 0
def FPost (w : World) (s name : ByteArray) (e : Ending) (w' : World) : Prop :=
  ∃ v, e = .returned (.tuple #[v, .int .i64 (foundI s name), .int .i64 (findE s name)]) ∧ w'.ownsRow w.heap.size 40 2 v (foundL s name).length (nmC (foundL s name)) ∧ Below w.heap.size w w'
theorem FPost.bad {w w' : World} {s name : ByteArray} {en : Int} (h : findE s name = en) (h0 : en ≠ 0) (h1 : en ≠ 112) (hb : Below w.heap.size w w') : FPost w s name (.returned (.tuple #[.slice none 0 0, .int .i64 0, .int .i64 en])) w' := by
  unfold FPost foundL foundI
  rw [h, if_neg h0, if_neg (by rintro (e | e) <;> contradiction)]
  exact ⟨.slice none 0 0, rfl, ⟨rfl, .inl ⟨rfl, rfl⟩⟩, hb⟩
theorem FPost.ok {w w' : World} {s name : ByteArray} {en : Int} {i : Nat} {v : Value} (h : findE s name = en) (h0 : en = 0 ∨ en = 112) (hi : foundI s name = i) (ho : w'.ownsRow w.heap.size 40 2 v (namesL s).length (nmC (namesL s))) (hb : Below w.heap.size w w') : FPost w s name (.returned (.tuple #[v, .int .i64 i, .int .i64 en])) w' := by
  unfold FPost foundL
  rw [h, if_pos h0, hi]
  exact ⟨v, rfl, ho, hb⟩

theorem namesL_le (s : ByteArray) : (namesL s).length ≤ 20001 := by rw [namesL_length]; exact readL_le s

set_option maxHeartbeats 1000000 in
theorem found_any (s name : ByteArray) (hs : s.size ≤ 9223372036854775807) (hn : name.size ≤ 9223372036854775807) (w : World) : Calls Try.prog 27 #[.string s, .string name] w (FPost w s name) := by
  have HR := Lib.hid (fun W => rread_any s hs W)
  have HN := Lib.hid (fun W => risname_any name hn W)
  go_enter Try.func27, Try.ntmps27
  go_wp2_with fail
  refine (HR.out _).mono ?_
  rintro e w1 ⟨v, rfl, hown, hb1⟩
  cases hok : rdOk s
  · have hF : findE s name = 110 := by unfold findE; rw [hok]; rfl
    have HP := Lib.hid (FPost.bad (w := w) hF (by decide) (by decide) hb1)
    clear hF hown HR
    go_wp2_with fail
    go_ret3
    exact HP.out
  cases hnb : nameB name
  · have hF : findE s name = 111 := by unfold findE; rw [hok, hnb]; rfl
    have HP := Lib.hid (FPost.bad (w := w) hF (by decide) (by decide) hb1)
    rw [hnb] at HN
    clear hF hown HR
    go_wp2_with fail
    refine (HN.out _).mono ?_
    rintro e w2 ⟨rfl, hw2⟩
    rw [← hw2]
    clear hw2 w2
    go_wp2_with fail
    go_ret3
    exact HP.out
  rw [hnb] at HN
  have hll := namesL_le s
  obtain ⟨A, c, rfl, hc, hrd⟩ := Rd.of_own2 hown
  have hp := place_any (namesL s) A c name w1 (hrd.mono (fun k hk => hk.2)) (by omega)
  have hii : idxI (namesL s) name = if idxN (namesL s) name < (namesL s).length then (idxN (namesL s) name : Int) else -1 := rfl
  by_cases hlt : idxN (namesL s) name < (namesL s).length
  · rw [if_pos hlt] at hii
    have hF : findE s name = 0 := by unfold findE; rw [hok, hnb, if_pos hlt]; rfl
    have hI : foundI s name = idxN (namesL s) name := by unfold foundI; rw [if_pos hF]
    have HP := Lib.hid (FPost.ok (w := w) hF (.inl rfl) hI hown hb1)
    rw [hii] at hp
    have HPL := Lib.hid hp
    clear hF hI hown HR hp hii hrd hok hlt
    generalize idxN (namesL s) name = q at *
    generalize (namesL s).length = N at *
    go_wp2_with fail
    refine (HN.out _).mono ?_
    rintro e w2 ⟨rfl, hw2⟩
    rw [← hw2]
    clear hw2 w2
    go_wp2_with fail
    refine HPL.out.mono ?_
    rintro e w2 ⟨rfl, hw2⟩
    rw [← hw2]
    clear hw2 w2
    go_wp2_with fail
    go_ret3
    exact HP.out
  · rw [if_neg hlt] at hii
    have hF : findE s name = 112 := by unfold findE; rw [hok, hnb, if_neg hlt]; rfl
    have hI : foundI s name = 0 := by unfold foundI; rw [hF]; rfl
    have HP := Lib.hid (FPost.ok (w := w) hF (.inr rfl) hI hown hb1)
    rw [hii] at hp
    have HPL := Lib.hid hp
    clear hF hI hown HR hp hii hrd hok hlt
    generalize (namesL s).length = N at *
    go_wp2_with fail
    refine (HN.out _).mono ?_
    rintro e w2 ⟨rfl, hw2⟩
    rw [← hw2]
    clear hw2 w2
    go_wp2_with fail
    refine HPL.out.mono ?_
    rintro e w2 ⟨rfl, hw2⟩
    rw [← hw2]
    clear hw2 w2
    go_wp2_with fail
    go_ret3
    exact HP.out

theorem rright_any (s : ByteArray) (hs : s.size ≤ 9223372036854775807) (w : World) : Calls Try.prog 24 #[.string s] w fun e w' => e = .returned (.bool (rdOk s)) ∧ Below w.heap.size w w' := by
  have HR := Lib.hid (fun W => rread_any s hs W)
  go_enter Try.func24, Try.ntmps24
  go_wp2_with fail
  refine (HR.out _).mono ?_
  rintro e w1 ⟨v, rfl, _, hb1⟩
  go_wp2_with fail
  go_ret
  exact ⟨rfl, hb1⟩

theorem names_get {s : ByteArray} {q : Nat} {x : De} (h : (readL s)[q]? = some x) : (namesL s)[q]? = some (toNm x) := by
  unfold namesL
  rw [List.getElem?_map, h]
  rfl

theorem rfind_any (s name : ByteArray) (hs : s.size ≤ 9223372036854775807) (hn : name.size ≤ 9223372036854775807) (w : World) : Calls Try.prog 12 #[.string s, .string name] w fun e w' =>
    e = .returned (.tuple #[.int .u32 (findD s name).ino, .int .i64 (findE s name)]) ∧ Below w.heap.size w w' := by
  have HR := Lib.hid (fun W => found_any s name hs hn W)
  by_cases h0 : findE s name = 0
  case neg =>
    have hd : (findD s name).ino = 0 := by unfold findD; rw [if_neg h0]; rfl
    rw [hd]
    have hen1 : (findE s name == 0) = false := by simpa using h0
    clear h0 hd
    go_enter Try.func12, Try.ntmps12
    go_wp2_with fail
    refine (HR.out _).mono ?_
    rintro e w1 ⟨v, rfl, hown, hb1⟩
    clear hown HR
    go_wp2_with fail
    go_ret2
    exact ⟨rfl, hb1⟩
  obtain ⟨q, hq, hqi, hx⟩ := findD_mem h0
  have hxn := names_get hx
  have hI : foundI s name = q := by unfold foundI; rw [if_pos h0, hqi]
  have hL : foundL s name = namesL s := by unfold foundL; rw [if_pos (.inl h0)]
  rw [← namesL_length] at hq
  have hll := namesL_le s
  unfold FPost at HR
  rw [hI, hL, h0] at HR
  rw [h0]
  clear h0 hqi hx hI hL
  generalize findD s name = x at *
  generalize namesL s = l at *
  have hqi : (q : Int) < (l.length : Int) := by omega
  go_enter Try.func12, Try.ntmps12
  go_wp2_with fail
  refine (HR.out _).mono ?_
  rintro e w1 ⟨v, rfl, hown, hb1⟩
  obtain ⟨A, c, rfl, hc, hrd⟩ := Rd.of_own2 hown
  obtain ⟨ad, rfl, hadb, e0, e1⟩ := nm_cells hrd q _ hxn hq
  have e1' : w1.cell? ⟨(ad.add (q * 2)).block, (ad.add (q * 2)).off + 1, none⟩ = some (.int .u32 x.ino) := e1
  clear hown HR e1 hrd hxn
  go_wp2_with fail
  go_ret2
  exact ⟨rfl, hb1⟩
end Go.Proofs.Ytliioeihbbhiiaa

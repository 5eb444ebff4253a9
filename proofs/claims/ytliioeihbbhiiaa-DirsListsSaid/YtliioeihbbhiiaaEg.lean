/- Directories: Find, Right, Add, Drop, Set: contracts over the given program. -/
import Derived.Test.YtliioeihbbhiiaaEf
namespace Go.Proofs.Ytliioeihbbhiiaa
open Go.RowKit Go.Nau Go.Shelf
attribute [local go_sem] Oper.semAt_some

theorem seqD_mem {s : ByteArray} : ∀ (f p : Nat) (x : De × Bool), x ∈ seqD s f p → x.2 = true → deOk s x.1.fr = true ∧ x.1 = deAt s x.1.fr
  | 0, p, x, h, _ => by simp [seqD] at h
  | f + 1, p, x, h, hx => by
    unfold seqD at h
    split at h
    · split at h
      · rename_i hk
        rcases List.mem_cons.1 h with rfl | h
        · exact ⟨hk, rfl⟩
        · exact seqD_mem f _ x h hx
      · rw [List.mem_singleton] at h
        subst h
        cases hx
    · simp at h
/-- What an entry that was read is. -/
structure De.wf (s : ByteArray) (x : De) : Prop where
  ok : deOk s x.fr = true
  at' : x = deAt s x.fr
  nm : nameB x.name = true
  lt : x.fr + 6 ≤ x.en
  en : x.en ≤ s.size
  ino : 0 < x.ino
  u32 : x.ino < 4294967296
theorem mem_readL {s : ByteArray} {x : De} (h : x ∈ readL s) : x.wf s := by
  unfold readL at h
  split at h
  · rename_i hok
    obtain ⟨y, hy, rfl⟩ := List.mem_map.1 h
    unfold rdOk at hok
    simp only [Bool.and_eq_true, List.all_eq_true] at hok
    obtain ⟨h1, h2⟩ := seqD_mem _ _ y hy (hok.2.1 y hy)
    obtain ⟨h3, h4⟩ := deOk_en h1
    have h5 := h1
    unfold deOk at h5
    simp only [Bool.and_eq_true, decide_eq_true_eq] at h5
    have h6 := takeN_lt' s y.1.fr 4
    refine ⟨h1, h2, ?_, ?_, ?_, ?_, ?_⟩
    · rw [h2]; exact h5.2.2.2
    · rw [h2]; exact h3
    · rw [h2]; exact h4
    · rw [h2]; exact h5.2.2.1
    · rw [h2]; exact h6
  · simp at h

theorem findE_cases (s name : ByteArray) : findE s name = 0 ∨ findE s name = 110 ∨ findE s name = 111 ∨ findE s name = 112 := by
  unfold findE
  split
  · split
    · split <;> simp
    · simp
  · simp
theorem findE_size {s name : ByteArray} (h : findE s name ≠ 110) : s.size ≤ 20000 := by
  unfold findE at h
  split at h
  · rename_i hok
    unfold rdOk at hok
    simp only [Bool.and_eq_true, decide_eq_true_eq] at hok
    exact hok.1
  · exact absurd rfl h
theorem findE_name {s name : ByteArray} (h : findE s name = 0 ∨ findE s name = 112) : nameB name = true := by
  unfold findE at h
  split at h
  · split at h
    · assumption
    · simp at h
  · simp at h
theorem findD_mem {s name : ByteArray} (h : findE s name = 0) : ∃ q, q < (readL s).length ∧ idxN (namesL s) name = q ∧ (readL s)[q]? = some (findD s name) := by
  have hD : findD s name = (readL s)[idxN (namesL s) name]! := by unfold findD; rw [if_pos h]
  unfold findE at h
  split at h
  · split at h
    · split at h
      · rename_i hlt
        rw [namesL_length] at hlt
        refine ⟨_, hlt, rfl, ?_⟩
        rw [hD, List.getElem!_eq_getElem?_getD, List.getElem?_eq_getElem hlt]
        rfl
      · simp at h
    · simp at h
  · simp at h
theorem findD_wf {s name : ByteArray} (h : findE s name = 0) : (findD s name).wf s := by
  obtain ⟨q, _, _, hx⟩ := findD_mem h
  exact mem_readL (List.mem_of_getElem? hx)

theorem right_any (s : ByteArray) (hs : s.size ≤ 9223372036854775807) (w : World) : Calls Try.prog 19 #[.string s] w fun e w' => e = .returned (.bool (rdOk s)) ∧ Below w.heap.size w w' := by
  have HR := Lib.hid (fun W => read_any s hs W)
  have hE : (readE s == 0) = rdOk s := by unfold readE; cases rdOk s <;> rfl
  have HE := Lib.hid hE
  clear hE
  go_enter Try.func19, Try.ntmps19
  go_wp2_with fail
  refine (HR.out _).mono ?_
  rintro e w1 ⟨A, c, rfl, _, _, hb1⟩
  go_wp2_with fail
  go_ret
  exact ⟨by rw [← HE.out]; rfl, hb1⟩

theorem dfind_any (s name : ByteArray) (hs : s.size ≤ 9223372036854775807) (w : World) : Calls Try.prog 11 #[.string s, .string name] w fun e w' => e = .returned (.tuple #[.int .u32 (findD s name).ino, .int .i64 (findE s name)]) ∧ Below w.heap.size w w' := by
  have HR := Lib.hid (fun W => find_any s name hs W)
  unfold deV at HR
  generalize findD s name = x at *
  generalize findE s name = en at *
  go_enter Try.func11, Try.ntmps11
  go_wp2_with fail
  refine (HR.out _).mono ?_
  rintro e w1 ⟨rfl, hb1⟩
  go_wp2_with fail
  go_ret2
  exact ⟨rfl, hb1.alloc hb1.size _⟩

def addE (s name : ByteArray) (ino : Nat) : Int := if findE s name = 0 then 113 else if findE s name ≠ 112 then findE s name else if ino = 0 then 110 else if 20000 < s.size + (6 + name.size) then 114 else 0
def addS (s name : ByteArray) (ino : Nat) : ByteArray := if addE s name ino = 0 then s ++ strL (oneL ⟨name, ino⟩) else ⟨#[]⟩

set_option maxHeartbeats 1000000 in
theorem add_any (s name : ByteArray) (ino : Nat) (hs : s.size ≤ 9223372036854775807) (hi : ino < 4294967296) (w : World) : Calls Try.prog 13 #[.string s, .string name, .int .u32 ino] w fun e w' =>
    e = .returned (.tuple #[.string (addS s name ino), .int .i64 (addE s name ino)]) ∧ Below w.heap.size w w' := by
  have HR := Lib.hid (fun W => find_any s name hs W)
  unfold deV at HR
  generalize findD s name = x at HR
  have hc := findE_cases s name
  have hsz := fun h => @findE_size s name h
  have hnm := fun h => nameB_le (@findE_name s name h)
  have ha : addE s name ino = if findE s name = 0 then 113 else if findE s name ≠ 112 then findE s name else if ino = 0 then 110 else if 20000 < s.size + (6 + name.size) then 114 else 0 := rfl
  have hb : addS s name ino = if addE s name ino = 0 then s ++ strL (oneL ⟨name, ino⟩) else ⟨#[]⟩ := rfl
  have bad : ∀ en : Int, addE s name ino = en → en ≠ 0 → addS s name ino = ⟨#[]⟩ := fun en h1 h2 => by rw [hb, h1, if_neg h2]
  by_cases h0 : findE s name = 0
  · rw [h0] at HR
    have h1 : addE s name ino = 113 := by rw [ha, if_pos h0]
    rw [bad _ h1 (by decide), h1]
    clear hc hsz hnm ha hb bad h0 h1
    go_enter Try.func13, Try.ntmps13
    go_wp2_with fail
    refine (HR.out _).mono ?_
    rintro e w1 ⟨rfl, hb1⟩
    go_wp2_with fail
    go_ret2
    exact ⟨rfl, hb1.alloc hb1.size _⟩
  by_cases h2 : findE s name = 112
  case neg =>
    have h1 : addE s name ino = findE s name := by rw [ha, if_neg h0, if_pos h2]
    rw [bad _ h1 h0, h1]
    have hen1 : (findE s name == 0) = false := by simpa using h0
    have hen2 : (findE s name == 112) = false := by simpa using h2
    clear hc hsz hnm ha hb bad h0 h1 h2
    generalize findE s name = en at *
    go_enter Try.func13, Try.ntmps13
    go_wp2_with fail
    refine (HR.out _).mono ?_
    rintro e w1 ⟨rfl, hb1⟩
    go_wp2_with fail
    go_ret2
    exact ⟨rfl, hb1.alloc hb1.size _⟩
  have hsz' := hsz (by rw [h2]; decide)
  have hnm' := hnm (.inr h2)
  rw [if_neg h0, if_neg (by rw [h2]; decide)] at ha
  rw [h2] at HR
  clear hc hsz hnm h0 h2
  by_cases hi0 : ino = 0
  · rw [if_pos hi0] at ha
    rw [bad _ ha (by decide), ha]
    subst hi0
    clear hb bad ha
    go_enter Try.func13, Try.ntmps13
    go_wp2_with fail
    refine (HR.out _).mono ?_
    rintro e w1 ⟨rfl, hb1⟩
    go_wp2_with fail
    go_ret2
    exact ⟨rfl, hb1.alloc hb1.size _⟩
  rw [if_neg hi0] at ha
  have hii : ((ino : Int) == 0) = false := by simpa using hi0
  have HO := Lib.hid (fun W => one_any ⟨name, ino⟩ (by show name.size ≤ 65535; omega) hi W)
  have hos : (strL (oneL ⟨name, ino⟩)).size = 6 + name.size := by rw [strL_size, oneL_length]
  by_cases hbig : 20000 < s.size + (6 + name.size)
  · rw [if_pos hbig] at ha
    rw [bad _ ha (by decide), ha]
    clear hb bad ha
    have hbi : (20000 : Int) < (s.size : Int) + ((6 : Int) + (name.size : Int)) := by omega
    have hz : ¬ 9223372036854775807 < s.size + (6 + name.size) := by omega
    clear hbig hi0
    generalize strL (oneL ⟨name, ino⟩) = o at *
    go_enter Try.func13, Try.ntmps13
    go_wp2_with fail
    refine (HR.out _).mono ?_
    rintro e w1 ⟨rfl, hb1⟩
    go_wp2_with fail
    refine (HO.out _).mono ?_
    rintro e w2 ⟨rfl, hb2⟩
    have hb3 := (hb1.alloc hb1.size (.cells #[.string x.name, .int .u32 x.ino, .int .i64 x.fr, .int .i64 x.en] 43)).trans (hb2.mono (by have := hb1.size; simp; omega))
    clear hb1 hb2
    go_wp2_with fail
    go_ret2
    exact ⟨rfl, hb3⟩
  · rw [if_neg hbig] at ha
    rw [ha, if_pos rfl] at hb
    rw [hb, ha]
    clear hb bad ha
    have hbi : (s.size : Int) + ((6 : Int) + (name.size : Int)) ≤ 20000 := by omega
    have hz : ¬ 9223372036854775807 < s.size + (6 + name.size) := by omega
    clear hbig hi0
    generalize strL (oneL ⟨name, ino⟩) = o at *
    go_enter Try.func13, Try.ntmps13
    go_wp2_with fail
    refine (HR.out _).mono ?_
    rintro e w1 ⟨rfl, hb1⟩
    go_wp2_with fail
    refine (HO.out _).mono ?_
    rintro e w2 ⟨rfl, hb2⟩
    have hb3 := (hb1.alloc hb1.size (.cells #[.string x.name, .int .u32 x.ino, .int .i64 x.fr, .int .i64 x.en] 43)).trans (hb2.mono (by have := hb1.size; simp; omega))
    clear hb1 hb2
    go_wp2_with fail
    go_ret2
    exact ⟨rfl, hb3⟩

def dropS (s name : ByteArray) : ByteArray := if findE s name = 0 then s.extract 0 (findD s name).fr ++ s.extract (findD s name).en s.size else ⟨#[]⟩

set_option maxHeartbeats 1000000 in
theorem drop_any (s name : ByteArray) (hs : s.size ≤ 9223372036854775807) (w : World) : Calls Try.prog 15 #[.string s, .string name] w fun e w' =>
    e = .returned (.tuple #[.string (dropS s name), .int .i64 (findE s name)]) ∧ Below w.heap.size w w' := by
  have HR := Lib.hid (fun W => find_any s name hs W)
  unfold deV at HR
  have hd : dropS s name = if findE s name = 0 then s.extract 0 (findD s name).fr ++ s.extract (findD s name).en s.size else ⟨#[]⟩ := rfl
  by_cases h0 : findE s name = 0
  case neg =>
    rw [if_neg h0] at hd
    rw [hd]
    have hen1 : (findE s name == 0) = false := by simpa using h0
    clear hd h0
    generalize findD s name = x at *
    generalize findE s name = en at *
    go_enter Try.func15, Try.ntmps15
    go_wp2_with fail
    refine (HR.out _).mono ?_
    rintro e w1 ⟨rfl, hb1⟩
    go_wp2_with fail
    go_ret2
    exact ⟨rfl, hb1.alloc hb1.size _⟩
  have hwf := findD_wf h0
  have hsz := findE_size (name := name) (s := s) (by rw [h0]; decide)
  rw [if_pos h0] at hd
  rw [hd, h0]
  rw [h0] at HR
  have w1 := hwf.lt
  have w2 := hwf.en
  clear hd h0 hwf
  generalize findD s name = x at *
  have i1 : (x.fr : Int) ≤ (s.size : Int) := by omega
  have i2 : (x.en : Int) ≤ (s.size : Int) := by omega
  have z1 : x.fr ≤ s.size := by omega
  have n1 : ¬ 9223372036854775807 < (s.extract 0 x.fr).size + (s.extract x.en s.size).size := by
    rw [ByteArray.size_extract, ByteArray.size_extract]
    omega
  clear w1
  go_enter Try.func15, Try.ntmps15
  go_wp2_with fail
  refine (HR.out _).mono ?_
  rintro e w1 ⟨rfl, hb1⟩
  go_wp2_with fail
  have hcx := heap_alloc_new w1 (.cells #[.string x.name, .int .u32 x.ino, .int .i64 x.fr, .int .i64 x.en] 43)
  have hb2 := hb1.alloc hb1.size (.cells #[.string x.name, .int .u32 x.ino, .int .i64 x.fr, .int .i64 x.en] 43)
  have p2 : (w1.alloc (.cells #[.string x.name, .int .u32 x.ino, .int .i64 x.fr, .int .i64 x.en] 43)).cell? ⟨w1.heap.size, 2, none⟩ = some (.int .i64 x.fr) := blk_cell hcx 2
  have p3 : (w1.alloc (.cells #[.string x.name, .int .u32 x.ino, .int .i64 x.fr, .int .i64 x.en] 43)).cell? ⟨w1.heap.size, 3, none⟩ = some (.int .i64 x.en) := blk_cell hcx 3
  generalize w1.alloc (.cells #[.string x.name, .int .u32 x.ino, .int .i64 x.fr, .int .i64 x.en] 43) = W at *
  have c2 : ∀ d os, (Go.Sort.grow (redrawn W d) os).cell? ⟨w1.heap.size, 2, none⟩ = some (.int .i64 x.fr) := fun d os => cell_regrown p2 d os
  have c3 : ∀ d os, (Go.Sort.grow (redrawn W d) os).cell? ⟨w1.heap.size, 3, none⟩ = some (.int .i64 x.en) := fun d os => cell_regrown p3 d os
  clear hcx HR p2 p3
  refine wp_region_quiet_below (by kernel_rfl) (by kernel_rfl) ?_
  repeat (go_big_quiet_step (fail))
  refine wpQuiet_nil ?_
  intro _ hw'
  obtain ⟨⟨dq, osq⟩, hw''⟩ := hw'
  subst hw''
  have hb3 : Below w.heap.size w (Go.Sort.grow (redrawn W dq) osq) := hb2.trans ((below_regrown W dq osq).mono hb2.size)
  clear c2 c3
  go_wp2_with fail
  go_ret2
  exact ⟨rfl, hb3⟩

def setE (s name : ByteArray) (ino : Nat) : Int := if findE s name = 0 then (if ino = 0 then 110 else 0) else findE s name
def setS (s name : ByteArray) (ino : Nat) : ByteArray := if setE s name ino = 0 then s.extract 0 (findD s name).fr ++ strL (oneL ⟨name, ino⟩) ++ s.extract (findD s name).en s.size else ⟨#[]⟩

set_option maxHeartbeats 2000000 in
theorem set_any (s name : ByteArray) (ino : Nat) (hs : s.size ≤ 9223372036854775807) (hi : ino < 4294967296) (w : World) : Calls Try.prog 17 #[.string s, .string name, .int .u32 ino] w fun e w' =>
    e = .returned (.tuple #[.string (setS s name ino), .int .i64 (setE s name ino)]) ∧ Below w.heap.size w w' := by
  have HR := Lib.hid (fun W => find_any s name hs W)
  unfold deV at HR
  have ha : setE s name ino = if findE s name = 0 then (if ino = 0 then 110 else 0) else findE s name := rfl
  have hd : setS s name ino = if setE s name ino = 0 then s.extract 0 (findD s name).fr ++ strL (oneL ⟨name, ino⟩) ++ s.extract (findD s name).en s.size else ⟨#[]⟩ := rfl
  by_cases h0 : findE s name = 0
  case neg =>
    rw [if_neg h0] at ha
    rw [ha, if_neg h0] at hd
    rw [hd, ha]
    have hen1 : (findE s name == 0) = false := by simpa using h0
    clear hd h0 ha
    generalize findD s name = x at *
    generalize findE s name = en at *
    go_enter Try.func17, Try.ntmps17
    go_wp2_with fail
    refine (HR.out _).mono ?_
    rintro e w1 ⟨rfl, hb1⟩
    go_wp2_with fail
    go_ret2
    exact ⟨rfl, hb1.alloc hb1.size _⟩
  rw [if_pos h0] at ha
  by_cases hi0 : ino = 0
  · rw [if_pos hi0] at ha
    rw [ha] at hd
    rw [hd, ha]
    rw [h0] at HR
    subst hi0
    clear hd h0 ha
    generalize findD s name = x at *
    go_enter Try.func17, Try.ntmps17
    go_wp2_with fail
    refine (HR.out _).mono ?_
    rintro e w1 ⟨rfl, hb1⟩
    go_wp2_with fail
    go_ret2
    exact ⟨rfl, hb1.alloc hb1.size _⟩
  rw [if_neg hi0] at ha
  have hii : ((ino : Int) == 0) = false := by simpa using hi0
  have hwf := findD_wf h0
  have hsz := findE_size (name := name) (s := s) (by rw [h0]; decide)
  have hnm := nameB_le (findE_name (s := s) (.inl h0))
  rw [ha, if_pos rfl] at hd
  rw [hd, ha]
  rw [h0] at HR
  have w1 := hwf.lt
  have w2 := hwf.en
  have ho := fun W => one_any ⟨name, ino⟩ (by show name.size ≤ 65535; omega) hi W
  have hos : (strL (oneL ⟨name, ino⟩)).size = 6 + name.size := by rw [strL_size, oneL_length]
  clear hd h0 hwf ha hi0
  generalize strL (oneL ⟨name, ino⟩) = o at *
  generalize findD s name = x at *
  have i1 : (x.fr : Int) ≤ (s.size : Int) := by omega
  have i2 : (x.en : Int) ≤ (s.size : Int) := by omega
  have z1 : x.fr ≤ s.size := by omega
  have n0 : ¬ 9223372036854775807 < (s.extract 0 x.fr).size + o.size := by
    rw [ByteArray.size_extract]
    omega
  have n1 : ¬ 9223372036854775807 < (s.extract 0 x.fr).size + o.size + (s.extract x.en s.size).size := by
    rw [ByteArray.size_extract, ByteArray.size_extract]
    omega
  have n2 : ¬ 9223372036854775807 < x.fr + o.size := by omega
  have n3 : ¬ 9223372036854775807 < x.fr + o.size + (s.size - x.en) := by omega
  clear w1 hos
  go_enter Try.func17, Try.ntmps17
  go_wp2_with fail
  refine (HR.out _).mono ?_
  rintro e w1 ⟨rfl, hb1⟩
  go_wp2_with fail
  have hcx := heap_alloc_new w1 (.cells #[.string x.name, .int .u32 x.ino, .int .i64 x.fr, .int .i64 x.en] 43)
  have hb2 := hb1.alloc hb1.size (.cells #[.string x.name, .int .u32 x.ino, .int .i64 x.fr, .int .i64 x.en] 43)
  have p2 : (w1.alloc (.cells #[.string x.name, .int .u32 x.ino, .int .i64 x.fr, .int .i64 x.en] 43)).cell? ⟨w1.heap.size, 2, none⟩ = some (.int .i64 x.fr) := blk_cell hcx 2
  have p3 : (w1.alloc (.cells #[.string x.name, .int .u32 x.ino, .int .i64 x.fr, .int .i64 x.en] 43)).cell? ⟨w1.heap.size, 3, none⟩ = some (.int .i64 x.en) := blk_cell hcx 3
  generalize w1.alloc (.cells #[.string x.name, .int .u32 x.ino, .int .i64 x.fr, .int .i64 x.en] 43) = W at *
  have c2 : ∀ d os, (Go.Sort.grow (redrawn W d) os).cell? ⟨w1.heap.size, 2, none⟩ = some (.int .i64 x.fr) := fun d os => cell_regrown p2 d os
  have c3 : ∀ d os, (Go.Sort.grow (redrawn W d) os).cell? ⟨w1.heap.size, 3, none⟩ = some (.int .i64 x.en) := fun d os => cell_regrown p3 d os
  have hcb : ∀ (d : Nat) (os : Array Obj), Calls Try.prog 28 #[.string name, .int .u32 ino] (Go.Sort.grow (redrawn W d) os) fun e w'' => e = .returned (.string o) ∧ ∃ p : Regrown, w'' = Go.Sort.grow (redrawn W p.d) p.os := fun d os => Calls.regrown_of (ho _)
  have HCB := Lib.hid hcb
  clear hcx HR p2 p3 hcb ho
  refine wp_region_quiet_below (by kernel_rfl) (by kernel_rfl) ?_
  repeat (go_big_quiet_step (exact HCB.out _ _))
  refine wpQuiet_nil ?_
  intro _ hw'
  obtain ⟨⟨dq, osq⟩, hw''⟩ := hw'
  subst hw''
  have hb3 : Below w.heap.size w (Go.Sort.grow (redrawn W dq) osq) := hb2.trans ((below_regrown W dq osq).mono hb2.size)
  clear c2 c3
  go_wp2_with fail
  go_ret2
  exact ⟨rfl, hb3⟩
end Go.Proofs.Ytliioeihbbhiiaa

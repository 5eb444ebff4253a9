/- A set of texts that a call keeps as a map of booleans: looked up, stored into. Of no program. -/
import Derived.Maps.OwnIn
import Derived.Maps.Views
import Derived.Test.YtliioeihbbhiiaaF
namespace Go.Nau
open Go.RowKit
open Go.Maps (Keyed)

/-- Is a text among others? -/
def memB (s : ByteArray) (L : List ByteArray) : Bool := L.any fun x => decide (x = s)
theorem memB_iff {s : ByteArray} {L : List ByteArray} : memB s L = true ↔ s ∈ L := by
  simp [memB]

/-- Block b is a map of at most n entries, keyed by texts: it holds true at those of L. -/
def MSet (P : Program) (k e : TypeId) (w : World) (b n : Nat) (L : List ByteArray) : Prop :=
  ∃ D : DataW Unit, w.ownsMap P k (plainElem P e) b n D ∧ ∀ s : ByteArray, D.atKey (.string s.data.toList) (.lit (.bool false)) = .lit (.bool (memB s L))

section
variable {P : Program} {k e t : TypeId} {w w' : World} {b n : Nat} {L : List ByteArray}
theorem MSet.made (w : World) : MSet P k e (w.alloc (.map #[] 0)) w.heap.size 0 [] :=
  ⟨.map [], World.ownsMap_made w P k _, fun s => rfl⟩
theorem MSet.kept {row : Option Nat} (h : MSet P k e w b n L) (hg : w.grownBy w' row) (hne : some b ≠ row) : MSet P k e w' b n L := by
  obtain ⟨D, h1, h2⟩ := h
  exact ⟨D, h1.kept hg hne, h2⟩
theorem MSet.fr {S : Nat → Prop} (h : MSet P k e w b n L) (hf : Fr S w w') (hS : ¬ S b) : MSet P k e w' b n L := by
  obtain ⟨D, ⟨es, clock, hb, r⟩, h2⟩ := h
  exact ⟨D, ⟨es, clock, hf.get hS hb, r⟩, h2⟩
theorem MSet.isMapBlock (h : MSet P k e w b n L) : ∃ es clock, w.heap[b]? = some (.map es clock) := by
  obtain ⟨D, ⟨es, clock, hb, r⟩, h2⟩ := h
  exact ⟨es, clock, hb⟩
theorem MSet.lt (h : MSet P k e w b n L) : b < w.heap.size := by
  obtain ⟨es, clock, hb⟩ := h.isMapBlock
  exact (Array.getElem?_eq_some_iff.1 hb).1
theorem MSet.lookup (h : MSet P k e w b n L) (hk : P.underlying k = some .string) (he : P.underlying e = some .bool) (ht : P.underlying t = some (.map k e)) (hz : (zeroValue e).run P w = .ok (.bool false) w) (s : ByteArray) (hs : s.size ≤ maxLen) :
    (Instr.lookup t (.map (some b)) (.string s) false).run P w = .ok (.bool (memB s L)) w := by
  obtain ⟨D, h1, h2⟩ := h
  obtain ⟨v, ps, hrun, hv⟩ := h1.lookup (Maps.string_keyed hk) ht hz (plainElem_bool he false) (WideMaps.keyOf_string_mk hk hs)
  rw [h2 s] at hv
  rw [hrun]
  have : v = .bool (memB s L) := by
    unfold plainElem at hv
    rw [he] at hv
    cases v <;> simp at hv
    rw [hv.1]
  rw [this]
theorem MSet.update (h : MSet P k e w b n L) (hk : P.underlying k = some .string) (he : P.underlying e = some .bool) (ht : P.underlying t = some (.map k e)) (hn : n < maxLen) (s : ByteArray) (hs : s.size ≤ maxLen) :
    ∃ w', (Instr.mapUpdate t (.map (some b)) (.string s) (.bool true)).run P w = .ok () w' ∧ MSet P k e w' b (n + 1) (s :: L) ∧ w.grownBy w' (some b) := by
  obtain ⟨D, h1, h2⟩ := h
  have hm := h1.isMap
  obtain ⟨w', hrun, h3, h4⟩ := h1.update (Maps.string_keyed hk) ht hn (WideMaps.keyOf_string_mk hk hs) (plainElem_bool he true)
  refine ⟨w', hrun, ⟨_, h3, fun s' => ?_⟩, h4⟩
  by_cases e1 : s' = s
  · subst e1
    rw [Maps.atKey_put_same hm (by simp [WideAt.IsKeyLit]), memB_iff.2 (by simp)]
  · have hne : (Lit.string s'.data.toList) ≠ Lit.string s.data.toList := by
      intro e2
      injection e2 with e2
      exact e1 (ByteArray.ext (Array.toList_inj.mp e2))
    rw [Maps.atKey_put_other hne, h2 s']
    have : memB s' L = memB s' (s :: L) := by
      rw [Bool.eq_iff_iff, memB_iff, memB_iff, List.mem_cons]
      simp [e1]
    rw [this]
end
end Go.Nau

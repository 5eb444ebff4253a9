/-
  No cell of these rows narrows 'for every input' (looked for: loops, veiled, ifaces, maps, wideKeys, modest, calm, conditions, laid).
  DERIVED. THE GIVEN ROWS OF THIS SEAT. 6 by the template 'for every input the law returns true; each argument reads behind the call as it read before'; 0 by the template 'total and deterministic' (their statements: YtliioeihbbhiiaaTotals.lean).
  GIVEN WITH THE SEED: the statements are not yours to turn. If you find one false, say at which input.
  Laid BY PROGRAM, IN A SANDBOX (cutbox-rows.mjs): the forced cells as the released guide's own fill.sh prints them over the translation c85d928bdc71be28… (all of the seat's roots in one cut). By AI agents, Wed Nov 11 2026. No macro, syntax, notation, axiom, sorry.
-/
import Derived.Test.YtliioeihbbhiiaaChecked
import GoSem.Claim
import GoSem.ClaimJoined
import GoSem.ClaimMapViews
import Derived.JoinedTies
import Derived.KernelRfl
namespace Go.Proofs.Ytliioeihbbhiiaa
/- THE CELL 'sum', in the pinned program and in every row, IS THE sha256 OF THE DUMP (.gsa) THAT YtliioeihbbhiiaaProg.lean LOADS. Nothing in Lean hashes anything: it is a label: what it is worth is what the hold of that sum in a sandbox is worth. -/
noncomputable def Try.pinned : Pinned := { name := "ytliioeihbbhiiaa", sum := "c85d928bdc71be281fe333997c1566d7e17f19fd25c20930e174e467a9ea2865", checked := Try.checked }
namespace Rows
def none {H : Type} : Left H := { results := [], args := [] }

/-- 'nautiluslaw11.DirsChanges': WHATEVER THE INPUT: true; the input reads as it did. -/
def dirsChangesSpec : ChangeSpec := { name := "dirsChanges", fn := fun _ => fun
  | [d1, d2, d3] => { results := [.lit (.bool true)], args := [d1, d2, d3] }
  | _ => none }
def dirsChangesRow : OpenClaim := { program := "ytliioeihbbhiiaa", sum := "c85d928bdc71be281fe333997c1566d7e17f19fd25c20930e174e467a9ea2865", func := "nautilus/nautiluslaw11.DirsChanges", spec := "dirsChanges", inPlace := ["internal/bytealg.IndexByteString", "internal/abi.NoEscape"], unfollowed := true, recurses := true, apart := false }
def DirsChangesSaid : Prop := dirsChangesRow.holds Try.pinned (OpenSpec.ofChange dirsChangesSpec)

/-- ITS FALSE NEIGHBOUR: 'it returns false'. Refute it at one input. -/
def dirsChangesWrong : ChangeSpec := { name := "dirsChanges", fn := fun _ => fun
  | [d1, d2, d3] => { results := [.lit (.bool false)], args := [d1, d2, d3] }
  | _ => none }
def DirsChangesWrongFalsely : Prop := dirsChangesRow.holds Try.pinned (OpenSpec.ofChange dirsChangesWrong)

/-- 'nautiluslaw11.DirsKeeps': WHATEVER THE INPUT: true; the input reads as it did. -/
def dirsKeepsSpec : ChangeSpec := { name := "dirsKeeps", fn := fun _ => fun
  | [d1, d2, d3, d4] => { results := [.lit (.bool true)], args := [d1, d2, d3, d4] }
  | _ => none }
def dirsKeepsRow : OpenClaim := { program := "ytliioeihbbhiiaa", sum := "c85d928bdc71be281fe333997c1566d7e17f19fd25c20930e174e467a9ea2865", func := "nautilus/nautiluslaw11.DirsKeeps", spec := "dirsKeeps", inPlace := ["internal/bytealg.IndexByteString", "internal/abi.NoEscape"], unfollowed := true, recurses := true, apart := false }
def DirsKeepsSaid : Prop := dirsKeepsRow.holds Try.pinned (OpenSpec.ofChange dirsKeepsSpec)

/-- ITS FALSE NEIGHBOUR: 'it returns false'. Refute it at one input. -/
def dirsKeepsWrong : ChangeSpec := { name := "dirsKeeps", fn := fun _ => fun
  | [d1, d2, d3, d4] => { results := [.lit (.bool false)], args := [d1, d2, d3, d4] }
  | _ => none }
def DirsKeepsWrongFalsely : Prop := dirsKeepsRow.holds Try.pinned (OpenSpec.ofChange dirsKeepsWrong)

/-- 'nautiluslaw11.DirsNames': WHATEVER THE INPUT: true; the input reads as it did. -/
def dirsNamesSpec : ChangeSpec := { name := "dirsNames", fn := fun _ => fun
  | [d1, d2] => { results := [.lit (.bool true)], args := [d1, d2] }
  | _ => none }
def dirsNamesRow : OpenClaim := { program := "ytliioeihbbhiiaa", sum := "c85d928bdc71be281fe333997c1566d7e17f19fd25c20930e174e467a9ea2865", func := "nautilus/nautiluslaw11.DirsNames", spec := "dirsNames", inPlace := ["internal/bytealg.IndexByteString", "internal/abi.NoEscape"], unfollowed := true, recurses := true, apart := false }
def DirsNamesSaid : Prop := dirsNamesRow.holds Try.pinned (OpenSpec.ofChange dirsNamesSpec)

/-- ITS FALSE NEIGHBOUR: 'it returns false'. Refute it at one input. -/
def dirsNamesWrong : ChangeSpec := { name := "dirsNames", fn := fun _ => fun
  | [d1, d2] => { results := [.lit (.bool false)], args := [d1, d2] }
  | _ => none }
def DirsNamesWrongFalsely : Prop := dirsNamesRow.holds Try.pinned (OpenSpec.ofChange dirsNamesWrong)

/-- 'nautiluslaw11.DirsLists': WHATEVER THE INPUT: true; the input reads as it did. -/
def dirsListsSpec : ChangeSpec := { name := "dirsLists", fn := fun _ => fun
  | [d] => { results := [.lit (.bool true)], args := [d] }
  | _ => none }
def dirsListsRow : OpenClaim := { program := "ytliioeihbbhiiaa", sum := "c85d928bdc71be281fe333997c1566d7e17f19fd25c20930e174e467a9ea2865", func := "nautilus/nautiluslaw11.DirsLists", spec := "dirsLists", inPlace := ["internal/bytealg.IndexByteString", "internal/abi.NoEscape"], unfollowed := true, recurses := true, apart := false }
def DirsListsSaid : Prop := dirsListsRow.holds Try.pinned (OpenSpec.ofChange dirsListsSpec)

/-- ITS FALSE NEIGHBOUR: 'it returns false'. Refute it at one input. -/
def dirsListsWrong : ChangeSpec := { name := "dirsLists", fn := fun _ => fun
  | [d] => { results := [.lit (.bool false)], args := [d] }
  | _ => none }
def DirsListsWrongFalsely : Prop := dirsListsRow.holds Try.pinned (OpenSpec.ofChange dirsListsWrong)

/-- 'nautiluslaw11.DirsEmpties': WHATEVER THE INPUT: true; the input reads as it did. -/
def dirsEmptiesSpec : ChangeSpec := { name := "dirsEmpties", fn := fun _ => fun
  | [d] => { results := [.lit (.bool true)], args := [d] }
  | _ => none }
def dirsEmptiesRow : OpenClaim := { program := "ytliioeihbbhiiaa", sum := "c85d928bdc71be281fe333997c1566d7e17f19fd25c20930e174e467a9ea2865", func := "nautilus/nautiluslaw11.DirsEmpties", spec := "dirsEmpties", inPlace := ["internal/bytealg.IndexByteString", "internal/abi.NoEscape"], unfollowed := true, recurses := true, apart := false }
def DirsEmptiesSaid : Prop := dirsEmptiesRow.holds Try.pinned (OpenSpec.ofChange dirsEmptiesSpec)

/-- ITS FALSE NEIGHBOUR: 'it returns false'. Refute it at one input. -/
def dirsEmptiesWrong : ChangeSpec := { name := "dirsEmpties", fn := fun _ => fun
  | [d] => { results := [.lit (.bool false)], args := [d] }
  | _ => none }
def DirsEmptiesWrongFalsely : Prop := dirsEmptiesRow.holds Try.pinned (OpenSpec.ofChange dirsEmptiesWrong)

/-- 'nautiluslaw11.DirsMoves': WHATEVER THE INPUT: true; the input reads as it did. -/
def dirsMovesSpec : ChangeSpec := { name := "dirsMoves", fn := fun _ => fun
  | [d1, d2, d3, d4, d5] => { results := [.lit (.bool true)], args := [d1, d2, d3, d4, d5] }
  | _ => none }
def dirsMovesRow : OpenClaim := { program := "ytliioeihbbhiiaa", sum := "c85d928bdc71be281fe333997c1566d7e17f19fd25c20930e174e467a9ea2865", func := "nautilus/nautiluslaw11.DirsMoves", spec := "dirsMoves", inPlace := ["internal/bytealg.IndexByteString", "internal/abi.NoEscape"], unfollowed := true, recurses := true, apart := false }
def DirsMovesSaid : Prop := dirsMovesRow.holds Try.pinned (OpenSpec.ofChange dirsMovesSpec)

/-- ITS FALSE NEIGHBOUR: 'it returns false'. Refute it at one input. -/
def dirsMovesWrong : ChangeSpec := { name := "dirsMoves", fn := fun _ => fun
  | [d1, d2, d3, d4, d5] => { results := [.lit (.bool false)], args := [d1, d2, d3, d4, d5] }
  | _ => none }
def DirsMovesWrongFalsely : Prop := dirsMovesRow.holds Try.pinned (OpenSpec.ofChange dirsMovesWrong)

/- THE SECOND FORM. 'bulk': how many values and letters a reading holds, each counted each time it is reached (what is shared counts as often as it is met; a slice's spare places count too). A statement '..UptoSaid' is the law's where the arguments, and the package variables that the reading takes, are together of bulk at most 1048576: NARROWER than '..Said'. Prove '..Said' where nothing that the law and all that it calls make is longer than what came in: it says more and counts as full. Else prove '..UptoSaid'. A law counts once. -/
mutual
def uptoBulk {H : Type} : DataW H → Nat
  | .lit (.string bytes) => bytes.length + 1
  | .lit _ => 1
  | .nil => 1
  | .ptr d => uptoBulk d + 1
  | .slice elems spare => uptoBulkAll elems + uptoBulkAll spare + 1
  | .agg parts => uptoBulkAll parts + 1
  | .iface _ d => uptoBulk d + 1
  | .map entries => uptoBulkEntries entries + 1
  | .held _ => 1
def uptoBulkAll {H : Type} : List (DataW H) → Nat
  | [] => 0
  | d :: r => uptoBulk d + uptoBulkAll r
def uptoBulkEntries {H : Type} : List (Lit × DataW H) → Nat
  | [] => 0
  | x :: r => uptoBulkEntry x + uptoBulkEntries r
def uptoBulkEntry {H : Type} : Lit × DataW H → Nat
  | (.string bytes, d) => bytes.length + uptoBulk d + 1
  | (_, d) => uptoBulk d + 1
 end
def uptoSmall : (H : Type) → List (DataW H) → Bool := fun _ ds => decide (uptoBulkAll ds ≤ 1048576)
def OpenSpec.upto (s : _root_.Go.ChangeSpec) : _root_.Go.OpenSpec := { _root_.Go.OpenSpec.ofChange s with cond := some uptoSmall }

/-- 'nautiluslaw11.DirsChanges', WHERE WHAT IT READS IS OF BULK AT MOST 1048576: true; the input reads as it did. -/
def dirsChangesUptoRow : OpenClaim := { program := "ytliioeihbbhiiaa", sum := "c85d928bdc71be281fe333997c1566d7e17f19fd25c20930e174e467a9ea2865", func := "nautilus/nautiluslaw11.DirsChanges", spec := "dirsChanges", inPlace := ["internal/bytealg.IndexByteString", "internal/abi.NoEscape"], unfollowed := true, recurses := true, apart := false, narrowed := true }
def DirsChangesUptoSaid : Prop := dirsChangesUptoRow.holds Try.pinned (OpenSpec.upto dirsChangesSpec)

/-- 'nautiluslaw11.DirsKeeps', WHERE WHAT IT READS IS OF BULK AT MOST 1048576: true; the input reads as it did. -/
def dirsKeepsUptoRow : OpenClaim := { program := "ytliioeihbbhiiaa", sum := "c85d928bdc71be281fe333997c1566d7e17f19fd25c20930e174e467a9ea2865", func := "nautilus/nautiluslaw11.DirsKeeps", spec := "dirsKeeps", inPlace := ["internal/bytealg.IndexByteString", "internal/abi.NoEscape"], unfollowed := true, recurses := true, apart := false, narrowed := true }
def DirsKeepsUptoSaid : Prop := dirsKeepsUptoRow.holds Try.pinned (OpenSpec.upto dirsKeepsSpec)

/-- 'nautiluslaw11.DirsNames', WHERE WHAT IT READS IS OF BULK AT MOST 1048576: true; the input reads as it did. -/
def dirsNamesUptoRow : OpenClaim := { program := "ytliioeihbbhiiaa", sum := "c85d928bdc71be281fe333997c1566d7e17f19fd25c20930e174e467a9ea2865", func := "nautilus/nautiluslaw11.DirsNames", spec := "dirsNames", inPlace := ["internal/bytealg.IndexByteString", "internal/abi.NoEscape"], unfollowed := true, recurses := true, apart := false, narrowed := true }
def DirsNamesUptoSaid : Prop := dirsNamesUptoRow.holds Try.pinned (OpenSpec.upto dirsNamesSpec)

/-- 'nautiluslaw11.DirsLists', WHERE WHAT IT READS IS OF BULK AT MOST 1048576: true; the input reads as it did. -/
def dirsListsUptoRow : OpenClaim := { program := "ytliioeihbbhiiaa", sum := "c85d928bdc71be281fe333997c1566d7e17f19fd25c20930e174e467a9ea2865", func := "nautilus/nautiluslaw11.DirsLists", spec := "dirsLists", inPlace := ["internal/bytealg.IndexByteString", "internal/abi.NoEscape"], unfollowed := true, recurses := true, apart := false, narrowed := true }
def DirsListsUptoSaid : Prop := dirsListsUptoRow.holds Try.pinned (OpenSpec.upto dirsListsSpec)

/-- 'nautiluslaw11.DirsEmpties', WHERE WHAT IT READS IS OF BULK AT MOST 1048576: true; the input reads as it did. -/
def dirsEmptiesUptoRow : OpenClaim := { program := "ytliioeihbbhiiaa", sum := "c85d928bdc71be281fe333997c1566d7e17f19fd25c20930e174e467a9ea2865", func := "nautilus/nautiluslaw11.DirsEmpties", spec := "dirsEmpties", inPlace := ["internal/bytealg.IndexByteString", "internal/abi.NoEscape"], unfollowed := true, recurses := true, apart := false, narrowed := true }
def DirsEmptiesUptoSaid : Prop := dirsEmptiesUptoRow.holds Try.pinned (OpenSpec.upto dirsEmptiesSpec)

/-- 'nautiluslaw11.DirsMoves', WHERE WHAT IT READS IS OF BULK AT MOST 1048576: true; the input reads as it did. -/
def dirsMovesUptoRow : OpenClaim := { program := "ytliioeihbbhiiaa", sum := "c85d928bdc71be281fe333997c1566d7e17f19fd25c20930e174e467a9ea2865", func := "nautilus/nautiluslaw11.DirsMoves", spec := "dirsMoves", inPlace := ["internal/bytealg.IndexByteString", "internal/abi.NoEscape"], unfollowed := true, recurses := true, apart := false, narrowed := true }
def DirsMovesUptoSaid : Prop := dirsMovesUptoRow.holds Try.pinned (OpenSpec.upto dirsMovesSpec)

end Rows
end Go.Proofs.Ytliioeihbbhiiaa

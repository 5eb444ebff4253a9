/-
  No cell of these rows narrows 'for every input' (looked for: loops, veiled, ifaces, maps, wideKeys, modest, calm, conditions, laid).
  DERIVED. THE GIVEN ROWS OF THIS SEAT. 6 by the template 'for every input the law returns true; each argument reads behind the call as it read before'; 0 by the template 'total and deterministic' (their statements: YtjmfeoenbncibaaTotals.lean).
  GIVEN WITH THE SEED: the statements are not yours to turn. If you find one false, say at which input.
  Laid BY PROGRAM, IN A SANDBOX (cutbox-rows.mjs): the forced cells as the released guide's own fill.sh prints them over the translation 9e15580280a6298d… (all of the seat's roots in one cut). By AI agents, Wed Nov 11 2026. No macro, syntax, notation, axiom, sorry.
-/
import Derived.Test.YtjmfeoenbncibaaChecked
import GoSem.Claim
import GoSem.ClaimJoined
import GoSem.ClaimMapViews
import Derived.JoinedTies
import Derived.KernelRfl
namespace Go.Proofs.Ytjmfeoenbncibaa
/- THE CELL 'sum', in the pinned program and in every row, IS THE sha256 OF THE DUMP (.gsa) THAT YtjmfeoenbncibaaProg.lean LOADS. Nothing in Lean hashes anything: it is a label: what it is worth is what the hold of that sum in a sandbox is worth. -/
noncomputable def Try.pinned : Pinned := { name := "ytjmfeoenbncibaa", sum := "9e15580280a6298d9db686c74cfd006d93174dfd29162dce69f23b3bea06f1d3", checked := Try.checked }
namespace Rows
def none {H : Type} : Left H := { results := [], args := [] }

/-- 'nautiluslaw15.LogNothing': WHATEVER THE INPUT: true; the input reads as it did. -/
def logNothingSpec : ChangeSpec := { name := "logNothing", fn := fun _ => fun
  | [d1, d2, d3] => { results := [.lit (.bool true)], args := [d1, d2, d3] }
  | _ => none }
def logNothingRow : OpenClaim := { program := "ytjmfeoenbncibaa", sum := "9e15580280a6298d9db686c74cfd006d93174dfd29162dce69f23b3bea06f1d3", func := "nautilus/nautiluslaw15.LogNothing", spec := "logNothing", inPlace := ["internal/abi.NoEscape", "internal/bytealg.MakeNoZero"], unfollowed := true, recurses := true, apart := false }
def LogNothingSaid : Prop := logNothingRow.holds Try.pinned (OpenSpec.ofChange logNothingSpec)

/-- ITS FALSE NEIGHBOUR: 'it returns false'. Refute it at one input. -/
def logNothingWrong : ChangeSpec := { name := "logNothing", fn := fun _ => fun
  | [d1, d2, d3] => { results := [.lit (.bool false)], args := [d1, d2, d3] }
  | _ => none }
def LogNothingWrongFalsely : Prop := logNothingRow.holds Try.pinned (OpenSpec.ofChange logNothingWrong)

/-- 'nautiluslaw15.LogNone': WHATEVER THE INPUT: true; the input reads as it did. -/
def logNoneSpec : ChangeSpec := { name := "logNone", fn := fun _ => fun
  | [d1, d2] => { results := [.lit (.bool true)], args := [d1, d2] }
  | _ => none }
def logNoneRow : OpenClaim := { program := "ytjmfeoenbncibaa", sum := "9e15580280a6298d9db686c74cfd006d93174dfd29162dce69f23b3bea06f1d3", func := "nautilus/nautiluslaw15.LogNone", spec := "logNone", inPlace := ["internal/abi.NoEscape", "internal/bytealg.MakeNoZero"], unfollowed := true, recurses := true, apart := false }
def LogNoneSaid : Prop := logNoneRow.holds Try.pinned (OpenSpec.ofChange logNoneSpec)

/-- ITS FALSE NEIGHBOUR: 'it returns false'. Refute it at one input. -/
def logNoneWrong : ChangeSpec := { name := "logNone", fn := fun _ => fun
  | [d1, d2] => { results := [.lit (.bool false)], args := [d1, d2] }
  | _ => none }
def LogNoneWrongFalsely : Prop := logNoneRow.holds Try.pinned (OpenSpec.ofChange logNoneWrong)

/-- 'nautiluslaw15.LogScans': WHATEVER THE INPUT: true; the input reads as it did. -/
def logScansSpec : ChangeSpec := { name := "logScans", fn := fun _ => fun
  | [d1, d2, d3, d4] => { results := [.lit (.bool true)], args := [d1, d2, d3, d4] }
  | _ => none }
def logScansRow : OpenClaim := { program := "ytjmfeoenbncibaa", sum := "9e15580280a6298d9db686c74cfd006d93174dfd29162dce69f23b3bea06f1d3", func := "nautilus/nautiluslaw15.LogScans", spec := "logScans", inPlace := ["internal/abi.NoEscape", "internal/bytealg.MakeNoZero"], unfollowed := true, recurses := true, apart := false }
def LogScansSaid : Prop := logScansRow.holds Try.pinned (OpenSpec.ofChange logScansSpec)

/-- ITS FALSE NEIGHBOUR: 'it returns false'. Refute it at one input. -/
def logScansWrong : ChangeSpec := { name := "logScans", fn := fun _ => fun
  | [d1, d2, d3, d4] => { results := [.lit (.bool false)], args := [d1, d2, d3, d4] }
  | _ => none }
def LogScansWrongFalsely : Prop := logScansRow.holds Try.pinned (OpenSpec.ofChange logScansWrong)

/-- 'nautiluslaw15.LogGoes': WHATEVER THE INPUT: true; the input reads as it did. -/
def logGoesSpec : ChangeSpec := { name := "logGoes", fn := fun _ => fun
  | [d1, d2] => { results := [.lit (.bool true)], args := [d1, d2] }
  | _ => none }
def logGoesRow : OpenClaim := { program := "ytjmfeoenbncibaa", sum := "9e15580280a6298d9db686c74cfd006d93174dfd29162dce69f23b3bea06f1d3", func := "nautilus/nautiluslaw15.LogGoes", spec := "logGoes", inPlace := ["internal/abi.NoEscape", "internal/bytealg.MakeNoZero"], unfollowed := true, recurses := true, apart := false }
def LogGoesSaid : Prop := logGoesRow.holds Try.pinned (OpenSpec.ofChange logGoesSpec)

/-- ITS FALSE NEIGHBOUR: 'it returns false'. Refute it at one input. -/
def logGoesWrong : ChangeSpec := { name := "logGoes", fn := fun _ => fun
  | [d1, d2] => { results := [.lit (.bool false)], args := [d1, d2] }
  | _ => none }
def LogGoesWrongFalsely : Prop := logGoesRow.holds Try.pinned (OpenSpec.ofChange logGoesWrong)

/-- 'nautiluslaw15.LogWrites': WHATEVER THE INPUT: true; the input reads as it did. -/
def logWritesSpec : ChangeSpec := { name := "logWrites", fn := fun _ => fun
  | [d1, d2, d3, d4] => { results := [.lit (.bool true)], args := [d1, d2, d3, d4] }
  | _ => none }
def logWritesRow : OpenClaim := { program := "ytjmfeoenbncibaa", sum := "9e15580280a6298d9db686c74cfd006d93174dfd29162dce69f23b3bea06f1d3", func := "nautilus/nautiluslaw15.LogWrites", spec := "logWrites", inPlace := ["internal/abi.NoEscape", "internal/bytealg.MakeNoZero"], unfollowed := true, recurses := true, apart := false }
def LogWritesSaid : Prop := logWritesRow.holds Try.pinned (OpenSpec.ofChange logWritesSpec)

/-- ITS FALSE NEIGHBOUR: 'it returns false'. Refute it at one input. -/
def logWritesWrong : ChangeSpec := { name := "logWrites", fn := fun _ => fun
  | [d1, d2, d3, d4] => { results := [.lit (.bool false)], args := [d1, d2, d3, d4] }
  | _ => none }
def LogWritesWrongFalsely : Prop := logWritesRow.holds Try.pinned (OpenSpec.ofChange logWritesWrong)

/-- 'nautiluslaw15.LogLasts': WHATEVER THE INPUT: true; the input reads as it did. -/
def logLastsSpec : ChangeSpec := { name := "logLasts", fn := fun _ => fun
  | [d1, d2, d3] => { results := [.lit (.bool true)], args := [d1, d2, d3] }
  | _ => none }
def logLastsRow : OpenClaim := { program := "ytjmfeoenbncibaa", sum := "9e15580280a6298d9db686c74cfd006d93174dfd29162dce69f23b3bea06f1d3", func := "nautilus/nautiluslaw15.LogLasts", spec := "logLasts", inPlace := ["internal/abi.NoEscape", "internal/bytealg.MakeNoZero"], unfollowed := true, recurses := true, apart := false }
def LogLastsSaid : Prop := logLastsRow.holds Try.pinned (OpenSpec.ofChange logLastsSpec)

/-- ITS FALSE NEIGHBOUR: 'it returns false'. Refute it at one input. -/
def logLastsWrong : ChangeSpec := { name := "logLasts", fn := fun _ => fun
  | [d1, d2, d3] => { results := [.lit (.bool false)], args := [d1, d2, d3] }
  | _ => none }
def LogLastsWrongFalsely : Prop := logLastsRow.holds Try.pinned (OpenSpec.ofChange logLastsWrong)

/- THE SECOND FORM. 'bulk': how many values and letters a reading holds, each counted each time it is reached (what is shared counts as often as it is met; a slice's spare places count too). A statement '..UptoSaid' is the law's where the arguments, and the package variables that the reading takes, are together of bulk at most 1048576: NARROWER than '..Said'. Prove '..Said' where nothing that the law and all that it calls make is longer than what came in: it says more and counts as full. Else prove '..UptoSaid'. A law counts once. -/
mutual
def uptoBulk {H : Type} : DataW H → Nat
  | .lit (.string bytes) => bytes.length + 1
  | .lit _ => 1
  | .nil => 1
  | .ptr d => uptoBulk d + 1
  | .slice elems spare => uptoBulkAll elems + uptoBulkAll spare + 1
  | .agg parts => uptoBulkAll parts + 1
  | .iface _ d => uptoBulk d + 1
  | .map entries => uptoBulkEntries entries + 1
  | .held _ => 1
def uptoBulkAll {H : Type} : List (DataW H) → Nat
  | [] => 0
  | d :: r => uptoBulk d + uptoBulkAll r
def uptoBulkEntries {H : Type} : List (Lit × DataW H) → Nat
  | [] => 0
  | x :: r => uptoBulkEntry x + uptoBulkEntries r
def uptoBulkEntry {H : Type} : Lit × DataW H → Nat
  | (.string bytes, d) => bytes.length + uptoBulk d + 1
  | (_, d) => uptoBulk d + 1
 end
def uptoSmall : (H : Type) → List (DataW H) → Bool := fun _ ds => decide (uptoBulkAll ds ≤ 1048576)
def OpenSpec.upto (s : _root_.Go.ChangeSpec) : _root_.Go.OpenSpec := { _root_.Go.OpenSpec.ofChange s with cond := some uptoSmall }

/-- 'nautiluslaw15.LogNothing', WHERE WHAT IT READS IS OF BULK AT MOST 1048576: true; the input reads as it did. -/
def logNothingUptoRow : OpenClaim := { program := "ytjmfeoenbncibaa", sum := "9e15580280a6298d9db686c74cfd006d93174dfd29162dce69f23b3bea06f1d3", func := "nautilus/nautiluslaw15.LogNothing", spec := "logNothing", inPlace := ["internal/abi.NoEscape", "internal/bytealg.MakeNoZero"], unfollowed := true, recurses := true, apart := false, narrowed := true }
def LogNothingUptoSaid : Prop := logNothingUptoRow.holds Try.pinned (OpenSpec.upto logNothingSpec)

/-- 'nautiluslaw15.LogNone', WHERE WHAT IT READS IS OF BULK AT MOST 1048576: true; the input reads as it did. -/
def logNoneUptoRow : OpenClaim := { program := "ytjmfeoenbncibaa", sum := "9e15580280a6298d9db686c74cfd006d93174dfd29162dce69f23b3bea06f1d3", func := "nautilus/nautiluslaw15.LogNone", spec := "logNone", inPlace := ["internal/abi.NoEscape", "internal/bytealg.MakeNoZero"], unfollowed := true, recurses := true, apart := false, narrowed := true }
def LogNoneUptoSaid : Prop := logNoneUptoRow.holds Try.pinned (OpenSpec.upto logNoneSpec)

/-- 'nautiluslaw15.LogScans', WHERE WHAT IT READS IS OF BULK AT MOST 1048576: true; the input reads as it did. -/
def logScansUptoRow : OpenClaim := { program := "ytjmfeoenbncibaa", sum := "9e15580280a6298d9db686c74cfd006d93174dfd29162dce69f23b3bea06f1d3", func := "nautilus/nautiluslaw15.LogScans", spec := "logScans", inPlace := ["internal/abi.NoEscape", "internal/bytealg.MakeNoZero"], unfollowed := true, recurses := true, apart := false, narrowed := true }
def LogScansUptoSaid : Prop := logScansUptoRow.holds Try.pinned (OpenSpec.upto logScansSpec)

/-- 'nautiluslaw15.LogGoes', WHERE WHAT IT READS IS OF BULK AT MOST 1048576: true; the input reads as it did. -/
def logGoesUptoRow : OpenClaim := { program := "ytjmfeoenbncibaa", sum := "9e15580280a6298d9db686c74cfd006d93174dfd29162dce69f23b3bea06f1d3", func := "nautilus/nautiluslaw15.LogGoes", spec := "logGoes", inPlace := ["internal/abi.NoEscape", "internal/bytealg.MakeNoZero"], unfollowed := true, recurses := true, apart := false, narrowed := true }
def LogGoesUptoSaid : Prop := logGoesUptoRow.holds Try.pinned (OpenSpec.upto logGoesSpec)

/-- 'nautiluslaw15.LogWrites', WHERE WHAT IT READS IS OF BULK AT MOST 1048576: true; the input reads as it did. -/
def logWritesUptoRow : OpenClaim := { program := "ytjmfeoenbncibaa", sum := "9e15580280a6298d9db686c74cfd006d93174dfd29162dce69f23b3bea06f1d3", func := "nautilus/nautiluslaw15.LogWrites", spec := "logWrites", inPlace := ["internal/abi.NoEscape", "internal/bytealg.MakeNoZero"], unfollowed := true, recurses := true, apart := false, narrowed := true }
def LogWritesUptoSaid : Prop := logWritesUptoRow.holds Try.pinned (OpenSpec.upto logWritesSpec)

/-- 'nautiluslaw15.LogLasts', WHERE WHAT IT READS IS OF BULK AT MOST 1048576: true; the input reads as it did. -/
def logLastsUptoRow : OpenClaim := { program := "ytjmfeoenbncibaa", sum := "9e15580280a6298d9db686c74cfd006d93174dfd29162dce69f23b3bea06f1d3", func := "nautilus/nautiluslaw15.LogLasts", spec := "logLasts", inPlace := ["internal/abi.NoEscape", "internal/bytealg.MakeNoZero"], unfollowed := true, recurses := true, apart := false, narrowed := true }
def LogLastsUptoSaid : Prop := logLastsUptoRow.holds Try.pinned (OpenSpec.upto logLastsSpec)

end Rows
end Go.Proofs.Ytjmfeoenbncibaa

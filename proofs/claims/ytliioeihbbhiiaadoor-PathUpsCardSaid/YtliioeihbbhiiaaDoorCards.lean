/-
  DERIVED. GIVEN WITH THE SEED: THE CARDS: each row of YtliioeihbbhiiaaDoorRows.lean that lists a variable, with what it lists TIED to the program's text (the seventh form; the later family's looks); each row that meets fmt, with fmt's text TOLD by the authors' own Lean function (tested against real Go, not proved from fmt's source: count such statements apart). THE CARD IS WHAT COUNTS. Prove the row's statement (the work); the ties are given (YtliioeihbbhiiaaDoorTie.lean); close each card by the builder's one call (the guide's Derived/Test/ToyasCard.lean, 'card_holds'). Laid BY PROGRAM, IN A SANDBOX (cutbox-door.mjs). By AI agents, Wed Nov 11 2026. No macro, syntax, notation, axiom, sorry.
-/
import Derived.Test.YtliioeihbbhiiaaDoorRows
import GoSem.ClaimSeven
namespace Go.Proofs.YtliioeihbbhiiaaDoor
namespace Rows

/-- THE TIED CARD OF 'nautiluslaw12.PathChain'. -/
def pathChainCard : Claim7 := { stood := { row := pathChainRow, standIns := [], harness := (true, "9e7e5c25126e1aea9741ce4773c52f92a96737e20056d6d263dfbc9944ab64bc"), looks := false }, kinds := [], alts := [], laidByText := true, laidKinds := [.data, .pinned], laidTests := true, laidLooks := .later }
def PathChainCardSaid : Prop := Claim7.holds Tryd.pinned (.plain (OpenSpec.ofChange pathChainSpec)) pathChainCard

/-- THE TIED CARD OF 'nautiluslaw12.PathSplits'. -/
def pathSplitsCard : Claim7 := { stood := { row := pathSplitsRow, standIns := [], harness := (true, "9e7e5c25126e1aea9741ce4773c52f92a96737e20056d6d263dfbc9944ab64bc"), looks := false }, kinds := [], alts := [], laidByText := true, laidKinds := [.data, .pinned], laidTests := true, laidLooks := .later }
def PathSplitsCardSaid : Prop := Claim7.holds Tryd.pinned (.plain (OpenSpec.ofChange pathSplitsSpec)) pathSplitsCard

/-- THE TIED CARD OF 'nautiluslaw12.PathBack'. -/
def pathBackCard : Claim7 := { stood := { row := pathBackRow, standIns := [], harness := (true, "9e7e5c25126e1aea9741ce4773c52f92a96737e20056d6d263dfbc9944ab64bc"), looks := false }, kinds := [], alts := [], laidByText := true, laidKinds := [.data, .pinned], laidTests := true, laidLooks := .later }
def PathBackCardSaid : Prop := Claim7.holds Tryd.pinned (.plain (OpenSpec.ofChange pathBackSpec)) pathBackCard

/-- THE TIED CARD OF 'nautiluslaw12.PathUps'. -/
def pathUpsCard : Claim7 := { stood := { row := pathUpsRow, standIns := [], harness := (true, "9e7e5c25126e1aea9741ce4773c52f92a96737e20056d6d263dfbc9944ab64bc"), looks := false }, kinds := [], alts := [], laidByText := true, laidKinds := [.data, .pinned], laidTests := true, laidLooks := .later }
def PathUpsCardSaid : Prop := Claim7.holds Tryd.pinned (.plain (OpenSpec.ofChange pathUpsSpec)) pathUpsCard

/-- THE TIED CARD OF 'nautiluslaw12.PathUnder'. -/
def pathUnderCard : Claim7 := { stood := { row := pathUnderRow, standIns := [], harness := (true, "9e7e5c25126e1aea9741ce4773c52f92a96737e20056d6d263dfbc9944ab64bc"), looks := false }, kinds := [], alts := [], laidByText := true, laidKinds := [.data, .pinned], laidTests := true, laidLooks := .later }
def PathUnderCardSaid : Prop := Claim7.holds Tryd.pinned (.plain (OpenSpec.ofChange pathUnderSpec)) pathUnderCard

/-- THE SECOND FORM's CARD OF 'nautiluslaw12.PathChain'. -/
def pathChainUptoCard : Claim7 := { stood := { row := pathChainUptoRow, standIns := [], harness := (true, "9e7e5c25126e1aea9741ce4773c52f92a96737e20056d6d263dfbc9944ab64bc"), looks := false }, kinds := [], alts := [], laidByText := true, laidKinds := [.data, .pinned], laidTests := true, laidLooks := .later }
def PathChainUptoCardSaid : Prop := Claim7.holds Tryd.pinned (.plain (OpenSpec.upto pathChainSpec)) pathChainUptoCard

/-- THE SECOND FORM's CARD OF 'nautiluslaw12.PathSplits'. -/
def pathSplitsUptoCard : Claim7 := { stood := { row := pathSplitsUptoRow, standIns := [], harness := (true, "9e7e5c25126e1aea9741ce4773c52f92a96737e20056d6d263dfbc9944ab64bc"), looks := false }, kinds := [], alts := [], laidByText := true, laidKinds := [.data, .pinned], laidTests := true, laidLooks := .later }
def PathSplitsUptoCardSaid : Prop := Claim7.holds Tryd.pinned (.plain (OpenSpec.upto pathSplitsSpec)) pathSplitsUptoCard

/-- THE SECOND FORM's CARD OF 'nautiluslaw12.PathBack'. -/
def pathBackUptoCard : Claim7 := { stood := { row := pathBackUptoRow, standIns := [], harness := (true, "9e7e5c25126e1aea9741ce4773c52f92a96737e20056d6d263dfbc9944ab64bc"), looks := false }, kinds := [], alts := [], laidByText := true, laidKinds := [.data, .pinned], laidTests := true, laidLooks := .later }
def PathBackUptoCardSaid : Prop := Claim7.holds Tryd.pinned (.plain (OpenSpec.upto pathBackSpec)) pathBackUptoCard

/-- THE SECOND FORM's CARD OF 'nautiluslaw12.PathUps'. -/
def pathUpsUptoCard : Claim7 := { stood := { row := pathUpsUptoRow, standIns := [], harness := (true, "9e7e5c25126e1aea9741ce4773c52f92a96737e20056d6d263dfbc9944ab64bc"), looks := false }, kinds := [], alts := [], laidByText := true, laidKinds := [.data, .pinned], laidTests := true, laidLooks := .later }
def PathUpsUptoCardSaid : Prop := Claim7.holds Tryd.pinned (.plain (OpenSpec.upto pathUpsSpec)) pathUpsUptoCard

/-- THE SECOND FORM's CARD OF 'nautiluslaw12.PathUnder'. -/
def pathUnderUptoCard : Claim7 := { stood := { row := pathUnderUptoRow, standIns := [], harness := (true, "9e7e5c25126e1aea9741ce4773c52f92a96737e20056d6d263dfbc9944ab64bc"), looks := false }, kinds := [], alts := [], laidByText := true, laidKinds := [.data, .pinned], laidTests := true, laidLooks := .later }
def PathUnderUptoCardSaid : Prop := Claim7.holds Tryd.pinned (.plain (OpenSpec.upto pathUnderSpec)) pathUnderUptoCard
end Rows
end Go.Proofs.YtliioeihbbhiiaaDoor

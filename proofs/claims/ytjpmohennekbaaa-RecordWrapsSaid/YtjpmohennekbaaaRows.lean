/-
  No cell of these rows narrows 'for every input' (looked for: loops, veiled, ifaces, maps, wideKeys, modest, calm, conditions, laid).
  DERIVED. THE GIVEN ROWS OF THIS SEAT. 12 by the template 'for every input the law returns true; each argument reads behind the call as it read before'; 0 by the template 'total and deterministic' (their statements: YtjpmohennekbaaaTotals.lean).
  GIVEN WITH THE SEED: the statements are not yours to turn. If you find one false, say at which input.
  Laid BY PROGRAM, IN A SANDBOX (cutbox-rows.mjs): the forced cells as the released guide's own fill.sh prints them over the translation 9e324263b2fd554b… (all of the seat's roots in one cut). By AI agents, Wed Nov 11 2026. No macro, syntax, notation, axiom, sorry.
-/
import Derived.Test.YtjpmohennekbaaaChecked
import GoSem.Claim
import GoSem.ClaimJoined
import GoSem.ClaimMapViews
import Derived.JoinedTies
import Derived.KernelRfl
namespace Go.Proofs.Ytjpmohennekbaaa
/- THE CELL 'sum', in the pinned program and in every row, IS THE sha256 OF THE DUMP (.gsa) THAT YtjpmohennekbaaaProg.lean LOADS. Nothing in Lean hashes anything: it is a label: what it is worth is what the hold of that sum in a sandbox is worth. -/
noncomputable def Try.pinned : Pinned := { name := "ytjpmohennekbaaa", sum := "9e324263b2fd554bec4a116352d1573c10942494c19abdbaca49c283b6f9a740", checked := Try.checked }
namespace Rows
def none {H : Type} : Left H := { results := [], args := [] }

/-- 'nautiluslaw04.DiskOf': WHATEVER THE INPUT: true; the input reads as it did. -/
def diskOfSpec : ChangeSpec := { name := "diskOf", fn := fun _ => fun
  | [d1, d2] => { results := [.lit (.bool true)], args := [d1, d2] }
  | _ => none }
def diskOfRow : OpenClaim := { program := "ytjpmohennekbaaa", sum := "9e324263b2fd554bec4a116352d1573c10942494c19abdbaca49c283b6f9a740", func := "nautilus/nautiluslaw04.DiskOf", spec := "diskOf", inPlace := ["internal/abi.NoEscape", "internal/bytealg.MakeNoZero"], unfollowed := true, recurses := true, apart := false }
def DiskOfSaid : Prop := diskOfRow.holds Try.pinned (OpenSpec.ofChange diskOfSpec)

/-- ITS FALSE NEIGHBOUR: 'it returns false'. Refute it at one input. -/
def diskOfWrong : ChangeSpec := { name := "diskOf", fn := fun _ => fun
  | [d1, d2] => { results := [.lit (.bool false)], args := [d1, d2] }
  | _ => none }
def DiskOfWrongFalsely : Prop := diskOfRow.holds Try.pinned (OpenSpec.ofChange diskOfWrong)

/-- 'nautiluslaw04.DiskLast': WHATEVER THE INPUT: true; the input reads as it did. -/
def diskLastSpec : ChangeSpec := { name := "diskLast", fn := fun _ => fun
  | [d1, d2, d3, d4] => { results := [.lit (.bool true)], args := [d1, d2, d3, d4] }
  | _ => none }
def diskLastRow : OpenClaim := { program := "ytjpmohennekbaaa", sum := "9e324263b2fd554bec4a116352d1573c10942494c19abdbaca49c283b6f9a740", func := "nautilus/nautiluslaw04.DiskLast", spec := "diskLast", inPlace := ["internal/abi.NoEscape", "internal/bytealg.MakeNoZero"], unfollowed := true, recurses := true, apart := false }
def DiskLastSaid : Prop := diskLastRow.holds Try.pinned (OpenSpec.ofChange diskLastSpec)

/-- ITS FALSE NEIGHBOUR: 'it returns false'. Refute it at one input. -/
def diskLastWrong : ChangeSpec := { name := "diskLast", fn := fun _ => fun
  | [d1, d2, d3, d4] => { results := [.lit (.bool false)], args := [d1, d2, d3, d4] }
  | _ => none }
def DiskLastWrongFalsely : Prop := diskLastRow.holds Try.pinned (OpenSpec.ofChange diskLastWrong)

/-- 'nautiluslaw04.DiskStays': WHATEVER THE INPUT: true; the input reads as it did. -/
def diskStaysSpec : ChangeSpec := { name := "diskStays", fn := fun _ => fun
  | [d1, d2] => { results := [.lit (.bool true)], args := [d1, d2] }
  | _ => none }
def diskStaysRow : OpenClaim := { program := "ytjpmohennekbaaa", sum := "9e324263b2fd554bec4a116352d1573c10942494c19abdbaca49c283b6f9a740", func := "nautilus/nautiluslaw04.DiskStays", spec := "diskStays", inPlace := ["internal/abi.NoEscape", "internal/bytealg.MakeNoZero"], unfollowed := true, recurses := true, apart := false }
def DiskStaysSaid : Prop := diskStaysRow.holds Try.pinned (OpenSpec.ofChange diskStaysSpec)

/-- ITS FALSE NEIGHBOUR: 'it returns false'. Refute it at one input. -/
def diskStaysWrong : ChangeSpec := { name := "diskStays", fn := fun _ => fun
  | [d1, d2] => { results := [.lit (.bool false)], args := [d1, d2] }
  | _ => none }
def DiskStaysWrongFalsely : Prop := diskStaysRow.holds Try.pinned (OpenSpec.ofChange diskStaysWrong)

/-- 'nautiluslaw04.DiskDoes': WHATEVER THE INPUT: true; the input reads as it did. -/
def diskDoesSpec : ChangeSpec := { name := "diskDoes", fn := fun _ => fun
  | [d1, d2] => { results := [.lit (.bool true)], args := [d1, d2] }
  | _ => none }
def diskDoesRow : OpenClaim := { program := "ytjpmohennekbaaa", sum := "9e324263b2fd554bec4a116352d1573c10942494c19abdbaca49c283b6f9a740", func := "nautilus/nautiluslaw04.DiskDoes", spec := "diskDoes", inPlace := ["internal/abi.NoEscape", "internal/bytealg.MakeNoZero"], unfollowed := true, recurses := true, apart := false }
def DiskDoesSaid : Prop := diskDoesRow.holds Try.pinned (OpenSpec.ofChange diskDoesSpec)

/-- ITS FALSE NEIGHBOUR: 'it returns false'. Refute it at one input. -/
def diskDoesWrong : ChangeSpec := { name := "diskDoes", fn := fun _ => fun
  | [d1, d2] => { results := [.lit (.bool false)], args := [d1, d2] }
  | _ => none }
def DiskDoesWrongFalsely : Prop := diskDoesRow.holds Try.pinned (OpenSpec.ofChange diskDoesWrong)

/-- 'nautiluslaw04.DiskNone': WHATEVER THE INPUT: true; the input reads as it did. -/
def diskNoneSpec : ChangeSpec := { name := "diskNone", fn := fun _ => fun
  | [d1, d2, d3] => { results := [.lit (.bool true)], args := [d1, d2, d3] }
  | _ => none }
def diskNoneRow : OpenClaim := { program := "ytjpmohennekbaaa", sum := "9e324263b2fd554bec4a116352d1573c10942494c19abdbaca49c283b6f9a740", func := "nautilus/nautiluslaw04.DiskNone", spec := "diskNone", inPlace := ["internal/abi.NoEscape", "internal/bytealg.MakeNoZero"], unfollowed := true, recurses := true, apart := false }
def DiskNoneSaid : Prop := diskNoneRow.holds Try.pinned (OpenSpec.ofChange diskNoneSpec)

/-- ITS FALSE NEIGHBOUR: 'it returns false'. Refute it at one input. -/
def diskNoneWrong : ChangeSpec := { name := "diskNone", fn := fun _ => fun
  | [d1, d2, d3] => { results := [.lit (.bool false)], args := [d1, d2, d3] }
  | _ => none }
def DiskNoneWrongFalsely : Prop := diskNoneRow.holds Try.pinned (OpenSpec.ofChange diskNoneWrong)

/-- 'nautiluslaw04.DiskImage': WHATEVER THE INPUT: true; the input reads as it did. -/
def diskImageSpec : ChangeSpec := { name := "diskImage", fn := fun _ => fun
  | [d1, d2] => { results := [.lit (.bool true)], args := [d1, d2] }
  | _ => none }
def diskImageRow : OpenClaim := { program := "ytjpmohennekbaaa", sum := "9e324263b2fd554bec4a116352d1573c10942494c19abdbaca49c283b6f9a740", func := "nautilus/nautiluslaw04.DiskImage", spec := "diskImage", inPlace := ["internal/abi.NoEscape", "internal/bytealg.MakeNoZero"], unfollowed := true, recurses := true, apart := false }
def DiskImageSaid : Prop := diskImageRow.holds Try.pinned (OpenSpec.ofChange diskImageSpec)

/-- ITS FALSE NEIGHBOUR: 'it returns false'. Refute it at one input. -/
def diskImageWrong : ChangeSpec := { name := "diskImage", fn := fun _ => fun
  | [d1, d2] => { results := [.lit (.bool false)], args := [d1, d2] }
  | _ => none }
def DiskImageWrongFalsely : Prop := diskImageRow.holds Try.pinned (OpenSpec.ofChange diskImageWrong)

/-- 'nautiluslaw07.RecordBytes': WHATEVER THE INPUT: true; the input reads as it did. -/
def recordBytesSpec : ChangeSpec := { name := "recordBytes", fn := fun _ => fun
  | [d1, d2] => { results := [.lit (.bool true)], args := [d1, d2] }
  | _ => none }
def recordBytesRow : OpenClaim := { program := "ytjpmohennekbaaa", sum := "9e324263b2fd554bec4a116352d1573c10942494c19abdbaca49c283b6f9a740", func := "nautilus/nautiluslaw07.RecordBytes", spec := "recordBytes", inPlace := ["internal/abi.NoEscape", "internal/bytealg.MakeNoZero"], unfollowed := true, recurses := true, apart := false }
def RecordBytesSaid : Prop := recordBytesRow.holds Try.pinned (OpenSpec.ofChange recordBytesSpec)

/-- ITS FALSE NEIGHBOUR: 'it returns false'. Refute it at one input. -/
def recordBytesWrong : ChangeSpec := { name := "recordBytes", fn := fun _ => fun
  | [d1, d2] => { results := [.lit (.bool false)], args := [d1, d2] }
  | _ => none }
def RecordBytesWrongFalsely : Prop := recordBytesRow.holds Try.pinned (OpenSpec.ofChange recordBytesWrong)

/-- 'nautiluslaw07.RecordWraps': WHATEVER THE INPUT: true; the input reads as it did. -/
def recordWrapsSpec : ChangeSpec := { name := "recordWraps", fn := fun _ => fun
  | [d1, d2, d3] => { results := [.lit (.bool true)], args := [d1, d2, d3] }
  | _ => none }
def recordWrapsRow : OpenClaim := { program := "ytjpmohennekbaaa", sum := "9e324263b2fd554bec4a116352d1573c10942494c19abdbaca49c283b6f9a740", func := "nautilus/nautiluslaw07.RecordWraps", spec := "recordWraps", inPlace := ["internal/abi.NoEscape", "internal/bytealg.MakeNoZero"], unfollowed := true, recurses := true, apart := false }
def RecordWrapsSaid : Prop := recordWrapsRow.holds Try.pinned (OpenSpec.ofChange recordWrapsSpec)

/-- ITS FALSE NEIGHBOUR: 'it returns false'. Refute it at one input. -/
def recordWrapsWrong : ChangeSpec := { name := "recordWraps", fn := fun _ => fun
  | [d1, d2, d3] => { results := [.lit (.bool false)], args := [d1, d2, d3] }
  | _ => none }
def RecordWrapsWrongFalsely : Prop := recordWrapsRow.holds Try.pinned (OpenSpec.ofChange recordWrapsWrong)

/-- 'nautiluslaw07.RecordBack': WHATEVER THE INPUT: true; the input reads as it did. -/
def recordBackSpec : ChangeSpec := { name := "recordBack", fn := fun _ => fun
  | [d1, d2] => { results := [.lit (.bool true)], args := [d1, d2] }
  | _ => none }
def recordBackRow : OpenClaim := { program := "ytjpmohennekbaaa", sum := "9e324263b2fd554bec4a116352d1573c10942494c19abdbaca49c283b6f9a740", func := "nautilus/nautiluslaw07.RecordBack", spec := "recordBack", inPlace := ["internal/abi.NoEscape", "internal/bytealg.MakeNoZero"], unfollowed := true, recurses := true, apart := false }
def RecordBackSaid : Prop := recordBackRow.holds Try.pinned (OpenSpec.ofChange recordBackSpec)

/-- ITS FALSE NEIGHBOUR: 'it returns false'. Refute it at one input. -/
def recordBackWrong : ChangeSpec := { name := "recordBack", fn := fun _ => fun
  | [d1, d2] => { results := [.lit (.bool false)], args := [d1, d2] }
  | _ => none }
def RecordBackWrongFalsely : Prop := recordBackRow.holds Try.pinned (OpenSpec.ofChange recordBackWrong)

/-- 'nautiluslaw07.RecordApart': WHATEVER THE INPUT: true; the input reads as it did. -/
def recordApartSpec : ChangeSpec := { name := "recordApart", fn := fun _ => fun
  | [d1, d2, d3] => { results := [.lit (.bool true)], args := [d1, d2, d3] }
  | _ => none }
def recordApartRow : OpenClaim := { program := "ytjpmohennekbaaa", sum := "9e324263b2fd554bec4a116352d1573c10942494c19abdbaca49c283b6f9a740", func := "nautilus/nautiluslaw07.RecordApart", spec := "recordApart", inPlace := ["internal/abi.NoEscape", "internal/bytealg.MakeNoZero"], unfollowed := true, recurses := true, apart := false }
def RecordApartSaid : Prop := recordApartRow.holds Try.pinned (OpenSpec.ofChange recordApartSpec)

/-- ITS FALSE NEIGHBOUR: 'it returns false'. Refute it at one input. -/
def recordApartWrong : ChangeSpec := { name := "recordApart", fn := fun _ => fun
  | [d1, d2, d3] => { results := [.lit (.bool false)], args := [d1, d2, d3] }
  | _ => none }
def RecordApartWrongFalsely : Prop := recordApartRow.holds Try.pinned (OpenSpec.ofChange recordApartWrong)

/-- 'nautiluslaw07.RecordUnlike': WHATEVER THE INPUT: true; the input reads as it did. -/
def recordUnlikeSpec : ChangeSpec := { name := "recordUnlike", fn := fun _ => fun
  | [d1, d2, d3, d4] => { results := [.lit (.bool true)], args := [d1, d2, d3, d4] }
  | _ => none }
def recordUnlikeRow : OpenClaim := { program := "ytjpmohennekbaaa", sum := "9e324263b2fd554bec4a116352d1573c10942494c19abdbaca49c283b6f9a740", func := "nautilus/nautiluslaw07.RecordUnlike", spec := "recordUnlike", inPlace := ["internal/abi.NoEscape", "internal/bytealg.MakeNoZero"], unfollowed := true, recurses := true, apart := false }
def RecordUnlikeSaid : Prop := recordUnlikeRow.holds Try.pinned (OpenSpec.ofChange recordUnlikeSpec)

/-- ITS FALSE NEIGHBOUR: 'it returns false'. Refute it at one input. -/
def recordUnlikeWrong : ChangeSpec := { name := "recordUnlike", fn := fun _ => fun
  | [d1, d2, d3, d4] => { results := [.lit (.bool false)], args := [d1, d2, d3, d4] }
  | _ => none }
def RecordUnlikeWrongFalsely : Prop := recordUnlikeRow.holds Try.pinned (OpenSpec.ofChange recordUnlikeWrong)

/-- 'nautiluslaw07.RecordRooms': WHATEVER THE INPUT: true; the input reads as it did. -/
def recordRoomsSpec : ChangeSpec := { name := "recordRooms", fn := fun _ => fun
  | [d] => { results := [.lit (.bool true)], args := [d] }
  | _ => none }
def recordRoomsRow : OpenClaim := { program := "ytjpmohennekbaaa", sum := "9e324263b2fd554bec4a116352d1573c10942494c19abdbaca49c283b6f9a740", func := "nautilus/nautiluslaw07.RecordRooms", spec := "recordRooms", inPlace := ["internal/abi.NoEscape", "internal/bytealg.MakeNoZero"], unfollowed := true, recurses := true, apart := false }
def RecordRoomsSaid : Prop := recordRoomsRow.holds Try.pinned (OpenSpec.ofChange recordRoomsSpec)

/-- ITS FALSE NEIGHBOUR: 'it returns false'. Refute it at one input. -/
def recordRoomsWrong : ChangeSpec := { name := "recordRooms", fn := fun _ => fun
  | [d] => { results := [.lit (.bool false)], args := [d] }
  | _ => none }
def RecordRoomsWrongFalsely : Prop := recordRoomsRow.holds Try.pinned (OpenSpec.ofChange recordRoomsWrong)

/- THE SECOND FORM. 'bulk': how many values and letters a reading holds, each counted each time it is reached (what is shared counts as often as it is met; a slice's spare places count too). A statement '..UptoSaid' is the law's where the arguments, and the package variables that the reading takes, are together of bulk at most 1048576: NARROWER than '..Said'. Prove '..Said' where nothing that the law and all that it calls make is longer than what came in: it says more and counts as full. Else prove '..UptoSaid'. A law counts once. -/
mutual
def uptoBulk {H : Type} : DataW H → Nat
  | .lit (.string bytes) => bytes.length + 1
  | .lit _ => 1
  | .nil => 1
  | .ptr d => uptoBulk d + 1
  | .slice elems spare => uptoBulkAll elems + uptoBulkAll spare + 1
  | .agg parts => uptoBulkAll parts + 1
  | .iface _ d => uptoBulk d + 1
  | .map entries => uptoBulkEntries entries + 1
  | .held _ => 1
def uptoBulkAll {H : Type} : List (DataW H) → Nat
  | [] => 0
  | d :: r => uptoBulk d + uptoBulkAll r
def uptoBulkEntries {H : Type} : List (Lit × DataW H) → Nat
  | [] => 0
  | x :: r => uptoBulkEntry x + uptoBulkEntries r
def uptoBulkEntry {H : Type} : Lit × DataW H → Nat
  | (.string bytes, d) => bytes.length + uptoBulk d + 1
  | (_, d) => uptoBulk d + 1
 end
def uptoSmall : (H : Type) → List (DataW H) → Bool := fun _ ds => decide (uptoBulkAll ds ≤ 1048576)
def OpenSpec.upto (s : _root_.Go.ChangeSpec) : _root_.Go.OpenSpec := { _root_.Go.OpenSpec.ofChange s with cond := some uptoSmall }

/-- 'nautiluslaw04.DiskOf', WHERE WHAT IT READS IS OF BULK AT MOST 1048576: true; the input reads as it did. -/
def diskOfUptoRow : OpenClaim := { program := "ytjpmohennekbaaa", sum := "9e324263b2fd554bec4a116352d1573c10942494c19abdbaca49c283b6f9a740", func := "nautilus/nautiluslaw04.DiskOf", spec := "diskOf", inPlace := ["internal/abi.NoEscape", "internal/bytealg.MakeNoZero"], unfollowed := true, recurses := true, apart := false, narrowed := true }
def DiskOfUptoSaid : Prop := diskOfUptoRow.holds Try.pinned (OpenSpec.upto diskOfSpec)

/-- 'nautiluslaw04.DiskLast', WHERE WHAT IT READS IS OF BULK AT MOST 1048576: true; the input reads as it did. -/
def diskLastUptoRow : OpenClaim := { program := "ytjpmohennekbaaa", sum := "9e324263b2fd554bec4a116352d1573c10942494c19abdbaca49c283b6f9a740", func := "nautilus/nautiluslaw04.DiskLast", spec := "diskLast", inPlace := ["internal/abi.NoEscape", "internal/bytealg.MakeNoZero"], unfollowed := true, recurses := true, apart := false, narrowed := true }
def DiskLastUptoSaid : Prop := diskLastUptoRow.holds Try.pinned (OpenSpec.upto diskLastSpec)

/-- 'nautiluslaw04.DiskStays', WHERE WHAT IT READS IS OF BULK AT MOST 1048576: true; the input reads as it did. -/
def diskStaysUptoRow : OpenClaim := { program := "ytjpmohennekbaaa", sum := "9e324263b2fd554bec4a116352d1573c10942494c19abdbaca49c283b6f9a740", func := "nautilus/nautiluslaw04.DiskStays", spec := "diskStays", inPlace := ["internal/abi.NoEscape", "internal/bytealg.MakeNoZero"], unfollowed := true, recurses := true, apart := false, narrowed := true }
def DiskStaysUptoSaid : Prop := diskStaysUptoRow.holds Try.pinned (OpenSpec.upto diskStaysSpec)

/-- 'nautiluslaw04.DiskDoes', WHERE WHAT IT READS IS OF BULK AT MOST 1048576: true; the input reads as it did. -/
def diskDoesUptoRow : OpenClaim := { program := "ytjpmohennekbaaa", sum := "9e324263b2fd554bec4a116352d1573c10942494c19abdbaca49c283b6f9a740", func := "nautilus/nautiluslaw04.DiskDoes", spec := "diskDoes", inPlace := ["internal/abi.NoEscape", "internal/bytealg.MakeNoZero"], unfollowed := true, recurses := true, apart := false, narrowed := true }
def DiskDoesUptoSaid : Prop := diskDoesUptoRow.holds Try.pinned (OpenSpec.upto diskDoesSpec)

/-- 'nautiluslaw04.DiskNone', WHERE WHAT IT READS IS OF BULK AT MOST 1048576: true; the input reads as it did. -/
def diskNoneUptoRow : OpenClaim := { program := "ytjpmohennekbaaa", sum := "9e324263b2fd554bec4a116352d1573c10942494c19abdbaca49c283b6f9a740", func := "nautilus/nautiluslaw04.DiskNone", spec := "diskNone", inPlace := ["internal/abi.NoEscape", "internal/bytealg.MakeNoZero"], unfollowed := true, recurses := true, apart := false, narrowed := true }
def DiskNoneUptoSaid : Prop := diskNoneUptoRow.holds Try.pinned (OpenSpec.upto diskNoneSpec)

/-- 'nautiluslaw04.DiskImage', WHERE WHAT IT READS IS OF BULK AT MOST 1048576: true; the input reads as it did. -/
def diskImageUptoRow : OpenClaim := { program := "ytjpmohennekbaaa", sum := "9e324263b2fd554bec4a116352d1573c10942494c19abdbaca49c283b6f9a740", func := "nautilus/nautiluslaw04.DiskImage", spec := "diskImage", inPlace := ["internal/abi.NoEscape", "internal/bytealg.MakeNoZero"], unfollowed := true, recurses := true, apart := false, narrowed := true }
def DiskImageUptoSaid : Prop := diskImageUptoRow.holds Try.pinned (OpenSpec.upto diskImageSpec)

/-- 'nautiluslaw07.RecordBytes', WHERE WHAT IT READS IS OF BULK AT MOST 1048576: true; the input reads as it did. -/
def recordBytesUptoRow : OpenClaim := { program := "ytjpmohennekbaaa", sum := "9e324263b2fd554bec4a116352d1573c10942494c19abdbaca49c283b6f9a740", func := "nautilus/nautiluslaw07.RecordBytes", spec := "recordBytes", inPlace := ["internal/abi.NoEscape", "internal/bytealg.MakeNoZero"], unfollowed := true, recurses := true, apart := false, narrowed := true }
def RecordBytesUptoSaid : Prop := recordBytesUptoRow.holds Try.pinned (OpenSpec.upto recordBytesSpec)

/-- 'nautiluslaw07.RecordWraps', WHERE WHAT IT READS IS OF BULK AT MOST 1048576: true; the input reads as it did. -/
def recordWrapsUptoRow : OpenClaim := { program := "ytjpmohennekbaaa", sum := "9e324263b2fd554bec4a116352d1573c10942494c19abdbaca49c283b6f9a740", func := "nautilus/nautiluslaw07.RecordWraps", spec := "recordWraps", inPlace := ["internal/abi.NoEscape", "internal/bytealg.MakeNoZero"], unfollowed := true, recurses := true, apart := false, narrowed := true }
def RecordWrapsUptoSaid : Prop := recordWrapsUptoRow.holds Try.pinned (OpenSpec.upto recordWrapsSpec)

/-- 'nautiluslaw07.RecordBack', WHERE WHAT IT READS IS OF BULK AT MOST 1048576: true; the input reads as it did. -/
def recordBackUptoRow : OpenClaim := { program := "ytjpmohennekbaaa", sum := "9e324263b2fd554bec4a116352d1573c10942494c19abdbaca49c283b6f9a740", func := "nautilus/nautiluslaw07.RecordBack", spec := "recordBack", inPlace := ["internal/abi.NoEscape", "internal/bytealg.MakeNoZero"], unfollowed := true, recurses := true, apart := false, narrowed := true }
def RecordBackUptoSaid : Prop := recordBackUptoRow.holds Try.pinned (OpenSpec.upto recordBackSpec)

/-- 'nautiluslaw07.RecordApart', WHERE WHAT IT READS IS OF BULK AT MOST 1048576: true; the input reads as it did. -/
def recordApartUptoRow : OpenClaim := { program := "ytjpmohennekbaaa", sum := "9e324263b2fd554bec4a116352d1573c10942494c19abdbaca49c283b6f9a740", func := "nautilus/nautiluslaw07.RecordApart", spec := "recordApart", inPlace := ["internal/abi.NoEscape", "internal/bytealg.MakeNoZero"], unfollowed := true, recurses := true, apart := false, narrowed := true }
def RecordApartUptoSaid : Prop := recordApartUptoRow.holds Try.pinned (OpenSpec.upto recordApartSpec)

/-- 'nautiluslaw07.RecordUnlike', WHERE WHAT IT READS IS OF BULK AT MOST 1048576: true; the input reads as it did. -/
def recordUnlikeUptoRow : OpenClaim := { program := "ytjpmohennekbaaa", sum := "9e324263b2fd554bec4a116352d1573c10942494c19abdbaca49c283b6f9a740", func := "nautilus/nautiluslaw07.RecordUnlike", spec := "recordUnlike", inPlace := ["internal/abi.NoEscape", "internal/bytealg.MakeNoZero"], unfollowed := true, recurses := true, apart := false, narrowed := true }
def RecordUnlikeUptoSaid : Prop := recordUnlikeUptoRow.holds Try.pinned (OpenSpec.upto recordUnlikeSpec)

/-- 'nautiluslaw07.RecordRooms', WHERE WHAT IT READS IS OF BULK AT MOST 1048576: true; the input reads as it did. -/
def recordRoomsUptoRow : OpenClaim := { program := "ytjpmohennekbaaa", sum := "9e324263b2fd554bec4a116352d1573c10942494c19abdbaca49c283b6f9a740", func := "nautilus/nautiluslaw07.RecordRooms", spec := "recordRooms", inPlace := ["internal/abi.NoEscape", "internal/bytealg.MakeNoZero"], unfollowed := true, recurses := true, apart := false, narrowed := true }
def RecordRoomsUptoSaid : Prop := recordRoomsUptoRow.holds Try.pinned (OpenSpec.upto recordRoomsSpec)

end Rows
end Go.Proofs.Ytjpmohennekbaaa

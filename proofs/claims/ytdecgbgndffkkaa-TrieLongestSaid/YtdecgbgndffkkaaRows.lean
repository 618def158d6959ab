/-
  No cell of these rows narrows 'for every input' (looked for: loops, veiled, ifaces, maps, wideKeys, modest, calm, conditions, laid).
  DERIVED. THE GIVEN ROWS OF THIS SEAT. 17 by the template 'for every input the law returns true; each argument reads behind the call as it read before'; 0 by the template 'total and deterministic' (their statements: YtdecgbgndffkkaaTotals.lean).
  GIVEN WITH THE SEED: the statements are not yours to turn. If you find one false, say at which input.
  Laid BY PROGRAM, IN A SANDBOX (cutbox-rows.mjs): the forced cells as the released guide's own fill.sh prints them over the translation 9dcf9d9af5b0b0b7… (all of the seat's roots in one cut). By AI agents, Wed Nov 11 2026. No macro, syntax, notation, axiom, sorry.
-/
import Derived.Test.YtdecgbgndffkkaaChecked
import GoSem.Claim
import GoSem.ClaimJoined
import GoSem.ClaimMapViews
import Derived.JoinedTies
import Derived.KernelRfl
namespace Go.Proofs.Ytdecgbgndffkkaa
/- THE CELL 'sum', in the pinned program and in every row, IS THE sha256 OF THE DUMP (.gsa) THAT YtdecgbgndffkkaaProg.lean LOADS. Nothing in Lean hashes anything: it is a label: what it is worth is what the hold of that sum in a sandbox is worth. -/
noncomputable def Try.pinned : Pinned := { name := "ytdecgbgndffkkaa", sum := "9dcf9d9af5b0b0b7001058525db6df079b59f82b68952642784628070cce18d4", checked := Try.checked }
namespace Rows
def none {H : Type} : Left H := { results := [], args := [] }

/-- 'kedgelaw05.TrieLongest': WHATEVER THE INPUT: true; the input reads as it did. -/
def trieLongestSpec : ChangeSpec := { name := "trieLongest", fn := fun _ => fun
  | [d1, d2] => { results := [.lit (.bool true)], args := [d1, d2] }
  | _ => none }
def trieLongestRow : OpenClaim := { program := "ytdecgbgndffkkaa", sum := "9dcf9d9af5b0b0b7001058525db6df079b59f82b68952642784628070cce18d4", func := "kedge/kedgelaw05.TrieLongest", spec := "trieLongest", unfollowed := true, recurses := true, apart := false }
def TrieLongestSaid : Prop := trieLongestRow.holds Try.pinned (OpenSpec.ofChange trieLongestSpec)

/-- ITS FALSE NEIGHBOUR: 'it returns false'. Refute it at one input. -/
def trieLongestWrong : ChangeSpec := { name := "trieLongest", fn := fun _ => fun
  | [d1, d2] => { results := [.lit (.bool false)], args := [d1, d2] }
  | _ => none }
def TrieLongestWrongFalsely : Prop := trieLongestRow.holds Try.pinned (OpenSpec.ofChange trieLongestWrong)

/-- 'kedgelaw07.LeafgenMore': WHATEVER THE INPUT: true; the input reads as it did. -/
def leafgenMoreSpec : ChangeSpec := { name := "leafgenMore", fn := fun _ => fun
  | [d1, d2, d3] => { results := [.lit (.bool true)], args := [d1, d2, d3] }
  | _ => none }
def leafgenMoreRow : OpenClaim := { program := "ytdecgbgndffkkaa", sum := "9dcf9d9af5b0b0b7001058525db6df079b59f82b68952642784628070cce18d4", func := "kedge/kedgelaw07.LeafgenMore", spec := "leafgenMore", unfollowed := true, recurses := true, apart := false }
def LeafgenMoreSaid : Prop := leafgenMoreRow.holds Try.pinned (OpenSpec.ofChange leafgenMoreSpec)

/-- ITS FALSE NEIGHBOUR: 'it returns false'. Refute it at one input. -/
def leafgenMoreWrong : ChangeSpec := { name := "leafgenMore", fn := fun _ => fun
  | [d1, d2, d3] => { results := [.lit (.bool false)], args := [d1, d2, d3] }
  | _ => none }
def LeafgenMoreWrongFalsely : Prop := leafgenMoreRow.holds Try.pinned (OpenSpec.ofChange leafgenMoreWrong)

/-- 'kedgelaw08.CoverIs': WHATEVER THE INPUT: true; the input reads as it did. -/
def coverIsSpec : ChangeSpec := { name := "coverIs", fn := fun _ => fun
  | [d1, d2, d3] => { results := [.lit (.bool true)], args := [d1, d2, d3] }
  | _ => none }
def coverIsRow : OpenClaim := { program := "ytdecgbgndffkkaa", sum := "9dcf9d9af5b0b0b7001058525db6df079b59f82b68952642784628070cce18d4", func := "kedge/kedgelaw08.CoverIs", spec := "coverIs", unfollowed := true, recurses := true, apart := false }
def CoverIsSaid : Prop := coverIsRow.holds Try.pinned (OpenSpec.ofChange coverIsSpec)

/-- ITS FALSE NEIGHBOUR: 'it returns false'. Refute it at one input. -/
def coverIsWrong : ChangeSpec := { name := "coverIs", fn := fun _ => fun
  | [d1, d2, d3] => { results := [.lit (.bool false)], args := [d1, d2, d3] }
  | _ => none }
def CoverIsWrongFalsely : Prop := coverIsRow.holds Try.pinned (OpenSpec.ofChange coverIsWrong)

/-- 'kedgelaw08.CoverMost': WHATEVER THE INPUT: true; the input reads as it did. -/
def coverMostSpec : ChangeSpec := { name := "coverMost", fn := fun _ => fun
  | [d1, d2, d3] => { results := [.lit (.bool true)], args := [d1, d2, d3] }
  | _ => none }
def coverMostRow : OpenClaim := { program := "ytdecgbgndffkkaa", sum := "9dcf9d9af5b0b0b7001058525db6df079b59f82b68952642784628070cce18d4", func := "kedge/kedgelaw08.CoverMost", spec := "coverMost", unfollowed := true, recurses := true, apart := false }
def CoverMostSaid : Prop := coverMostRow.holds Try.pinned (OpenSpec.ofChange coverMostSpec)

/-- ITS FALSE NEIGHBOUR: 'it returns false'. Refute it at one input. -/
def coverMostWrong : ChangeSpec := { name := "coverMost", fn := fun _ => fun
  | [d1, d2, d3] => { results := [.lit (.bool false)], args := [d1, d2, d3] }
  | _ => none }
def CoverMostWrongFalsely : Prop := coverMostRow.holds Try.pinned (OpenSpec.ofChange coverMostWrong)

/-- 'kedgelaw07.LeafgenAlike': WHATEVER THE INPUT: true; the input reads as it did. -/
def leafgenAlikeSpec : ChangeSpec := { name := "leafgenAlike", fn := fun _ => fun
  | [d1, d2, d3] => { results := [.lit (.bool true)], args := [d1, d2, d3] }
  | _ => none }
def leafgenAlikeRow : OpenClaim := { program := "ytdecgbgndffkkaa", sum := "9dcf9d9af5b0b0b7001058525db6df079b59f82b68952642784628070cce18d4", func := "kedge/kedgelaw07.LeafgenAlike", spec := "leafgenAlike", unfollowed := true, recurses := true, apart := false }
def LeafgenAlikeSaid : Prop := leafgenAlikeRow.holds Try.pinned (OpenSpec.ofChange leafgenAlikeSpec)

/-- ITS FALSE NEIGHBOUR: 'it returns false'. Refute it at one input. -/
def leafgenAlikeWrong : ChangeSpec := { name := "leafgenAlike", fn := fun _ => fun
  | [d1, d2, d3] => { results := [.lit (.bool false)], args := [d1, d2, d3] }
  | _ => none }
def LeafgenAlikeWrongFalsely : Prop := leafgenAlikeRow.holds Try.pinned (OpenSpec.ofChange leafgenAlikeWrong)

/-- 'kedgelaw08.CoverLeaves': WHATEVER THE INPUT: true; the input reads as it did. -/
def coverLeavesSpec : ChangeSpec := { name := "coverLeaves", fn := fun _ => fun
  | [d1, d2] => { results := [.lit (.bool true)], args := [d1, d2] }
  | _ => none }
def coverLeavesRow : OpenClaim := { program := "ytdecgbgndffkkaa", sum := "9dcf9d9af5b0b0b7001058525db6df079b59f82b68952642784628070cce18d4", func := "kedge/kedgelaw08.CoverLeaves", spec := "coverLeaves", unfollowed := true, recurses := true, apart := false }
def CoverLeavesSaid : Prop := coverLeavesRow.holds Try.pinned (OpenSpec.ofChange coverLeavesSpec)

/-- ITS FALSE NEIGHBOUR: 'it returns false'. Refute it at one input. -/
def coverLeavesWrong : ChangeSpec := { name := "coverLeaves", fn := fun _ => fun
  | [d1, d2] => { results := [.lit (.bool false)], args := [d1, d2] }
  | _ => none }
def CoverLeavesWrongFalsely : Prop := coverLeavesRow.holds Try.pinned (OpenSpec.ofChange coverLeavesWrong)

/-- 'kedgelaw06.RibRoom': WHATEVER THE INPUT: true; the input reads as it did. -/
def ribRoomSpec : ChangeSpec := { name := "ribRoom", fn := fun _ => fun
  | [d1, d2, d3, d4] => { results := [.lit (.bool true)], args := [d1, d2, d3, d4] }
  | _ => none }
def ribRoomRow : OpenClaim := { program := "ytdecgbgndffkkaa", sum := "9dcf9d9af5b0b0b7001058525db6df079b59f82b68952642784628070cce18d4", func := "kedge/kedgelaw06.RibRoom", spec := "ribRoom", unfollowed := true, recurses := true, apart := false }
def RibRoomSaid : Prop := ribRoomRow.holds Try.pinned (OpenSpec.ofChange ribRoomSpec)

/-- ITS FALSE NEIGHBOUR: 'it returns false'. Refute it at one input. -/
def ribRoomWrong : ChangeSpec := { name := "ribRoom", fn := fun _ => fun
  | [d1, d2, d3, d4] => { results := [.lit (.bool false)], args := [d1, d2, d3, d4] }
  | _ => none }
def RibRoomWrongFalsely : Prop := ribRoomRow.holds Try.pinned (OpenSpec.ofChange ribRoomWrong)

/-- 'kedgelaw06.RibFull': WHATEVER THE INPUT: true; the input reads as it did. -/
def ribFullSpec : ChangeSpec := { name := "ribFull", fn := fun _ => fun
  | [d1, d2, d3, d4] => { results := [.lit (.bool true)], args := [d1, d2, d3, d4] }
  | _ => none }
def ribFullRow : OpenClaim := { program := "ytdecgbgndffkkaa", sum := "9dcf9d9af5b0b0b7001058525db6df079b59f82b68952642784628070cce18d4", func := "kedge/kedgelaw06.RibFull", spec := "ribFull", unfollowed := true, recurses := true, apart := false }
def RibFullSaid : Prop := ribFullRow.holds Try.pinned (OpenSpec.ofChange ribFullSpec)

/-- ITS FALSE NEIGHBOUR: 'it returns false'. Refute it at one input. -/
def ribFullWrong : ChangeSpec := { name := "ribFull", fn := fun _ => fun
  | [d1, d2, d3, d4] => { results := [.lit (.bool false)], args := [d1, d2, d3, d4] }
  | _ => none }
def RibFullWrongFalsely : Prop := ribFullRow.holds Try.pinned (OpenSpec.ofChange ribFullWrong)

/-- 'kedgelaw06.RibLongest': WHATEVER THE INPUT: true; the input reads as it did. -/
def ribLongestSpec : ChangeSpec := { name := "ribLongest", fn := fun _ => fun
  | [d1, d2, d3] => { results := [.lit (.bool true)], args := [d1, d2, d3] }
  | _ => none }
def ribLongestRow : OpenClaim := { program := "ytdecgbgndffkkaa", sum := "9dcf9d9af5b0b0b7001058525db6df079b59f82b68952642784628070cce18d4", func := "kedge/kedgelaw06.RibLongest", spec := "ribLongest", unfollowed := true, recurses := true, apart := false }
def RibLongestSaid : Prop := ribLongestRow.holds Try.pinned (OpenSpec.ofChange ribLongestSpec)

/-- ITS FALSE NEIGHBOUR: 'it returns false'. Refute it at one input. -/
def ribLongestWrong : ChangeSpec := { name := "ribLongest", fn := fun _ => fun
  | [d1, d2, d3] => { results := [.lit (.bool false)], args := [d1, d2, d3] }
  | _ => none }
def RibLongestWrongFalsely : Prop := ribLongestRow.holds Try.pinned (OpenSpec.ofChange ribLongestWrong)

/-- 'kedgelaw08.CoverWhole': WHATEVER THE INPUT: true; the input reads as it did. -/
def coverWholeSpec : ChangeSpec := { name := "coverWhole", fn := fun _ => fun
  | [d1, d2] => { results := [.lit (.bool true)], args := [d1, d2] }
  | _ => none }
def coverWholeRow : OpenClaim := { program := "ytdecgbgndffkkaa", sum := "9dcf9d9af5b0b0b7001058525db6df079b59f82b68952642784628070cce18d4", func := "kedge/kedgelaw08.CoverWhole", spec := "coverWhole", inPlace := ["math/bits.Add64"], unfollowed := true, recurses := true, apart := false }
def CoverWholeSaid : Prop := coverWholeRow.holds Try.pinned (OpenSpec.ofChange coverWholeSpec)

/-- ITS FALSE NEIGHBOUR: 'it returns false'. Refute it at one input. -/
def coverWholeWrong : ChangeSpec := { name := "coverWhole", fn := fun _ => fun
  | [d1, d2] => { results := [.lit (.bool false)], args := [d1, d2] }
  | _ => none }
def CoverWholeWrongFalsely : Prop := coverWholeRow.holds Try.pinned (OpenSpec.ofChange coverWholeWrong)

/-- 'kedgelaw16.FillsAsked': WHATEVER THE INPUT: true; the input reads as it did. -/
def fillsAskedSpec : ChangeSpec := { name := "fillsAsked", fn := fun _ => fun
  | [d1, d2, d3] => { results := [.lit (.bool true)], args := [d1, d2, d3] }
  | _ => none }
def fillsAskedRow : OpenClaim := { program := "ytdecgbgndffkkaa", sum := "9dcf9d9af5b0b0b7001058525db6df079b59f82b68952642784628070cce18d4", func := "kedge/kedgelaw16.FillsAsked", spec := "fillsAsked", unfollowed := true, recurses := true, apart := false }
def FillsAskedSaid : Prop := fillsAskedRow.holds Try.pinned (OpenSpec.ofChange fillsAskedSpec)

/-- ITS FALSE NEIGHBOUR: 'it returns false'. Refute it at one input. -/
def fillsAskedWrong : ChangeSpec := { name := "fillsAsked", fn := fun _ => fun
  | [d1, d2, d3] => { results := [.lit (.bool false)], args := [d1, d2, d3] }
  | _ => none }
def FillsAskedWrongFalsely : Prop := fillsAskedRow.holds Try.pinned (OpenSpec.ofChange fillsAskedWrong)

/-- 'kedgelaw08.CoverSqueezes': WHATEVER THE INPUT: true; the input reads as it did. -/
def coverSqueezesSpec : ChangeSpec := { name := "coverSqueezes", fn := fun _ => fun
  | [d1, d2] => { results := [.lit (.bool true)], args := [d1, d2] }
  | _ => none }
def coverSqueezesRow : OpenClaim := { program := "ytdecgbgndffkkaa", sum := "9dcf9d9af5b0b0b7001058525db6df079b59f82b68952642784628070cce18d4", func := "kedge/kedgelaw08.CoverSqueezes", spec := "coverSqueezes", unfollowed := true, recurses := true, apart := false }
def CoverSqueezesSaid : Prop := coverSqueezesRow.holds Try.pinned (OpenSpec.ofChange coverSqueezesSpec)

/-- ITS FALSE NEIGHBOUR: 'it returns false'. Refute it at one input. -/
def coverSqueezesWrong : ChangeSpec := { name := "coverSqueezes", fn := fun _ => fun
  | [d1, d2] => { results := [.lit (.bool false)], args := [d1, d2] }
  | _ => none }
def CoverSqueezesWrongFalsely : Prop := coverSqueezesRow.holds Try.pinned (OpenSpec.ofChange coverSqueezesWrong)

/-- 'kedgelaw08.CoverSame': WHATEVER THE INPUT: true; the input reads as it did. -/
def coverSameSpec : ChangeSpec := { name := "coverSame", fn := fun _ => fun
  | [d1, d2, d3] => { results := [.lit (.bool true)], args := [d1, d2, d3] }
  | _ => none }
def coverSameRow : OpenClaim := { program := "ytdecgbgndffkkaa", sum := "9dcf9d9af5b0b0b7001058525db6df079b59f82b68952642784628070cce18d4", func := "kedge/kedgelaw08.CoverSame", spec := "coverSame", unfollowed := true, recurses := true, apart := false }
def CoverSameSaid : Prop := coverSameRow.holds Try.pinned (OpenSpec.ofChange coverSameSpec)

/-- ITS FALSE NEIGHBOUR: 'it returns false'. Refute it at one input. -/
def coverSameWrong : ChangeSpec := { name := "coverSame", fn := fun _ => fun
  | [d1, d2, d3] => { results := [.lit (.bool false)], args := [d1, d2, d3] }
  | _ => none }
def CoverSameWrongFalsely : Prop := coverSameRow.holds Try.pinned (OpenSpec.ofChange coverSameWrong)

/-- 'kedgelaw16.FillsRenew': WHATEVER THE INPUT: true; the input reads as it did. -/
def fillsRenewSpec : ChangeSpec := { name := "fillsRenew", fn := fun _ => fun
  | [d1, d2] => { results := [.lit (.bool true)], args := [d1, d2] }
  | _ => none }
def fillsRenewRow : OpenClaim := { program := "ytdecgbgndffkkaa", sum := "9dcf9d9af5b0b0b7001058525db6df079b59f82b68952642784628070cce18d4", func := "kedge/kedgelaw16.FillsRenew", spec := "fillsRenew", unfollowed := true, recurses := true, apart := false }
def FillsRenewSaid : Prop := fillsRenewRow.holds Try.pinned (OpenSpec.ofChange fillsRenewSpec)

/-- ITS FALSE NEIGHBOUR: 'it returns false'. Refute it at one input. -/
def fillsRenewWrong : ChangeSpec := { name := "fillsRenew", fn := fun _ => fun
  | [d1, d2] => { results := [.lit (.bool false)], args := [d1, d2] }
  | _ => none }
def FillsRenewWrongFalsely : Prop := fillsRenewRow.holds Try.pinned (OpenSpec.ofChange fillsRenewWrong)

/-- 'kedgelaw16.FillsDelay': WHATEVER THE INPUT: true; the input reads as it did. -/
def fillsDelaySpec : ChangeSpec := { name := "fillsDelay", fn := fun _ => fun
  | [d1, d2, d3, d4] => { results := [.lit (.bool true)], args := [d1, d2, d3, d4] }
  | _ => none }
def fillsDelayRow : OpenClaim := { program := "ytdecgbgndffkkaa", sum := "9dcf9d9af5b0b0b7001058525db6df079b59f82b68952642784628070cce18d4", func := "kedge/kedgelaw16.FillsDelay", spec := "fillsDelay", unfollowed := true, recurses := true, apart := false }
def FillsDelaySaid : Prop := fillsDelayRow.holds Try.pinned (OpenSpec.ofChange fillsDelaySpec)

/-- ITS FALSE NEIGHBOUR: 'it returns false'. Refute it at one input. -/
def fillsDelayWrong : ChangeSpec := { name := "fillsDelay", fn := fun _ => fun
  | [d1, d2, d3, d4] => { results := [.lit (.bool false)], args := [d1, d2, d3, d4] }
  | _ => none }
def FillsDelayWrongFalsely : Prop := fillsDelayRow.holds Try.pinned (OpenSpec.ofChange fillsDelayWrong)

/-- 'kedgelaw16.FillsStay': WHATEVER THE INPUT: true; the input reads as it did. -/
def fillsStaySpec : ChangeSpec := { name := "fillsStay", fn := fun _ => fun
  | [d1, d2] => { results := [.lit (.bool true)], args := [d1, d2] }
  | _ => none }
def fillsStayRow : OpenClaim := { program := "ytdecgbgndffkkaa", sum := "9dcf9d9af5b0b0b7001058525db6df079b59f82b68952642784628070cce18d4", func := "kedge/kedgelaw16.FillsStay", spec := "fillsStay", unfollowed := true, recurses := true, apart := false }
def FillsStaySaid : Prop := fillsStayRow.holds Try.pinned (OpenSpec.ofChange fillsStaySpec)

/-- ITS FALSE NEIGHBOUR: 'it returns false'. Refute it at one input. -/
def fillsStayWrong : ChangeSpec := { name := "fillsStay", fn := fun _ => fun
  | [d1, d2] => { results := [.lit (.bool false)], args := [d1, d2] }
  | _ => none }
def FillsStayWrongFalsely : Prop := fillsStayRow.holds Try.pinned (OpenSpec.ofChange fillsStayWrong)

/-- 'kedgelaw06.RibErrors': WHATEVER THE INPUT: true; the input reads as it did. -/
def ribErrorsSpec : ChangeSpec := { name := "ribErrors", fn := fun _ => fun
  | [d1, d2, d3, d4] => { results := [.lit (.bool true)], args := [d1, d2, d3, d4] }
  | _ => none }
def ribErrorsRow : OpenClaim := { program := "ytdecgbgndffkkaa", sum := "9dcf9d9af5b0b0b7001058525db6df079b59f82b68952642784628070cce18d4", func := "kedge/kedgelaw06.RibErrors", spec := "ribErrors", unfollowed := true, recurses := true, apart := false }
def RibErrorsSaid : Prop := ribErrorsRow.holds Try.pinned (OpenSpec.ofChange ribErrorsSpec)

/-- ITS FALSE NEIGHBOUR: 'it returns false'. Refute it at one input. -/
def ribErrorsWrong : ChangeSpec := { name := "ribErrors", fn := fun _ => fun
  | [d1, d2, d3, d4] => { results := [.lit (.bool false)], args := [d1, d2, d3, d4] }
  | _ => none }
def RibErrorsWrongFalsely : Prop := ribErrorsRow.holds Try.pinned (OpenSpec.ofChange ribErrorsWrong)

/- THE SECOND FORM. 'bulk': how many values and letters a reading holds, each counted each time it is reached (what is shared counts as often as it is met; a slice's spare places count too). A statement '..UptoSaid' is the law's where the arguments, and the package variables that the reading takes, are together of bulk at most 1048576: NARROWER than '..Said'. Prove '..Said' where nothing that the law and all that it calls make is longer than what came in: it says more and counts as full. Else prove '..UptoSaid'. A law counts once. -/
mutual
def uptoBulk {H : Type} : DataW H → Nat
  | .lit (.string bytes) => bytes.length + 1
  | .lit _ => 1
  | .nil => 1
  | .ptr d => uptoBulk d + 1
  | .slice elems spare => uptoBulkAll elems + uptoBulkAll spare + 1
  | .agg parts => uptoBulkAll parts + 1
  | .iface _ d => uptoBulk d + 1
  | .map entries => uptoBulkEntries entries + 1
  | .held _ => 1
def uptoBulkAll {H : Type} : List (DataW H) → Nat
  | [] => 0
  | d :: r => uptoBulk d + uptoBulkAll r
def uptoBulkEntries {H : Type} : List (Lit × DataW H) → Nat
  | [] => 0
  | x :: r => uptoBulkEntry x + uptoBulkEntries r
def uptoBulkEntry {H : Type} : Lit × DataW H → Nat
  | (.string bytes, d) => bytes.length + uptoBulk d + 1
  | (_, d) => uptoBulk d + 1
 end
def uptoSmall : (H : Type) → List (DataW H) → Bool := fun _ ds => decide (uptoBulkAll ds ≤ 1048576)
def OpenSpec.upto (s : _root_.Go.ChangeSpec) : _root_.Go.OpenSpec := { _root_.Go.OpenSpec.ofChange s with cond := some uptoSmall }

/-- 'kedgelaw05.TrieLongest', WHERE WHAT IT READS IS OF BULK AT MOST 1048576: true; the input reads as it did. -/
def trieLongestUptoRow : OpenClaim := { program := "ytdecgbgndffkkaa", sum := "9dcf9d9af5b0b0b7001058525db6df079b59f82b68952642784628070cce18d4", func := "kedge/kedgelaw05.TrieLongest", spec := "trieLongest", unfollowed := true, recurses := true, apart := false, narrowed := true }
def TrieLongestUptoSaid : Prop := trieLongestUptoRow.holds Try.pinned (OpenSpec.upto trieLongestSpec)

/-- 'kedgelaw07.LeafgenMore', WHERE WHAT IT READS IS OF BULK AT MOST 1048576: true; the input reads as it did. -/
def leafgenMoreUptoRow : OpenClaim := { program := "ytdecgbgndffkkaa", sum := "9dcf9d9af5b0b0b7001058525db6df079b59f82b68952642784628070cce18d4", func := "kedge/kedgelaw07.LeafgenMore", spec := "leafgenMore", unfollowed := true, recurses := true, apart := false, narrowed := true }
def LeafgenMoreUptoSaid : Prop := leafgenMoreUptoRow.holds Try.pinned (OpenSpec.upto leafgenMoreSpec)

/-- 'kedgelaw08.CoverIs', WHERE WHAT IT READS IS OF BULK AT MOST 1048576: true; the input reads as it did. -/
def coverIsUptoRow : OpenClaim := { program := "ytdecgbgndffkkaa", sum := "9dcf9d9af5b0b0b7001058525db6df079b59f82b68952642784628070cce18d4", func := "kedge/kedgelaw08.CoverIs", spec := "coverIs", unfollowed := true, recurses := true, apart := false, narrowed := true }
def CoverIsUptoSaid : Prop := coverIsUptoRow.holds Try.pinned (OpenSpec.upto coverIsSpec)

/-- 'kedgelaw08.CoverMost', WHERE WHAT IT READS IS OF BULK AT MOST 1048576: true; the input reads as it did. -/
def coverMostUptoRow : OpenClaim := { program := "ytdecgbgndffkkaa", sum := "9dcf9d9af5b0b0b7001058525db6df079b59f82b68952642784628070cce18d4", func := "kedge/kedgelaw08.CoverMost", spec := "coverMost", unfollowed := true, recurses := true, apart := false, narrowed := true }
def CoverMostUptoSaid : Prop := coverMostUptoRow.holds Try.pinned (OpenSpec.upto coverMostSpec)

/-- 'kedgelaw07.LeafgenAlike', WHERE WHAT IT READS IS OF BULK AT MOST 1048576: true; the input reads as it did. -/
def leafgenAlikeUptoRow : OpenClaim := { program := "ytdecgbgndffkkaa", sum := "9dcf9d9af5b0b0b7001058525db6df079b59f82b68952642784628070cce18d4", func := "kedge/kedgelaw07.LeafgenAlike", spec := "leafgenAlike", unfollowed := true, recurses := true, apart := false, narrowed := true }
def LeafgenAlikeUptoSaid : Prop := leafgenAlikeUptoRow.holds Try.pinned (OpenSpec.upto leafgenAlikeSpec)

/-- 'kedgelaw08.CoverLeaves', WHERE WHAT IT READS IS OF BULK AT MOST 1048576: true; the input reads as it did. -/
def coverLeavesUptoRow : OpenClaim := { program := "ytdecgbgndffkkaa", sum := "9dcf9d9af5b0b0b7001058525db6df079b59f82b68952642784628070cce18d4", func := "kedge/kedgelaw08.CoverLeaves", spec := "coverLeaves", unfollowed := true, recurses := true, apart := false, narrowed := true }
def CoverLeavesUptoSaid : Prop := coverLeavesUptoRow.holds Try.pinned (OpenSpec.upto coverLeavesSpec)

/-- 'kedgelaw06.RibRoom', WHERE WHAT IT READS IS OF BULK AT MOST 1048576: true; the input reads as it did. -/
def ribRoomUptoRow : OpenClaim := { program := "ytdecgbgndffkkaa", sum := "9dcf9d9af5b0b0b7001058525db6df079b59f82b68952642784628070cce18d4", func := "kedge/kedgelaw06.RibRoom", spec := "ribRoom", unfollowed := true, recurses := true, apart := false, narrowed := true }
def RibRoomUptoSaid : Prop := ribRoomUptoRow.holds Try.pinned (OpenSpec.upto ribRoomSpec)

/-- 'kedgelaw06.RibFull', WHERE WHAT IT READS IS OF BULK AT MOST 1048576: true; the input reads as it did. -/
def ribFullUptoRow : OpenClaim := { program := "ytdecgbgndffkkaa", sum := "9dcf9d9af5b0b0b7001058525db6df079b59f82b68952642784628070cce18d4", func := "kedge/kedgelaw06.RibFull", spec := "ribFull", unfollowed := true, recurses := true, apart := false, narrowed := true }
def RibFullUptoSaid : Prop := ribFullUptoRow.holds Try.pinned (OpenSpec.upto ribFullSpec)

/-- 'kedgelaw06.RibLongest', WHERE WHAT IT READS IS OF BULK AT MOST 1048576: true; the input reads as it did. -/
def ribLongestUptoRow : OpenClaim := { program := "ytdecgbgndffkkaa", sum := "9dcf9d9af5b0b0b7001058525db6df079b59f82b68952642784628070cce18d4", func := "kedge/kedgelaw06.RibLongest", spec := "ribLongest", unfollowed := true, recurses := true, apart := false, narrowed := true }
def RibLongestUptoSaid : Prop := ribLongestUptoRow.holds Try.pinned (OpenSpec.upto ribLongestSpec)

/-- 'kedgelaw08.CoverWhole', WHERE WHAT IT READS IS OF BULK AT MOST 1048576: true; the input reads as it did. -/
def coverWholeUptoRow : OpenClaim := { program := "ytdecgbgndffkkaa", sum := "9dcf9d9af5b0b0b7001058525db6df079b59f82b68952642784628070cce18d4", func := "kedge/kedgelaw08.CoverWhole", spec := "coverWhole", inPlace := ["math/bits.Add64"], unfollowed := true, recurses := true, apart := false, narrowed := true }
def CoverWholeUptoSaid : Prop := coverWholeUptoRow.holds Try.pinned (OpenSpec.upto coverWholeSpec)

/-- 'kedgelaw16.FillsAsked', WHERE WHAT IT READS IS OF BULK AT MOST 1048576: true; the input reads as it did. -/
def fillsAskedUptoRow : OpenClaim := { program := "ytdecgbgndffkkaa", sum := "9dcf9d9af5b0b0b7001058525db6df079b59f82b68952642784628070cce18d4", func := "kedge/kedgelaw16.FillsAsked", spec := "fillsAsked", unfollowed := true, recurses := true, apart := false, narrowed := true }
def FillsAskedUptoSaid : Prop := fillsAskedUptoRow.holds Try.pinned (OpenSpec.upto fillsAskedSpec)

/-- 'kedgelaw08.CoverSqueezes', WHERE WHAT IT READS IS OF BULK AT MOST 1048576: true; the input reads as it did. -/
def coverSqueezesUptoRow : OpenClaim := { program := "ytdecgbgndffkkaa", sum := "9dcf9d9af5b0b0b7001058525db6df079b59f82b68952642784628070cce18d4", func := "kedge/kedgelaw08.CoverSqueezes", spec := "coverSqueezes", unfollowed := true, recurses := true, apart := false, narrowed := true }
def CoverSqueezesUptoSaid : Prop := coverSqueezesUptoRow.holds Try.pinned (OpenSpec.upto coverSqueezesSpec)

/-- 'kedgelaw08.CoverSame', WHERE WHAT IT READS IS OF BULK AT MOST 1048576: true; the input reads as it did. -/
def coverSameUptoRow : OpenClaim := { program := "ytdecgbgndffkkaa", sum := "9dcf9d9af5b0b0b7001058525db6df079b59f82b68952642784628070cce18d4", func := "kedge/kedgelaw08.CoverSame", spec := "coverSame", unfollowed := true, recurses := true, apart := false, narrowed := true }
def CoverSameUptoSaid : Prop := coverSameUptoRow.holds Try.pinned (OpenSpec.upto coverSameSpec)

/-- 'kedgelaw16.FillsRenew', WHERE WHAT IT READS IS OF BULK AT MOST 1048576: true; the input reads as it did. -/
def fillsRenewUptoRow : OpenClaim := { program := "ytdecgbgndffkkaa", sum := "9dcf9d9af5b0b0b7001058525db6df079b59f82b68952642784628070cce18d4", func := "kedge/kedgelaw16.FillsRenew", spec := "fillsRenew", unfollowed := true, recurses := true, apart := false, narrowed := true }
def FillsRenewUptoSaid : Prop := fillsRenewUptoRow.holds Try.pinned (OpenSpec.upto fillsRenewSpec)

/-- 'kedgelaw16.FillsDelay', WHERE WHAT IT READS IS OF BULK AT MOST 1048576: true; the input reads as it did. -/
def fillsDelayUptoRow : OpenClaim := { program := "ytdecgbgndffkkaa", sum := "9dcf9d9af5b0b0b7001058525db6df079b59f82b68952642784628070cce18d4", func := "kedge/kedgelaw16.FillsDelay", spec := "fillsDelay", unfollowed := true, recurses := true, apart := false, narrowed := true }
def FillsDelayUptoSaid : Prop := fillsDelayUptoRow.holds Try.pinned (OpenSpec.upto fillsDelaySpec)

/-- 'kedgelaw16.FillsStay', WHERE WHAT IT READS IS OF BULK AT MOST 1048576: true; the input reads as it did. -/
def fillsStayUptoRow : OpenClaim := { program := "ytdecgbgndffkkaa", sum := "9dcf9d9af5b0b0b7001058525db6df079b59f82b68952642784628070cce18d4", func := "kedge/kedgelaw16.FillsStay", spec := "fillsStay", unfollowed := true, recurses := true, apart := false, narrowed := true }
def FillsStayUptoSaid : Prop := fillsStayUptoRow.holds Try.pinned (OpenSpec.upto fillsStaySpec)

/-- 'kedgelaw06.RibErrors', WHERE WHAT IT READS IS OF BULK AT MOST 1048576: true; the input reads as it did. -/
def ribErrorsUptoRow : OpenClaim := { program := "ytdecgbgndffkkaa", sum := "9dcf9d9af5b0b0b7001058525db6df079b59f82b68952642784628070cce18d4", func := "kedge/kedgelaw06.RibErrors", spec := "ribErrors", unfollowed := true, recurses := true, apart := false, narrowed := true }
def RibErrorsUptoSaid : Prop := ribErrorsUptoRow.holds Try.pinned (OpenSpec.upto ribErrorsSpec)

end Rows
end Go.Proofs.Ytdecgbgndffkkaa

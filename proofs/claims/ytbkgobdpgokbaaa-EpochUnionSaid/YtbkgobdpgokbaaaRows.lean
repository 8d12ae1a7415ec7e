/-
  No cell of these rows narrows 'for every input' (looked for: loops, veiled, ifaces, maps, wideKeys, modest, calm, conditions, laid).
  DERIVED. THE GIVEN ROWS OF THIS SEAT. 7 by the template 'for every input the law returns true; each argument reads behind the call as it read before'; 0 by the template 'total and deterministic' (their statements: YtbkgobdpgokbaaaTotals.lean).
  GIVEN WITH THE SEED: the statements are not yours to turn. If you find one false, say at which input.
  Laid BY PROGRAM, IN A SANDBOX (cutbox-rows.mjs): the forced cells as the released guide's own fill.sh prints them over the translation a9c9dd08eda54b53… (all of the seat's roots in one cut). By AI agents, Wed Nov 11 2026. No macro, syntax, notation, axiom, sorry.
-/
import Derived.Test.YtbkgobdpgokbaaaChecked
import GoSem.Claim
import GoSem.ClaimJoined
import GoSem.ClaimMapViews
import Derived.JoinedTies
import Derived.KernelRfl
namespace Go.Proofs.Ytbkgobdpgokbaaa
/- THE CELL 'sum', in the pinned program and in every row, IS THE sha256 OF THE DUMP (.gsa) THAT YtbkgobdpgokbaaaProg.lean LOADS. Nothing in Lean hashes anything: it is a label: what it is worth is what the hold of that sum in a sandbox is worth. -/
noncomputable def Try.pinned : Pinned := { name := "ytbkgobdpgokbaaa", sum := "a9c9dd08eda54b53516e895a74e8f393a647e779ac2fd87bb255c00c9e406bbf", checked := Try.checked }
namespace Rows
def none {H : Type} : Left H := { results := [], args := [] }

/-- 'wapentakelaw7.EpochLater': WHATEVER THE INPUT: true; the input reads as it did. -/
def epochLaterSpec : ChangeSpec := { name := "epochLater", fn := fun _ => fun
  | [d1, d2, d3] => { results := [.lit (.bool true)], args := [d1, d2, d3] }
  | _ => none }
def epochLaterRow : OpenClaim := { program := "ytbkgobdpgokbaaa", sum := "a9c9dd08eda54b53516e895a74e8f393a647e779ac2fd87bb255c00c9e406bbf", func := "wapentake/wapentakelaw7.EpochLater", spec := "epochLater", inPlace := ["slices.overlaps[int]"], unfollowed := true, recurses := true, apart := false }
def EpochLaterSaid : Prop := epochLaterRow.holds Try.pinned (OpenSpec.ofChange epochLaterSpec)

/-- ITS FALSE NEIGHBOUR: 'it returns false'. Refute it at one input. -/
def epochLaterWrong : ChangeSpec := { name := "epochLater", fn := fun _ => fun
  | [d1, d2, d3] => { results := [.lit (.bool false)], args := [d1, d2, d3] }
  | _ => none }
def EpochLaterWrongFalsely : Prop := epochLaterRow.holds Try.pinned (OpenSpec.ofChange epochLaterWrong)

/-- 'wapentakelaw7.EpochCuts': WHATEVER THE INPUT: true; the input reads as it did. -/
def epochCutsSpec : ChangeSpec := { name := "epochCuts", fn := fun _ => fun
  | [d1, d2, d3] => { results := [.lit (.bool true)], args := [d1, d2, d3] }
  | _ => none }
def epochCutsRow : OpenClaim := { program := "ytbkgobdpgokbaaa", sum := "a9c9dd08eda54b53516e895a74e8f393a647e779ac2fd87bb255c00c9e406bbf", func := "wapentake/wapentakelaw7.EpochCuts", spec := "epochCuts", inPlace := ["slices.overlaps[int]"], unfollowed := true, recurses := true, apart := false }
def EpochCutsSaid : Prop := epochCutsRow.holds Try.pinned (OpenSpec.ofChange epochCutsSpec)

/-- ITS FALSE NEIGHBOUR: 'it returns false'. Refute it at one input. -/
def epochCutsWrong : ChangeSpec := { name := "epochCuts", fn := fun _ => fun
  | [d1, d2, d3] => { results := [.lit (.bool false)], args := [d1, d2, d3] }
  | _ => none }
def EpochCutsWrongFalsely : Prop := epochCutsRow.holds Try.pinned (OpenSpec.ofChange epochCutsWrong)

/-- 'wapentakelaw7.EpochLoads': WHATEVER THE INPUT: true; the input reads as it did. -/
def epochLoadsSpec : ChangeSpec := { name := "epochLoads", fn := fun _ => fun
  | [d1, d2, d3] => { results := [.lit (.bool true)], args := [d1, d2, d3] }
  | _ => none }
def epochLoadsRow : OpenClaim := { program := "ytbkgobdpgokbaaa", sum := "a9c9dd08eda54b53516e895a74e8f393a647e779ac2fd87bb255c00c9e406bbf", func := "wapentake/wapentakelaw7.EpochLoads", spec := "epochLoads", inPlace := ["slices.overlaps[int]"], unfollowed := true, recurses := true, apart := false }
def EpochLoadsSaid : Prop := epochLoadsRow.holds Try.pinned (OpenSpec.ofChange epochLoadsSpec)

/-- ITS FALSE NEIGHBOUR: 'it returns false'. Refute it at one input. -/
def epochLoadsWrong : ChangeSpec := { name := "epochLoads", fn := fun _ => fun
  | [d1, d2, d3] => { results := [.lit (.bool false)], args := [d1, d2, d3] }
  | _ => none }
def EpochLoadsWrongFalsely : Prop := epochLoadsRow.holds Try.pinned (OpenSpec.ofChange epochLoadsWrong)

/-- 'wapentakelaw7.EpochKnown': WHATEVER THE INPUT: true; the input reads as it did. -/
def epochKnownSpec : ChangeSpec := { name := "epochKnown", fn := fun _ => fun
  | [] => { results := [.lit (.bool true)], args := [] }
  | _ => none }
def epochKnownRow : OpenClaim := { program := "ytbkgobdpgokbaaa", sum := "a9c9dd08eda54b53516e895a74e8f393a647e779ac2fd87bb255c00c9e406bbf", func := "wapentake/wapentakelaw7.EpochKnown", spec := "epochKnown", inPlace := ["slices.overlaps[int]"], recurses := true, apart := false }
def EpochKnownSaid : Prop := epochKnownRow.holds Try.pinned (OpenSpec.ofChange epochKnownSpec)

/-- ITS FALSE NEIGHBOUR: 'it returns false'. Refute it at one input. -/
def epochKnownWrong : ChangeSpec := { name := "epochKnown", fn := fun _ => fun
  | [] => { results := [.lit (.bool false)], args := [] }
  | _ => none }
def EpochKnownWrongFalsely : Prop := epochKnownRow.holds Try.pinned (OpenSpec.ofChange epochKnownWrong)

/-- 'wapentakelaw7.EpochMeets': WHATEVER THE INPUT: true; the input reads as it did. -/
def epochMeetsSpec : ChangeSpec := { name := "epochMeets", fn := fun _ => fun
  | [d1, d2, d3] => { results := [.lit (.bool true)], args := [d1, d2, d3] }
  | _ => none }
def epochMeetsRow : OpenClaim := { program := "ytbkgobdpgokbaaa", sum := "a9c9dd08eda54b53516e895a74e8f393a647e779ac2fd87bb255c00c9e406bbf", func := "wapentake/wapentakelaw7.EpochMeets", spec := "epochMeets", inPlace := ["slices.overlaps[int]"], recurses := true, apart := false }
def EpochMeetsSaid : Prop := epochMeetsRow.holds Try.pinned (OpenSpec.ofChange epochMeetsSpec)

/-- ITS FALSE NEIGHBOUR: 'it returns false'. Refute it at one input. -/
def epochMeetsWrong : ChangeSpec := { name := "epochMeets", fn := fun _ => fun
  | [d1, d2, d3] => { results := [.lit (.bool false)], args := [d1, d2, d3] }
  | _ => none }
def EpochMeetsWrongFalsely : Prop := epochMeetsRow.holds Try.pinned (OpenSpec.ofChange epochMeetsWrong)

/-- 'wapentakelaw7.EpochUnion': WHATEVER THE INPUT: true; the input reads as it did. -/
def epochUnionSpec : ChangeSpec := { name := "epochUnion", fn := fun _ => fun
  | [d1, d2] => { results := [.lit (.bool true)], args := [d1, d2] }
  | _ => none }
def epochUnionRow : OpenClaim := { program := "ytbkgobdpgokbaaa", sum := "a9c9dd08eda54b53516e895a74e8f393a647e779ac2fd87bb255c00c9e406bbf", func := "wapentake/wapentakelaw7.EpochUnion", spec := "epochUnion", inPlace := ["slices.overlaps[int]"], unfollowed := true, recurses := true, apart := false }
def EpochUnionSaid : Prop := epochUnionRow.holds Try.pinned (OpenSpec.ofChange epochUnionSpec)

/-- ITS FALSE NEIGHBOUR: 'it returns false'. Refute it at one input. -/
def epochUnionWrong : ChangeSpec := { name := "epochUnion", fn := fun _ => fun
  | [d1, d2] => { results := [.lit (.bool false)], args := [d1, d2] }
  | _ => none }
def EpochUnionWrongFalsely : Prop := epochUnionRow.holds Try.pinned (OpenSpec.ofChange epochUnionWrong)

/-- 'wapentakelaw7.EpochPlays': WHATEVER THE INPUT: true; the input reads as it did. -/
def epochPlaysSpec : ChangeSpec := { name := "epochPlays", fn := fun _ => fun
  | [d1, d2, d3] => { results := [.lit (.bool true)], args := [d1, d2, d3] }
  | _ => none }
def epochPlaysRow : OpenClaim := { program := "ytbkgobdpgokbaaa", sum := "a9c9dd08eda54b53516e895a74e8f393a647e779ac2fd87bb255c00c9e406bbf", func := "wapentake/wapentakelaw7.EpochPlays", spec := "epochPlays", inPlace := ["slices.overlaps[int]"], unfollowed := true, recurses := true, apart := false }
def EpochPlaysSaid : Prop := epochPlaysRow.holds Try.pinned (OpenSpec.ofChange epochPlaysSpec)

/-- ITS FALSE NEIGHBOUR: 'it returns false'. Refute it at one input. -/
def epochPlaysWrong : ChangeSpec := { name := "epochPlays", fn := fun _ => fun
  | [d1, d2, d3] => { results := [.lit (.bool false)], args := [d1, d2, d3] }
  | _ => none }
def EpochPlaysWrongFalsely : Prop := epochPlaysRow.holds Try.pinned (OpenSpec.ofChange epochPlaysWrong)

/- THE SECOND FORM. 'bulk': how many values and letters a reading holds, each counted each time it is reached (what is shared counts as often as it is met; a slice's spare places count too). A statement '..UptoSaid' is the law's where the arguments, and the package variables that the reading takes, are together of bulk at most 1048576: NARROWER than '..Said'. Prove '..Said' where nothing that the law and all that it calls make is longer than what came in: it says more and counts as full. Else prove '..UptoSaid'. A law counts once. -/
mutual
def uptoBulk {H : Type} : DataW H → Nat
  | .lit (.string bytes) => bytes.length + 1
  | .lit _ => 1
  | .nil => 1
  | .ptr d => uptoBulk d + 1
  | .slice elems spare => uptoBulkAll elems + uptoBulkAll spare + 1
  | .agg parts => uptoBulkAll parts + 1
  | .iface _ d => uptoBulk d + 1
  | .map entries => uptoBulkEntries entries + 1
  | .held _ => 1
def uptoBulkAll {H : Type} : List (DataW H) → Nat
  | [] => 0
  | d :: r => uptoBulk d + uptoBulkAll r
def uptoBulkEntries {H : Type} : List (Lit × DataW H) → Nat
  | [] => 0
  | x :: r => uptoBulkEntry x + uptoBulkEntries r
def uptoBulkEntry {H : Type} : Lit × DataW H → Nat
  | (.string bytes, d) => bytes.length + uptoBulk d + 1
  | (_, d) => uptoBulk d + 1
 end
def uptoSmall : (H : Type) → List (DataW H) → Bool := fun _ ds => decide (uptoBulkAll ds ≤ 1048576)
def OpenSpec.upto (s : _root_.Go.ChangeSpec) : _root_.Go.OpenSpec := { _root_.Go.OpenSpec.ofChange s with cond := some uptoSmall }

/-- 'wapentakelaw7.EpochLater', WHERE WHAT IT READS IS OF BULK AT MOST 1048576: true; the input reads as it did. -/
def epochLaterUptoRow : OpenClaim := { program := "ytbkgobdpgokbaaa", sum := "a9c9dd08eda54b53516e895a74e8f393a647e779ac2fd87bb255c00c9e406bbf", func := "wapentake/wapentakelaw7.EpochLater", spec := "epochLater", inPlace := ["slices.overlaps[int]"], unfollowed := true, recurses := true, apart := false, narrowed := true }
def EpochLaterUptoSaid : Prop := epochLaterUptoRow.holds Try.pinned (OpenSpec.upto epochLaterSpec)

/-- 'wapentakelaw7.EpochCuts', WHERE WHAT IT READS IS OF BULK AT MOST 1048576: true; the input reads as it did. -/
def epochCutsUptoRow : OpenClaim := { program := "ytbkgobdpgokbaaa", sum := "a9c9dd08eda54b53516e895a74e8f393a647e779ac2fd87bb255c00c9e406bbf", func := "wapentake/wapentakelaw7.EpochCuts", spec := "epochCuts", inPlace := ["slices.overlaps[int]"], unfollowed := true, recurses := true, apart := false, narrowed := true }
def EpochCutsUptoSaid : Prop := epochCutsUptoRow.holds Try.pinned (OpenSpec.upto epochCutsSpec)

/-- 'wapentakelaw7.EpochLoads', WHERE WHAT IT READS IS OF BULK AT MOST 1048576: true; the input reads as it did. -/
def epochLoadsUptoRow : OpenClaim := { program := "ytbkgobdpgokbaaa", sum := "a9c9dd08eda54b53516e895a74e8f393a647e779ac2fd87bb255c00c9e406bbf", func := "wapentake/wapentakelaw7.EpochLoads", spec := "epochLoads", inPlace := ["slices.overlaps[int]"], unfollowed := true, recurses := true, apart := false, narrowed := true }
def EpochLoadsUptoSaid : Prop := epochLoadsUptoRow.holds Try.pinned (OpenSpec.upto epochLoadsSpec)

/-- 'wapentakelaw7.EpochKnown', WHERE WHAT IT READS IS OF BULK AT MOST 1048576: true; the input reads as it did. -/
def epochKnownUptoRow : OpenClaim := { program := "ytbkgobdpgokbaaa", sum := "a9c9dd08eda54b53516e895a74e8f393a647e779ac2fd87bb255c00c9e406bbf", func := "wapentake/wapentakelaw7.EpochKnown", spec := "epochKnown", inPlace := ["slices.overlaps[int]"], recurses := true, apart := false, narrowed := true }
def EpochKnownUptoSaid : Prop := epochKnownUptoRow.holds Try.pinned (OpenSpec.upto epochKnownSpec)

/-- 'wapentakelaw7.EpochMeets', WHERE WHAT IT READS IS OF BULK AT MOST 1048576: true; the input reads as it did. -/
def epochMeetsUptoRow : OpenClaim := { program := "ytbkgobdpgokbaaa", sum := "a9c9dd08eda54b53516e895a74e8f393a647e779ac2fd87bb255c00c9e406bbf", func := "wapentake/wapentakelaw7.EpochMeets", spec := "epochMeets", inPlace := ["slices.overlaps[int]"], recurses := true, apart := false, narrowed := true }
def EpochMeetsUptoSaid : Prop := epochMeetsUptoRow.holds Try.pinned (OpenSpec.upto epochMeetsSpec)

/-- 'wapentakelaw7.EpochUnion', WHERE WHAT IT READS IS OF BULK AT MOST 1048576: true; the input reads as it did. -/
def epochUnionUptoRow : OpenClaim := { program := "ytbkgobdpgokbaaa", sum := "a9c9dd08eda54b53516e895a74e8f393a647e779ac2fd87bb255c00c9e406bbf", func := "wapentake/wapentakelaw7.EpochUnion", spec := "epochUnion", inPlace := ["slices.overlaps[int]"], unfollowed := true, recurses := true, apart := false, narrowed := true }
def EpochUnionUptoSaid : Prop := epochUnionUptoRow.holds Try.pinned (OpenSpec.upto epochUnionSpec)

/-- 'wapentakelaw7.EpochPlays', WHERE WHAT IT READS IS OF BULK AT MOST 1048576: true; the input reads as it did. -/
def epochPlaysUptoRow : OpenClaim := { program := "ytbkgobdpgokbaaa", sum := "a9c9dd08eda54b53516e895a74e8f393a647e779ac2fd87bb255c00c9e406bbf", func := "wapentake/wapentakelaw7.EpochPlays", spec := "epochPlays", inPlace := ["slices.overlaps[int]"], unfollowed := true, recurses := true, apart := false, narrowed := true }
def EpochPlaysUptoSaid : Prop := epochPlaysUptoRow.holds Try.pinned (OpenSpec.upto epochPlaysSpec)

end Rows
end Go.Proofs.Ytbkgobdpgokbaaa

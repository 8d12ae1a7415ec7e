/-
  No cell of these rows narrows 'for every input' (looked for: loops, veiled, ifaces, maps, wideKeys, modest, calm, conditions, laid).
  DERIVED. THE GIVEN ROWS OF THIS SEAT. 5 by the template 'for every input the law returns true; each argument reads behind the call as it read before'; 0 by the template 'total and deterministic' (their statements: YthlgnilgjeebaaaTotals.lean).
  GIVEN WITH THE SEED: the statements are not yours to turn. If you find one false, say at which input.
  Laid BY PROGRAM, IN A SANDBOX (cutbox-rows.mjs): the forced cells as the released guide's own fill.sh prints them over the translation 2de4697a286e4073… (all of the seat's roots in one cut). By AI agents, Wed Nov 11 2026. No macro, syntax, notation, axiom, sorry.
-/
import Derived.Test.YthlgnilgjeebaaaChecked
import GoSem.Claim
import GoSem.ClaimJoined
import GoSem.ClaimMapViews
import Derived.JoinedTies
import Derived.KernelRfl
namespace Go.Proofs.Ythlgnilgjeebaaa
/- THE CELL 'sum', in the pinned program and in every row, IS THE sha256 OF THE DUMP (.gsa) THAT YthlgnilgjeebaaaProg.lean LOADS. Nothing in Lean hashes anything: it is a label: what it is worth is what the hold of that sum in a sandbox is worth. -/
noncomputable def Try.pinned : Pinned := { name := "ythlgnilgjeebaaa", sum := "2de4697a286e4073967c8d5895e54952754fe78ce45498fbd27221c8ab631ffa", checked := Try.checked }
namespace Rows
def none {H : Type} : Left H := { results := [], args := [] }

/-- 'wapentakelaw16.TallyOrders': WHATEVER THE INPUT: true; the input reads as it did. -/
def tallyOrdersSpec : ChangeSpec := { name := "tallyOrders", fn := fun _ => fun
  | [d1, d2] => { results := [.lit (.bool true)], args := [d1, d2] }
  | _ => none }
def tallyOrdersRow : OpenClaim := { program := "ythlgnilgjeebaaa", sum := "2de4697a286e4073967c8d5895e54952754fe78ce45498fbd27221c8ab631ffa", func := "wapentake/wapentakelaw16.TallyOrders", spec := "tallyOrders", unfollowed := true, recurses := true, plainKeys := false, apart := false }
def TallyOrdersSaid : Prop := tallyOrdersRow.holds Try.pinned (OpenSpec.ofChange tallyOrdersSpec)

/-- ITS FALSE NEIGHBOUR: 'it returns false'. Refute it at one input. -/
def tallyOrdersWrong : ChangeSpec := { name := "tallyOrders", fn := fun _ => fun
  | [d1, d2] => { results := [.lit (.bool false)], args := [d1, d2] }
  | _ => none }
def TallyOrdersWrongFalsely : Prop := tallyOrdersRow.holds Try.pinned (OpenSpec.ofChange tallyOrdersWrong)

/-- 'wapentakelaw16.TallyChosen': WHATEVER THE INPUT: true; the input reads as it did. -/
def tallyChosenSpec : ChangeSpec := { name := "tallyChosen", fn := fun _ => fun
  | [d1, d2, d3] => { results := [.lit (.bool true)], args := [d1, d2, d3] }
  | _ => none }
def tallyChosenRow : OpenClaim := { program := "ythlgnilgjeebaaa", sum := "2de4697a286e4073967c8d5895e54952754fe78ce45498fbd27221c8ab631ffa", func := "wapentake/wapentakelaw16.TallyChosen", spec := "tallyChosen", unfollowed := true, recurses := true, plainKeys := false, apart := false }
def TallyChosenSaid : Prop := tallyChosenRow.holds Try.pinned (OpenSpec.ofChange tallyChosenSpec)

/-- ITS FALSE NEIGHBOUR: 'it returns false'. Refute it at one input. -/
def tallyChosenWrong : ChangeSpec := { name := "tallyChosen", fn := fun _ => fun
  | [d1, d2, d3] => { results := [.lit (.bool false)], args := [d1, d2, d3] }
  | _ => none }
def TallyChosenWrongFalsely : Prop := tallyChosenRow.holds Try.pinned (OpenSpec.ofChange tallyChosenWrong)

/-- 'wapentakelaw16.TallyPlays': WHATEVER THE INPUT: true; the input reads as it did. -/
def tallyPlaysSpec : ChangeSpec := { name := "tallyPlays", fn := fun _ => fun
  | [d1, d2, d3] => { results := [.lit (.bool true)], args := [d1, d2, d3] }
  | _ => none }
def tallyPlaysRow : OpenClaim := { program := "ythlgnilgjeebaaa", sum := "2de4697a286e4073967c8d5895e54952754fe78ce45498fbd27221c8ab631ffa", func := "wapentake/wapentakelaw16.TallyPlays", spec := "tallyPlays", unfollowed := true, recurses := true, plainKeys := false, apart := false }
def TallyPlaysSaid : Prop := tallyPlaysRow.holds Try.pinned (OpenSpec.ofChange tallyPlaysSpec)

/-- ITS FALSE NEIGHBOUR: 'it returns false'. Refute it at one input. -/
def tallyPlaysWrong : ChangeSpec := { name := "tallyPlays", fn := fun _ => fun
  | [d1, d2, d3] => { results := [.lit (.bool false)], args := [d1, d2, d3] }
  | _ => none }
def TallyPlaysWrongFalsely : Prop := tallyPlaysRow.holds Try.pinned (OpenSpec.ofChange tallyPlaysWrong)

/-- 'wapentakelaw16.TallyCounts': WHATEVER THE INPUT: true; the input reads as it did. -/
def tallyCountsSpec : ChangeSpec := { name := "tallyCounts", fn := fun _ => fun
  | [d1, d2, d3] => { results := [.lit (.bool true)], args := [d1, d2, d3] }
  | _ => none }
def tallyCountsRow : OpenClaim := { program := "ythlgnilgjeebaaa", sum := "2de4697a286e4073967c8d5895e54952754fe78ce45498fbd27221c8ab631ffa", func := "wapentake/wapentakelaw16.TallyCounts", spec := "tallyCounts", unfollowed := true, recurses := true, plainKeys := false, apart := false }
def TallyCountsSaid : Prop := tallyCountsRow.holds Try.pinned (OpenSpec.ofChange tallyCountsSpec)

/-- ITS FALSE NEIGHBOUR: 'it returns false'. Refute it at one input. -/
def tallyCountsWrong : ChangeSpec := { name := "tallyCounts", fn := fun _ => fun
  | [d1, d2, d3] => { results := [.lit (.bool false)], args := [d1, d2, d3] }
  | _ => none }
def TallyCountsWrongFalsely : Prop := tallyCountsRow.holds Try.pinned (OpenSpec.ofChange tallyCountsWrong)

/-- 'wapentakelaw16.TallyKnown': WHATEVER THE INPUT: true; the input reads as it did. -/
def tallyKnownSpec : ChangeSpec := { name := "tallyKnown", fn := fun _ => fun
  | [] => { results := [.lit (.bool true)], args := [] }
  | _ => none }
def tallyKnownRow : OpenClaim := { program := "ythlgnilgjeebaaa", sum := "2de4697a286e4073967c8d5895e54952754fe78ce45498fbd27221c8ab631ffa", func := "wapentake/wapentakelaw16.TallyKnown", spec := "tallyKnown", unfollowed := true, recurses := true, plainKeys := false, apart := false }
def TallyKnownSaid : Prop := tallyKnownRow.holds Try.pinned (OpenSpec.ofChange tallyKnownSpec)

/-- ITS FALSE NEIGHBOUR: 'it returns false'. Refute it at one input. -/
def tallyKnownWrong : ChangeSpec := { name := "tallyKnown", fn := fun _ => fun
  | [] => { results := [.lit (.bool false)], args := [] }
  | _ => none }
def TallyKnownWrongFalsely : Prop := tallyKnownRow.holds Try.pinned (OpenSpec.ofChange tallyKnownWrong)

/- THE SECOND FORM. 'bulk': how many values and letters a reading holds, each counted each time it is reached (what is shared counts as often as it is met; a slice's spare places count too). A statement '..UptoSaid' is the law's where the arguments, and the package variables that the reading takes, are together of bulk at most 1048576: NARROWER than '..Said'. Prove '..Said' where nothing that the law and all that it calls make is longer than what came in: it says more and counts as full. Else prove '..UptoSaid'. A law counts once. -/
mutual
def uptoBulk {H : Type} : DataW H → Nat
  | .lit (.string bytes) => bytes.length + 1
  | .lit _ => 1
  | .nil => 1
  | .ptr d => uptoBulk d + 1
  | .slice elems spare => uptoBulkAll elems + uptoBulkAll spare + 1
  | .agg parts => uptoBulkAll parts + 1
  | .iface _ d => uptoBulk d + 1
  | .map entries => uptoBulkEntries entries + 1
  | .held _ => 1
def uptoBulkAll {H : Type} : List (DataW H) → Nat
  | [] => 0
  | d :: r => uptoBulk d + uptoBulkAll r
def uptoBulkEntries {H : Type} : List (Lit × DataW H) → Nat
  | [] => 0
  | x :: r => uptoBulkEntry x + uptoBulkEntries r
def uptoBulkEntry {H : Type} : Lit × DataW H → Nat
  | (.string bytes, d) => bytes.length + uptoBulk d + 1
  | (_, d) => uptoBulk d + 1
 end
def uptoSmall : (H : Type) → List (DataW H) → Bool := fun _ ds => decide (uptoBulkAll ds ≤ 1048576)
def OpenSpec.upto (s : _root_.Go.ChangeSpec) : _root_.Go.OpenSpec := { _root_.Go.OpenSpec.ofChange s with cond := some uptoSmall }

/-- 'wapentakelaw16.TallyOrders', WHERE WHAT IT READS IS OF BULK AT MOST 1048576: true; the input reads as it did. -/
def tallyOrdersUptoRow : OpenClaim := { program := "ythlgnilgjeebaaa", sum := "2de4697a286e4073967c8d5895e54952754fe78ce45498fbd27221c8ab631ffa", func := "wapentake/wapentakelaw16.TallyOrders", spec := "tallyOrders", unfollowed := true, recurses := true, plainKeys := false, apart := false, narrowed := true }
def TallyOrdersUptoSaid : Prop := tallyOrdersUptoRow.holds Try.pinned (OpenSpec.upto tallyOrdersSpec)

/-- 'wapentakelaw16.TallyChosen', WHERE WHAT IT READS IS OF BULK AT MOST 1048576: true; the input reads as it did. -/
def tallyChosenUptoRow : OpenClaim := { program := "ythlgnilgjeebaaa", sum := "2de4697a286e4073967c8d5895e54952754fe78ce45498fbd27221c8ab631ffa", func := "wapentake/wapentakelaw16.TallyChosen", spec := "tallyChosen", unfollowed := true, recurses := true, plainKeys := false, apart := false, narrowed := true }
def TallyChosenUptoSaid : Prop := tallyChosenUptoRow.holds Try.pinned (OpenSpec.upto tallyChosenSpec)

/-- 'wapentakelaw16.TallyPlays', WHERE WHAT IT READS IS OF BULK AT MOST 1048576: true; the input reads as it did. -/
def tallyPlaysUptoRow : OpenClaim := { program := "ythlgnilgjeebaaa", sum := "2de4697a286e4073967c8d5895e54952754fe78ce45498fbd27221c8ab631ffa", func := "wapentake/wapentakelaw16.TallyPlays", spec := "tallyPlays", unfollowed := true, recurses := true, plainKeys := false, apart := false, narrowed := true }
def TallyPlaysUptoSaid : Prop := tallyPlaysUptoRow.holds Try.pinned (OpenSpec.upto tallyPlaysSpec)

/-- 'wapentakelaw16.TallyCounts', WHERE WHAT IT READS IS OF BULK AT MOST 1048576: true; the input reads as it did. -/
def tallyCountsUptoRow : OpenClaim := { program := "ythlgnilgjeebaaa", sum := "2de4697a286e4073967c8d5895e54952754fe78ce45498fbd27221c8ab631ffa", func := "wapentake/wapentakelaw16.TallyCounts", spec := "tallyCounts", unfollowed := true, recurses := true, plainKeys := false, apart := false, narrowed := true }
def TallyCountsUptoSaid : Prop := tallyCountsUptoRow.holds Try.pinned (OpenSpec.upto tallyCountsSpec)

/-- 'wapentakelaw16.TallyKnown', WHERE WHAT IT READS IS OF BULK AT MOST 1048576: true; the input reads as it did. -/
def tallyKnownUptoRow : OpenClaim := { program := "ythlgnilgjeebaaa", sum := "2de4697a286e4073967c8d5895e54952754fe78ce45498fbd27221c8ab631ffa", func := "wapentake/wapentakelaw16.TallyKnown", spec := "tallyKnown", unfollowed := true, recurses := true, plainKeys := false, apart := false, narrowed := true }
def TallyKnownUptoSaid : Prop := tallyKnownUptoRow.holds Try.pinned (OpenSpec.upto tallyKnownSpec)

end Rows
end Go.Proofs.Ythlgnilgjeebaaa

/-
  No cell of these rows narrows 'for every input' (looked for: loops, veiled, ifaces, maps, wideKeys, modest, calm, conditions, laid).
  DERIVED. THE GIVEN ROWS OF THIS SEAT. 7 by the template 'for every input the law returns true; each argument reads behind the call as it read before'; 0 by the template 'total and deterministic' (their statements: YtbfdnhffcdbidaaTotals.lean).
  GIVEN WITH THE SEED: the statements are not yours to turn. If you find one false, say at which input.
  Laid BY PROGRAM, IN A SANDBOX (cutbox-rows.mjs): the forced cells as the released guide's own fill.sh prints them over the translation a619aff5742af1d4… (all of the seat's roots in one cut). By AI agents, Wed Nov 11 2026. No macro, syntax, notation, axiom, sorry.
-/
import Derived.Test.YtbfdnhffcdbidaaChecked
import GoSem.Claim
import GoSem.ClaimJoined
import GoSem.ClaimMapViews
import Derived.JoinedTies
import Derived.KernelRfl
namespace Go.Proofs.Ytbfdnhffcdbidaa
/- THE CELL 'sum', in the pinned program and in every row, IS THE sha256 OF THE DUMP (.gsa) THAT YtbfdnhffcdbidaaProg.lean LOADS. Nothing in Lean hashes anything: it is a label: what it is worth is what the hold of that sum in a sandbox is worth. -/
noncomputable def Try.pinned : Pinned := { name := "ytbfdnhffcdbidaa", sum := "a619aff5742af1d459d9f833f3efd8b7e6c50b5c5a8d0ff8c2fea19037524ed0", checked := Try.checked }
namespace Rows
def none {H : Type} : Left H := { results := [], args := [] }

/-- 'wapentakelaw1.CodecOne': WHATEVER THE INPUT: true; the input reads as it did. -/
def codecOneSpec : ChangeSpec := { name := "codecOne", fn := fun _ => fun
  | [d] => { results := [.lit (.bool true)], args := [d] }
  | _ => none }
def codecOneRow : OpenClaim := { program := "ytbfdnhffcdbidaa", sum := "a619aff5742af1d459d9f833f3efd8b7e6c50b5c5a8d0ff8c2fea19037524ed0", func := "wapentake/wapentakelaw1.CodecOne", spec := "codecOne", unfollowed := true, recurses := true, apart := false }
def CodecOneSaid : Prop := codecOneRow.holds Try.pinned (OpenSpec.ofChange codecOneSpec)

/-- ITS FALSE NEIGHBOUR: 'it returns false'. Refute it at one input. -/
def codecOneWrong : ChangeSpec := { name := "codecOne", fn := fun _ => fun
  | [d] => { results := [.lit (.bool false)], args := [d] }
  | _ => none }
def CodecOneWrongFalsely : Prop := codecOneRow.holds Try.pinned (OpenSpec.ofChange codecOneWrong)

/-- 'wapentakelaw1.CodecWrites': WHATEVER THE INPUT: true; the input reads as it did. -/
def codecWritesSpec : ChangeSpec := { name := "codecWrites", fn := fun _ => fun
  | [d] => { results := [.lit (.bool true)], args := [d] }
  | _ => none }
def codecWritesRow : OpenClaim := { program := "ytbfdnhffcdbidaa", sum := "a619aff5742af1d459d9f833f3efd8b7e6c50b5c5a8d0ff8c2fea19037524ed0", func := "wapentake/wapentakelaw1.CodecWrites", spec := "codecWrites", unfollowed := true, recurses := true, apart := false }
def CodecWritesSaid : Prop := codecWritesRow.holds Try.pinned (OpenSpec.ofChange codecWritesSpec)

/-- ITS FALSE NEIGHBOUR: 'it returns false'. Refute it at one input. -/
def codecWritesWrong : ChangeSpec := { name := "codecWrites", fn := fun _ => fun
  | [d] => { results := [.lit (.bool false)], args := [d] }
  | _ => none }
def CodecWritesWrongFalsely : Prop := codecWritesRow.holds Try.pinned (OpenSpec.ofChange codecWritesWrong)

/-- 'wapentakelaw1.CodecReads': WHATEVER THE INPUT: true; the input reads as it did. -/
def codecReadsSpec : ChangeSpec := { name := "codecReads", fn := fun _ => fun
  | [d1, d2] => { results := [.lit (.bool true)], args := [d1, d2] }
  | _ => none }
def codecReadsRow : OpenClaim := { program := "ytbfdnhffcdbidaa", sum := "a619aff5742af1d459d9f833f3efd8b7e6c50b5c5a8d0ff8c2fea19037524ed0", func := "wapentake/wapentakelaw1.CodecReads", spec := "codecReads", unfollowed := true, recurses := true, apart := false }
def CodecReadsSaid : Prop := codecReadsRow.holds Try.pinned (OpenSpec.ofChange codecReadsSpec)

/-- ITS FALSE NEIGHBOUR: 'it returns false'. Refute it at one input. -/
def codecReadsWrong : ChangeSpec := { name := "codecReads", fn := fun _ => fun
  | [d1, d2] => { results := [.lit (.bool false)], args := [d1, d2] }
  | _ => none }
def CodecReadsWrongFalsely : Prop := codecReadsRow.holds Try.pinned (OpenSpec.ofChange codecReadsWrong)

/-- 'wapentakelaw1.CodecFrames': WHATEVER THE INPUT: true; the input reads as it did. -/
def codecFramesSpec : ChangeSpec := { name := "codecFrames", fn := fun _ => fun
  | [d1, d2] => { results := [.lit (.bool true)], args := [d1, d2] }
  | _ => none }
def codecFramesRow : OpenClaim := { program := "ytbfdnhffcdbidaa", sum := "a619aff5742af1d459d9f833f3efd8b7e6c50b5c5a8d0ff8c2fea19037524ed0", func := "wapentake/wapentakelaw1.CodecFrames", spec := "codecFrames", unfollowed := true, recurses := true, apart := false }
def CodecFramesSaid : Prop := codecFramesRow.holds Try.pinned (OpenSpec.ofChange codecFramesSpec)

/-- ITS FALSE NEIGHBOUR: 'it returns false'. Refute it at one input. -/
def codecFramesWrong : ChangeSpec := { name := "codecFrames", fn := fun _ => fun
  | [d1, d2] => { results := [.lit (.bool false)], args := [d1, d2] }
  | _ => none }
def CodecFramesWrongFalsely : Prop := codecFramesRow.holds Try.pinned (OpenSpec.ofChange codecFramesWrong)

/-- 'wapentakelaw1.CodecTorn': WHATEVER THE INPUT: true; the input reads as it did. -/
def codecTornSpec : ChangeSpec := { name := "codecTorn", fn := fun _ => fun
  | [d1, d2, d3] => { results := [.lit (.bool true)], args := [d1, d2, d3] }
  | _ => none }
def codecTornRow : OpenClaim := { program := "ytbfdnhffcdbidaa", sum := "a619aff5742af1d459d9f833f3efd8b7e6c50b5c5a8d0ff8c2fea19037524ed0", func := "wapentake/wapentakelaw1.CodecTorn", spec := "codecTorn", unfollowed := true, recurses := true, apart := false }
def CodecTornSaid : Prop := codecTornRow.holds Try.pinned (OpenSpec.ofChange codecTornSpec)

/-- ITS FALSE NEIGHBOUR: 'it returns false'. Refute it at one input. -/
def codecTornWrong : ChangeSpec := { name := "codecTorn", fn := fun _ => fun
  | [d1, d2, d3] => { results := [.lit (.bool false)], args := [d1, d2, d3] }
  | _ => none }
def CodecTornWrongFalsely : Prop := codecTornRow.holds Try.pinned (OpenSpec.ofChange codecTornWrong)

/-- 'wapentakelaw1.CodecBack': WHATEVER THE INPUT: true; the input reads as it did. -/
def codecBackSpec : ChangeSpec := { name := "codecBack", fn := fun _ => fun
  | [d] => { results := [.lit (.bool true)], args := [d] }
  | _ => none }
def codecBackRow : OpenClaim := { program := "ytbfdnhffcdbidaa", sum := "a619aff5742af1d459d9f833f3efd8b7e6c50b5c5a8d0ff8c2fea19037524ed0", func := "wapentake/wapentakelaw1.CodecBack", spec := "codecBack", unfollowed := true, recurses := true, apart := false }
def CodecBackSaid : Prop := codecBackRow.holds Try.pinned (OpenSpec.ofChange codecBackSpec)

/-- ITS FALSE NEIGHBOUR: 'it returns false'. Refute it at one input. -/
def codecBackWrong : ChangeSpec := { name := "codecBack", fn := fun _ => fun
  | [d] => { results := [.lit (.bool false)], args := [d] }
  | _ => none }
def CodecBackWrongFalsely : Prop := codecBackRow.holds Try.pinned (OpenSpec.ofChange codecBackWrong)

/-- 'wapentakelaw1.CodecFails': WHATEVER THE INPUT: true; the input reads as it did. -/
def codecFailsSpec : ChangeSpec := { name := "codecFails", fn := fun _ => fun
  | [d1, d2, d3] => { results := [.lit (.bool true)], args := [d1, d2, d3] }
  | _ => none }
def codecFailsRow : OpenClaim := { program := "ytbfdnhffcdbidaa", sum := "a619aff5742af1d459d9f833f3efd8b7e6c50b5c5a8d0ff8c2fea19037524ed0", func := "wapentake/wapentakelaw1.CodecFails", spec := "codecFails", unfollowed := true, recurses := true, apart := false }
def CodecFailsSaid : Prop := codecFailsRow.holds Try.pinned (OpenSpec.ofChange codecFailsSpec)

/-- ITS FALSE NEIGHBOUR: 'it returns false'. Refute it at one input. -/
def codecFailsWrong : ChangeSpec := { name := "codecFails", fn := fun _ => fun
  | [d1, d2, d3] => { results := [.lit (.bool false)], args := [d1, d2, d3] }
  | _ => none }
def CodecFailsWrongFalsely : Prop := codecFailsRow.holds Try.pinned (OpenSpec.ofChange codecFailsWrong)

/- THE SECOND FORM. 'bulk': how many values and letters a reading holds, each counted each time it is reached (what is shared counts as often as it is met; a slice's spare places count too). A statement '..UptoSaid' is the law's where the arguments, and the package variables that the reading takes, are together of bulk at most 1048576: NARROWER than '..Said'. Prove '..Said' where nothing that the law and all that it calls make is longer than what came in: it says more and counts as full. Else prove '..UptoSaid'. A law counts once. -/
mutual
def uptoBulk {H : Type} : DataW H → Nat
  | .lit (.string bytes) => bytes.length + 1
  | .lit _ => 1
  | .nil => 1
  | .ptr d => uptoBulk d + 1
  | .slice elems spare => uptoBulkAll elems + uptoBulkAll spare + 1
  | .agg parts => uptoBulkAll parts + 1
  | .iface _ d => uptoBulk d + 1
  | .map entries => uptoBulkEntries entries + 1
  | .held _ => 1
def uptoBulkAll {H : Type} : List (DataW H) → Nat
  | [] => 0
  | d :: r => uptoBulk d + uptoBulkAll r
def uptoBulkEntries {H : Type} : List (Lit × DataW H) → Nat
  | [] => 0
  | x :: r => uptoBulkEntry x + uptoBulkEntries r
def uptoBulkEntry {H : Type} : Lit × DataW H → Nat
  | (.string bytes, d) => bytes.length + uptoBulk d + 1
  | (_, d) => uptoBulk d + 1
 end
def uptoSmall : (H : Type) → List (DataW H) → Bool := fun _ ds => decide (uptoBulkAll ds ≤ 1048576)
def OpenSpec.upto (s : _root_.Go.ChangeSpec) : _root_.Go.OpenSpec := { _root_.Go.OpenSpec.ofChange s with cond := some uptoSmall }

/-- 'wapentakelaw1.CodecOne', WHERE WHAT IT READS IS OF BULK AT MOST 1048576: true; the input reads as it did. -/
def codecOneUptoRow : OpenClaim := { program := "ytbfdnhffcdbidaa", sum := "a619aff5742af1d459d9f833f3efd8b7e6c50b5c5a8d0ff8c2fea19037524ed0", func := "wapentake/wapentakelaw1.CodecOne", spec := "codecOne", unfollowed := true, recurses := true, apart := false, narrowed := true }
def CodecOneUptoSaid : Prop := codecOneUptoRow.holds Try.pinned (OpenSpec.upto codecOneSpec)

/-- 'wapentakelaw1.CodecWrites', WHERE WHAT IT READS IS OF BULK AT MOST 1048576: true; the input reads as it did. -/
def codecWritesUptoRow : OpenClaim := { program := "ytbfdnhffcdbidaa", sum := "a619aff5742af1d459d9f833f3efd8b7e6c50b5c5a8d0ff8c2fea19037524ed0", func := "wapentake/wapentakelaw1.CodecWrites", spec := "codecWrites", unfollowed := true, recurses := true, apart := false, narrowed := true }
def CodecWritesUptoSaid : Prop := codecWritesUptoRow.holds Try.pinned (OpenSpec.upto codecWritesSpec)

/-- 'wapentakelaw1.CodecReads', WHERE WHAT IT READS IS OF BULK AT MOST 1048576: true; the input reads as it did. -/
def codecReadsUptoRow : OpenClaim := { program := "ytbfdnhffcdbidaa", sum := "a619aff5742af1d459d9f833f3efd8b7e6c50b5c5a8d0ff8c2fea19037524ed0", func := "wapentake/wapentakelaw1.CodecReads", spec := "codecReads", unfollowed := true, recurses := true, apart := false, narrowed := true }
def CodecReadsUptoSaid : Prop := codecReadsUptoRow.holds Try.pinned (OpenSpec.upto codecReadsSpec)

/-- 'wapentakelaw1.CodecFrames', WHERE WHAT IT READS IS OF BULK AT MOST 1048576: true; the input reads as it did. -/
def codecFramesUptoRow : OpenClaim := { program := "ytbfdnhffcdbidaa", sum := "a619aff5742af1d459d9f833f3efd8b7e6c50b5c5a8d0ff8c2fea19037524ed0", func := "wapentake/wapentakelaw1.CodecFrames", spec := "codecFrames", unfollowed := true, recurses := true, apart := false, narrowed := true }
def CodecFramesUptoSaid : Prop := codecFramesUptoRow.holds Try.pinned (OpenSpec.upto codecFramesSpec)

/-- 'wapentakelaw1.CodecTorn', WHERE WHAT IT READS IS OF BULK AT MOST 1048576: true; the input reads as it did. -/
def codecTornUptoRow : OpenClaim := { program := "ytbfdnhffcdbidaa", sum := "a619aff5742af1d459d9f833f3efd8b7e6c50b5c5a8d0ff8c2fea19037524ed0", func := "wapentake/wapentakelaw1.CodecTorn", spec := "codecTorn", unfollowed := true, recurses := true, apart := false, narrowed := true }
def CodecTornUptoSaid : Prop := codecTornUptoRow.holds Try.pinned (OpenSpec.upto codecTornSpec)

/-- 'wapentakelaw1.CodecBack', WHERE WHAT IT READS IS OF BULK AT MOST 1048576: true; the input reads as it did. -/
def codecBackUptoRow : OpenClaim := { program := "ytbfdnhffcdbidaa", sum := "a619aff5742af1d459d9f833f3efd8b7e6c50b5c5a8d0ff8c2fea19037524ed0", func := "wapentake/wapentakelaw1.CodecBack", spec := "codecBack", unfollowed := true, recurses := true, apart := false, narrowed := true }
def CodecBackUptoSaid : Prop := codecBackUptoRow.holds Try.pinned (OpenSpec.upto codecBackSpec)

/-- 'wapentakelaw1.CodecFails', WHERE WHAT IT READS IS OF BULK AT MOST 1048576: true; the input reads as it did. -/
def codecFailsUptoRow : OpenClaim := { program := "ytbfdnhffcdbidaa", sum := "a619aff5742af1d459d9f833f3efd8b7e6c50b5c5a8d0ff8c2fea19037524ed0", func := "wapentake/wapentakelaw1.CodecFails", spec := "codecFails", unfollowed := true, recurses := true, apart := false, narrowed := true }
def CodecFailsUptoSaid : Prop := codecFailsUptoRow.holds Try.pinned (OpenSpec.upto codecFailsSpec)

end Rows
end Go.Proofs.Ytbfdnhffcdbidaa

/-
  No cell of these rows narrows 'for every input' (looked for: loops, veiled, ifaces, maps, wideKeys, modest, calm, conditions, laid).
  DERIVED. THE GIVEN ROWS OF THIS SEAT. 5 by the template 'for every input the law returns true; each argument reads behind the call as it read before'; 0 by the template 'total and deterministic' (their statements: YtfaifokeenhfkaaTotals.lean).
  GIVEN WITH THE SEED: the statements are not yours to turn. If you find one false, say at which input.
  Laid BY PROGRAM, IN A SANDBOX (cutbox-rows.mjs): the forced cells as the released guide's own fill.sh prints them over the translation 1c1aea958e50d956… (all of the seat's roots in one cut). By AI agents, Wed Nov 11 2026. No macro, syntax, notation, axiom, sorry.
-/
import Derived.Test.YtfaifokeenhfkaaChecked
import GoSem.Claim
import GoSem.ClaimJoined
import GoSem.ClaimMapViews
import Derived.JoinedTies
import Derived.KernelRfl
namespace Go.Proofs.Ytfaifokeenhfkaa
/- THE CELL 'sum', in the pinned program and in every row, IS THE sha256 OF THE DUMP (.gsa) THAT YtfaifokeenhfkaaProg.lean LOADS. Nothing in Lean hashes anything: it is a label: what it is worth is what the hold of that sum in a sandbox is worth. -/
noncomputable def Try.pinned : Pinned := { name := "ytfaifokeenhfkaa", sum := "1c1aea958e50d95691bb9f20272738fa54b4aac65fd246adb235b1c6cfc3c12b", checked := Try.checked }
namespace Rows
def none {H : Type} : Left H := { results := [], args := [] }

/-- 'wapentakelaw18.LeaseBinds': WHATEVER THE INPUT: true; the input reads as it did. -/
def leaseBindsSpec : ChangeSpec := { name := "leaseBinds", fn := fun _ => fun
  | [d1, d2, d3] => { results := [.lit (.bool true)], args := [d1, d2, d3] }
  | _ => none }
def leaseBindsRow : OpenClaim := { program := "ytfaifokeenhfkaa", sum := "1c1aea958e50d95691bb9f20272738fa54b4aac65fd246adb235b1c6cfc3c12b", func := "wapentake/wapentakelaw18.LeaseBinds", spec := "leaseBinds", unfollowed := true, recurses := true, apart := false }
def LeaseBindsSaid : Prop := leaseBindsRow.holds Try.pinned (OpenSpec.ofChange leaseBindsSpec)

/-- ITS FALSE NEIGHBOUR: 'it returns false'. Refute it at one input. -/
def leaseBindsWrong : ChangeSpec := { name := "leaseBinds", fn := fun _ => fun
  | [d1, d2, d3] => { results := [.lit (.bool false)], args := [d1, d2, d3] }
  | _ => none }
def LeaseBindsWrongFalsely : Prop := leaseBindsRow.holds Try.pinned (OpenSpec.ofChange leaseBindsWrong)

/-- 'wapentakelaw18.LeaseMeets': WHATEVER THE INPUT: true; the input reads as it did. -/
def leaseMeetsSpec : ChangeSpec := { name := "leaseMeets", fn := fun _ => fun
  | [d1, d2, d3] => { results := [.lit (.bool true)], args := [d1, d2, d3] }
  | _ => none }
def leaseMeetsRow : OpenClaim := { program := "ytfaifokeenhfkaa", sum := "1c1aea958e50d95691bb9f20272738fa54b4aac65fd246adb235b1c6cfc3c12b", func := "wapentake/wapentakelaw18.LeaseMeets", spec := "leaseMeets", unfollowed := true, recurses := true, apart := false }
def LeaseMeetsSaid : Prop := leaseMeetsRow.holds Try.pinned (OpenSpec.ofChange leaseMeetsSpec)

/-- ITS FALSE NEIGHBOUR: 'it returns false'. Refute it at one input. -/
def leaseMeetsWrong : ChangeSpec := { name := "leaseMeets", fn := fun _ => fun
  | [d1, d2, d3] => { results := [.lit (.bool false)], args := [d1, d2, d3] }
  | _ => none }
def LeaseMeetsWrongFalsely : Prop := leaseMeetsRow.holds Try.pinned (OpenSpec.ofChange leaseMeetsWrong)

/-- 'wapentakelaw18.LeaseKnown': WHATEVER THE INPUT: true; the input reads as it did. -/
def leaseKnownSpec : ChangeSpec := { name := "leaseKnown", fn := fun _ => fun
  | [] => { results := [.lit (.bool true)], args := [] }
  | _ => none }
def leaseKnownRow : OpenClaim := { program := "ytfaifokeenhfkaa", sum := "1c1aea958e50d95691bb9f20272738fa54b4aac65fd246adb235b1c6cfc3c12b", func := "wapentake/wapentakelaw18.LeaseKnown", spec := "leaseKnown", unfollowed := true, recurses := true, apart := false }
def LeaseKnownSaid : Prop := leaseKnownRow.holds Try.pinned (OpenSpec.ofChange leaseKnownSpec)

/-- ITS FALSE NEIGHBOUR: 'it returns false'. Refute it at one input. -/
def leaseKnownWrong : ChangeSpec := { name := "leaseKnown", fn := fun _ => fun
  | [] => { results := [.lit (.bool false)], args := [] }
  | _ => none }
def LeaseKnownWrongFalsely : Prop := leaseKnownRow.holds Try.pinned (OpenSpec.ofChange leaseKnownWrong)

/-- 'wapentakelaw18.LeasePlays': WHATEVER THE INPUT: true; the input reads as it did. -/
def leasePlaysSpec : ChangeSpec := { name := "leasePlays", fn := fun _ => fun
  | [d1, d2, d3] => { results := [.lit (.bool true)], args := [d1, d2, d3] }
  | _ => none }
def leasePlaysRow : OpenClaim := { program := "ytfaifokeenhfkaa", sum := "1c1aea958e50d95691bb9f20272738fa54b4aac65fd246adb235b1c6cfc3c12b", func := "wapentake/wapentakelaw18.LeasePlays", spec := "leasePlays", unfollowed := true, recurses := true, apart := false }
def LeasePlaysSaid : Prop := leasePlaysRow.holds Try.pinned (OpenSpec.ofChange leasePlaysSpec)

/-- ITS FALSE NEIGHBOUR: 'it returns false'. Refute it at one input. -/
def leasePlaysWrong : ChangeSpec := { name := "leasePlays", fn := fun _ => fun
  | [d1, d2, d3] => { results := [.lit (.bool false)], args := [d1, d2, d3] }
  | _ => none }
def LeasePlaysWrongFalsely : Prop := leasePlaysRow.holds Try.pinned (OpenSpec.ofChange leasePlaysWrong)

/-- 'wapentakelaw18.LeaseDrops': WHATEVER THE INPUT: true; the input reads as it did. -/
def leaseDropsSpec : ChangeSpec := { name := "leaseDrops", fn := fun _ => fun
  | [d1, d2, d3] => { results := [.lit (.bool true)], args := [d1, d2, d3] }
  | _ => none }
def leaseDropsRow : OpenClaim := { program := "ytfaifokeenhfkaa", sum := "1c1aea958e50d95691bb9f20272738fa54b4aac65fd246adb235b1c6cfc3c12b", func := "wapentake/wapentakelaw18.LeaseDrops", spec := "leaseDrops", unfollowed := true, recurses := true, apart := false }
def LeaseDropsSaid : Prop := leaseDropsRow.holds Try.pinned (OpenSpec.ofChange leaseDropsSpec)

/-- ITS FALSE NEIGHBOUR: 'it returns false'. Refute it at one input. -/
def leaseDropsWrong : ChangeSpec := { name := "leaseDrops", fn := fun _ => fun
  | [d1, d2, d3] => { results := [.lit (.bool false)], args := [d1, d2, d3] }
  | _ => none }
def LeaseDropsWrongFalsely : Prop := leaseDropsRow.holds Try.pinned (OpenSpec.ofChange leaseDropsWrong)

/- THE SECOND FORM. 'bulk': how many values and letters a reading holds, each counted each time it is reached (what is shared counts as often as it is met; a slice's spare places count too). A statement '..UptoSaid' is the law's where the arguments, and the package variables that the reading takes, are together of bulk at most 1048576: NARROWER than '..Said'. Prove '..Said' where nothing that the law and all that it calls make is longer than what came in: it says more and counts as full. Else prove '..UptoSaid'. A law counts once. -/
mutual
def uptoBulk {H : Type} : DataW H → Nat
  | .lit (.string bytes) => bytes.length + 1
  | .lit _ => 1
  | .nil => 1
  | .ptr d => uptoBulk d + 1
  | .slice elems spare => uptoBulkAll elems + uptoBulkAll spare + 1
  | .agg parts => uptoBulkAll parts + 1
  | .iface _ d => uptoBulk d + 1
  | .map entries => uptoBulkEntries entries + 1
  | .held _ => 1
def uptoBulkAll {H : Type} : List (DataW H) → Nat
  | [] => 0
  | d :: r => uptoBulk d + uptoBulkAll r
def uptoBulkEntries {H : Type} : List (Lit × DataW H) → Nat
  | [] => 0
  | x :: r => uptoBulkEntry x + uptoBulkEntries r
def uptoBulkEntry {H : Type} : Lit × DataW H → Nat
  | (.string bytes, d) => bytes.length + uptoBulk d + 1
  | (_, d) => uptoBulk d + 1
 end
def uptoSmall : (H : Type) → List (DataW H) → Bool := fun _ ds => decide (uptoBulkAll ds ≤ 1048576)
def OpenSpec.upto (s : _root_.Go.ChangeSpec) : _root_.Go.OpenSpec := { _root_.Go.OpenSpec.ofChange s with cond := some uptoSmall }

/-- 'wapentakelaw18.LeaseBinds', WHERE WHAT IT READS IS OF BULK AT MOST 1048576: true; the input reads as it did. -/
def leaseBindsUptoRow : OpenClaim := { program := "ytfaifokeenhfkaa", sum := "1c1aea958e50d95691bb9f20272738fa54b4aac65fd246adb235b1c6cfc3c12b", func := "wapentake/wapentakelaw18.LeaseBinds", spec := "leaseBinds", unfollowed := true, recurses := true, apart := false, narrowed := true }
def LeaseBindsUptoSaid : Prop := leaseBindsUptoRow.holds Try.pinned (OpenSpec.upto leaseBindsSpec)

/-- 'wapentakelaw18.LeaseMeets', WHERE WHAT IT READS IS OF BULK AT MOST 1048576: true; the input reads as it did. -/
def leaseMeetsUptoRow : OpenClaim := { program := "ytfaifokeenhfkaa", sum := "1c1aea958e50d95691bb9f20272738fa54b4aac65fd246adb235b1c6cfc3c12b", func := "wapentake/wapentakelaw18.LeaseMeets", spec := "leaseMeets", unfollowed := true, recurses := true, apart := false, narrowed := true }
def LeaseMeetsUptoSaid : Prop := leaseMeetsUptoRow.holds Try.pinned (OpenSpec.upto leaseMeetsSpec)

/-- 'wapentakelaw18.LeaseKnown', WHERE WHAT IT READS IS OF BULK AT MOST 1048576: true; the input reads as it did. -/
def leaseKnownUptoRow : OpenClaim := { program := "ytfaifokeenhfkaa", sum := "1c1aea958e50d95691bb9f20272738fa54b4aac65fd246adb235b1c6cfc3c12b", func := "wapentake/wapentakelaw18.LeaseKnown", spec := "leaseKnown", unfollowed := true, recurses := true, apart := false, narrowed := true }
def LeaseKnownUptoSaid : Prop := leaseKnownUptoRow.holds Try.pinned (OpenSpec.upto leaseKnownSpec)

/-- 'wapentakelaw18.LeasePlays', WHERE WHAT IT READS IS OF BULK AT MOST 1048576: true; the input reads as it did. -/
def leasePlaysUptoRow : OpenClaim := { program := "ytfaifokeenhfkaa", sum := "1c1aea958e50d95691bb9f20272738fa54b4aac65fd246adb235b1c6cfc3c12b", func := "wapentake/wapentakelaw18.LeasePlays", spec := "leasePlays", unfollowed := true, recurses := true, apart := false, narrowed := true }
def LeasePlaysUptoSaid : Prop := leasePlaysUptoRow.holds Try.pinned (OpenSpec.upto leasePlaysSpec)

/-- 'wapentakelaw18.LeaseDrops', WHERE WHAT IT READS IS OF BULK AT MOST 1048576: true; the input reads as it did. -/
def leaseDropsUptoRow : OpenClaim := { program := "ytfaifokeenhfkaa", sum := "1c1aea958e50d95691bb9f20272738fa54b4aac65fd246adb235b1c6cfc3c12b", func := "wapentake/wapentakelaw18.LeaseDrops", spec := "leaseDrops", unfollowed := true, recurses := true, apart := false, narrowed := true }
def LeaseDropsUptoSaid : Prop := leaseDropsUptoRow.holds Try.pinned (OpenSpec.upto leaseDropsSpec)

end Rows
end Go.Proofs.Ytfaifokeenhfkaa

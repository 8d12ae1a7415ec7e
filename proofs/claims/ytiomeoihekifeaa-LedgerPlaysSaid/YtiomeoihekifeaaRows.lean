/-
  No cell of these rows narrows 'for every input' (looked for: loops, veiled, ifaces, maps, wideKeys, modest, calm, conditions, laid).
  DERIVED. THE GIVEN ROWS OF THIS SEAT. 8 by the template 'for every input the law returns true; each argument reads behind the call as it read before'; 0 by the template 'total and deterministic' (their statements: YtiomeoihekifeaaTotals.lean).
  GIVEN WITH THE SEED: the statements are not yours to turn. If you find one false, say at which input.
  Laid BY PROGRAM, IN A SANDBOX (cutbox-rows.mjs): the forced cells as the released guide's own fill.sh prints them over the translation 8edfe30f926d5ea2… (all of the seat's roots in one cut). By AI agents, Wed Nov 11 2026. No macro, syntax, notation, axiom, sorry.
-/
import Derived.Test.YtiomeoihekifeaaChecked
import GoSem.Claim
import GoSem.ClaimJoined
import GoSem.ClaimMapViews
import Derived.JoinedTies
import Derived.KernelRfl
namespace Go.Proofs.Ytiomeoihekifeaa
/- THE CELL 'sum', in the pinned program and in every row, IS THE sha256 OF THE DUMP (.gsa) THAT YtiomeoihekifeaaProg.lean LOADS. Nothing in Lean hashes anything: it is a label: what it is worth is what the hold of that sum in a sandbox is worth. -/
noncomputable def Try.pinned : Pinned := { name := "ytiomeoihekifeaa", sum := "8edfe30f926d5ea25e9e7ecd0a7840e6a10b1f79bd9809ab956836f4a0502045", checked := Try.checked }
namespace Rows
def none {H : Type} : Left H := { results := [], args := [] }

/-- 'wapentakelaw17.LedgerOrders': WHATEVER THE INPUT: true; the input reads as it did. -/
def ledgerOrdersSpec : ChangeSpec := { name := "ledgerOrders", fn := fun _ => fun
  | [d] => { results := [.lit (.bool true)], args := [d] }
  | _ => none }
def ledgerOrdersRow : OpenClaim := { program := "ytiomeoihekifeaa", sum := "8edfe30f926d5ea25e9e7ecd0a7840e6a10b1f79bd9809ab956836f4a0502045", func := "wapentake/wapentakelaw17.LedgerOrders", spec := "ledgerOrders", apart := false }
def LedgerOrdersSaid : Prop := ledgerOrdersRow.holds Try.pinned (OpenSpec.ofChange ledgerOrdersSpec)

/-- ITS FALSE NEIGHBOUR: 'it returns false'. Refute it at one input. -/
def ledgerOrdersWrong : ChangeSpec := { name := "ledgerOrders", fn := fun _ => fun
  | [d] => { results := [.lit (.bool false)], args := [d] }
  | _ => none }
def LedgerOrdersWrongFalsely : Prop := ledgerOrdersRow.holds Try.pinned (OpenSpec.ofChange ledgerOrdersWrong)

/-- 'wapentakelaw17.LedgerKnown': WHATEVER THE INPUT: true; the input reads as it did. -/
def ledgerKnownSpec : ChangeSpec := { name := "ledgerKnown", fn := fun _ => fun
  | [] => { results := [.lit (.bool true)], args := [] }
  | _ => none }
def ledgerKnownRow : OpenClaim := { program := "ytiomeoihekifeaa", sum := "8edfe30f926d5ea25e9e7ecd0a7840e6a10b1f79bd9809ab956836f4a0502045", func := "wapentake/wapentakelaw17.LedgerKnown", spec := "ledgerKnown", unfollowed := true, recurses := true, apart := false }
def LedgerKnownSaid : Prop := ledgerKnownRow.holds Try.pinned (OpenSpec.ofChange ledgerKnownSpec)

/-- ITS FALSE NEIGHBOUR: 'it returns false'. Refute it at one input. -/
def ledgerKnownWrong : ChangeSpec := { name := "ledgerKnown", fn := fun _ => fun
  | [] => { results := [.lit (.bool false)], args := [] }
  | _ => none }
def LedgerKnownWrongFalsely : Prop := ledgerKnownRow.holds Try.pinned (OpenSpec.ofChange ledgerKnownWrong)

/-- 'wapentakelaw17.LedgerPlays': WHATEVER THE INPUT: true; the input reads as it did. -/
def ledgerPlaysSpec : ChangeSpec := { name := "ledgerPlays", fn := fun _ => fun
  | [d1, d2] => { results := [.lit (.bool true)], args := [d1, d2] }
  | _ => none }
def ledgerPlaysRow : OpenClaim := { program := "ytiomeoihekifeaa", sum := "8edfe30f926d5ea25e9e7ecd0a7840e6a10b1f79bd9809ab956836f4a0502045", func := "wapentake/wapentakelaw17.LedgerPlays", spec := "ledgerPlays", unfollowed := true, recurses := true, apart := false }
def LedgerPlaysSaid : Prop := ledgerPlaysRow.holds Try.pinned (OpenSpec.ofChange ledgerPlaysSpec)

/-- ITS FALSE NEIGHBOUR: 'it returns false'. Refute it at one input. -/
def ledgerPlaysWrong : ChangeSpec := { name := "ledgerPlays", fn := fun _ => fun
  | [d1, d2] => { results := [.lit (.bool false)], args := [d1, d2] }
  | _ => none }
def LedgerPlaysWrongFalsely : Prop := ledgerPlaysRow.holds Try.pinned (OpenSpec.ofChange ledgerPlaysWrong)

/-- 'wapentakelaw17.LedgerCuts': WHATEVER THE INPUT: true; the input reads as it did. -/
def ledgerCutsSpec : ChangeSpec := { name := "ledgerCuts", fn := fun _ => fun
  | [d] => { results := [.lit (.bool true)], args := [d] }
  | _ => none }
def ledgerCutsRow : OpenClaim := { program := "ytiomeoihekifeaa", sum := "8edfe30f926d5ea25e9e7ecd0a7840e6a10b1f79bd9809ab956836f4a0502045", func := "wapentake/wapentakelaw17.LedgerCuts", spec := "ledgerCuts", unfollowed := true, recurses := true, apart := false }
def LedgerCutsSaid : Prop := ledgerCutsRow.holds Try.pinned (OpenSpec.ofChange ledgerCutsSpec)

/-- ITS FALSE NEIGHBOUR: 'it returns false'. Refute it at one input. -/
def ledgerCutsWrong : ChangeSpec := { name := "ledgerCuts", fn := fun _ => fun
  | [d] => { results := [.lit (.bool false)], args := [d] }
  | _ => none }
def LedgerCutsWrongFalsely : Prop := ledgerCutsRow.holds Try.pinned (OpenSpec.ofChange ledgerCutsWrong)

/-- 'wapentakelaw20.BoxApart': WHATEVER THE INPUT: true; the input reads as it did. -/
def boxApartSpec : ChangeSpec := { name := "boxApart", fn := fun _ => fun
  | [d] => { results := [.lit (.bool true)], args := [d] }
  | _ => none }
def boxApartRow : OpenClaim := { program := "ytiomeoihekifeaa", sum := "8edfe30f926d5ea25e9e7ecd0a7840e6a10b1f79bd9809ab956836f4a0502045", func := "wapentake/wapentakelaw20.BoxApart", spec := "boxApart", apart := false }
def BoxApartSaid : Prop := boxApartRow.holds Try.pinned (OpenSpec.ofChange boxApartSpec)

/-- ITS FALSE NEIGHBOUR: 'it returns false'. Refute it at one input. -/
def boxApartWrong : ChangeSpec := { name := "boxApart", fn := fun _ => fun
  | [d] => { results := [.lit (.bool false)], args := [d] }
  | _ => none }
def BoxApartWrongFalsely : Prop := boxApartRow.holds Try.pinned (OpenSpec.ofChange boxApartWrong)

/-- 'wapentakelaw20.BoxKnown': WHATEVER THE INPUT: true; the input reads as it did. -/
def boxKnownSpec : ChangeSpec := { name := "boxKnown", fn := fun _ => fun
  | [] => { results := [.lit (.bool true)], args := [] }
  | _ => none }
def boxKnownRow : OpenClaim := { program := "ytiomeoihekifeaa", sum := "8edfe30f926d5ea25e9e7ecd0a7840e6a10b1f79bd9809ab956836f4a0502045", func := "wapentake/wapentakelaw20.BoxKnown", spec := "boxKnown", apart := false }
def BoxKnownSaid : Prop := boxKnownRow.holds Try.pinned (OpenSpec.ofChange boxKnownSpec)

/-- ITS FALSE NEIGHBOUR: 'it returns false'. Refute it at one input. -/
def boxKnownWrong : ChangeSpec := { name := "boxKnown", fn := fun _ => fun
  | [] => { results := [.lit (.bool false)], args := [] }
  | _ => none }
def BoxKnownWrongFalsely : Prop := boxKnownRow.holds Try.pinned (OpenSpec.ofChange boxKnownWrong)

/-- 'wapentakelaw20.BoxOrders': WHATEVER THE INPUT: true; the input reads as it did. -/
def boxOrdersSpec : ChangeSpec := { name := "boxOrders", fn := fun _ => fun
  | [d1, d2] => { results := [.lit (.bool true)], args := [d1, d2] }
  | _ => none }
def boxOrdersRow : OpenClaim := { program := "ytiomeoihekifeaa", sum := "8edfe30f926d5ea25e9e7ecd0a7840e6a10b1f79bd9809ab956836f4a0502045", func := "wapentake/wapentakelaw20.BoxOrders", spec := "boxOrders", apart := false }
def BoxOrdersSaid : Prop := boxOrdersRow.holds Try.pinned (OpenSpec.ofChange boxOrdersSpec)

/-- ITS FALSE NEIGHBOUR: 'it returns false'. Refute it at one input. -/
def boxOrdersWrong : ChangeSpec := { name := "boxOrders", fn := fun _ => fun
  | [d1, d2] => { results := [.lit (.bool false)], args := [d1, d2] }
  | _ => none }
def BoxOrdersWrongFalsely : Prop := boxOrdersRow.holds Try.pinned (OpenSpec.ofChange boxOrdersWrong)

/-- 'wapentakelaw20.BoxPlays': WHATEVER THE INPUT: true; the input reads as it did. -/
def boxPlaysSpec : ChangeSpec := { name := "boxPlays", fn := fun _ => fun
  | [d1, d2, d3] => { results := [.lit (.bool true)], args := [d1, d2, d3] }
  | _ => none }
def boxPlaysRow : OpenClaim := { program := "ytiomeoihekifeaa", sum := "8edfe30f926d5ea25e9e7ecd0a7840e6a10b1f79bd9809ab956836f4a0502045", func := "wapentake/wapentakelaw20.BoxPlays", spec := "boxPlays", apart := false }
def BoxPlaysSaid : Prop := boxPlaysRow.holds Try.pinned (OpenSpec.ofChange boxPlaysSpec)

/-- ITS FALSE NEIGHBOUR: 'it returns false'. Refute it at one input. -/
def boxPlaysWrong : ChangeSpec := { name := "boxPlays", fn := fun _ => fun
  | [d1, d2, d3] => { results := [.lit (.bool false)], args := [d1, d2, d3] }
  | _ => none }
def BoxPlaysWrongFalsely : Prop := boxPlaysRow.holds Try.pinned (OpenSpec.ofChange boxPlaysWrong)

/- THE SECOND FORM. 'bulk': how many values and letters a reading holds, each counted each time it is reached (what is shared counts as often as it is met; a slice's spare places count too). A statement '..UptoSaid' is the law's where the arguments, and the package variables that the reading takes, are together of bulk at most 1048576: NARROWER than '..Said'. Prove '..Said' where nothing that the law and all that it calls make is longer than what came in: it says more and counts as full. Else prove '..UptoSaid'. A law counts once. -/
mutual
def uptoBulk {H : Type} : DataW H → Nat
  | .lit (.string bytes) => bytes.length + 1
  | .lit _ => 1
  | .nil => 1
  | .ptr d => uptoBulk d + 1
  | .slice elems spare => uptoBulkAll elems + uptoBulkAll spare + 1
  | .agg parts => uptoBulkAll parts + 1
  | .iface _ d => uptoBulk d + 1
  | .map entries => uptoBulkEntries entries + 1
  | .held _ => 1
def uptoBulkAll {H : Type} : List (DataW H) → Nat
  | [] => 0
  | d :: r => uptoBulk d + uptoBulkAll r
def uptoBulkEntries {H : Type} : List (Lit × DataW H) → Nat
  | [] => 0
  | x :: r => uptoBulkEntry x + uptoBulkEntries r
def uptoBulkEntry {H : Type} : Lit × DataW H → Nat
  | (.string bytes, d) => bytes.length + uptoBulk d + 1
  | (_, d) => uptoBulk d + 1
 end
def uptoSmall : (H : Type) → List (DataW H) → Bool := fun _ ds => decide (uptoBulkAll ds ≤ 1048576)
def OpenSpec.upto (s : _root_.Go.ChangeSpec) : _root_.Go.OpenSpec := { _root_.Go.OpenSpec.ofChange s with cond := some uptoSmall }

/-- 'wapentakelaw17.LedgerOrders', WHERE WHAT IT READS IS OF BULK AT MOST 1048576: true; the input reads as it did. -/
def ledgerOrdersUptoRow : OpenClaim := { program := "ytiomeoihekifeaa", sum := "8edfe30f926d5ea25e9e7ecd0a7840e6a10b1f79bd9809ab956836f4a0502045", func := "wapentake/wapentakelaw17.LedgerOrders", spec := "ledgerOrders", apart := false, narrowed := true }
def LedgerOrdersUptoSaid : Prop := ledgerOrdersUptoRow.holds Try.pinned (OpenSpec.upto ledgerOrdersSpec)

/-- 'wapentakelaw17.LedgerKnown', WHERE WHAT IT READS IS OF BULK AT MOST 1048576: true; the input reads as it did. -/
def ledgerKnownUptoRow : OpenClaim := { program := "ytiomeoihekifeaa", sum := "8edfe30f926d5ea25e9e7ecd0a7840e6a10b1f79bd9809ab956836f4a0502045", func := "wapentake/wapentakelaw17.LedgerKnown", spec := "ledgerKnown", unfollowed := true, recurses := true, apart := false, narrowed := true }
def LedgerKnownUptoSaid : Prop := ledgerKnownUptoRow.holds Try.pinned (OpenSpec.upto ledgerKnownSpec)

/-- 'wapentakelaw17.LedgerPlays', WHERE WHAT IT READS IS OF BULK AT MOST 1048576: true; the input reads as it did. -/
def ledgerPlaysUptoRow : OpenClaim := { program := "ytiomeoihekifeaa", sum := "8edfe30f926d5ea25e9e7ecd0a7840e6a10b1f79bd9809ab956836f4a0502045", func := "wapentake/wapentakelaw17.LedgerPlays", spec := "ledgerPlays", unfollowed := true, recurses := true, apart := false, narrowed := true }
def LedgerPlaysUptoSaid : Prop := ledgerPlaysUptoRow.holds Try.pinned (OpenSpec.upto ledgerPlaysSpec)

/-- 'wapentakelaw17.LedgerCuts', WHERE WHAT IT READS IS OF BULK AT MOST 1048576: true; the input reads as it did. -/
def ledgerCutsUptoRow : OpenClaim := { program := "ytiomeoihekifeaa", sum := "8edfe30f926d5ea25e9e7ecd0a7840e6a10b1f79bd9809ab956836f4a0502045", func := "wapentake/wapentakelaw17.LedgerCuts", spec := "ledgerCuts", unfollowed := true, recurses := true, apart := false, narrowed := true }
def LedgerCutsUptoSaid : Prop := ledgerCutsUptoRow.holds Try.pinned (OpenSpec.upto ledgerCutsSpec)

/-- 'wapentakelaw20.BoxApart', WHERE WHAT IT READS IS OF BULK AT MOST 1048576: true; the input reads as it did. -/
def boxApartUptoRow : OpenClaim := { program := "ytiomeoihekifeaa", sum := "8edfe30f926d5ea25e9e7ecd0a7840e6a10b1f79bd9809ab956836f4a0502045", func := "wapentake/wapentakelaw20.BoxApart", spec := "boxApart", apart := false, narrowed := true }
def BoxApartUptoSaid : Prop := boxApartUptoRow.holds Try.pinned (OpenSpec.upto boxApartSpec)

/-- 'wapentakelaw20.BoxKnown', WHERE WHAT IT READS IS OF BULK AT MOST 1048576: true; the input reads as it did. -/
def boxKnownUptoRow : OpenClaim := { program := "ytiomeoihekifeaa", sum := "8edfe30f926d5ea25e9e7ecd0a7840e6a10b1f79bd9809ab956836f4a0502045", func := "wapentake/wapentakelaw20.BoxKnown", spec := "boxKnown", apart := false, narrowed := true }
def BoxKnownUptoSaid : Prop := boxKnownUptoRow.holds Try.pinned (OpenSpec.upto boxKnownSpec)

/-- 'wapentakelaw20.BoxOrders', WHERE WHAT IT READS IS OF BULK AT MOST 1048576: true; the input reads as it did. -/
def boxOrdersUptoRow : OpenClaim := { program := "ytiomeoihekifeaa", sum := "8edfe30f926d5ea25e9e7ecd0a7840e6a10b1f79bd9809ab956836f4a0502045", func := "wapentake/wapentakelaw20.BoxOrders", spec := "boxOrders", apart := false, narrowed := true }
def BoxOrdersUptoSaid : Prop := boxOrdersUptoRow.holds Try.pinned (OpenSpec.upto boxOrdersSpec)

/-- 'wapentakelaw20.BoxPlays', WHERE WHAT IT READS IS OF BULK AT MOST 1048576: true; the input reads as it did. -/
def boxPlaysUptoRow : OpenClaim := { program := "ytiomeoihekifeaa", sum := "8edfe30f926d5ea25e9e7ecd0a7840e6a10b1f79bd9809ab956836f4a0502045", func := "wapentake/wapentakelaw20.BoxPlays", spec := "boxPlays", apart := false, narrowed := true }
def BoxPlaysUptoSaid : Prop := boxPlaysUptoRow.holds Try.pinned (OpenSpec.upto boxPlaysSpec)

end Rows
end Go.Proofs.Ytiomeoihekifeaa

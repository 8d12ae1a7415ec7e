/-
  No cell of these rows narrows 'for every input' (looked for: loops, veiled, ifaces, maps, wideKeys, modest, calm, conditions, laid).
  DERIVED. THE GIVEN ROWS OF THIS SEAT. 4 by the template 'for every input the law returns true; each argument reads behind the call as it read before'; 0 by the template 'total and deterministic' (their statements: YtnekfonnceknoaaTotals.lean).
  GIVEN WITH THE SEED: the statements are not yours to turn. If you find one false, say at which input.
  Laid BY PROGRAM, IN A SANDBOX (cutbox-rows.mjs): the forced cells as the released guide's own fill.sh prints them over the translation 351deee7be053eed… (all of the seat's roots in one cut). By AI agents, Wed Nov 11 2026. No macro, syntax, notation, axiom, sorry.
-/
import Derived.Test.YtnekfonnceknoaaChecked
import GoSem.Claim
import GoSem.ClaimJoined
import GoSem.ClaimMapViews
import Derived.JoinedTies
import Derived.KernelRfl
namespace Go.Proofs.Ytnekfonnceknoaa
/- THE CELL 'sum', in the pinned program and in every row, IS THE sha256 OF THE DUMP (.gsa) THAT YtnekfonnceknoaaProg.lean LOADS. Nothing in Lean hashes anything: it is a label: what it is worth is what the hold of that sum in a sandbox is worth. -/
noncomputable def Try.pinned : Pinned := { name := "ytnekfonnceknoaa", sum := "351deee7be053eed14d9016ef0e2284a45b69f7f77ed314170d8997f28f1873f", checked := Try.checked }
namespace Rows
def none {H : Type} : Left H := { results := [], args := [] }

/-- 'wapentakelaw23.ClientKnown': WHATEVER THE INPUT: true; the input reads as it did. -/
def clientKnownSpec : ChangeSpec := { name := "clientKnown", fn := fun _ => fun
  | [] => { results := [.lit (.bool true)], args := [] }
  | _ => none }
def clientKnownRow : OpenClaim := { program := "ytnekfonnceknoaa", sum := "351deee7be053eed14d9016ef0e2284a45b69f7f77ed314170d8997f28f1873f", func := "wapentake/wapentakelaw23.ClientKnown", spec := "clientKnown", unfollowed := true, recurses := true, apart := false }
def ClientKnownSaid : Prop := clientKnownRow.holds Try.pinned (OpenSpec.ofChange clientKnownSpec)

/-- ITS FALSE NEIGHBOUR: 'it returns false'. Refute it at one input. -/
def clientKnownWrong : ChangeSpec := { name := "clientKnown", fn := fun _ => fun
  | [] => { results := [.lit (.bool false)], args := [] }
  | _ => none }
def ClientKnownWrongFalsely : Prop := clientKnownRow.holds Try.pinned (OpenSpec.ofChange clientKnownWrong)

/-- 'wapentakelaw23.ClientRounds': WHATEVER THE INPUT: true; the input reads as it did. -/
def clientRoundsSpec : ChangeSpec := { name := "clientRounds", fn := fun _ => fun
  | [d1, d2] => { results := [.lit (.bool true)], args := [d1, d2] }
  | _ => none }
def clientRoundsRow : OpenClaim := { program := "ytnekfonnceknoaa", sum := "351deee7be053eed14d9016ef0e2284a45b69f7f77ed314170d8997f28f1873f", func := "wapentake/wapentakelaw23.ClientRounds", spec := "clientRounds", unfollowed := true, recurses := true, apart := false }
def ClientRoundsSaid : Prop := clientRoundsRow.holds Try.pinned (OpenSpec.ofChange clientRoundsSpec)

/-- ITS FALSE NEIGHBOUR: 'it returns false'. Refute it at one input. -/
def clientRoundsWrong : ChangeSpec := { name := "clientRounds", fn := fun _ => fun
  | [d1, d2] => { results := [.lit (.bool false)], args := [d1, d2] }
  | _ => none }
def ClientRoundsWrongFalsely : Prop := clientRoundsRow.holds Try.pinned (OpenSpec.ofChange clientRoundsWrong)

/-- 'wapentakelaw23.ClientWaits': WHATEVER THE INPUT: true; the input reads as it did. -/
def clientWaitsSpec : ChangeSpec := { name := "clientWaits", fn := fun _ => fun
  | [d1, d2, d3] => { results := [.lit (.bool true)], args := [d1, d2, d3] }
  | _ => none }
def clientWaitsRow : OpenClaim := { program := "ytnekfonnceknoaa", sum := "351deee7be053eed14d9016ef0e2284a45b69f7f77ed314170d8997f28f1873f", func := "wapentake/wapentakelaw23.ClientWaits", spec := "clientWaits", unfollowed := true, recurses := true, apart := false }
def ClientWaitsSaid : Prop := clientWaitsRow.holds Try.pinned (OpenSpec.ofChange clientWaitsSpec)

/-- ITS FALSE NEIGHBOUR: 'it returns false'. Refute it at one input. -/
def clientWaitsWrong : ChangeSpec := { name := "clientWaits", fn := fun _ => fun
  | [d1, d2, d3] => { results := [.lit (.bool false)], args := [d1, d2, d3] }
  | _ => none }
def ClientWaitsWrongFalsely : Prop := clientWaitsRow.holds Try.pinned (OpenSpec.ofChange clientWaitsWrong)

/-- 'wapentakelaw23.ClientSeqs': WHATEVER THE INPUT: true; the input reads as it did. -/
def clientSeqsSpec : ChangeSpec := { name := "clientSeqs", fn := fun _ => fun
  | [d] => { results := [.lit (.bool true)], args := [d] }
  | _ => none }
def clientSeqsRow : OpenClaim := { program := "ytnekfonnceknoaa", sum := "351deee7be053eed14d9016ef0e2284a45b69f7f77ed314170d8997f28f1873f", func := "wapentake/wapentakelaw23.ClientSeqs", spec := "clientSeqs", unfollowed := true, recurses := true, apart := false }
def ClientSeqsSaid : Prop := clientSeqsRow.holds Try.pinned (OpenSpec.ofChange clientSeqsSpec)

/-- ITS FALSE NEIGHBOUR: 'it returns false'. Refute it at one input. -/
def clientSeqsWrong : ChangeSpec := { name := "clientSeqs", fn := fun _ => fun
  | [d] => { results := [.lit (.bool false)], args := [d] }
  | _ => none }
def ClientSeqsWrongFalsely : Prop := clientSeqsRow.holds Try.pinned (OpenSpec.ofChange clientSeqsWrong)

/- THE SECOND FORM. 'bulk': how many values and letters a reading holds, each counted each time it is reached (what is shared counts as often as it is met; a slice's spare places count too). A statement '..UptoSaid' is the law's where the arguments, and the package variables that the reading takes, are together of bulk at most 1048576: NARROWER than '..Said'. Prove '..Said' where nothing that the law and all that it calls make is longer than what came in: it says more and counts as full. Else prove '..UptoSaid'. A law counts once. -/
mutual
def uptoBulk {H : Type} : DataW H → Nat
  | .lit (.string bytes) => bytes.length + 1
  | .lit _ => 1
  | .nil => 1
  | .ptr d => uptoBulk d + 1
  | .slice elems spare => uptoBulkAll elems + uptoBulkAll spare + 1
  | .agg parts => uptoBulkAll parts + 1
  | .iface _ d => uptoBulk d + 1
  | .map entries => uptoBulkEntries entries + 1
  | .held _ => 1
def uptoBulkAll {H : Type} : List (DataW H) → Nat
  | [] => 0
  | d :: r => uptoBulk d + uptoBulkAll r
def uptoBulkEntries {H : Type} : List (Lit × DataW H) → Nat
  | [] => 0
  | x :: r => uptoBulkEntry x + uptoBulkEntries r
def uptoBulkEntry {H : Type} : Lit × DataW H → Nat
  | (.string bytes, d) => bytes.length + uptoBulk d + 1
  | (_, d) => uptoBulk d + 1
 end
def uptoSmall : (H : Type) → List (DataW H) → Bool := fun _ ds => decide (uptoBulkAll ds ≤ 1048576)
def OpenSpec.upto (s : _root_.Go.ChangeSpec) : _root_.Go.OpenSpec := { _root_.Go.OpenSpec.ofChange s with cond := some uptoSmall }

/-- 'wapentakelaw23.ClientKnown', WHERE WHAT IT READS IS OF BULK AT MOST 1048576: true; the input reads as it did. -/
def clientKnownUptoRow : OpenClaim := { program := "ytnekfonnceknoaa", sum := "351deee7be053eed14d9016ef0e2284a45b69f7f77ed314170d8997f28f1873f", func := "wapentake/wapentakelaw23.ClientKnown", spec := "clientKnown", unfollowed := true, recurses := true, apart := false, narrowed := true }
def ClientKnownUptoSaid : Prop := clientKnownUptoRow.holds Try.pinned (OpenSpec.upto clientKnownSpec)

/-- 'wapentakelaw23.ClientRounds', WHERE WHAT IT READS IS OF BULK AT MOST 1048576: true; the input reads as it did. -/
def clientRoundsUptoRow : OpenClaim := { program := "ytnekfonnceknoaa", sum := "351deee7be053eed14d9016ef0e2284a45b69f7f77ed314170d8997f28f1873f", func := "wapentake/wapentakelaw23.ClientRounds", spec := "clientRounds", unfollowed := true, recurses := true, apart := false, narrowed := true }
def ClientRoundsUptoSaid : Prop := clientRoundsUptoRow.holds Try.pinned (OpenSpec.upto clientRoundsSpec)

/-- 'wapentakelaw23.ClientWaits', WHERE WHAT IT READS IS OF BULK AT MOST 1048576: true; the input reads as it did. -/
def clientWaitsUptoRow : OpenClaim := { program := "ytnekfonnceknoaa", sum := "351deee7be053eed14d9016ef0e2284a45b69f7f77ed314170d8997f28f1873f", func := "wapentake/wapentakelaw23.ClientWaits", spec := "clientWaits", unfollowed := true, recurses := true, apart := false, narrowed := true }
def ClientWaitsUptoSaid : Prop := clientWaitsUptoRow.holds Try.pinned (OpenSpec.upto clientWaitsSpec)

/-- 'wapentakelaw23.ClientSeqs', WHERE WHAT IT READS IS OF BULK AT MOST 1048576: true; the input reads as it did. -/
def clientSeqsUptoRow : OpenClaim := { program := "ytnekfonnceknoaa", sum := "351deee7be053eed14d9016ef0e2284a45b69f7f77ed314170d8997f28f1873f", func := "wapentake/wapentakelaw23.ClientSeqs", spec := "clientSeqs", unfollowed := true, recurses := true, apart := false, narrowed := true }
def ClientSeqsUptoSaid : Prop := clientSeqsUptoRow.holds Try.pinned (OpenSpec.upto clientSeqsSpec)

end Rows
end Go.Proofs.Ytnekfonnceknoaa

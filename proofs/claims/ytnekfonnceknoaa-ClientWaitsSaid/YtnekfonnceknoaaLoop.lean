/- The loops of a function, taken out of its body. -/
import Derived.WalkKit
namespace Go.Proofs.Ytnekfonnceknoaa
open Go.RowKit
/-- A code's loops' bodies, in the order of the text. -/
def loopsOf : Code → List Code
  | .loop c => c :: loopsOf c
  | .seq a b => loopsOf a ++ loopsOf b
  | .block _ c => loopsOf c
  | .scope c => loopsOf c
  | .cond _ a b => loopsOf a ++ loopsOf b
  | _ => []
noncomputable def loopBody (f : Func) (k : Nat) : Code := ((f.body.map loopsOf).getD []).getD k .skip
end Go.Proofs.Ytnekfonnceknoaa

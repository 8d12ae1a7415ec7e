/- A message that was handed in. -/
import Derived.Test.YtnekfonnceknoaaMsgO
namespace Go.Proofs.Ytnekfonnceknoaa
open Go.RowKit Go.ChangeShapes Go.WideShapes Go.ChangeAt
/-- A message that was handed in. -/
def MsgIs (w : World) (v : Value) (m : Msg) : Prop := ∃ cs, v = .agg cs.toArray ∧ Rep.msg.cells w (fun b => b < w.heap.size) m cs
set_option maxRecDepth 100000 in
theorem open_msg {H : Type} {enc : TypeId × Value → H} {W : World} {base b : Nat} {held : Bool} {v : Value} {d : DataW H} {ps : List MemPlace}
    (_hv : Value.okWide Try.prog W .any b 37 v) (h : DataW.Trod enc Try.prog W base (fun _ => true) held 37 v d ps) : ∃ m, MsgIs W v m := by
  obtain ⟨fuel, hf⟩ := h
  obtain ⟨m, hm⟩ := opens_msg.2 H enc W base held fuel _ _ hf
  have hl := Rep.msg.len hm
  have hsz : Rep.msg.size = 27 := rfl
  rw [hsz] at hl
  refine ⟨m, v.cells.toList, ?_, hm⟩
  cases v <;> simp [Value.cells] at hl ⊢
end Go.Proofs.Ytnekfonnceknoaa

/- What is loaded in a region that draws its order, as what is taken first. No function of the program is named here. -/
import Derived.Test.YtofljidmdabkcaaGreatReg
namespace Go.Proofs.YtofljidmdabkcaaGreat
open Go.RowKit Go.Lib
section
variable {P : Program} {ops : Array Oper} {o : Oper} {a : Act} {S : World → Prop} {ty : TypeId} {x : Operand} {b off n : Nat}
/-- What a load yields in every world of S. -/
theorem yieldsIf_cell {v : Value} (hw : Region.wanted o (yielded ops a.tmps) = true) (ho : o.op = .load ty x) (hx : a.eval x = .pointer (some ⟨b, off, none⟩)) (hd : (P.underlying ty).map TypeDesc.isRow = some false)
    (hS : ∀ w, S w → w.cell? ⟨b, off, none⟩ = some v) : YieldsIf P ops S o v a := .inl ⟨hw, fun w hs => by
  obtain ⟨d, hu, hd⟩ : ∃ d, P.underlying ty = some d ∧ d.isRow = false := by
    cases hq : P.underlying ty with
    | none => simp [hq] at hd
    | some d => exact ⟨d, rfl, by simpa [hq] using hd⟩
  have hagg : (isAgg ty).run P w = .ok false w := by
    unfold isAgg
    rw [Sem.run_bind, run_underlying hu w]
    cases d <;> simp_all
  unfold execOp
  simp only [ho, hx, Instr.loadAt, Instr.sureAddr, Sem.run_bind, Sem.run_pure, Result.andThen_ok, loadVar, hagg, Bool.false_eq_true, if_false, run_load, hS w hs]⟩
theorem yieldsIf_row {vs : List Value} (hw : Region.wanted o (yielded ops a.tmps) = true) (ho : o.op = .load ty x) (hx : a.eval x = .pointer (some ⟨b, off, none⟩)) (hd : (P.underlying ty).map TypeDesc.isRow = some true)
    (hi : (P.info? ty).map (·.size) = some n) (hn : vs.length = n) (hS : ∀ w, S w → w.rangeAt b off vs) : YieldsIf P ops S o (.agg vs.toArray) a := by
  obtain ⟨d, hu, hd⟩ : ∃ d, P.underlying ty = some d ∧ d.isRow = true := by
    cases hq : P.underlying ty with
    | none => simp [hq] at hd
    | some d => exact ⟨d, rfl, by simpa [hq] using hd⟩
  exact yieldsIf_load_mid hw ty x ho b off hx vs d hS hu hd (by rw [hi, hn])
theorem range_of {w : World} {b o n : Nat} {C : Array Value} {e : TypeId} {fz : Nat × Nat} (h : w.heap[b]? = some (.cells C e fz)) (vs : List Value) (hvs : (C.toList.drop o).take n = vs) : w.rangeAt b o vs := fun j v hv => by
  rw [cell_of_row w b (o + j) C e fz h]
  rw [← hvs, List.getElem?_take] at hv
  split at hv
  · rw [List.getElem?_drop] at hv
    simpa using hv
  · cases hv
end
end Go.Proofs.YtofljidmdabkcaaGreat

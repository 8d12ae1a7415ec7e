/- Messages' cells: zero, how many, in blocks of their own. -/
import Derived.Test.YtofljidmdabkcaaFits
import Derived.Test.YtofljidmdabkcaaCopyM
namespace Go.Proofs.Ytofljidmdabkcaa
open Go.RowKit
theorem info_msg : ∃ i, Try.prog.info? 32 = some i ∧ i.bytes = 312 ∧ i.zero = some (.agg (msgCs msgZ nilV nilV nilV nilV).toArray) := by
  have h : (Try.prog.info? 32).map (fun i => (i.zero, i.size, i.bytes)) = some (some (.agg (msgCs msgZ nilV nilV nilV nilV).toArray), 27, 312) := by kernel_rfl
  obtain ⟨i, hi, h1, h2, h3⟩ := info_parts h
  exact ⟨i, hi, h3, h1⟩
theorem msgZ_ok : msgZ.Ok := by
  have h : okI 0 := ⟨by decide, by decide⟩
  exact ⟨h, h, h, h, h, h, ⟨h, h, h, h, h, h, h⟩, h, ⟨h, h, h, by decide, h⟩⟩
theorem nilSl {α : Type} (r : Rep α) (w : World) (F : Nat → Prop) : Sl r w F (.slice none 0 0) [] := ⟨none, 0, rfl, Nat.le_refl _, Nat.zero_le _, .inl rfl⟩
theorem msgZ_cells (w : World) (F : Nat → Prop) : Rep.msg.cells w F msgZ (msgCs msgZ nilV nilV nilV nilV) := msg_mk (nilSl _ _ _) (nilSl _ _ _) (nilSl _ _ _) (nilSl _ _ _) msgZ_ok
theorem msg_oneA {w : World} {F : Nat → Prop} {m : Msg} {cs : List Value} (h : Rep.msg.cells w F m cs) : ∀ u ∈ (Value.agg cs.toArray).cells.toList, u.oneCell' = true := fun u hu => msg_one m cs h u (by simpa [Value.cells] using hu)
/-- What is taken, or told by Either, is a message's cells. -/
structure MsgL (cs : List Value) : Prop where
  len : cs.length = 27
  one : ∀ u ∈ cs, u.oneCell' = true
theorem MsgL.of {F : Nat → Prop} {w : World} {m : Msg} {cs : List Value} (h : Rep.msg.cells w F m cs) : MsgL cs := ⟨Rep.msg.len h, msg_one m cs h⟩
theorem MsgL.oneA {cs : List Value} (h : MsgL cs) : ∀ u ∈ (Value.agg cs.toArray).cells.toList, u.oneCell' = true := fun u hu => h.one u (by simpa [Value.cells] using hu)
theorem MsgL.fit {cs : List Value} (h : MsgL cs) : 0 + (Value.agg cs.toArray).cells.size ≤ 27 := by simp [Value.cells, h.len]
theorem MsgL.info {cs : List Value} (h : MsgL cs) : (Try.prog.info? 32).map (·.size) = some (Value.agg cs.toArray).cells.size := by
  rw [show (Value.agg cs.toArray).cells.size = 27 by simp [Value.cells, h.len]]; kernel_rfl
theorem MsgL.info' {cs : List Value} (h : MsgL cs) : (Try.prog.info? 32).map (·.size) = some cs.toArray.size := by
  rw [show cs.toArray.size = 27 by simp [h.len]]; kernel_rfl
theorem MsgL.whole {cs : List Value} (h : MsgL cs) {C : Array Value} (hC : C.size = 27) : some (Obj.cells (spl C 0 (Value.agg cs.toArray).cells.toList) 32) = some (Obj.cells cs.toArray 32) := by
  rw [spl_whole _ _ (by simp only [Value.cells, h.len, hC]; omega)]
  rfl
theorem MsgL.take {cs : List Value} (h : MsgL cs) : List.take 27 cs = cs := List.take_of_length_le (Nat.le_of_eq h.len)
abbrev zM : Value := .agg (msgCs msgZ nilV nilV nilV nilV).toArray
theorem msgL_z : MsgL (msgCs msgZ nilV nilV nilV nilV) := MsgL.of (F := fun _ => False) (w := default) (msgZ_cells _ _)
theorem T_M : SlT Try.prog 45 32 zM 27 312 := SlT.mk' Try.underlying45 (by kernel_rfl) rfl (by decide)
end Go.Proofs.Ytofljidmdabkcaa

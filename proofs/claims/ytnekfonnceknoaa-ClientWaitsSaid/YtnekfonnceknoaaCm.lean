/- The zero message. A message that is small enough to be copied. Messages' cells: zero, how many, in blocks of their own. -/
import Derived.Test.YtnekfonnceknoaaEntAlike
import Derived.Test.YtnekfonnceknoaaBa
namespace Go.Proofs.Ytnekfonnceknoaa
open Go.RowKit
def verdictZ : Verdict := ⟨0, 0, 0, ByteArray.empty, 0, [], 0⟩
def msgZ : Msg := ⟨0, 0, 0, 0, 0, 0, reqZ', [], [], 0, verdictZ⟩
def nilV : Value := .slice none 0 0
theorem msgCs_len (m : Msg) (a b c d : Value) : (msgCs m a b c d).length = 27 := rfl
theorem one_msgCs (m : Msg) {A B C D : Option Addr} {a b c d a' b' c' d' : Nat} : ∀ u ∈ msgCs m (.slice A a a') (.slice B b b') (.slice C c c') (.slice D d d'), u.oneCell' = true := by
  simp [msgCs, reqCs, verdictCs, Value.oneCell']
end Go.Proofs.Ytnekfonnceknoaa
namespace Go.Proofs.Ytnekfonnceknoaa
open Go.RowKit
section
variable {G : Nat → Prop} {w : World}
/-- A message that is small enough to be copied. -/
structure Msg.Fits (m : Msg) : Prop where
  c : m.value.changes.length ≤ 4294967296
  v : m.votes.length ≤ 4294967296
  i : m.image.length ≤ 4294967296
  k : m.verdict.commits.length ≤ 4294967296
  vc : ∀ x ∈ m.votes, x.value.changes.length ≤ 4294967296
  kc : ∀ x ∈ m.verdict.commits, x.changes.length ≤ 4294967296
end
end Go.Proofs.Ytnekfonnceknoaa
namespace Go.Proofs.Ytnekfonnceknoaa
open Go.RowKit
theorem info_msg : ∃ i, Try.prog.info? 37 = some i ∧ i.bytes = 312 ∧ i.zero = some (.agg (msgCs msgZ nilV nilV nilV nilV).toArray) := by
  have h : (Try.prog.info? 37).map (fun i => (i.zero, i.size, i.bytes)) = some (some (.agg (msgCs msgZ nilV nilV nilV nilV).toArray), 27, 312) := by kernel_rfl
  obtain ⟨i, hi, h1, h2, h3⟩ := info_parts h
  exact ⟨i, hi, h3, h1⟩
theorem msgZ_ok : msgZ.Ok := by
  have h : okI 0 := ⟨by decide, by decide⟩
  exact ⟨h, h, h, h, h, h, ⟨h, h, h, h, h, h, h⟩, h, ⟨h, h, h, by decide, h⟩⟩
theorem nilSl {α : Type} (r : Rep α) (w : World) (F : Nat → Prop) : Sl r w F (.slice none 0 0) [] := ⟨none, 0, rfl, Nat.le_refl _, Nat.zero_le _, .inl rfl⟩
theorem msgZ_cells (w : World) (F : Nat → Prop) : Rep.msg.cells w F msgZ (msgCs msgZ nilV nilV nilV nilV) := msg_mk (nilSl _ _ _) (nilSl _ _ _) (nilSl _ _ _) (nilSl _ _ _) msgZ_ok
theorem msg_oneA {w : World} {F : Nat → Prop} {m : Msg} {cs : List Value} (h : Rep.msg.cells w F m cs) : ∀ u ∈ (Value.agg cs.toArray).cells.toList, u.oneCell' = true := fun u hu => msg_one m cs h u (by simpa [Value.cells] using hu)
/-- What is taken, or told by Either, is a message's cells. -/
structure MsgL (cs : List Value) : Prop where
  len : cs.length = 27
  one : ∀ u ∈ cs, u.oneCell' = true
theorem MsgL.of {F : Nat → Prop} {w : World} {m : Msg} {cs : List Value} (h : Rep.msg.cells w F m cs) : MsgL cs := ⟨Rep.msg.len h, msg_one m cs h⟩
theorem MsgL.oneA {cs : List Value} (h : MsgL cs) : ∀ u ∈ (Value.agg cs.toArray).cells.toList, u.oneCell' = true := fun u hu => h.one u (by simpa [Value.cells] using hu)
theorem MsgL.fit {cs : List Value} (h : MsgL cs) : 0 + (Value.agg cs.toArray).cells.size ≤ 27 := by simp [Value.cells, h.len]
theorem MsgL.info {cs : List Value} (h : MsgL cs) : (Try.prog.info? 37).map (·.size) = some (Value.agg cs.toArray).cells.size := by
  rw [show (Value.agg cs.toArray).cells.size = 27 by simp [Value.cells, h.len]]; kernel_rfl
theorem MsgL.info' {cs : List Value} (h : MsgL cs) : (Try.prog.info? 37).map (·.size) = some cs.toArray.size := by
  rw [show cs.toArray.size = 27 by simp [h.len]]; kernel_rfl
theorem MsgL.whole {cs : List Value} (h : MsgL cs) {C : Array Value} (hC : C.size = 27) : some (Obj.cells (spl C 0 (Value.agg cs.toArray).cells.toList) 37) = some (Obj.cells cs.toArray 37) := by
  rw [spl_whole _ _ (by simp only [Value.cells, h.len, hC]; omega)]
  rfl
theorem MsgL.take {cs : List Value} (h : MsgL cs) : List.take 27 cs = cs := List.take_of_length_le (Nat.le_of_eq h.len)
abbrev zM : Value := .agg (msgCs msgZ nilV nilV nilV nilV).toArray
theorem msgL_z : MsgL (msgCs msgZ nilV nilV nilV nilV) := MsgL.of (F := fun _ => False) (w := default) (msgZ_cells _ _)
section
variable {w : World}
theorem row_at {g : Nat} {d : List Value} {e : TypeId} (hb : w.heap[g]? = some (.cells d.toArray e)) : Row (fun q => q = g) w (.slice (some ⟨g, 0, none⟩) 1 1) 1 d.length d :=
  ⟨_, _, rfl, by omega, Nat.le_refl _, by decide, .inr ⟨g, 0, rfl, rfl, lt_heap hb, fun j u hu => by
    rw [Nat.zero_add, cell_of_row _ _ j _ _ (0, 0) hb]
    simpa using hu⟩⟩
/-- Votes that are gathered, in memory of their own. -/
def OwnV (w w' : World) (A : Option Addr) (n c : Nat) (l : List Vote) : Prop :=
  Sl .vote w' (NewIn w w') (.slice A n c) l ∧ (∃ cs, w'.ownsRow 0 76 13 (.slice A n c) n cs) ∧ ∀ b, (Value.slice A n c).ownBlock = some b → w.heap.size ≤ b
end
end Go.Proofs.Ytnekfonnceknoaa

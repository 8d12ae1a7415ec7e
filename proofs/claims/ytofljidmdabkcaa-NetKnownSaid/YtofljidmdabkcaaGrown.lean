/- Rows that are gathered by append: each element's cells, what they point to in blocks of their own. -/
import Derived.Test.YtofljidmdabkcaaReq
namespace Go.Proofs.Ytofljidmdabkcaa
open Go.RowKit
section
variable {α : Type} {r : Rep α} {F G S : Nat → Prop} {w w' w1 w2 : World} {cs d : List Value} {l : List α}
/-- The cells of a row, element by element. -/
def Parts (r : Rep α) (w : World) (G : Nat → Prop) (cs : List Value) (l : List α) : Prop := ∀ i x, l[i]? = some x → r.cells w G x ((cs.drop (i * r.size)).take r.size)
theorem Parts.keep (h : Parts r w G cs l) (hk : Keep S w w') (hG : ∀ k, G k → ¬ S k) : Parts r w' G cs l := fun i x hx => r.keep (h i x hx) hk hG
theorem Parts.mono (h : Parts r w F cs l) (hF : ∀ k, F k → G k) : Parts r w G cs l := fun i x hx => r.mono (h i x hx) hF
theorem Parts.nil : Parts r w G [] [] := fun i x hx => by simp at hx
theorem Parts.one {x : α} (h : r.cells w G x d) : Parts r w G d [x] := fun i y hy => by
  have hi : i = 0 := by have := (List.getElem?_eq_some_iff.1 hy).1; simp at this; omega
  subst hi
  simp only [List.getElem?_cons_zero, Option.some.injEq] at hy
  subst hy
  rw [Nat.zero_mul, List.drop_zero, List.take_of_length_le (Nat.le_of_eq (r.len h))]
  exact h
theorem Parts.app {cs2 : List Value} {l2 : List α} (h : Parts r w G cs l) (hl : cs.length = l.length * r.size) (h2 : Parts r w G cs2 l2) : Parts r w G (cs ++ cs2) (l ++ l2) := fun i x hx => by
  by_cases hi : i < l.length
  · rw [List.getElem?_append_left hi] at hx
    have hle : (i + 1) * r.size ≤ l.length * r.size := Nat.mul_le_mul_right _ hi
    rw [Nat.succ_mul] at hle
    rw [List.drop_append_of_le_length (by omega), List.take_append_of_le_length (by rw [List.length_drop]; omega)]
    exact h i x hx
  · rw [List.getElem?_append_right (by omega)] at hx
    have := h2 (i - l.length) x hx
    have he : i * r.size = cs.length + (i - l.length) * r.size := by rw [hl, ← Nat.add_mul]; congr 1; omega
    rw [he, ← List.drop_drop, List.drop_left' rfl]
    exact this
theorem Parts.drop (h : Parts r w G cs l) (i : Nat) : Parts r w G (cs.drop (i * r.size)) (l.drop i) := fun j x hx => by
  rw [List.getElem?_drop] at hx
  have := h (i + j) x hx
  rwa [Nat.add_mul, ← List.drop_drop] at this
theorem Parts.sl {v : Value} (h : Parts r w G cs l) (hr : Row F w v l.length r.size cs) (hF : ∀ k, F k → G k) : Sl r w G v l := Sl.ofRow (hr.mono hF) h
theorem Sl.parts {v : Value} (h : Sl r w F v l) : ∃ cs, Row F w v l.length r.size cs ∧ Parts r w F cs l := h.cells
theorem owns_emp (w : World) (e : TypeId) (size : Nat) : (w.alloc (.cells #[] e)).ownsRow 0 e size (.slice (some ⟨w.heap.size, 0, none⟩) 0 0) 0 [] :=
  ⟨by simp, .inr ⟨w.heap.size, 0, #[], rfl, Nat.zero_le _, heap_alloc_new w _, Nat.le_refl _, by simp, by simp, by simp⟩⟩
theorem keep_emp2 {w6 : World} {o : Obj} (hk : Keep (fun q => some q = (Value.slice (some ⟨w.heap.size, 0, none⟩) 0 0).ownBlock) (w.alloc o) w6) : Keep (fun _ => False) w w6 :=
  ((Keep.refl (fun _ => False) w).alloc o).trans hk (fun b hb e => by simp only [Value.ownBlock, Option.some.injEq] at e; omega)
/-- A row that is gathered: its own block, the elements', and what they point to, from B on. -/
def GrownP (r : Rep α) (e : TypeId) (B : Nat) (w : World) (v : Value) (k : Nat) (l : List α) (cs : List Value) : Prop :=
  w.ownsRow 0 e r.size v k cs ∧ Parts r w (fun b => B ≤ b ∧ b < w.heap.size ∧ some b ≠ v.ownBlock) cs l ∧ l.length = k ∧ ∀ b, v.ownBlock = some b → B ≤ b
theorem GrownP.nil {e : TypeId} {B : Nat} : GrownP r e B w (.slice none 0 0) 0 [] [] := ⟨World.ownsRow_nil _ 0 _ _, Parts.nil, rfl, fun b hb => by simp [Value.ownBlock] at hb⟩
theorem GrownP.keep {e : TypeId} {B k : Nat} {v : Value} (h : GrownP r e B w v k l cs) (hk : Keep S w w') (hS : ∀ b, B ≤ b → b < w.heap.size → ¬ S b) : GrownP r e B w' v k l cs := by
  obtain ⟨h1, h2, h3, h4⟩ := h
  have hs := hk.size
  exact ⟨hk.owns h1 (fun b hb => hS b (h4 b hb) (own_lt' h1 b hb)), (h2.keep hk (fun b hb => hS b hb.1 hb.2.1)).mono (fun b hb => ⟨hb.1, by have := hb.2.1; omega, hb.2.2⟩), h3, h4⟩
theorem GrownP.keepF {e : TypeId} {B k : Nat} {v : Value} (h : GrownP r e B w v k l cs) (hk : Keep (fun _ => False) w w') : GrownP r e B w' v k l cs := h.keep hk (fun _ _ _ => id)
theorem GrownP.sl {e : TypeId} {B k : Nat} {v : Value} (h : GrownP r e B w v k l cs) : Sl r w (fun b => B ≤ b ∧ b < w.heap.size) v l := by
  obtain ⟨h1, h2, h3, h4⟩ := h
  subst h3
  exact (h2.mono (G := fun b => B ≤ b ∧ b < w.heap.size) (fun b hb => ⟨hb.1, hb.2.1⟩)).sl (Row.ofOwn h1) (fun b hb => ⟨h4 b hb.symm, own_lt' h1 b hb.symm⟩)
/-- One element more: what it points to is new. -/
theorem GrownP.more {e : TypeId} {B k c c2 : Nat} {A A2 : Option Addr} {x : α} {wa : World} (h : GrownP r e B w (.slice A k c) k l cs) (hB : B ≤ w.heap.size) (hk1 : Keep (fun _ => False) w w1)
    (hd : r.cells w1 (fun b => w.heap.size ≤ b ∧ b < w1.heap.size) x d) (hka : Keep (fun _ => False) w1 wa)
    (ho : w2.ownsRow 0 e r.size (.slice A2 (k + 1) c2) (k + 1) (cs ++ d)) (hk2 : Keep (fun q => some q = (Value.slice A k c).ownBlock) wa w2) (hn : SameOrNew wa (.slice A k c) (.slice A2 (k + 1) c2)) :
    GrownP r e B w2 (.slice A2 (k + 1) c2) (k + 1) (l ++ [x]) (cs ++ d) ∧ Keep (fun q => some q = (Value.slice A k c).ownBlock) w w2 := by
  obtain ⟨h1, h2, h3, h4⟩ := h
  have s1 := hk1.size
  have sa := hka.size
  have s2 := hk2.size
  have hob : ∀ b, (Value.slice A k c).ownBlock = some b → b < w.heap.size := fun b hb => own_lt' h1 b hb
  have hkw : Keep (fun q => some q = (Value.slice A k c).ownBlock) w w2 := (((hk1.trans hka (fun _ _ h => h)).mono (fun _ _ h => h.elim)).trans hk2 (fun _ _ h => h))
  have hne : ∀ b, b < wa.heap.size → some b ≠ (Value.slice A k c).ownBlock → some b ≠ (Value.slice A2 (k + 1) c2).ownBlock := fun b hb hne e => by
    rcases hn b e.symm with q | q
    · exact hne q.symm
    · omega
  refine ⟨⟨ho, ?_, by simp [h3], fun b hb => ?_⟩, hkw⟩
  · refine Parts.app ((h2.keep hkw (fun b hb e => hb.2.2 e)).mono (fun b hb => ⟨hb.1, by have := hb.2.1; omega, hne b (by have := hb.2.1; omega) hb.2.2⟩)) (by rw [h1.1, h3]) (Parts.one ?_)
    have hk12 : Keep (fun q => some q = (Value.slice A k c).ownBlock) w1 w2 := (hka.mono (fun _ _ h => h.elim)).trans hk2 (fun _ _ h => h)
    exact r.mono (r.keep hd hk12 (fun b hb e => by have := hob b e.symm; have := hb.1; omega)) (fun b hb => ⟨by have := hb.1; omega, by have := hb.2; omega, hne b (by have := hb.2; omega) (fun e => by have := hob b e.symm; have := hb.1; omega)⟩)
  · rcases hn b hb with q | q
    · exact h4 b q
    · omega
end
end Go.Proofs.Ytofljidmdabkcaa

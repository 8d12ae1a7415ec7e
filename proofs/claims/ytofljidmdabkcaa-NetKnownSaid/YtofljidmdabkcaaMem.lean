/- Plain lemmas on worlds: what one call may have changed, and what stays readable. No function of the program is named here. -/
import Derived.WalkKit
import Derived.WalkSpells
import Derived.WalkLawsBesides
import Derived.OneCell
namespace Go.Proofs.Ytofljidmdabkcaa
open Go.RowKit

theorem hid {p : Prop} (h : p) : Hid p := h

/-- The world w' is w, but for the blocks of S and for new ones. -/
structure Keep (S : Nat → Prop) (w w' : World) : Prop where
  os : w'.os = w.os
  tape : w'.tape = w.tape
  output : w'.output = w.output
  size : w.heap.size ≤ w'.heap.size
  block : ∀ k, k < w.heap.size → ¬ S k → w'.heap[k]? = w.heap[k]?

namespace Keep
variable {S T : Nat → Prop} {w w1 w2 : World}
theorem refl (S : Nat → Prop) (w : World) : Keep S w w := ⟨rfl, rfl, rfl, Nat.le_refl _, fun _ _ _ => rfl⟩
/-- One step behind another: what the second one writes is of S, or new. -/
theorem trans (h : Keep S w w1) (k : Keep T w1 w2) (hT : ∀ b, b < w.heap.size → T b → S b) : Keep S w w2 :=
  ⟨k.os.trans h.os, k.tape.trans h.tape, k.output.trans h.output, Nat.le_trans h.size k.size, fun b hb hs =>
    (k.block b (Nat.lt_of_lt_of_le hb h.size) (fun t => hs (hT b hb t))).trans (h.block b hb hs)⟩
theorem mono (h : Keep S w w1) (hT : ∀ b, b < w.heap.size → S b → T b) : Keep T w w1 :=
  ⟨h.os, h.tape, h.output, h.size, fun b hb ht => h.block b hb (fun s => ht (hT b hb s))⟩
theorem alloc (h : Keep S w w1) (o : Obj) : Keep S w (w1.alloc o) :=
  h.trans (T := fun _ => False) ⟨rfl, rfl, rfl, by simp, fun b hb _ => Below.heap_alloc _ _ _ hb⟩ (fun _ _ f => f.elim)
theorem setCell (h : Keep S w w1) (a : Addr) (v : Value) (ha : a.block < w.heap.size → S a.block) : Keep S w (w1.setCell a v) :=
  h.trans (T := fun b => b = a.block) ⟨rfl, rfl, rfl, by simp, fun b _ hb => Below.heap_setCell _ _ _ _ hb⟩ (fun b hb e => by subst e; exact ha hb)
theorem drew (h : Keep S w w1) : Keep S w w1.drew := ⟨h.os, h.tape, h.output, h.size, h.block⟩
theorem drewN (h : Keep S w w1) (n : Nat) : Keep S w (w1.drewN n) := ⟨h.os, h.tape, h.output, h.size, h.block⟩
theorem grown (h : Keep S w w1) {row : Option Nat} (hg : w1.grownBy w2 row) (hr : ∀ k, row = some k → k < w.heap.size → S k) : Keep S w w2 :=
  h.trans (T := fun b => some b = row) ⟨hg.os, hg.tape, hg.output, hg.size, fun b hb hn => hg.block b hb hn⟩ (fun b hb e => hr b e.symm hb)
theorem below (h : Keep S w w1) {B : Nat} (hB : B ≤ w.heap.size) (hS : ∀ b, b < B → ¬ S b) : Below B w w1 :=
  ⟨h.os, h.tape, h.output, h.size, fun b hb => h.block b (Nat.lt_of_lt_of_le hb hB) (hS b hb)⟩
theorem ofBelow {B : Nat} (h : Below B w w1) : Keep (fun b => B ≤ b) w w1 :=
  ⟨h.os, h.tape, h.output, h.size, fun b _ hs => h.block b (by omega)⟩
theorem cell (h : Keep S w w1) {a : Addr} {v : Value} (hc : w.cell? a = some v) (hs : ¬ S a.block) : w1.cell? a = some v :=
  (World.cell?_of_block (w := w) (h.block a.block (World.block_lt_of_cell? w a hc) hs)).trans hc
theorem heap (h : Keep S w w1) {b : Nat} {o : Obj} (ho : w.heap[b]? = some o) (hs : ¬ S b) : w1.heap[b]? = some o :=
  (h.block b (Array.getElem?_eq_some_iff.1 ho).1 hs).trans ho
theorem owns (h : Keep S w w1) {base : Nat} {e : TypeId} {size n : Nat} {v : Value} {xs : List Value} (ho : w.ownsRow base e size v n xs)
    (hs : ∀ k, v.ownBlock = some k → ¬ S k) : w1.ownsRow base e size v n xs := by
  refine ⟨ho.1, ?_⟩
  rcases ho.2 with hn | ⟨g, cap, cur, rfl, hb, hg, rest⟩
  · exact .inl hn
  · exact .inr ⟨g, cap, cur, rfl, hb, h.heap hg (hs g (by simp [Value.ownBlock])), rest⟩
end Keep

/-- The blocks of F, and those that are new in w'. -/
def Grow (F : Nat → Prop) (w w' : World) : Nat → Prop := fun k => F k ∨ (w.heap.size ≤ k ∧ k < w'.heap.size)
/-- The blocks that are new in w'. -/
def NewIn (w w' : World) : Nat → Prop := fun k => w.heap.size ≤ k ∧ k < w'.heap.size
theorem Grow.old {F : Nat → Prop} {w w' : World} {k : Nat} (h : F k) : Grow F w w' k := .inl h
theorem Grow.new {F : Nat → Prop} {w w' : World} {k : Nat} (h : w.heap.size ≤ k) (h' : k < w'.heap.size) : Grow F w w' k := .inr ⟨h, h'⟩
theorem Grow.apart {F G : Nat → Prop} {w w' : World} (h : ∀ k, F k → ¬ G k) (hG : ∀ k, G k → k < w.heap.size) : ∀ k, Grow F w w' k → ¬ G k := by
  rintro k (hk | ⟨h1, _⟩) hg
  · exact h k hk hg
  · have := hG k hg; omega
theorem Grow.lt {F : Nat → Prop} {w w' : World} (hF : ∀ k, F k → k < w.heap.size) (hs : w.heap.size ≤ w'.heap.size) : ∀ k, Grow F w w' k → k < w'.heap.size := by
  rintro k (hk | ⟨_, h2⟩)
  · have := hF k hk; omega
  · exact h2
theorem Grow.trans {F : Nat → Prop} {w w1 w2 : World} (h1 : w.heap.size ≤ w1.heap.size) (h2 : w1.heap.size ≤ w2.heap.size) : ∀ k, Grow (Grow F w w1) w1 w2 k → Grow F w w2 k := by
  rintro k ((hk | ⟨a, b⟩) | ⟨a, b⟩)
  · exact .inl hk
  · exact .inr ⟨a, by omega⟩
  · exact .inr ⟨by omega, b⟩
/-- A second step that writes what the first one had, or made. -/
theorem Keep.then {F : Nat → Prop} {w w1 w2 : World} (h : Keep F w w1) (k : Keep (Grow F w w1) w1 w2) : Keep F w w2 :=
  h.trans k (fun b hb hg => hg.elim id (fun ⟨x, _⟩ => absurd hb (by omega)))
theorem lt_heap {w : World} {b : Nat} {o : Obj} (h : w.heap[b]? = some o) : b < w.heap.size := (Array.getElem?_eq_some_iff.1 h).1

/-- A cell of a block that is known whole. -/
theorem cell_at {w : World} {b : Nat} {c : Array Value} {e : TypeId} {fz : Nat × Nat} (h : w.heap[b]? = some (.cells c e fz)) (o : Nat) (v : Value) (hv : c[o]? = some v) :
    w.cell? ⟨b, o, none⟩ = some v := by simp [World.cell?, h, hv]
theorem free_at {w : World} {b : Nat} {c : Array Value} {e : TypeId} (h : w.heap[b]? = some (.cells c e (0, 0))) (o : Nat) : w.frozen? ⟨b, o, none⟩ = false := by
  simp [World.frozen?, h]
theorem heap_set {w : World} {b : Nat} {c : Array Value} {e : TypeId} {fz : Nat × Nat} (h : w.heap[b]? = some (.cells c e fz)) (o : Nat) (v : Value) :
    (w.setCell ⟨b, o, none⟩ v).heap[b]? = some (.cells (c.setIfInBounds o v) e fz) := by
  simp [World.setCell, Array.getElem?_modify, h]
theorem heap_set_ne {w : World} {b : Nat} {o : Obj} (h : w.heap[b]? = some o) (a : Addr) (v : Value) (hne : b ≠ a.block) : (w.setCell a v).heap[b]? = some o := by
  rw [Below.heap_setCell _ _ _ _ hne]; exact h
theorem heap_alloc {w : World} {b : Nat} {o : Obj} (h : w.heap[b]? = some o) (o' : Obj) : (w.alloc o').heap[b]? = some o := by
  rw [Below.heap_alloc _ _ _ (lt_heap h)]; exact h
theorem heap_drew {w : World} {b : Nat} {o : Obj} (h : w.heap[b]? = some o) : w.drew.heap[b]? = some o := h

/-! ### Bytes that are read -/
def U8 (x : UInt8) : Value := .int .u8 (x.toNat : Int)

/-- The value v is a slice whose cells, len * size of them, read as cs; its block is of F. -/
def Row (F : Nat → Prop) (w : World) (v : Value) (n size : Nat) (cs : List Value) : Prop :=
  ∃ A c, v = .slice A n c ∧ cs.length = n * size ∧ n ≤ c ∧ c ≤ maxLen ∧
    (c = 0 ∨ ∃ b off, A = some ⟨b, off, none⟩ ∧ F b ∧ b < w.heap.size ∧ ∀ j u, cs[j]? = some u → w.cell? ⟨b, off + j, none⟩ = some u)

theorem Row.nil (F : Nat → Prop) (w : World) (size : Nat) : Row F w (.slice none 0 0) 0 size [] := ⟨none, 0, rfl, by simp, Nat.le_refl _, Nat.zero_le _, .inl rfl⟩
theorem Row.empty (F : Nat → Prop) (w : World) (A : Option Addr) : Row F w (.slice A 0 0) 0 1 [] := ⟨A, 0, rfl, by simp, Nat.le_refl _, Nat.zero_le _, .inl rfl⟩
theorem Row.keep {F S : Nat → Prop} {w w' : World} {v : Value} {n size : Nat} {cs : List Value} (h : Row F w v n size cs) (hk : Keep S w w') (hd : ∀ b, F b → ¬ S b) : Row F w' v n size cs := by
  obtain ⟨A, c, hv, hl, hn, hc, h | ⟨b, off, hA, hF, hb, hcell⟩⟩ := h
  · exact ⟨A, c, hv, hl, hn, hc, .inl h⟩
  · exact ⟨A, c, hv, hl, hn, hc, .inr ⟨b, off, hA, hF, Nat.lt_of_lt_of_le hb hk.size, fun j u hu => hk.cell (hcell j u hu) (hd b hF)⟩⟩
theorem Row.mono {F G : Nat → Prop} {w : World} {v : Value} {n size : Nat} {cs : List Value} (h : Row F w v n size cs) (hFG : ∀ b, F b → G b) : Row G w v n size cs := by
  obtain ⟨A, c, hv, hl, hn, hc, h | ⟨b, off, hA, hF, hb, hcell⟩⟩ := h
  · exact ⟨A, c, hv, hl, hn, hc, .inl h⟩
  · exact ⟨A, c, hv, hl, hn, hc, .inr ⟨b, off, hA, hFG b hF, hb, hcell⟩⟩
theorem Row.shape {F : Nat → Prop} {w : World} {v : Value} {n size : Nat} {cs : List Value} (h : Row F w v n size cs) : ∃ A c, v = .slice A n c := by
  obtain ⟨A, c, rfl, _⟩ := h
  exact ⟨A, c, rfl⟩
theorem Row.upto {F : Nat → Prop} {w : World} {A : Option Addr} {c n : Nat} {l : List UInt8} (h : Row F w (.slice A l.length c) l.length 1 (l.map U8)) (hn : n ≤ l.length) : Row F w (.slice A n c) n 1 ((l.take n).map U8) := by
  obtain ⟨A', c', he, hl, hnc, hc, hA⟩ := h
  simp only [Value.slice.injEq, true_and] at he
  obtain ⟨rfl, rfl⟩ := he
  refine ⟨A, c, rfl, by simp; omega, by omega, hc, ?_⟩
  rcases hA with hA | ⟨b, off, hA, hF, hb, hcell⟩
  · exact .inl hA
  · refine .inr ⟨b, off, hA, hF, hb, fun j u hu => hcell j u ?_⟩
    rw [List.map_take, List.getElem?_take] at hu
    split at hu
    · exact hu
    · simp at hu

/-- A row of the call's own, read. -/
theorem Row.ofOwn {w : World} {base e size n : Nat} {v : Value} {xs : List Value} (h : w.ownsRow base e size v n xs) : Row (fun b => some b = v.ownBlock) w v n size xs := by
  rcases h.2 with ⟨rfl, rfl⟩ | ⟨g, cap, cur, rfl, hb, hg, hn, hc, hs, ht⟩
  · have : xs = [] := List.eq_nil_of_length_eq_zero (by simpa using h.1)
    subst this
    exact Row.nil _ _ _
  · refine ⟨_, _, rfl, h.1, hn, hc, .inr ⟨g, 0, rfl, by simp [Value.ownBlock], lt_heap hg, fun j u hu => ?_⟩⟩
    have := h.cells (g := g) (by simp [Value.ownBlock]) j u hu
    rw [Addr.add_lit] at this
    simpa using this
end Go.Proofs.Ytofljidmdabkcaa

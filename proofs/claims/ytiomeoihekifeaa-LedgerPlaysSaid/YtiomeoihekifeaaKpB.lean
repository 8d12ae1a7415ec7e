/- What a round of a range over a function leaves alone that gathers into a slice. No function of the program is named here. -/
import Derived.Test.YtiomeoihekifeaaRangeM
import Derived.Test.YtiomeoihekifeaaAppIn
import Derived.Shelf.Abstract
import Derived.OwnWalkIn
import Derived.TacticsInMore
import Derived.LoopNIn
import Derived.LoopIn
namespace Go.Proofs.Ytiomeoihekifeaa
open Go.RowKit Go.Shelf
/-- The block of the slice that the box lb holds. -/
def rowblk (lb : Nat) (W : World) (k : Nat) : Prop := ∃ n c, W.cell? ⟨lb, 0, none⟩ = some (.slice (some ⟨k, 0, none⟩) n c)
/-- A round writes its box, the row that the box holds, and new blocks. -/
def KpB (lb l : Nat) (W W' : World) : Prop := Keep (fun k => k = lb ∨ k = l ∨ rowblk lb W k) W W' ∧ ∀ k, rowblk lb W' k → rowblk lb W k ∨ W.heap.size ≤ k
theorem KpB.refl (lb l : Nat) (W : World) : KpB lb l W W := ⟨Keep.refl _ _, fun _ h => .inl h⟩
theorem KpB.trans {lb l : Nat} {A B C : World} (h1 : KpB lb l A B) (h2 : KpB lb l B C) : KpB lb l A C := by
  refine ⟨h1.1.trans h2.1 (fun b hb h => ?_), fun k hk => ?_⟩
  · rcases h with h | h | h
    · exact .inl h
    · exact .inr (.inl h)
    · rcases h1.2 b h with q | q
      · exact .inr (.inr q)
      · omega
  · rcases h2.2 k hk with q | q
    · exact h1.2 k q
    · right; have := h1.1.size; omega
theorem rowblk_same {lb : Nat} {A B : World} (h : B.heap[lb]? = A.heap[lb]?) (k : Nat) (hk : rowblk lb B k) : rowblk lb A k := by
  obtain ⟨n, c, hc⟩ := hk
  exact ⟨n, c, by rw [← hc]; exact (World.cell?_of_block h).symm⟩
theorem KpB.ofF {lb l : Nat} {A B : World} (h : Keep (fun _ => False) A B) (hlb : lb < A.heap.size) : KpB lb l A B :=
  ⟨h.mono (fun _ _ f => f.elim), fun k hk => .inl (rowblk_same (h.block lb hlb id) k hk)⟩
theorem KpB.put {lb l : Nat} {A : World} (o' : Obj) (hlb : lb ≠ l) : KpB lb l A (A.putObj l o') := by
  have hg := grownBy_putObj' A l o'
  exact ⟨⟨hg.os, hg.tape, hg.output, hg.size, fun k hk hn => hg.block k hk (fun e => hn (.inr (.inl (Option.some.inj e))))⟩, fun k hk => .inl (rowblk_same (World.putObj_heap_other hlb) k hk)⟩
def isC (W : World) (b : Nat) : Prop := ∃ c e fz, W.heap[b]? = some (.cells c e fz)
theorem isC.lt {W : World} {b : Nat} (h : isC W b) : b < W.heap.size := by obtain ⟨c, e, fz, h⟩ := h; exact lt_heap h
theorem isC.same {W W' : World} {b : Nat} (h : isC W b) (hs : W'.heap[b]? = W.heap[b]?) : isC W' b := by obtain ⟨c, e, fz, h⟩ := h; exact ⟨c, e, fz, hs.trans h⟩
theorem isC_cell {W : World} {a : Addr} {v : Value} (_ha : a.spot = none) (h : W.cell? a = some v) : isC W a.block := by
  cases hq : W.heap[a.block]? with
  | none => simp [World.cell?, hq] at h
  | some o =>
    cases o with
    | cells c e fz => exact ⟨c, e, fz, hq⟩
    | _ => simp [World.cell?, hq] at h
/-- Memory that a round leaves alone. -/
def MemB (B lb : Nat) (W : World) (b : Nat) : Prop := B ≤ b ∧ b ≠ lb ∧ ¬ rowblk lb W b ∧ isC W b
theorem own_isC {w : World} {e : TypeId} {size n : Nat} {v : Value} {xs : List Value} (h : w.ownsRow 0 e size v n xs) (b : Nat) (hb : v.ownBlock = some b) : isC w b := by
  obtain ⟨_, ⟨h1, _⟩ | ⟨g, c, cur, rfl, _, hg, _⟩⟩ := h
  · subst h1; simp [Value.ownBlock] at hb
  · simp only [Value.ownBlock, Option.some.injEq] at hb
    subst hb
    exact ⟨_, _, _, hg⟩
theorem MemB.step {S : Nat → Prop} {B lb : Nat} {A A' : World} (hk : Keep S A A') (hlb : ¬ S lb) (hcell : ∀ k, S k → ¬ isC A k) (hlt : lb < A.heap.size) (k : Nat) (h : MemB B lb A k) : MemB B lb A' k :=
  ⟨h.1, h.2.1, fun hr => h.2.2.1 (rowblk_same (hk.block lb hlt hlb) k hr), h.2.2.2.same (hk.block k h.2.2.2.lt (fun s => hcell k s h.2.2.2))⟩
theorem keepsFrom_of {S : Nat → Prop} {B : Nat} {W W' : World} (hk : Keep S W W') (h : ∀ k, S k → B ≤ k → isC W k) : KeepsFrom B W W' :=
  ⟨hk.size, fun k o hB ho hc => hk.heap ho (fun s => by
    obtain ⟨c, e, fz, hh⟩ := h k s hB
    rw [ho] at hh
    cases hh
    simp [Obj.isCells] at hc)⟩
theorem keep_of_grown {A A' : World} {row : Option Nat} (hg : A.grownBy A' row) : Keep (fun k => some k = row) A A' := ⟨hg.os, hg.tape, hg.output, hg.size, fun k hk hn => hg.block k hk hn⟩
theorem not_isC {A : World} {k : Nat} {o : Obj} (h : A.heap[k]? = some o) (hc : o.isCells = false) : ¬ isC A k := fun ⟨c, e, fz, hh⟩ => by
  rw [h] at hh; cases hh; simp [Obj.isCells] at hc
end Go.Proofs.Ytiomeoihekifeaa

/- Numbers that a function gathers in a slice of its own. -/
import Derived.Test.YthlgnilgjeebaaaInts
namespace Go.Proofs.Ythlgnilgjeebaaa
open Go.RowKit
theorem TI : SlT Try.prog 27 3 (.int .i64 0) 1 8 := SlT.mk' Try.underlying27 (by kernel_rfl) rfl (by decide)
/-- u holds l, in memory that is new since w; all that w had is as it was. -/
structure Gat (w wr : World) (u : Value) (l : List Int) : Prop where
  own : wr.ownsRow 0 3 1 u l.length (l.map I64)
  new : ∀ b, u.ownBlock = some b → w.heap.size ≤ b
  kp : Keep (fun _ => False) w wr
section
variable {w wr w6 : World} {u : Value} {l : List Int}
theorem Gat.nil (w : World) : Gat w w (.slice none 0 0) [] := ⟨by simpa using World.ownsRow_nil _ _ _ _, fun b hb => by simp [Value.ownBlock] at hb, Keep.refl _ _⟩
theorem Gat.push {A : Option Addr} {c : Nat} {o : Obj} (h : Gat w wr u l) (x : Int) (ho6 : w6.ownsRow 0 3 1 (.slice A (l.length + 1) c) (l.length + 1) (l.map I64 ++ [.int .i64 x])) (hk6 : Keep (fun k => some k = u.ownBlock) (wr.alloc o) w6)
    (hn6 : SameOrNew (wr.alloc o) u (.slice A (l.length + 1) c)) : Gat w w6 (.slice A (l.length + 1) c) (l ++ [x]) := by
  have hs := h.kp.size
  refine ⟨by simpa using ho6, fun b hb => ?_, (h.kp.alloc o).trans hk6 (fun b hb e => by have := h.new b e.symm; omega)⟩
  rcases hn6 b hb with q | q
  · exact h.new b q
  · simp at q; omega
theorem Gat.row (h : Gat w wr u l) : Row (NewIn w wr) wr u l.length 1 (l.map I64) := (Row.ofOwn h.own).mono (fun b hb => ⟨h.new b hb.symm, own_lt' h.own b hb.symm⟩)
theorem Gat.keep {w' : World} (h : Gat w wr u l) (hk : Keep (fun _ => False) wr w') : Gat w w' u l := ⟨hk.owns h.own (fun _ _ => id), h.new, h.kp.trans hk (fun _ _ f => f)⟩
theorem Gat.later {w0 : World} (h : Gat w wr u l) (hk : Keep (fun _ => False) w0 w) : Gat w0 wr u l := ⟨h.own, fun b hb => by have := h.new b hb; have := hk.size; omega, hk.trans h.kp (fun _ _ f => f)⟩
end
/-- The first k numbers that pass. -/
def upIds (p : Int → Bool) (k : Nat) : List Int := ((List.range k).map (fun (i : Nat) => (i : Int))).filter p
theorem upIds_zero (p : Int → Bool) : upIds p 0 = [] := rfl
theorem upIds_succ (p : Int → Bool) (k : Nat) : upIds p (k + 1) = upIds p k ++ if p k then [(k : Int)] else [] := by
  unfold upIds
  rw [List.range_succ, List.map_append, List.filter_append]
  congr 1
  cases h : p k <;> simp [h]
theorem upIds_le (p : Int → Bool) (k : Nat) : (upIds p k).length ≤ k := by
  unfold upIds
  exact Nat.le_trans (List.length_filter_le _ _) (by simp)
theorem upIds_mem (p : Int → Bool) (k : Nat) (x : Int) : x ∈ upIds p k ↔ 0 ≤ x ∧ x < k ∧ p x = true := by
  unfold upIds
  rw [List.mem_filter, List.mem_map]
  constructor
  · rintro ⟨⟨i, hi, rfl⟩, hp⟩
    rw [List.mem_range] at hi
    exact ⟨by omega, by omega, hp⟩
  · rintro ⟨h1, h2, h3⟩
    exact ⟨⟨x.toNat, by rw [List.mem_range]; omega, by omega⟩, h3⟩
theorem upIds_congr {p q : Int → Bool} {k : Nat} (h : ∀ x : Int, 0 ≤ x → x < k → p x = q x) : upIds p k = upIds q k := by
  unfold upIds
  apply List.filter_congr
  intro x hx
  obtain ⟨i, hi, rfl⟩ := List.mem_map.1 hx
  rw [List.mem_range] at hi
  exact h _ (by omega) (by omega)
end Go.Proofs.Ythlgnilgjeebaaa

/- How the data of a law's arguments read: whatever is made of numbers, bools, strings, slices, structs. -/
import Derived.Test.YtofljidmdabkcaaRep
import Derived.Test.YtofljidmdabkcaaOpen
namespace Go.Proofs.Ytofljidmdabkcaa
open Go.ChangeShapes Go.WideShapes Go.ChangeAt Go.RowKit

/-- Cells of type t that can be read hold a value. -/
def Opens {α : Type} (P : Program) (r : Rep α) (t : TypeId) : Prop :=
  P.cellsOf t = r.size ∧ ∀ (H : Type) (enc : TypeId × Value → H) (W : World) (base : Nat) (held : Bool) (fuel : Nat) (cs : List Value) (x : DataW H × List MemPlace),
    DataW.trod enc P W base (fun _ => true) held fuel t cs = some x → ∃ a : α, r.cells W (fun b => b < W.heap.size) a cs

section
variable {P : Program} {t : TypeId}
theorem Opens.int (hu : P.underlying t = some (.int .i64)) (hc : P.cellsOf t = 1) : Opens P Rep.int t := ⟨hc, fun H enc W base held fuel cs x h => by
  obtain ⟨n, rfl, _, hw⟩ := DataW.trod_int hu h
  simp [Lit.wf, IntKind.min, IntKind.max, IntKind.signed, IntKind.bits] at hw
  exact ⟨n, rfl, hw⟩⟩
theorem Opens.u64 (hu : P.underlying t = some (.int .u64)) (hc : P.cellsOf t = 1) : Opens P Rep.u64 t := ⟨hc, fun H enc W base held fuel cs x h => by
  obtain ⟨n, rfl, _, hw⟩ := DataW.trod_int hu h
  simp [Lit.wf, IntKind.min, IntKind.max, IntKind.signed, IntKind.bits] at hw
  exact ⟨n.toNat, by simp [Rep.flat]; omega, by omega⟩⟩
theorem Opens.u8 (hu : P.underlying t = some (.int .u8)) (hc : P.cellsOf t = 1) : Opens P Rep.u8 t := ⟨hc, fun H enc W base held fuel cs x h => by
  obtain ⟨n, rfl, _, hw⟩ := DataW.trod_int hu h
  simp [Lit.wf, IntKind.min, IntKind.max, IntKind.signed, IntKind.bits] at hw
  refine ⟨UInt8.ofNat n.toNat, ?_⟩
  simp only [Rep.u8, Rep.flat, U8, UInt8.toNat_ofNat', List.cons.injEq, and_true, Value.int.injEq, true_and]
  omega⟩
theorem Opens.bool (hu : P.underlying t = some .bool) (hc : P.cellsOf t = 1) : Opens P Rep.bool t := ⟨hc, fun H enc W base held fuel cs x h => by
  obtain ⟨b, rfl, _⟩ := DataW.trod_bool hu h
  exact ⟨b, rfl⟩⟩
theorem Opens.str (hu : P.underlying t = some .string) (hc : P.cellsOf t = 1) : Opens P Rep.str t := ⟨hc, fun H enc W base held fuel cs x h => by
  obtain ⟨s, rfl, _, _⟩ := DataW.trod_string hu h
  exact ⟨s, rfl⟩⟩
theorem Opens.as {α β : Type} {a : Rep α} (h : Opens P a t) (f : β → α) (g : α → β) (hfg : ∀ x, f (g x) = x) : Opens P (a.as f) t := ⟨h.1, fun H enc W base held fuel cs x hx => by
  obtain ⟨y, hy⟩ := h.2 H enc W base held fuel cs x hx
  exact ⟨g y, by simpa [Rep.as, hfg] using hy⟩⟩

/-- Fields that lie behind one another from a place on. -/
def OpensF {α : Type} (P : Program) (fs : List Field) (off : Nat) (r : Rep α) : Prop :=
  ∀ (H : Type) (enc : TypeId × Value → H) (W : World) (base : Nat) (held : Bool) (n : Nat) (cs : List Value),
    (∀ f ∈ fs, ∃ x, DataW.trod enc P W base (fun _ => true) held n f.type ((cs.drop f.offset).take (P.cellsOf f.type)) = some x) →
    ∃ a : α, r.cells W (fun b => b < W.heap.size) a ((cs.drop off).take r.size)
theorem OpensF.one {α : Type} {a : Rep α} {f : Field} {off : Nat} (ho : f.offset = off) (h : Opens P a f.type) : OpensF P [f] off a := fun H enc W base held n cs hall => by
  obtain ⟨x, hx⟩ := hall f (by simp)
  obtain ⟨y, hy⟩ := h.2 H enc W base held n _ x hx
  rw [h.1, ho] at hy
  exact ⟨y, hy⟩
theorem OpensF.cons {α β : Type} {a : Rep α} {b : Rep β} {f : Field} {fs : List Field} {off : Nat} (ho : f.offset = off) (h : Opens P a f.type) (hs : OpensF P fs (off + a.size) b) : OpensF P (f :: fs) off (a.pair b) := fun H enc W base held n cs hall => by
  obtain ⟨x, hx⟩ := hall f (by simp)
  obtain ⟨y, hy⟩ := h.2 H enc W base held n _ x hx
  rw [h.1, ho] at hy
  obtain ⟨z, hz⟩ := hs H enc W base held n cs (fun g hg => hall g (by simp [hg]))
  refine ⟨(y, z), _, _, ?_, hy, hz⟩
  show List.take (a.size + b.size) _ = _
  rw [List.take_add, List.drop_drop]
theorem Opens.struct {α : Type} {r : Rep α} {fs : Array Field} (hu : P.underlying t = some (.struct fs)) (hc : P.cellsOf t = r.size) (hf : OpensF P fs.toList 0 r) : Opens P r t := ⟨hc, fun H enc W base held fuel cs x h => by
  obtain ⟨xs, n, _, _, hl, hlen, hfs⟩ := DataW.trod_struct hu h
  obtain ⟨a, ha⟩ := hf H enc W base held n cs (fun f hf => by
    obtain ⟨i, hi⟩ := List.getElem?_of_mem hf
    have hfi := hfs i f (by simpa using hi)
    have hlt : i < fs.size := by
      have := (List.getElem?_eq_some_iff.1 hi).1
      simpa using this
    rw [hfi]
    exact ⟨xs[i]'(by omega), by simp [hlen, hlt]⟩)
  refine ⟨a, ?_⟩
  rw [List.drop_zero, List.take_of_length_le (by omega)] at ha
  exact ha⟩
theorem list_of {α : Type} {Q : Nat → α → Prop} : ∀ n : Nat, (∀ i, i < n → ∃ y, Q i y) → ∃ l : List α, l.length = n ∧ ∀ i x, l[i]? = some x → Q i x
  | 0, _ => ⟨[], rfl, fun i x h => by simp at h⟩
  | n + 1, h => by
    obtain ⟨l, hl, hq⟩ := list_of n (fun i hi => h i (by omega))
    obtain ⟨y, hy⟩ := h n (by omega)
    refine ⟨l ++ [y], by simp [hl], fun i x hx => ?_⟩
    rw [List.getElem?_append] at hx
    split at hx
    · exact hq i x hx
    · have hi : i = n := by
        have h1 : i - l.length < 1 := by
          rcases Nat.lt_or_ge (i - l.length) 1 with h | h
          · exact h
          · rw [List.getElem?_eq_none (by simpa using h)] at hx; cases hx
        omega
      subst hi
      rw [hl, Nat.sub_self] at hx
      simp at hx
      subst hx
      exact hy
theorem cells_at {W : World} {a : Addr} {base n : Nat} {cs : List Value} (h : W.cells? base a n = some cs) : cs.length = n ∧ ∀ i, i < n → W.cell? (a.add i) = cs[i]? := by
  have := World.cells?_some h
  exact ⟨this.2.1, this.2.2⟩
theorem cells_spot {W : World} {a : Addr} {base n : Nat} {cs : List Value} (h : W.cells? base a n = some cs) (hn : 0 < n) : a.spot = none ∧ a.block < W.heap.size := by
  obtain ⟨hl, hc⟩ := cells_at h
  have h0 := hc 0 hn
  have ha0 : a.add 0 = a := by simp [Addr.add]
  rw [ha0] at h0
  refine ⟨?_, World.cells?_block h hn⟩
  obtain ⟨v, hv⟩ : ∃ v, cs[0]? = some v := ⟨cs[0]'(by omega), by simp [hl, hn]⟩
  rw [hv] at h0
  unfold World.cell? at h0
  split at h0
  · split at h0
    · cases h0
    · rename_i hns; simpa using hns
  · cases h0
theorem Opens.slice {α : Type} {r : Rep α} {e : TypeId} (hu : P.underlying t = some (.slice e)) (hc : P.cellsOf t = 1) (h : Opens P r e) (hpos : 0 < r.size) : Opens P r.slice t := ⟨hc, fun H enc W base held fuel cs x hx => by
  rcases DataW.trod_slice hu hx with ⟨rfl, _⟩ | ⟨a, len, cap, elems, rest, n, _, rfl, _, hb, hl, hm, hlen, hel, hsp, _⟩
  · exact ⟨[], _, rfl, none, 0, rfl, Nat.le_refl _, Nat.zero_le _, .inl rfl⟩
  · by_cases h0 : cap = 0
    · subst h0
      obtain rfl : len = 0 := by omega
      exact ⟨[], _, rfl, some a, 0, rfl, Nat.le_refl _, Nat.zero_le _, .inl rfl⟩
    · have hone : ∀ i, i < len → ∃ y : α, ∃ cs, r.cells W (fun b => b < W.heap.size) y cs ∧ W.cells? base (a.add (i * r.size)) r.size = some cs := by
        intro i hi
        have h1 := hel i hi
        obtain ⟨y0, hy0⟩ : ∃ y0, elems[i]? = some y0 := ⟨elems[i]'(by omega), by simp [hlen, hi]⟩
        rw [hy0, Option.bind_eq_some_iff] at h1
        obtain ⟨cs, hcs, hy⟩ := h1
        obtain ⟨y, hy⟩ := h.2 H enc W base held n cs y0 hy
        rw [h.1] at hcs
        exact ⟨y, cs, hy, hcs⟩
      have hspot : a.spot = none ∧ a.block < W.heap.size := by
        by_cases hlen0 : 0 < len
        · obtain ⟨y, cs, _, hcs⟩ := hone 0 hlen0
          have := cells_spot hcs hpos
          simpa [Addr.add] using this
        · have h1 := (hsp rfl).2 0 (by omega)
          have hrl := (hsp rfl).1
          obtain ⟨y0, hy0⟩ : ∃ y0, rest[0]? = some y0 := ⟨rest[0]'(by omega), by simp⟩
          rw [hy0, Option.bind_eq_some_iff] at h1
          obtain ⟨cs, hcs, _⟩ := h1
          rw [show len + 0 = 0 by omega, Nat.zero_mul] at hcs
          have := cells_spot hcs (by rw [h.1]; exact hpos)
          simpa [Addr.add] using this
      obtain ⟨b, off, sp⟩ := a
      obtain ⟨hs, hlt⟩ := hspot
      simp only at hs hlt
      subst hs
      obtain ⟨l, hll, hq⟩ := list_of len hone
      refine ⟨l, _, rfl, some ⟨b, off, none⟩, cap, by rw [hll], by omega, hm, .inr ⟨b, off, rfl, hlt, hlt, fun i x hx => ?_⟩⟩
      obtain ⟨cs, h1, h2⟩ := hq i x hx
      refine ⟨cs, h1, fun k u hu => ?_⟩
      obtain ⟨hcl, hcc⟩ := cells_at h2
      have hk : k < r.size := by
        rw [← hcl]
        rcases Nat.lt_or_ge k cs.length with h | h
        · exact h
        · rw [List.getElem?_eq_none h] at hu; cases hu
      have := hcc k hk
      rw [Addr.add_lit, Addr.add_lit] at this
      rw [this]
      exact hu⟩

/-- A slice that came in: its elements, and that it is no longer than the form's reach. -/
theorem open_sl {α : Type} {r : Rep α} {e : TypeId} {H : Type} {enc : TypeId × Value → H} {W : World} {base : Nat} {held : Bool} {A : Option Addr} {len cap : Nat} {d : DataW H} {ps : List MemPlace} {ts : List TypeId} {ds : List (DataW H)} {j : Nat}
    (hu : P.underlying t = some (.slice e)) (ho : Opens P r.slice t)
    (hsz : (DataW.weightsEach P ts ds).all (· ≤ reachBytes) = true) (ht : ts[j]? = some t) (hd : ds[j]? = some d)
    (h : DataW.Trod enc P W base (fun _ => true) held t (.slice A len cap) d ps) :
    ∃ l : List α, l.length = len ∧ l.length * P.bytesOf e ≤ 140737488351232 ∧ Sl r W (fun b => b < W.heap.size) (.slice A l.length cap) l := by
  have hsize : len * P.bytesOf e ≤ 140737488351232 := by
    obtain ⟨fuel, hf⟩ := h
    rcases DataW.trod_slice hu hf with ⟨hcs, _⟩ | ⟨x, l, c, elems, rest, n, _, hcs, hx, _, hl, _, hlen, _⟩
    · simp [Value.cells] at hcs
      obtain ⟨rfl, rfl, rfl⟩ := hcs
      simp
    · simp [Value.cells] at hcs
      obtain ⟨rfl, rfl, rfl⟩ := hcs
      obtain ⟨hx, _⟩ := Prod.mk.inj hx
      subst hx
      have z := sized_slice hsz ht hd hu
      simp only [List.length_map, reachBytes] at z
      refine Nat.le_trans (Nat.mul_le_mul_right _ ?_) z
      omega
  obtain ⟨fuel, hf⟩ := h
  obtain ⟨l, v, hv, hs⟩ := ho.2 H enc W base held fuel _ _ hf
  simp [Value.cells] at hv
  subst hv
  have hs0 := hs
  obtain ⟨A', c', he, _⟩ := hs0
  simp only [Value.slice.injEq] at he
  obtain ⟨_, rfl, _⟩ := he
  exact ⟨l, rfl, hsize, hs⟩
end
end Go.Proofs.Ytofljidmdabkcaa

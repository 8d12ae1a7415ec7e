/- How values of Go's types read as values of Lean's types: numbers, bools, strings, slices, structs. -/
import Derived.Test.YtofljidmdabkcaaMem
namespace Go.Proofs.Ytofljidmdabkcaa
open Go.RowKit

/-- A reading: how many cells a value has, and when cells hold a value; what lies behind slices lies in blocks of F. -/
structure Rep (α : Type) where
  size : Nat
  cells : World → (Nat → Prop) → α → List Value → Prop
  len : ∀ {w F x cs}, cells w F x cs → cs.length = size
  keep : ∀ {w w' : World} {F S : Nat → Prop} {x cs}, cells w F x cs → Keep S w w' → (∀ k, F k → ¬ S k) → cells w' F x cs
  mono : ∀ {w : World} {F G : Nat → Prop} {x cs}, cells w F x cs → (∀ k, F k → G k) → cells w G x cs

/-- A value of one cell that holds nothing of memory. -/
def Rep.flat {α : Type} (f : α → Value) : Rep α where
  size := 1
  cells _ _ x cs := cs = [f x]
  len h := by subst h; rfl
  keep h _ _ := h
  mono h _ := h
/-- A reading of those values alone of which p holds. -/
def Rep.only {α : Type} (a : Rep α) (p : α → Prop) : Rep α where
  size := a.size
  cells w F x cs := a.cells w F x cs ∧ p x
  len h := a.len h.1
  keep h hk hd := ⟨a.keep h.1 hk hd, h.2⟩
  mono h hF := ⟨a.mono h.1 hF, h.2⟩
def Rep.int : Rep Int := (Rep.flat fun n : Int => .int .i64 n).only fun n => -9223372036854775808 ≤ n ∧ n ≤ 9223372036854775807
def Rep.u64 : Rep Nat := (Rep.flat fun n : Nat => .int .u64 n).only fun n => n ≤ 18446744073709551615
def Rep.bool : Rep Bool := Rep.flat fun b => .bool b
def Rep.str : Rep ByteArray := Rep.flat fun s => .string s
def Rep.u8 : Rep UInt8 := Rep.flat U8

/-- One thing behind the other. -/
def Rep.pair {α β : Type} (a : Rep α) (b : Rep β) : Rep (α × β) where
  size := a.size + b.size
  cells w F x cs := ∃ c d, cs = c ++ d ∧ a.cells w F x.1 c ∧ b.cells w F x.2 d
  len := by rintro w F x cs ⟨c, d, rfl, h1, h2⟩; simp [a.len h1, b.len h2]
  keep := by rintro w w' F S x cs ⟨c, d, rfl, h1, h2⟩ hk hd; exact ⟨c, d, rfl, a.keep h1 hk hd, b.keep h2 hk hd⟩
  mono := by rintro w F G x cs ⟨c, d, rfl, h1, h2⟩ hF; exact ⟨c, d, rfl, a.mono h1 hF, b.mono h2 hF⟩
/-- The same cells, seen as another type. -/
def Rep.as {α β : Type} (a : Rep α) (f : β → α) : Rep β where
  size := a.size
  cells w F x cs := a.cells w F (f x) cs
  len h := a.len h
  keep h := a.keep h
  mono h := a.mono h

/-- The cells of a slice's elements lie behind one another. -/
def Elems {α : Type} (r : Rep α) (w : World) (F : Nat → Prop) (b off : Nat) (l : List α) : Prop :=
  ∀ i x, l[i]? = some x → ∃ cs, r.cells w F x cs ∧ ∀ k u, cs[k]? = some u → w.cell? ⟨b, off + i * r.size + k, none⟩ = some u
/-- The value v is a slice that reads as l. -/
def Sl {α : Type} (r : Rep α) (w : World) (F : Nat → Prop) (v : Value) (l : List α) : Prop :=
  ∃ A c, v = .slice A l.length c ∧ l.length ≤ c ∧ c ≤ maxLen ∧ (c = 0 ∨ ∃ b off, A = some ⟨b, off, none⟩ ∧ F b ∧ b < w.heap.size ∧ Elems r w F b off l)
theorem Elems.keep {α : Type} {r : Rep α} {w w' : World} {F S : Nat → Prop} {b off : Nat} {l : List α} (h : Elems r w F b off l) (hb : F b) (hk : Keep S w w') (hd : ∀ k, F k → ¬ S k) : Elems r w' F b off l := by
  intro i x hx
  obtain ⟨cs, h1, h2⟩ := h i x hx
  exact ⟨cs, r.keep h1 hk hd, fun k u hu => hk.cell (h2 k u hu) (hd b hb)⟩
theorem Sl.keep {α : Type} {r : Rep α} {w w' : World} {F S : Nat → Prop} {v : Value} {l : List α} (h : Sl r w F v l) (hk : Keep S w w') (hd : ∀ k, F k → ¬ S k) : Sl r w' F v l := by
  obtain ⟨A, c, hv, hl, hc, h⟩ := h
  refine ⟨A, c, hv, hl, hc, h.imp id ?_⟩
  rintro ⟨b, off, hA, hF, hb, he⟩
  exact ⟨b, off, hA, hF, Nat.lt_of_lt_of_le hb hk.size, he.keep hF hk hd⟩
theorem Sl.mono {α : Type} {r : Rep α} {w : World} {F G : Nat → Prop} {v : Value} {l : List α} (h : Sl r w F v l) (hF : ∀ k, F k → G k) : Sl r w G v l := by
  obtain ⟨A, c, hv, hl, hc, h⟩ := h
  refine ⟨A, c, hv, hl, hc, h.imp id ?_⟩
  rintro ⟨b, off, hA, hFb, hb, he⟩
  exact ⟨b, off, hA, hF b hFb, hb, fun i x hx => by obtain ⟨cs, h1, h2⟩ := he i x hx; exact ⟨cs, r.mono h1 hF, h2⟩⟩
def Rep.slice {α : Type} (r : Rep α) : Rep (List α) where
  size := 1
  cells w F x cs := ∃ v, cs = [v] ∧ Sl r w F v x
  len := by rintro w F x cs ⟨v, rfl, _⟩; rfl
  keep := by rintro w w' F S x cs ⟨v, rfl, h⟩ hk hd; exact ⟨v, rfl, h.keep hk hd⟩
  mono := by rintro w F G x cs ⟨v, rfl, h⟩ hF; exact ⟨v, rfl, h.mono hF⟩

theorem Sl.shape {α : Type} {r : Rep α} {w : World} {F : Nat → Prop} {v : Value} {l : List α} (h : Sl r w F v l) : ∃ A c, v = .slice A l.length c := by
  obtain ⟨A, c, rfl, _⟩ := h; exact ⟨A, c, rfl⟩
/-- An element's cells. -/
theorem Sl.elem {α : Type} {r : Rep α} {w : World} {F : Nat → Prop} {A : Option Addr} {n c : Nat} {l : List α} (h : Sl r w F (.slice A n c) l) {i : Nat} {x : α} (hx : l[i]? = some x) :
    ∃ b off, A = some ⟨b, off, none⟩ ∧ F b ∧ ∃ cs, r.cells w F x cs ∧ ∀ k u, cs[k]? = some u → w.cell? ⟨b, off + i * r.size + k, none⟩ = some u := by
  obtain ⟨A', c', he, hl, hc, h⟩ := h
  simp only [Value.slice.injEq] at he
  obtain ⟨rfl, rfl, rfl⟩ := he
  have hi : i < l.length := by
    rcases Nat.lt_or_ge i l.length with h | h
    · exact h
    · rw [List.getElem?_eq_none h] at hx; cases hx
  obtain ⟨b, off, rfl, hF, hb, he⟩ := h.resolve_left (by omega)
  exact ⟨b, off, rfl, hF, he i x hx⟩
/-- A slice of bytes as a row. -/
theorem Sl.row {w : World} {F : Nat → Prop} {v : Value} {l : List UInt8} (h : Sl Rep.u8 w F v l) : Row F w v l.length 1 (l.map U8) := by
  obtain ⟨A, c, rfl, hl, hc, h⟩ := h
  refine ⟨A, c, rfl, by simp, hl, hc, h.imp id ?_⟩
  rintro ⟨b, off, hA, hF, hb, he⟩
  refine ⟨b, off, hA, hF, hb, fun j u hu => ?_⟩
  rw [List.getElem?_map, Option.map_eq_some_iff] at hu
  obtain ⟨x, hx, rfl⟩ := hu
  obtain ⟨cs, h1, h2⟩ := he j x hx
  have h1 : cs = [U8 x] := h1
  subst h1
  have := h2 0 _ rfl
  simpa [Rep.u8, Rep.flat] using this
end Go.Proofs.Ytofljidmdabkcaa

/- Plain lemmas on worlds: what one call may have changed, and what stays readable. No function of the program is named here. How the data of a law's arguments read: slices of bytes, of numbers. How values of Go's types read as values of Lean's types: numbers, bools, strings, slices, structs. Plain laws of append for a slice of the call's own, whatever is appended: what holds behind it, and which blocks it may have written. How the data of a law's arguments read: whatever is made of numbers, bools, strings, slices, structs. Bytes as a text: the conversion's law. -/
import Derived.WalkKit
import Derived.WalkSpells
import Derived.WalkLawsBesides
import Derived.OneCell
import Derived.ProofKit
import Derived.OpenShut
import Derived.ShutString
import Derived.ChangeOld
import Derived.Below
import Derived.SizedLaws
import Derived.Lib.AppendStr
import Derived.Laws.BytesArg
namespace Go.Proofs.Ytnekfonnceknoaa
open Go.RowKit

theorem hid {p : Prop} (h : p) : Hid p := h

/-- The world w' is w, but for the blocks of S and for new ones. -/
structure Keep (S : Nat → Prop) (w w' : World) : Prop where
  os : w'.os = w.os
  tape : w'.tape = w.tape
  output : w'.output = w.output
  size : w.heap.size ≤ w'.heap.size
  block : ∀ k, k < w.heap.size → ¬ S k → w'.heap[k]? = w.heap[k]?

namespace Keep
variable {S T : Nat → Prop} {w w1 w2 : World}
theorem refl (S : Nat → Prop) (w : World) : Keep S w w := ⟨rfl, rfl, rfl, Nat.le_refl _, fun _ _ _ => rfl⟩
/-- One step behind another: what the second one writes is of S, or new. -/
theorem trans (h : Keep S w w1) (k : Keep T w1 w2) (hT : ∀ b, b < w.heap.size → T b → S b) : Keep S w w2 :=
  ⟨k.os.trans h.os, k.tape.trans h.tape, k.output.trans h.output, Nat.le_trans h.size k.size, fun b hb hs =>
    (k.block b (Nat.lt_of_lt_of_le hb h.size) (fun t => hs (hT b hb t))).trans (h.block b hb hs)⟩
theorem mono (h : Keep S w w1) (hT : ∀ b, b < w.heap.size → S b → T b) : Keep T w w1 :=
  ⟨h.os, h.tape, h.output, h.size, fun b hb ht => h.block b hb (fun s => ht (hT b hb s))⟩
theorem alloc (h : Keep S w w1) (o : Obj) : Keep S w (w1.alloc o) :=
  h.trans (T := fun _ => False) ⟨rfl, rfl, rfl, by simp, fun b hb _ => Below.heap_alloc _ _ _ hb⟩ (fun _ _ f => f.elim)
theorem setCell (h : Keep S w w1) (a : Addr) (v : Value) (ha : a.block < w.heap.size → S a.block) : Keep S w (w1.setCell a v) :=
  h.trans (T := fun b => b = a.block) ⟨rfl, rfl, rfl, by simp, fun b _ hb => Below.heap_setCell _ _ _ _ hb⟩ (fun b hb e => by subst e; exact ha hb)
theorem drew (h : Keep S w w1) : Keep S w w1.drew := ⟨h.os, h.tape, h.output, h.size, h.block⟩
theorem drewN (h : Keep S w w1) (n : Nat) : Keep S w (w1.drewN n) := ⟨h.os, h.tape, h.output, h.size, h.block⟩
theorem grown (h : Keep S w w1) {row : Option Nat} (hg : w1.grownBy w2 row) (hr : ∀ k, row = some k → k < w.heap.size → S k) : Keep S w w2 :=
  h.trans (T := fun b => some b = row) ⟨hg.os, hg.tape, hg.output, hg.size, fun b hb hn => hg.block b hb hn⟩ (fun b hb e => hr b e.symm hb)
theorem below (h : Keep S w w1) {B : Nat} (hB : B ≤ w.heap.size) (hS : ∀ b, b < B → ¬ S b) : Below B w w1 :=
  ⟨h.os, h.tape, h.output, h.size, fun b hb => h.block b (Nat.lt_of_lt_of_le hb hB) (hS b hb)⟩
theorem ofBelow {B : Nat} (h : Below B w w1) : Keep (fun b => B ≤ b) w w1 :=
  ⟨h.os, h.tape, h.output, h.size, fun b _ hs => h.block b (by omega)⟩
theorem cell (h : Keep S w w1) {a : Addr} {v : Value} (hc : w.cell? a = some v) (hs : ¬ S a.block) : w1.cell? a = some v :=
  (World.cell?_of_block (w := w) (h.block a.block (World.block_lt_of_cell? w a hc) hs)).trans hc
theorem heap (h : Keep S w w1) {b : Nat} {o : Obj} (ho : w.heap[b]? = some o) (hs : ¬ S b) : w1.heap[b]? = some o :=
  (h.block b (Array.getElem?_eq_some_iff.1 ho).1 hs).trans ho
theorem owns (h : Keep S w w1) {base : Nat} {e : TypeId} {size n : Nat} {v : Value} {xs : List Value} (ho : w.ownsRow base e size v n xs)
    (hs : ∀ k, v.ownBlock = some k → ¬ S k) : w1.ownsRow base e size v n xs := by
  refine ⟨ho.1, ?_⟩
  rcases ho.2 with hn | ⟨g, cap, cur, rfl, hb, hg, rest⟩
  · exact .inl hn
  · exact .inr ⟨g, cap, cur, rfl, hb, h.heap hg (hs g (by simp [Value.ownBlock])), rest⟩
end Keep

/-- The blocks of F, and those that are new in w'. -/
def Grow (F : Nat → Prop) (w w' : World) : Nat → Prop := fun k => F k ∨ (w.heap.size ≤ k ∧ k < w'.heap.size)
/-- The blocks that are new in w'. -/
def NewIn (w w' : World) : Nat → Prop := fun k => w.heap.size ≤ k ∧ k < w'.heap.size
theorem Grow.old {F : Nat → Prop} {w w' : World} {k : Nat} (h : F k) : Grow F w w' k := .inl h
theorem Grow.new {F : Nat → Prop} {w w' : World} {k : Nat} (h : w.heap.size ≤ k) (h' : k < w'.heap.size) : Grow F w w' k := .inr ⟨h, h'⟩
theorem Grow.apart {F G : Nat → Prop} {w w' : World} (h : ∀ k, F k → ¬ G k) (hG : ∀ k, G k → k < w.heap.size) : ∀ k, Grow F w w' k → ¬ G k := by
  rintro k (hk | ⟨h1, _⟩) hg
  · exact h k hk hg
  · have := hG k hg; omega
theorem Grow.lt {F : Nat → Prop} {w w' : World} (hF : ∀ k, F k → k < w.heap.size) (hs : w.heap.size ≤ w'.heap.size) : ∀ k, Grow F w w' k → k < w'.heap.size := by
  rintro k (hk | ⟨_, h2⟩)
  · have := hF k hk; omega
  · exact h2
theorem Grow.trans {F : Nat → Prop} {w w1 w2 : World} (h1 : w.heap.size ≤ w1.heap.size) (h2 : w1.heap.size ≤ w2.heap.size) : ∀ k, Grow (Grow F w w1) w1 w2 k → Grow F w w2 k := by
  rintro k ((hk | ⟨a, b⟩) | ⟨a, b⟩)
  · exact .inl hk
  · exact .inr ⟨a, by omega⟩
  · exact .inr ⟨by omega, b⟩
/-- A second step that writes what the first one had, or made. -/
theorem Keep.then {F : Nat → Prop} {w w1 w2 : World} (h : Keep F w w1) (k : Keep (Grow F w w1) w1 w2) : Keep F w w2 :=
  h.trans k (fun b hb hg => hg.elim id (fun ⟨x, _⟩ => absurd hb (by omega)))
theorem lt_heap {w : World} {b : Nat} {o : Obj} (h : w.heap[b]? = some o) : b < w.heap.size := (Array.getElem?_eq_some_iff.1 h).1

/-- A cell of a block that is known whole. -/
theorem cell_at {w : World} {b : Nat} {c : Array Value} {e : TypeId} {fz : Nat × Nat} (h : w.heap[b]? = some (.cells c e fz)) (o : Nat) (v : Value) (hv : c[o]? = some v) :
    w.cell? ⟨b, o, none⟩ = some v := by simp [World.cell?, h, hv]
theorem free_at {w : World} {b : Nat} {c : Array Value} {e : TypeId} (h : w.heap[b]? = some (.cells c e (0, 0))) (o : Nat) : w.frozen? ⟨b, o, none⟩ = false := by
  simp [World.frozen?, h]
theorem heap_set {w : World} {b : Nat} {c : Array Value} {e : TypeId} {fz : Nat × Nat} (h : w.heap[b]? = some (.cells c e fz)) (o : Nat) (v : Value) :
    (w.setCell ⟨b, o, none⟩ v).heap[b]? = some (.cells (c.setIfInBounds o v) e fz) := by
  simp [World.setCell, Array.getElem?_modify, h]
theorem heap_set_ne {w : World} {b : Nat} {o : Obj} (h : w.heap[b]? = some o) (a : Addr) (v : Value) (hne : b ≠ a.block) : (w.setCell a v).heap[b]? = some o := by
  rw [Below.heap_setCell _ _ _ _ hne]; exact h
theorem heap_alloc {w : World} {b : Nat} {o : Obj} (h : w.heap[b]? = some o) (o' : Obj) : (w.alloc o').heap[b]? = some o := by
  rw [Below.heap_alloc _ _ _ (lt_heap h)]; exact h
theorem heap_drew {w : World} {b : Nat} {o : Obj} (h : w.heap[b]? = some o) : w.drew.heap[b]? = some o := h

/-! ### Bytes that are read -/
def U8 (x : UInt8) : Value := .int .u8 (x.toNat : Int)

/-- The value v is a slice whose cells, len * size of them, read as cs; its block is of F. -/
def Row (F : Nat → Prop) (w : World) (v : Value) (n size : Nat) (cs : List Value) : Prop :=
  ∃ A c, v = .slice A n c ∧ cs.length = n * size ∧ n ≤ c ∧ c ≤ maxLen ∧
    (c = 0 ∨ ∃ b off, A = some ⟨b, off, none⟩ ∧ F b ∧ b < w.heap.size ∧ ∀ j u, cs[j]? = some u → w.cell? ⟨b, off + j, none⟩ = some u)

theorem Row.nil (F : Nat → Prop) (w : World) (size : Nat) : Row F w (.slice none 0 0) 0 size [] := ⟨none, 0, rfl, by simp, Nat.le_refl _, Nat.zero_le _, .inl rfl⟩
theorem Row.empty (F : Nat → Prop) (w : World) (A : Option Addr) : Row F w (.slice A 0 0) 0 1 [] := ⟨A, 0, rfl, by simp, Nat.le_refl _, Nat.zero_le _, .inl rfl⟩
theorem Row.keep {F S : Nat → Prop} {w w' : World} {v : Value} {n size : Nat} {cs : List Value} (h : Row F w v n size cs) (hk : Keep S w w') (hd : ∀ b, F b → ¬ S b) : Row F w' v n size cs := by
  obtain ⟨A, c, hv, hl, hn, hc, h | ⟨b, off, hA, hF, hb, hcell⟩⟩ := h
  · exact ⟨A, c, hv, hl, hn, hc, .inl h⟩
  · exact ⟨A, c, hv, hl, hn, hc, .inr ⟨b, off, hA, hF, Nat.lt_of_lt_of_le hb hk.size, fun j u hu => hk.cell (hcell j u hu) (hd b hF)⟩⟩
theorem Row.mono {F G : Nat → Prop} {w : World} {v : Value} {n size : Nat} {cs : List Value} (h : Row F w v n size cs) (hFG : ∀ b, F b → G b) : Row G w v n size cs := by
  obtain ⟨A, c, hv, hl, hn, hc, h | ⟨b, off, hA, hF, hb, hcell⟩⟩ := h
  · exact ⟨A, c, hv, hl, hn, hc, .inl h⟩
  · exact ⟨A, c, hv, hl, hn, hc, .inr ⟨b, off, hA, hFG b hF, hb, hcell⟩⟩
theorem Row.shape {F : Nat → Prop} {w : World} {v : Value} {n size : Nat} {cs : List Value} (h : Row F w v n size cs) : ∃ A c, v = .slice A n c := by
  obtain ⟨A, c, rfl, _⟩ := h
  exact ⟨A, c, rfl⟩
theorem Row.upto {F : Nat → Prop} {w : World} {A : Option Addr} {c n : Nat} {l : List UInt8} (h : Row F w (.slice A l.length c) l.length 1 (l.map U8)) (hn : n ≤ l.length) : Row F w (.slice A n c) n 1 ((l.take n).map U8) := by
  obtain ⟨A', c', he, hl, hnc, hc, hA⟩ := h
  simp only [Value.slice.injEq, true_and] at he
  obtain ⟨rfl, rfl⟩ := he
  refine ⟨A, c, rfl, by simp; omega, by omega, hc, ?_⟩
  rcases hA with hA | ⟨b, off, hA, hF, hb, hcell⟩
  · exact .inl hA
  · refine .inr ⟨b, off, hA, hF, hb, fun j u hu => hcell j u ?_⟩
    rw [List.map_take, List.getElem?_take] at hu
    split at hu
    · exact hu
    · simp at hu

/-- A row of the call's own, read. -/
theorem Row.ofOwn {w : World} {base e size n : Nat} {v : Value} {xs : List Value} (h : w.ownsRow base e size v n xs) : Row (fun b => some b = v.ownBlock) w v n size xs := by
  rcases h.2 with ⟨rfl, rfl⟩ | ⟨g, cap, cur, rfl, hb, hg, hn, hc, hs, ht⟩
  · have : xs = [] := List.eq_nil_of_length_eq_zero (by simpa using h.1)
    subst this
    exact Row.nil _ _ _
  · refine ⟨_, _, rfl, h.1, hn, hc, .inr ⟨g, 0, rfl, by simp [Value.ownBlock], lt_heap hg, fun j u hu => ?_⟩⟩
    have := h.cells (g := g) (by simp [Value.ownBlock]) j u hu
    rw [Addr.add_lit] at this
    simpa using this
end Go.Proofs.Ytnekfonnceknoaa
namespace Go.Proofs.Ytnekfonnceknoaa
open Go.ChangeShapes Go.WideShapes Go.ChangeAt Go.RowKit
section
variable {H : Type} {enc : TypeId × Value → H} {P : Program} {W : World} {base : Nat} {held : Bool}

theorem addr_lit (a : Addr) (j : Nat) (hs : a.spot = none) : a.add j = ⟨a.block, a.off + j, none⟩ := by
  obtain ⟨b, o, s⟩ := a
  simp only at hs
  subst hs
  exact Addr.add_lit _ _ _

/-- A slice of whole numbers that came in. -/
theorem open_row {t e : TypeId} {k : IntKind} {A : Option Addr} {len cap : Nat} {d : DataW H} {ps : List MemPlace} (hu : P.underlying t = some (.slice e)) (he : P.underlying e = some (.int k)) (hc : P.cellsOf e = 1)
    (h : DataW.Trod enc P W base (fun _ => true) held t (.slice A len cap) d ps) :
    ∃ zs : List Int, zs.length = len ∧ (∀ n ∈ zs, (Lit.int k n).wf = true) ∧ Row (fun b => b < W.heap.size) W (.slice A len cap) len 1 (zs.map (Value.int k)) := by
  obtain ⟨fuel, hf⟩ := h
  rcases open_ints hu he hc hf with ⟨hcs, _⟩ | ⟨x, l, c, zs, hcs, _, hl, hm, hz, _, hcell, hwz⟩
  · simp [Value.cells] at hcs
    obtain ⟨rfl, rfl, rfl⟩ := hcs
    exact ⟨[], rfl, fun _ h => by simp at h, Row.nil _ _ _⟩
  · simp [Value.cells] at hcs
    obtain ⟨rfl, rfl, rfl⟩ := hcs
    have hzl : len ≤ zs.length := by rw [hz]; split <;> omega
    have hlen : (zs.take len).length = len := by simp; omega
    refine ⟨zs.take len, hlen, fun n hn => hwz n (List.mem_of_mem_take hn), ?_⟩
    by_cases h0 : cap = 0
    · subst h0
      obtain rfl : len = 0 := by omega
      exact ⟨some x, 0, rfl, by simp, Nat.zero_le _, hm, .inl rfl⟩
    · by_cases h1 : zs.length = 0
      · simp at hz
        omega
      · have h00 := hcell 0 (by omega)
        have hx0 : x.add 0 = x := by simp [Addr.add]
        rw [hx0] at h00
        have hspot : x.spot = none := by
          unfold World.cell? at h00
          split at h00
          · split at h00
            · simp at h00
            · rename_i hn
              simpa using hn
          · simp at h00
        have hlt := World.block_lt_of_cell? W x h00
        obtain ⟨b, off, spot⟩ := x
        simp only at hspot
        subst hspot
        refine ⟨some ⟨b, off, none⟩, cap, rfl, by simp; omega, hl, hm, .inr ⟨b, off, rfl, hlt, hlt, fun j u hu => ?_⟩⟩
        rw [List.map_take, List.getElem?_take] at hu
        split at hu
        · rename_i hj
          have := hcell j (by omega)
          rw [Addr.add_lit] at this
          rw [this]
          rw [List.getElem?_map] at hu
          have hjz : j < zs.length := by omega
          simp [hjz] at hu ⊢
          exact hu
        · simp at hu
/-- A slice of bytes that came in: its bytes, and that it is no longer than the form's reach. -/
theorem open_bytes {t e : TypeId} {A : Option Addr} {len cap : Nat} {d : DataW H} {ps : List MemPlace} {ts : List TypeId} {ds : List (DataW H)} {j : Nat}
    (hu : P.underlying t = some (.slice e)) (he : P.underlying e = some (.int .u8)) (hc : P.cellsOf e = 1) (hB : P.bytesOf e = 1)
    (hsz : (DataW.weightsEach P ts ds).all (· ≤ reachBytes) = true) (ht : ts[j]? = some t) (hd : ds[j]? = some d)
    (h : DataW.Trod enc P W base (fun _ => true) held t (.slice A len cap) d ps) :
    ∃ l : List UInt8, l.length = len ∧ l.length ≤ 140737488351232 ∧ Row (fun b => b < W.heap.size) W (.slice A l.length cap) l.length 1 (l.map U8) := by
  have hsize : len ≤ 140737488351232 := by
    obtain ⟨fuel, hf⟩ := h
    rcases open_ints hu he hc hf with ⟨hcs, _⟩ | ⟨x, l, c, zs, hcs, _, hl, _, hz, hx, _, _⟩
    · simp [Value.cells] at hcs
      obtain ⟨rfl, rfl, rfl⟩ := hcs
      simp
    · simp [Value.cells] at hcs
      obtain ⟨rfl, rfl, rfl⟩ := hcs
      obtain ⟨hx, _⟩ := Prod.mk.inj hx
      subst hx
      have z := sized_slice hsz ht hd hu
      rw [hB] at z
      simp only [lits, List.length_map, List.length_take, List.length_drop, reachBytes] at z
      simp at hz
      omega
  obtain ⟨zs, hlen, hwf, hrow⟩ := open_row hu he hc h
  have hmap : (zs.map (Value.int .u8)) = ((zs.map fun n => UInt8.ofNat n.toNat).map U8) := by
    rw [List.map_map]
    refine List.map_congr_left (fun n hn => ?_)
    have := hwf n hn
    simp [Lit.wf, IntKind.min, IntKind.max, IntKind.signed, IntKind.bits] at this
    unfold U8
    simp only [Function.comp]
    congr 1
    simp only [UInt8.toNat_ofNat']
    omega
  refine ⟨zs.map fun n => UInt8.ofNat n.toNat, by simpa using hlen, by simp; omega, ?_⟩
  rw [← hmap]
  simpa [hlen] using hrow
end
end Go.Proofs.Ytnekfonnceknoaa
namespace Go.Proofs.Ytnekfonnceknoaa
open Go.RowKit

/-- A reading: how many cells a value has, and when cells hold a value; what lies behind slices lies in blocks of F. -/
structure Rep (α : Type) where
  size : Nat
  cells : World → (Nat → Prop) → α → List Value → Prop
  len : ∀ {w F x cs}, cells w F x cs → cs.length = size
  keep : ∀ {w w' : World} {F S : Nat → Prop} {x cs}, cells w F x cs → Keep S w w' → (∀ k, F k → ¬ S k) → cells w' F x cs
  mono : ∀ {w : World} {F G : Nat → Prop} {x cs}, cells w F x cs → (∀ k, F k → G k) → cells w G x cs

/-- A value of one cell that holds nothing of memory. -/
def Rep.flat {α : Type} (f : α → Value) : Rep α where
  size := 1
  cells _ _ x cs := cs = [f x]
  len h := by subst h; rfl
  keep h _ _ := h
  mono h _ := h
/-- A reading of those values alone of which p holds. -/
def Rep.only {α : Type} (a : Rep α) (p : α → Prop) : Rep α where
  size := a.size
  cells w F x cs := a.cells w F x cs ∧ p x
  len h := a.len h.1
  keep h hk hd := ⟨a.keep h.1 hk hd, h.2⟩
  mono h hF := ⟨a.mono h.1 hF, h.2⟩
def Rep.int : Rep Int := (Rep.flat fun n : Int => .int .i64 n).only fun n => -9223372036854775808 ≤ n ∧ n ≤ 9223372036854775807
def Rep.u64 : Rep Nat := (Rep.flat fun n : Nat => .int .u64 n).only fun n => n ≤ 18446744073709551615
def Rep.bool : Rep Bool := Rep.flat fun b => .bool b
def Rep.str : Rep ByteArray := Rep.flat fun s => .string s
def Rep.u8 : Rep UInt8 := Rep.flat U8

/-- One thing behind the other. -/
def Rep.pair {α β : Type} (a : Rep α) (b : Rep β) : Rep (α × β) where
  size := a.size + b.size
  cells w F x cs := ∃ c d, cs = c ++ d ∧ a.cells w F x.1 c ∧ b.cells w F x.2 d
  len := by rintro w F x cs ⟨c, d, rfl, h1, h2⟩; simp [a.len h1, b.len h2]
  keep := by rintro w w' F S x cs ⟨c, d, rfl, h1, h2⟩ hk hd; exact ⟨c, d, rfl, a.keep h1 hk hd, b.keep h2 hk hd⟩
  mono := by rintro w F G x cs ⟨c, d, rfl, h1, h2⟩ hF; exact ⟨c, d, rfl, a.mono h1 hF, b.mono h2 hF⟩
/-- The same cells, seen as another type. -/
def Rep.as {α β : Type} (a : Rep α) (f : β → α) : Rep β where
  size := a.size
  cells w F x cs := a.cells w F (f x) cs
  len h := a.len h
  keep h := a.keep h
  mono h := a.mono h

/-- The cells of a slice's elements lie behind one another. -/
def Elems {α : Type} (r : Rep α) (w : World) (F : Nat → Prop) (b off : Nat) (l : List α) : Prop :=
  ∀ i x, l[i]? = some x → ∃ cs, r.cells w F x cs ∧ ∀ k u, cs[k]? = some u → w.cell? ⟨b, off + i * r.size + k, none⟩ = some u
/-- The value v is a slice that reads as l. -/
def Sl {α : Type} (r : Rep α) (w : World) (F : Nat → Prop) (v : Value) (l : List α) : Prop :=
  ∃ A c, v = .slice A l.length c ∧ l.length ≤ c ∧ c ≤ maxLen ∧ (c = 0 ∨ ∃ b off, A = some ⟨b, off, none⟩ ∧ F b ∧ b < w.heap.size ∧ Elems r w F b off l)
theorem Elems.keep {α : Type} {r : Rep α} {w w' : World} {F S : Nat → Prop} {b off : Nat} {l : List α} (h : Elems r w F b off l) (hb : F b) (hk : Keep S w w') (hd : ∀ k, F k → ¬ S k) : Elems r w' F b off l := by
  intro i x hx
  obtain ⟨cs, h1, h2⟩ := h i x hx
  exact ⟨cs, r.keep h1 hk hd, fun k u hu => hk.cell (h2 k u hu) (hd b hb)⟩
theorem Sl.keep {α : Type} {r : Rep α} {w w' : World} {F S : Nat → Prop} {v : Value} {l : List α} (h : Sl r w F v l) (hk : Keep S w w') (hd : ∀ k, F k → ¬ S k) : Sl r w' F v l := by
  obtain ⟨A, c, hv, hl, hc, h⟩ := h
  refine ⟨A, c, hv, hl, hc, h.imp id ?_⟩
  rintro ⟨b, off, hA, hF, hb, he⟩
  exact ⟨b, off, hA, hF, Nat.lt_of_lt_of_le hb hk.size, he.keep hF hk hd⟩
theorem Sl.mono {α : Type} {r : Rep α} {w : World} {F G : Nat → Prop} {v : Value} {l : List α} (h : Sl r w F v l) (hF : ∀ k, F k → G k) : Sl r w G v l := by
  obtain ⟨A, c, hv, hl, hc, h⟩ := h
  refine ⟨A, c, hv, hl, hc, h.imp id ?_⟩
  rintro ⟨b, off, hA, hFb, hb, he⟩
  exact ⟨b, off, hA, hF b hFb, hb, fun i x hx => by obtain ⟨cs, h1, h2⟩ := he i x hx; exact ⟨cs, r.mono h1 hF, h2⟩⟩
def Rep.slice {α : Type} (r : Rep α) : Rep (List α) where
  size := 1
  cells w F x cs := ∃ v, cs = [v] ∧ Sl r w F v x
  len := by rintro w F x cs ⟨v, rfl, _⟩; rfl
  keep := by rintro w w' F S x cs ⟨v, rfl, h⟩ hk hd; exact ⟨v, rfl, h.keep hk hd⟩
  mono := by rintro w F G x cs ⟨v, rfl, h⟩ hF; exact ⟨v, rfl, h.mono hF⟩

theorem Sl.shape {α : Type} {r : Rep α} {w : World} {F : Nat → Prop} {v : Value} {l : List α} (h : Sl r w F v l) : ∃ A c, v = .slice A l.length c := by
  obtain ⟨A, c, rfl, _⟩ := h; exact ⟨A, c, rfl⟩
/-- An element's cells. -/
theorem Sl.elem {α : Type} {r : Rep α} {w : World} {F : Nat → Prop} {A : Option Addr} {n c : Nat} {l : List α} (h : Sl r w F (.slice A n c) l) {i : Nat} {x : α} (hx : l[i]? = some x) :
    ∃ b off, A = some ⟨b, off, none⟩ ∧ F b ∧ ∃ cs, r.cells w F x cs ∧ ∀ k u, cs[k]? = some u → w.cell? ⟨b, off + i * r.size + k, none⟩ = some u := by
  obtain ⟨A', c', he, hl, hc, h⟩ := h
  simp only [Value.slice.injEq] at he
  obtain ⟨rfl, rfl, rfl⟩ := he
  have hi : i < l.length := by
    rcases Nat.lt_or_ge i l.length with h | h
    · exact h
    · rw [List.getElem?_eq_none h] at hx; cases hx
  obtain ⟨b, off, rfl, hF, hb, he⟩ := h.resolve_left (by omega)
  exact ⟨b, off, rfl, hF, he i x hx⟩
/-- A slice of bytes as a row. -/
theorem Sl.row {w : World} {F : Nat → Prop} {v : Value} {l : List UInt8} (h : Sl Rep.u8 w F v l) : Row F w v l.length 1 (l.map U8) := by
  obtain ⟨A, c, rfl, hl, hc, h⟩ := h
  refine ⟨A, c, rfl, by simp, hl, hc, h.imp id ?_⟩
  rintro ⟨b, off, hA, hF, hb, he⟩
  refine ⟨b, off, hA, hF, hb, fun j u hu => ?_⟩
  rw [List.getElem?_map, Option.map_eq_some_iff] at hu
  obtain ⟨x, hx, rfl⟩ := hu
  obtain ⟨cs, h1, h2⟩ := he j x hx
  have h1 : cs = [U8 x] := h1
  subst h1
  have := h2 0 _ rfl
  simpa [Rep.u8, Rep.flat] using this
end Go.Proofs.Ytnekfonnceknoaa
namespace Go.Proofs.Ytnekfonnceknoaa
open Go.RowKit Go.Lib

/-- A goal at which the walk stops. -/
def Stopped (p : Prop) : Prop := p
theorem stopHere {p : Prop} (h : Stopped p) : p := h
theorem goOn {p : Prop} (h : p) : Stopped p := h

/-- A slice type and its elements: the numbers that the program's table has. -/
structure SlT (P : Program) (t e : TypeId) (z : Value) (size bytes : Nat) : Prop where
  ht : P.underlying t = some (.slice e)
  info : ∃ i, P.info? e = some i ∧ i.zero = some z ∧ i.size = size ∧ i.bytes = bytes
  zs : z.cells.size = size
  pos : 0 < size
theorem SlT.mk' {P : Program} {t e : TypeId} {z : Value} {size bytes : Nat} (ht : P.underlying t = some (.slice e))
    (h : (P.info? e).map (fun i => (i.zero, i.size, i.bytes)) = some (some z, size, bytes)) (zs : z.cells.size = size) (pos : 0 < size) : SlT P t e z size bytes := by
  obtain ⟨i, hi, h1, h2, h3⟩ := info_parts h
  exact ⟨ht, ⟨i, hi, h1, h2, h3⟩, zs, pos⟩

/-- v' lies where v lay, or in a new block. -/
def SameOrNew (w : World) (v v' : Value) : Prop := ∀ k, v'.ownBlock = some k → v.ownBlock = some k ∨ w.heap.size ≤ k

theorem own_lt' {w : World} {base e size n : Nat} {v : Value} {xs : List Value} (h : w.ownsRow base e size v n xs) (k : Nat) (hk : v.ownBlock = some k) : k < w.heap.size := (h.lt k hk).2

theorem own_slice {w : World} {base e size n : Nat} {v : Value} {xs : List Value} (h : w.ownsRow base e size v n xs) : ∃ A c, v = .slice A n c := by
  rcases h.2 with ⟨rfl, rfl⟩ | ⟨g, cap, cur, rfl, _⟩
  · exact ⟨_, _, rfl⟩
  · exact ⟨_, _, rfl⟩

section
variable {P : Program} {w : World}
/-- What is made anew by append. -/
theorem app_grown {t e : TypeId} {z : Value} {size bytes : Nat} (T : SlT P t e z size bytes) {n m old : Nat} {xs news : List Value} (hx : xs.length = n * size) (hl : news.length = m * size)
    (h63 : n + m ≤ maxLen) (S : Nat → Prop) :
    (w.drew.alloc (.cells (xs.toArray ++ news.toArray ++ Builtin.zeroCells z.cells (grownCap w (n + m) old e - (n + m))) e)).ownsRow 0 e size
        (.slice (some ⟨w.heap.size, 0, none⟩) (n + m) (grownCap w (n + m) old e)) (n + m) (xs ++ news) ∧
      Keep S w (w.drew.alloc (.cells (xs.toArray ++ news.toArray ++ Builtin.zeroCells z.cells (grownCap w (n + m) old e - (n + m))) e)) := by
  have hlen : (xs ++ news).length = (n + m) * size := by rw [List.length_append, hx, hl, Nat.add_mul]
  have hge := grownCap_ge w (n + m) old e
  have hcm : grownCap w (n + m) old e ≤ maxLen := grownCap_le_maxLen w (n + m) old e h63
  refine ⟨⟨hlen, .inr ⟨w.heap.size, _, _, rfl, Nat.zero_le _, heap_alloc_new w.drew _, hge, hcm, ?_, ?_⟩⟩, ((Keep.refl S w).drew).alloc _⟩
  · have h2 : (xs.toArray ++ news.toArray).size = (n + m) * size := by simpa using hlen
    simp only [Array.size_append, size_zeroCells, T.zs] at h2 ⊢
    rw [h2, ← Nat.add_mul]
    congr 1
    omega
  · simp only [Array.toList_append, List.append_assoc]
    rw [← List.append_assoc, ← hlen]
    exact List.take_left

theorem run_app {t e : TypeId} {z : Value} {size bytes : Nat} (T : SlT P t e z size bytes) (ty : TypeId) {v : Value} {n : Nat} {xs : List Value} (hown : w.ownsRow 0 e size v n xs)
    {G : Nat → Prop} {src : Value} {m : Nat} {news : List Value} (hsrc : Row G w src m size news) (h1 : ∀ u ∈ news, u.oneCell' = true) (hb : (n + m) * bytes ≤ 140737488355328) (h63 : n + m ≤ 140737488355328) :
    ∃ v' w', (Builtin.append_ #[t, t] ty #[v, src]).run P w = .ok v' w' ∧ w'.ownsRow 0 e size v' (n + m) (xs ++ news) ∧ Keep (fun k => some k = v.ownBlock) w w' ∧ SameOrNew w v v' := by
  obtain ⟨i, hi, hz, hsize, hby⟩ := T.info
  have h63' : n + m ≤ maxLen := by unfold maxLen; omega
  have hx := hown.1
  subst hsize
  subst hby
  obtain ⟨A, c, rfl, hl, hmc, hcm, hA⟩ := hsrc
  have hfirst : ∀ w' : World, (∀ a, w'.cell? a = w.cell? a) → (Builtin.firstCells i.size m (.slice A m c)).run P w' = .ok news.toArray w' := by
    intro w' hw'
    rcases hA with rfl | ⟨b, off, rfl, _, _, hcell⟩
    · obtain rfl : m = 0 := by omega
      have : news = [] := List.eq_nil_of_length_eq_zero (by simpa using hl)
      subst this
      cases A with
      | none => simp [Builtin.firstCells]
      | some x => exact run_firstCells_some (P := P) w' i.size 0 x 0 0 [] (by simp) (fun j u hu => by simp at hu)
    · exact run_firstCells_some (P := P) w' i.size m ⟨b, off, none⟩ m c news hl (fun j u hu => by
        rw [hw', Addr.add_lit]
        exact hcell j u hu)
  rcases hown.2 with ⟨rfl, rfl⟩ | ⟨g, cap, cur, rfl, hbg, hg, hnc, hcapm, hcs, htake⟩
  · have hxs : xs = [] := List.eq_nil_of_length_eq_zero (by simpa using hx)
    subst hxs
    by_cases hm : m = 0
    · subst hm
      have hn : news = [] := List.eq_nil_of_length_eq_zero (by simpa using hl)
      subst hn
      refine ⟨.slice none 0 0, w, ?_, World.ownsRow_nil w 0 e i.size, Keep.refl _ _, fun k hk => by simp [Value.ownBlock] at hk⟩
      have := hfirst w (fun _ => rfl)
      simp [Builtin.append_, run_underlying T.ht, sizeOf, typeInfo, hi, Builtin.lenOf, Builtin.firstCells, loadCells, loadCellsFrom]
      cases A <;> simp
    · have hr : (Builtin.append_ #[t, t] ty #[.slice none 0 0, .slice A m c]).run P w =
        .ok (.slice (some ⟨w.heap.size, 0, none⟩) m (grownCap w m 0 e)) (w.drew.alloc (.cells (news.toArray ++ Builtin.zeroCells z.cells (grownCap w m 0 e - m)) e)) := by
        have hb' := hb
        simp only [Nat.zero_add] at hb'
        rcases hA with rfl | ⟨b, off, rfl, _, _, hcell⟩
        · omega
        · exact run_append_nil (P := P) w t ty e i z T.ht hi hz ⟨b, off, none⟩ m c news hl (fun j u hu => by rw [Addr.add_lit]; exact hcell j u hu) (by omega) (by omega) (by omega)
      have hgr := app_grown (P := P) (w := w) T (n := 0) (old := 0) (xs := []) (by simp) hl h63' (fun k => some k = (Value.slice none 0 0).ownBlock)
      simp only [Nat.zero_add, List.nil_append, Array.empty_append] at hgr ⊢
      exact ⟨_, _, hr, hgr.1, hgr.2, fun k hk => .inr (by simp [Value.ownBlock] at hk; omega)⟩
  · have holds : ∀ j u, xs[j]? = some u → w.cell? ((⟨g, 0, none⟩ : Addr).add j) = some u := hown.cells (g := g) rfl
    have hlen : (xs ++ news).length = (n + m) * i.size := by rw [List.length_append, hx, hl, Nat.add_mul]
    by_cases hroom : n + m ≤ cap
    · have hfit : n * i.size + news.length ≤ cur.size := by rw [hl, hcs, ← Nat.add_mul]; exact Nat.mul_le_mul_right _ hroom
      have hf := hfirst w (fun _ => rfl)
      have hst := run_storeCells_at P g (n * i.size) e news 0 cur w hg (by simpa using hfit) h1
      simp only [Nat.add_zero] at hst
      have hr : (Builtin.append_ #[t, t] ty #[.slice (some ⟨g, 0, none⟩) n cap, .slice A m c]).run P w =
          .ok (.slice (some ⟨g, 0, none⟩) (n + m) cap) (w.setRow g (cur.toList.take (n * i.size) ++ news ++ cur.toList.drop (n * i.size + news.length)).toArray) := by
        cases A <;>
          simp [Builtin.append_, run_underlying T.ht, sizeOf, typeInfo, hi, Builtin.lenOf, hroom, hf, Addr.add_lit, hst]
      refine ⟨_, _, hr, ⟨hlen, .inr ⟨g, cap, _, rfl, hbg, setRow_heap w g cur _ e _ hg, hroom, hcapm, ?_, ?_⟩⟩, ⟨rfl, rfl, rfl, by simp, fun k _ hk => setRow_other w g k _ (fun e => hk (by simp [Value.ownBlock, e]))⟩, fun k hk => .inl (by simpa [Value.ownBlock] using hk)⟩
      · simp only [List.size_toArray, List.length_append, List.length_take, List.length_drop, Array.length_toList]
        omega
      · rw [htake, ← hlen]
        exact List.take_left
    · have hm : 0 < m := by omega
      have hr : (Builtin.append_ #[t, t] ty #[.slice (some ⟨g, 0, none⟩) n cap, .slice A m c]).run P w =
          .ok (.slice (some ⟨w.heap.size, 0, none⟩) (n + m) (grownCap w (n + m) cap e)) (w.drew.alloc (.cells (xs.toArray ++ news.toArray ++ Builtin.zeroCells z.cells (grownCap w (n + m) cap e - (n + m))) e)) := by
        rcases hA with rfl | ⟨b, off, rfl, _, _, hcell⟩
        · omega
        · exact run_append_grow (P := P) w t ty e i z T.ht hi hz ⟨g, 0, none⟩ n cap xs hx holds ⟨b, off, none⟩ m c news hl (fun j u hu => by rw [Addr.add_lit]; exact hcell j u hu) (by omega) (by omega) (growslice_fits (by omega) hb)
      have hgr := app_grown (P := P) (w := w) T (n := n) (old := cap) hx hl h63' (fun k => some k = (Value.slice (some ⟨g, 0, none⟩) n cap).ownBlock)
      exact ⟨_, _, hr, hgr.1, hgr.2, fun k hk => .inr (by simp [Value.ownBlock] at hk; omega)⟩

theorem wpl_app {ops : Array Oper} {rest : List Oper} {o : Oper} {a : Act} {Q : Exit → Act → World → Prop} (hgd : o.guard = none) {s x : Operand} {t e : TypeId}
    (ho : o.op = .call { callee := .builtin .append, args := #[s, x], argTypes := #[t, t] }) {z : Value} {size bytes : Nat} (T : SlT P t e z size bytes)
    {v : Value} {n : Nat} {xs : List Value} (hs : a.eval s = v) (hown : w.ownsRow 0 e size v n xs)
    {G : Nat → Prop} {src : Value} {m : Nat} {news : List Value} (hx : a.eval x = src) (hsrc : Row G w src m size news) (h1 : ∀ u ∈ news, u.oneCell' = true)
    (hb : (n + m) * bytes ≤ 140737488355328) (h63 : n + m ≤ 140737488355328)
    (h : ∀ A c w', w'.ownsRow 0 e size (.slice A (n + m) c) (n + m) (xs ++ news) → Keep (fun k => some k = v.ownBlock) w w' → SameOrNew w v (.slice A (n + m) c) → wpList P ops Q rest (a.put o.dst (.slice A (n + m) c)) w') :
    wpList P ops Q (o :: rest) a w := by
  obtain ⟨v', w', hr, h2, h3, h4⟩ := run_app (P := P) T o.type hown hsrc h1 hb h63
  refine wpList_plain hgd (fun K hK => ?_)
  unfold Oper.wp execOp
  simp only [ho, resolve, invoke, builtin, Sem.run_bind, Sem.run_pure, Result.andThen_ok, List.map_toArray, List.map_cons, List.map_nil, hs, hx, hr]
  obtain ⟨A, c, rfl⟩ := own_slice h2
  exact hK _ _ (h A c w' h2 h3 h4)

theorem run_app_str {t u e : TypeId} (T : SlT P t e (.int .u8 0) 1 1) (hu : P.underlying u = some .string) (ty : TypeId) {v : Value} {n : Nat} {xs : List Value} (hown : w.ownsRow 0 e 1 v n xs)
    (s : ByteArray) (hb : n + s.size ≤ 140737488355328) :
    ∃ v' w', (Builtin.append_ #[t, u] ty #[v, .string s]).run P w = .ok v' w' ∧ w'.ownsRow 0 e 1 v' (n + s.size) (xs ++ strCells s) ∧ Keep (fun k => some k = v.ownBlock) w w' ∧ SameOrNew w v v' := by
  obtain ⟨i, hi, hz, hsize, hby⟩ := T.info
  have h63' : n + s.size ≤ maxLen := by unfold maxLen; omega
  have hx := hown.1
  have hl : (strCells s).length = s.size * 1 := by rw [strCells_length]; omega
  rcases hown.2 with ⟨rfl, rfl⟩ | ⟨g, cap, cur, rfl, hbg, hg, hnc, hcapm, hcs, htake⟩
  · have hxs : xs = [] := List.eq_nil_of_length_eq_zero (by simpa using hx)
    subst hxs
    by_cases hm : s.size = 0
    · have hn : strCells s = [] := List.eq_nil_of_length_eq_zero (by omega)
      refine ⟨.slice none 0 0, w, ?_, ?_, Keep.refl _ _, fun k hk => by simp [Value.ownBlock] at hk⟩
      · simp [Builtin.append_, run_underlying T.ht, run_underlying hu, sizeOf, typeInfo, hi, Builtin.lenOf, Builtin.firstCells, hm]
      · rw [hm, hn]
        exact World.ownsRow_nil w 0 e 1
    · have hr := run_append_nil_string (P := P) w t u ty e i (.int .u8 0) T.ht hu hi hz s (by omega) (by omega) (by rw [hby]; omega)
      have hgr := app_grown (P := P) (w := w) T (n := 0) (old := 0) (xs := []) (by simp) hl (by omega) (fun k => some k = (Value.slice none 0 0).ownBlock)
      have he : (s.data.map (fun b => Value.int .u8 b.toNat) ++ Builtin.zeroCells (Value.int .u8 0).cells (grownCap w s.size 0 e - s.size)) = ([].toArray ++ (strCells s).toArray ++ Builtin.zeroCells (Value.int .u8 0).cells (grownCap w (0 + s.size) 0 e - (0 + s.size))) := by
        simp only [Nat.zero_add, Array.empty_append]
        congr 1
        apply Array.ext'
        simp [strCells]
      rw [he] at hr
      simp only [Nat.zero_add] at hgr hr ⊢
      exact ⟨_, _, hr, hgr.1, hgr.2, fun k hk => .inr (by simp [Value.ownBlock] at hk; omega)⟩
  · have holds : ∀ j u, xs[j]? = some u → w.cell? ((⟨g, 0, none⟩ : Addr).add j) = some u := hown.cells (g := g) rfl
    have hlen : (xs ++ strCells s).length = (n + s.size) * 1 := by rw [List.length_append, hx, hl, Nat.add_mul]
    by_cases hroom : n + s.size ≤ cap
    · have hr := run_append_room_string (P := P) w t u ty e i T.ht hu hi hsize g n cap cur hg s hroom (by omega)
      refine ⟨_, _, hr, ⟨hlen, .inr ⟨g, cap, _, rfl, hbg, setRow_heap w g cur _ e _ hg, hroom, hcapm, ?_, ?_⟩⟩, ⟨rfl, rfl, rfl, by simp, fun k _ hk => setRow_other w g k _ (fun e => hk (by simp [Value.ownBlock, e]))⟩, fun k hk => .inl (by simpa [Value.ownBlock] using hk)⟩
      · simp only [List.size_toArray, List.length_append, List.length_take, List.length_drop, Array.length_toList, strCells_length]
        omega
      · simp only [Nat.mul_one] at htake
        rw [htake, ← hlen]
        exact List.take_left
    · have hr := run_append_grow_string (P := P) w t u ty e i (.int .u8 0) T.ht hu hi hz ⟨g, 0, none⟩ n cap xs (by rw [hsize]; omega) holds s (by omega) (by omega) (by rw [hby]; exact growslice_fits (by omega) (by omega))
      have hgr := app_grown (P := P) (w := w) T (n := n) (old := cap) hx hl h63' (fun k => some k = (Value.slice (some ⟨g, 0, none⟩) n cap).ownBlock)
      exact ⟨_, _, hr, hgr.1, hgr.2, fun k hk => .inr (by simp [Value.ownBlock] at hk; omega)⟩

theorem wpl_app_str {ops : Array Oper} {rest : List Oper} {o : Oper} {a : Act} {Q : Exit → Act → World → Prop} (hgd : o.guard = none) {s x : Operand} {t u e : TypeId}
    (ho : o.op = .call { callee := .builtin .append, args := #[s, x], argTypes := #[t, u] }) (T : SlT P t e (.int .u8 0) 1 1) (hu : P.underlying u = some .string)
    {v : Value} {n : Nat} {xs : List Value} (hs : a.eval s = v) (hown : w.ownsRow 0 e 1 v n xs) {b : ByteArray} (hx : a.eval x = .string b) (hb : n + b.size ≤ 140737488355328)
    (h : ∀ A c w', w'.ownsRow 0 e 1 (.slice A (n + b.size) c) (n + b.size) (xs ++ strCells b) → Keep (fun k => some k = v.ownBlock) w w' → SameOrNew w v (.slice A (n + b.size) c) → wpList P ops Q rest (a.put o.dst (.slice A (n + b.size) c)) w') :
    wpList P ops Q (o :: rest) a w := by
  obtain ⟨v', w', hr, h2, h3, h4⟩ := run_app_str (P := P) T hu o.type hown b hb
  refine wpList_plain hgd (fun K hK => ?_)
  unfold Oper.wp execOp
  simp only [ho, resolve, invoke, builtin, Sem.run_bind, Sem.run_pure, Result.andThen_ok, List.map_toArray, List.map_cons, List.map_nil, hs, hx, hr]
  obtain ⟨A, c, rfl⟩ := own_slice h2
  exact hK _ _ (h A c w' h2 h3 h4)
end

/-- The new cell that one value is appended from. -/
theorem Row.one (w : World) (x : Value) (e : TypeId) : Row (fun k => k = w.heap.size) (w.alloc (.cells #[x] e)) (.slice (some ⟨w.heap.size, 0, none⟩) 1 1) 1 1 [x] :=
  ⟨_, _, rfl, by simp, Nat.le_refl _, by decide, .inr ⟨w.heap.size, 0, rfl, rfl, by simp, fun j u hu => by
    rcases j with _ | j
    · simpa using hu
    · simp at hu⟩⟩
theorem ownsAlloc {w : World} {base e size n : Nat} {v : Value} {xs : List Value} (h : w.ownsRow base e size v n xs) (o : Obj) : (w.alloc o).ownsRow base e size v n xs := h.alloc o
end Go.Proofs.Ytnekfonnceknoaa
namespace Go.Proofs.Ytnekfonnceknoaa
open Go.ChangeShapes Go.WideShapes Go.ChangeAt Go.RowKit

/-- Cells of type t that can be read hold a value. -/
def Opens {α : Type} (P : Program) (r : Rep α) (t : TypeId) : Prop :=
  P.cellsOf t = r.size ∧ ∀ (H : Type) (enc : TypeId × Value → H) (W : World) (base : Nat) (held : Bool) (fuel : Nat) (cs : List Value) (x : DataW H × List MemPlace),
    DataW.trod enc P W base (fun _ => true) held fuel t cs = some x → ∃ a : α, r.cells W (fun b => b < W.heap.size) a cs

section
variable {P : Program} {t : TypeId}
theorem Opens.int (hu : P.underlying t = some (.int .i64)) (hc : P.cellsOf t = 1) : Opens P Rep.int t := ⟨hc, fun H enc W base held fuel cs x h => by
  obtain ⟨n, rfl, _, hw⟩ := DataW.trod_int hu h
  simp [Lit.wf, IntKind.min, IntKind.max, IntKind.signed, IntKind.bits] at hw
  exact ⟨n, rfl, hw⟩⟩
theorem Opens.u64 (hu : P.underlying t = some (.int .u64)) (hc : P.cellsOf t = 1) : Opens P Rep.u64 t := ⟨hc, fun H enc W base held fuel cs x h => by
  obtain ⟨n, rfl, _, hw⟩ := DataW.trod_int hu h
  simp [Lit.wf, IntKind.min, IntKind.max, IntKind.signed, IntKind.bits] at hw
  exact ⟨n.toNat, by simp [Rep.flat]; omega, by omega⟩⟩
theorem Opens.u8 (hu : P.underlying t = some (.int .u8)) (hc : P.cellsOf t = 1) : Opens P Rep.u8 t := ⟨hc, fun H enc W base held fuel cs x h => by
  obtain ⟨n, rfl, _, hw⟩ := DataW.trod_int hu h
  simp [Lit.wf, IntKind.min, IntKind.max, IntKind.signed, IntKind.bits] at hw
  refine ⟨UInt8.ofNat n.toNat, ?_⟩
  simp only [Rep.u8, Rep.flat, U8, UInt8.toNat_ofNat', List.cons.injEq, and_true, Value.int.injEq, true_and]
  omega⟩
theorem Opens.bool (hu : P.underlying t = some .bool) (hc : P.cellsOf t = 1) : Opens P Rep.bool t := ⟨hc, fun H enc W base held fuel cs x h => by
  obtain ⟨b, rfl, _⟩ := DataW.trod_bool hu h
  exact ⟨b, rfl⟩⟩
theorem Opens.str (hu : P.underlying t = some .string) (hc : P.cellsOf t = 1) : Opens P Rep.str t := ⟨hc, fun H enc W base held fuel cs x h => by
  obtain ⟨s, rfl, _, _⟩ := DataW.trod_string hu h
  exact ⟨s, rfl⟩⟩
theorem Opens.as {α β : Type} {a : Rep α} (h : Opens P a t) (f : β → α) (g : α → β) (hfg : ∀ x, f (g x) = x) : Opens P (a.as f) t := ⟨h.1, fun H enc W base held fuel cs x hx => by
  obtain ⟨y, hy⟩ := h.2 H enc W base held fuel cs x hx
  exact ⟨g y, by simpa [Rep.as, hfg] using hy⟩⟩

/-- Fields that lie behind one another from a place on. -/
def OpensF {α : Type} (P : Program) (fs : List Field) (off : Nat) (r : Rep α) : Prop :=
  ∀ (H : Type) (enc : TypeId × Value → H) (W : World) (base : Nat) (held : Bool) (n : Nat) (cs : List Value),
    (∀ f ∈ fs, ∃ x, DataW.trod enc P W base (fun _ => true) held n f.type ((cs.drop f.offset).take (P.cellsOf f.type)) = some x) →
    ∃ a : α, r.cells W (fun b => b < W.heap.size) a ((cs.drop off).take r.size)
theorem OpensF.one {α : Type} {a : Rep α} {f : Field} {off : Nat} (ho : f.offset = off) (h : Opens P a f.type) : OpensF P [f] off a := fun H enc W base held n cs hall => by
  obtain ⟨x, hx⟩ := hall f (by simp)
  obtain ⟨y, hy⟩ := h.2 H enc W base held n _ x hx
  rw [h.1, ho] at hy
  exact ⟨y, hy⟩
theorem OpensF.cons {α β : Type} {a : Rep α} {b : Rep β} {f : Field} {fs : List Field} {off : Nat} (ho : f.offset = off) (h : Opens P a f.type) (hs : OpensF P fs (off + a.size) b) : OpensF P (f :: fs) off (a.pair b) := fun H enc W base held n cs hall => by
  obtain ⟨x, hx⟩ := hall f (by simp)
  obtain ⟨y, hy⟩ := h.2 H enc W base held n _ x hx
  rw [h.1, ho] at hy
  obtain ⟨z, hz⟩ := hs H enc W base held n cs (fun g hg => hall g (by simp [hg]))
  refine ⟨(y, z), _, _, ?_, hy, hz⟩
  show List.take (a.size + b.size) _ = _
  rw [List.take_add, List.drop_drop]
theorem Opens.struct {α : Type} {r : Rep α} {fs : Array Field} (hu : P.underlying t = some (.struct fs)) (hc : P.cellsOf t = r.size) (hf : OpensF P fs.toList 0 r) : Opens P r t := ⟨hc, fun H enc W base held fuel cs x h => by
  obtain ⟨xs, n, _, _, hl, hlen, hfs⟩ := DataW.trod_struct hu h
  obtain ⟨a, ha⟩ := hf H enc W base held n cs (fun f hf => by
    obtain ⟨i, hi⟩ := List.getElem?_of_mem hf
    have hfi := hfs i f (by simpa using hi)
    have hlt : i < fs.size := by
      have := (List.getElem?_eq_some_iff.1 hi).1
      simpa using this
    rw [hfi]
    exact ⟨xs[i]'(by omega), by simp [hlen, hlt]⟩)
  refine ⟨a, ?_⟩
  rw [List.drop_zero, List.take_of_length_le (by omega)] at ha
  exact ha⟩
theorem list_of {α : Type} {Q : Nat → α → Prop} : ∀ n : Nat, (∀ i, i < n → ∃ y, Q i y) → ∃ l : List α, l.length = n ∧ ∀ i x, l[i]? = some x → Q i x
  | 0, _ => ⟨[], rfl, fun i x h => by simp at h⟩
  | n + 1, h => by
    obtain ⟨l, hl, hq⟩ := list_of n (fun i hi => h i (by omega))
    obtain ⟨y, hy⟩ := h n (by omega)
    refine ⟨l ++ [y], by simp [hl], fun i x hx => ?_⟩
    rw [List.getElem?_append] at hx
    split at hx
    · exact hq i x hx
    · have hi : i = n := by
        have h1 : i - l.length < 1 := by
          rcases Nat.lt_or_ge (i - l.length) 1 with h | h
          · exact h
          · rw [List.getElem?_eq_none (by simpa using h)] at hx; cases hx
        omega
      subst hi
      rw [hl, Nat.sub_self] at hx
      simp at hx
      subst hx
      exact hy
theorem cells_at {W : World} {a : Addr} {base n : Nat} {cs : List Value} (h : W.cells? base a n = some cs) : cs.length = n ∧ ∀ i, i < n → W.cell? (a.add i) = cs[i]? := by
  have := World.cells?_some h
  exact ⟨this.2.1, this.2.2⟩
theorem cells_spot {W : World} {a : Addr} {base n : Nat} {cs : List Value} (h : W.cells? base a n = some cs) (hn : 0 < n) : a.spot = none ∧ a.block < W.heap.size := by
  obtain ⟨hl, hc⟩ := cells_at h
  have h0 := hc 0 hn
  have ha0 : a.add 0 = a := by simp [Addr.add]
  rw [ha0] at h0
  refine ⟨?_, World.cells?_block h hn⟩
  obtain ⟨v, hv⟩ : ∃ v, cs[0]? = some v := ⟨cs[0]'(by omega), by simp [hl, hn]⟩
  rw [hv] at h0
  unfold World.cell? at h0
  split at h0
  · split at h0
    · cases h0
    · rename_i hns; simpa using hns
  · cases h0
theorem Opens.slice {α : Type} {r : Rep α} {e : TypeId} (hu : P.underlying t = some (.slice e)) (hc : P.cellsOf t = 1) (h : Opens P r e) (hpos : 0 < r.size) : Opens P r.slice t := ⟨hc, fun H enc W base held fuel cs x hx => by
  rcases DataW.trod_slice hu hx with ⟨rfl, _⟩ | ⟨a, len, cap, elems, rest, n, _, rfl, _, hb, hl, hm, hlen, hel, hsp, _⟩
  · exact ⟨[], _, rfl, none, 0, rfl, Nat.le_refl _, Nat.zero_le _, .inl rfl⟩
  · by_cases h0 : cap = 0
    · subst h0
      obtain rfl : len = 0 := by omega
      exact ⟨[], _, rfl, some a, 0, rfl, Nat.le_refl _, Nat.zero_le _, .inl rfl⟩
    · have hone : ∀ i, i < len → ∃ y : α, ∃ cs, r.cells W (fun b => b < W.heap.size) y cs ∧ W.cells? base (a.add (i * r.size)) r.size = some cs := by
        intro i hi
        have h1 := hel i hi
        obtain ⟨y0, hy0⟩ : ∃ y0, elems[i]? = some y0 := ⟨elems[i]'(by omega), by simp [hlen, hi]⟩
        rw [hy0, Option.bind_eq_some_iff] at h1
        obtain ⟨cs, hcs, hy⟩ := h1
        obtain ⟨y, hy⟩ := h.2 H enc W base held n cs y0 hy
        rw [h.1] at hcs
        exact ⟨y, cs, hy, hcs⟩
      have hspot : a.spot = none ∧ a.block < W.heap.size := by
        by_cases hlen0 : 0 < len
        · obtain ⟨y, cs, _, hcs⟩ := hone 0 hlen0
          have := cells_spot hcs hpos
          simpa [Addr.add] using this
        · have h1 := (hsp rfl).2 0 (by omega)
          have hrl := (hsp rfl).1
          obtain ⟨y0, hy0⟩ : ∃ y0, rest[0]? = some y0 := ⟨rest[0]'(by omega), by simp⟩
          rw [hy0, Option.bind_eq_some_iff] at h1
          obtain ⟨cs, hcs, _⟩ := h1
          rw [show len + 0 = 0 by omega, Nat.zero_mul] at hcs
          have := cells_spot hcs (by rw [h.1]; exact hpos)
          simpa [Addr.add] using this
      obtain ⟨b, off, sp⟩ := a
      obtain ⟨hs, hlt⟩ := hspot
      simp only at hs hlt
      subst hs
      obtain ⟨l, hll, hq⟩ := list_of len hone
      refine ⟨l, _, rfl, some ⟨b, off, none⟩, cap, by rw [hll], by omega, hm, .inr ⟨b, off, rfl, hlt, hlt, fun i x hx => ?_⟩⟩
      obtain ⟨cs, h1, h2⟩ := hq i x hx
      refine ⟨cs, h1, fun k u hu => ?_⟩
      obtain ⟨hcl, hcc⟩ := cells_at h2
      have hk : k < r.size := by
        rw [← hcl]
        rcases Nat.lt_or_ge k cs.length with h | h
        · exact h
        · rw [List.getElem?_eq_none h] at hu; cases hu
      have := hcc k hk
      rw [Addr.add_lit, Addr.add_lit] at this
      rw [this]
      exact hu⟩

/-- A slice that came in: its elements, and that it is no longer than the form's reach. -/
theorem open_sl {α : Type} {r : Rep α} {e : TypeId} {H : Type} {enc : TypeId × Value → H} {W : World} {base : Nat} {held : Bool} {A : Option Addr} {len cap : Nat} {d : DataW H} {ps : List MemPlace} {ts : List TypeId} {ds : List (DataW H)} {j : Nat}
    (hu : P.underlying t = some (.slice e)) (ho : Opens P r.slice t)
    (hsz : (DataW.weightsEach P ts ds).all (· ≤ reachBytes) = true) (ht : ts[j]? = some t) (hd : ds[j]? = some d)
    (h : DataW.Trod enc P W base (fun _ => true) held t (.slice A len cap) d ps) :
    ∃ l : List α, l.length = len ∧ l.length * P.bytesOf e ≤ 140737488351232 ∧ Sl r W (fun b => b < W.heap.size) (.slice A l.length cap) l := by
  have hsize : len * P.bytesOf e ≤ 140737488351232 := by
    obtain ⟨fuel, hf⟩ := h
    rcases DataW.trod_slice hu hf with ⟨hcs, _⟩ | ⟨x, l, c, elems, rest, n, _, hcs, hx, _, hl, _, hlen, _⟩
    · simp [Value.cells] at hcs
      obtain ⟨rfl, rfl, rfl⟩ := hcs
      simp
    · simp [Value.cells] at hcs
      obtain ⟨rfl, rfl, rfl⟩ := hcs
      obtain ⟨hx, _⟩ := Prod.mk.inj hx
      subst hx
      have z := sized_slice hsz ht hd hu
      simp only [List.length_map, reachBytes] at z
      refine Nat.le_trans (Nat.mul_le_mul_right _ ?_) z
      omega
  obtain ⟨fuel, hf⟩ := h
  obtain ⟨l, v, hv, hs⟩ := ho.2 H enc W base held fuel _ _ hf
  simp [Value.cells] at hv
  subst hv
  have hs0 := hs
  obtain ⟨A', c', he, _⟩ := hs0
  simp only [Value.slice.injEq] at he
  obtain ⟨_, rfl, _⟩ := he
  exact ⟨l, rfl, hsize, hs⟩
end
end Go.Proofs.Ytnekfonnceknoaa
namespace Go.Proofs.Ytnekfonnceknoaa
open Go.RowKit
/-! ### Bytes as a text -/
def ba (l : List UInt8) : ByteArray := ⟨l.toArray⟩
theorem ba_list (l : List UInt8) : (ba l).data.toList = l := rfl
theorem ba_size (l : List UInt8) : (ba l).size = l.length := by simp [ba, ByteArray.size]
theorem run_str_empty {P : Program} (w : World) (src e : TypeId) (hs : P.underlying src = some (.slice e)) (he : P.underlying e = some (.int .u8)) (A : Option Addr) (dst : TypeId) (hd : P.underlying dst = some .string) :
    (convert src dst (.slice A 0 0)).run P w = .ok (.string (ba [])) w := by
  cases A with
  | none => exact run_convert_bytes_nil w src e hs he _ _ dst hd
  | some a =>
    rw [run_convert_bytes_string w src dst e _ 0 0 hs he hd, run_bytesToString w a 0 0 [] (by simp [loadCells, loadCellsFrom])]
    rfl
theorem run_str_of {P : Program} {F : Nat → Prop} {w : World} {v : Value} {l : List UInt8} (h : Row F w v l.length 1 (l.map U8)) (src e dst : TypeId) (hs : P.underlying src = some (.slice e)) (he : P.underlying e = some (.int .u8))
    (hd : P.underlying dst = some .string) : (convert src dst v).run P w = .ok (.string (ba l)) w := by
  obtain ⟨A, c, rfl, hl, hn, hc, rfl | ⟨b, off, rfl, hF, hb, hcell⟩⟩ := h
  · have : l = [] := List.eq_nil_of_length_eq_zero (by omega)
    subst this
    exact run_str_empty w src e hs he A dst hd
  · have := run_convert_bytes_arg (P := P) w src e hs he b off l.length c (l.map fun x => (x.toNat : Int)) (by simp) (fun i hi => by
      rw [hcell i (U8 l[i]) (by simp [hi])]
      simp [U8, hi]) dst hd
    rw [this]
    congr 2
    simp only [strOfNums, ba, List.map_map]
    congr 2
    exact (List.map_congr_left (fun x _ => by simp)).trans (List.map_id l)
end Go.Proofs.Ytnekfonnceknoaa

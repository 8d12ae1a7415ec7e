/- A range over a function whose iterator hands on values that point into memory: what a round is told of that memory, and what it must leave alone. No function of the program is named here. -/
import Derived.Test.YtiomeoihekifeaaMem
import Derived.RangeFuncNested
import Derived.RangeFuncBound
import Derived.RangeFuncCalls
import Derived.RangeFuncLeaves
namespace Go.Proofs.Ytiomeoihekifeaa
open Go.RowKit
/-- How a round's body is left: it goes on. -/
def GoesOn {α : Type} (B : Nat) (Kp : World → World → Prop) (I : List α → World → Prop) (xs : List α) (W : World) : Exit → Act → World → Prop
  | .normal, _, W' => KeepsFrom B W W' ∧ Kp W W' ∧ I xs W'
  | _, _, _ => False
/-- What an iterator owes: each round is told T of what it is handed. -/
def SeqMem {α : Type} (F : Fence) (n : Nat) (P : Program) (g : Nat) (lb : Array Value) (Kp : Nat → World → World → Prop) (T : List α → α → Array Value → World → Prop) (S : List α → World → Prop) (w : World) : Prop :=
  ∀ (l : Nat) (J : List α → World → Prop) (W : World), Keep (fun _ => False) w W → l < W.heap.size → AbidesFrom W.heap.size J →
    (∀ pre x v W1, J pre W1 → T pre x v W1 → YieldAt F (n - 1) P l v W1 fun e W' => e = .returned (.bool true) ∧ J (pre ++ [x]) W' ∧ Kp l W1 W') → J [] W →
    CallsIn F n P g (#[.func (.yield l) #[] #[]] ++ lb) W fun e W' => (∃ v, e = .returned v) ∧ ∃ xs, S xs W' ∧ J xs W'
theorem wp_rangeMem {α : Type} {F : Fence} {n : Nat} {P : Program} {g : Operand} {ps : Array Tmp} {assign body : Code} {Q : Exit → Act → World → Prop} {a : Act} {w : World}
    (hro : F.round = none) (h1 : 1 ≤ n) {gf : Nat} {lb : Array Value} (hg : a.eval g = .func (.func gf) #[] lb) (hFg : F.fn gf) (eg : ∀ args w, (callFunc gf args).run P w = .ok (.enter gf args) w)
    {Kp : Nat → World → World → Prop} {T : List α → α → Array Value → World → Prop} {S : List α → World → Prop} (hseq : SeqMem F (n - 1) P gf lb Kp T S w)
    (hKt : ∀ {l : Nat} {A B C : World}, Kp l A B → Kp l B C → Kp l A C) (hKb : ∀ (W : World) (l : Nat) (o o' : Obj), w.heap.size ≤ l → W.heap[l]? = some o → o.isCells = false → Kp l W (W.putObj l o'))
    (hTs : ∀ p x v W, T p x v W → v.size = ps.size) (hS : OwnFrom w.heap.size S)
    (I : List α → World → Prop) (hI : OwnFrom w.heap.size I) (h0 : I [] w) (I2 : List α → α → Act → World → Prop) (hI2 : ∀ p x a', OwnFrom w.heap.size (fun (_ : Unit) W => I2 p x a' W))
    (hassign : ∀ (l : Nat) (pre : List α) (x : α) (v : Array Value) (W : World) (K : Act → World → Prop), I pre W → T pre x v W → (∀ a' W', KeepsFrom w.heap.size W W' → Kp l W W' → I2 pre x a' W' → K a' W') →
      assign.wpIn (F.inRound l) (n - 1 - 1) P (Exit.then K (fun _ _ _ => False)) { tmps := (ps.zip v).foldl (fun t (p, v) => t.setIfInBounds p v) a.tmps, defers := [] } W)
    (hbody : ∀ (l : Nat) (pre : List α) (x : α) (a' : Act) (W : World), w.heap.size ≤ l → (∃ r, W.heap[l]? = some (.loop r)) → I2 pre x a' W → body.wpIn (F.inRound l) (n - 1 - 1) P (GoesOn w.heap.size (Kp l) I (pre ++ [x]) W) a' W)
    (hdone : ∀ (D : Nat) (xs : List α) (W : World), w.heap.size ≤ D → S xs W → I xs W → W.heap[D]? = some (.deferred (some [])) → Q .normal { a with defers := { target := .collected D, args := #[] } :: a.defers } W) :
    (Code.rangeFunc g ps assign body).wpIn F n P Q a w := by
  refine wpIn_rangeFunc ?_
  intro fn hfn
  rw [hro]
  obtain ⟨rec, hrec⟩ : ∃ rec : LoopState → Loop, rec = fun st => { state := st, pending := none, fn, tmps := a.tmps, params := ps, assign, body, defers := w.heap.size } := ⟨_, rfl⟩
  obtain ⟨W1, hW1⟩ : ∃ W1, (w.alloc (.deferred (some []))).alloc (.loop (rec .ready)) = W1 := ⟨_, rfl⟩
  have hk1 : Keep (fun _ => False) w W1 := by rw [← hW1]; exact ((Keep.refl _ w).alloc _).alloc _
  have hL1 : W1.heap[w.heap.size + 1]? = some (.loop (rec .ready)) := by
    have := heap_alloc_new (w.alloc (.deferred (some []))) (.loop (rec .ready))
    rw [World.size_alloc] at this
    rw [← hW1]; exact this
  have hD1 : W1.heap[w.heap.size]? = some (.deferred (some [])) := by rw [← hW1]; exact heap_alloc (heap_alloc_new w _) _
  have hs1 : W1.heap.size = w.heap.size + 1 + 1 := by rw [← hW1]; simp
  refine ⟨w.heap.size + 1, [{ target := .collected w.heap.size, args := #[] }], W1, { target := .fn (.func gf) lb, args := #[.func (.yield (w.heap.size + 1)) #[] #[]] }, W1, gf,
    #[.func (.yield (w.heap.size + 1)) #[] #[]] ++ lb, W1, ?_, ?_, ?_, ?_, fun _ => h1, ?_⟩
  · rw [← hW1, hrec]; exact run_enterLoop_outer _ _ _ _ _
  · simp only [resolve, hg]
    simp [go_sem]
  · intro f' hf'
    simp [Target.leads] at hf'
    subst hf'
    exact hFg
  · simp [invoke, go_sem, eg]
  · have hfar : ∀ {A : World} {row : Option Nat}, (∀ r, row = some r → W1.heap.size ≤ r ∧ ∃ o : Obj, A.heap[r]? = some o ∧ o.isWalk = true) → (∀ r, row = some r → w.heap.size ≤ r ∧ ∃ o : Obj, A.heap[r]? = some o ∧ o.isCells = false) := fun hr r e => by
      obtain ⟨hB, o, ho, hw⟩ := hr r e
      exact ⟨by omega, o, ho, Obj.not_cells_of_walk hw⟩
    refine (hseq (w.heap.size + 1) (fun pre W => I pre W ∧ W.heap[w.heap.size + 1]? = some (.loop (rec .ready)) ∧ W.heap[w.heap.size]? = some (.deferred (some []))) W1 hk1 (by omega)
      (fun s A B row hs hg' hr => ⟨hI s A B row hs.1 hg' (hfar hr), (grownBy_keeps hg' (fun r e => (hr r e).2) hs.2.1 rfl).trans hs.2.1, (grownBy_keeps hg' (fun r e => (hr r e).2) hs.2.2 rfl).trans hs.2.2⟩)
      ?_ ⟨by rw [← hW1]; exact hI.alloc _ (hI.alloc _ h0), hL1, hD1⟩).mono ?_
    · rintro pre x v W ⟨hi, hl, hk⟩ ht
      have hy := run_yield (P := P) (args := v) hl (by rw [hrec]; exact hTs _ _ _ _ ht)
      rw [hrec] at hy
      refine ⟨fn, _, assign, body, hy, roundIn_of_wpIn hfn (hassign _ pre x v W _ hi ht (fun a' W2 hkf hkp hi2 => ?_))⟩
      have hl2 := hkf.same _ _ (by omega) hl rfl
      have hk2 := hkf.same _ _ (by omega) hk rfl
      refine ⟨_, run_beginRound hl2 (by rw [hrec]), ?_⟩
      have hlt2 := lt_heap hl2
      have hl3 : (W2.putObj (w.heap.size + 1) (.loop { rec .ready with state := .busy })).heap[w.heap.size + 1]? = some (.loop { rec .ready with state := .busy }) := World.putObj_heap_same hlt2
      have hk3 : (W2.putObj (w.heap.size + 1) (.loop { rec .ready with state := .busy })).heap[w.heap.size]? = some (.deferred (some [])) := (World.putObj_heap_other (by omega)).trans hk2
      have hkb : Kp (w.heap.size + 1) W2 (W2.putObj (w.heap.size + 1) (.loop { rec .ready with state := .busy })) := hKb _ _ _ _ (by omega) hl2 rfl
      refine wpIn_mono (hbody _ pre x a' _ (by omega) ⟨_, hl3⟩ ((hI2 pre x a').putObj (s := ()) _ hi2 (by omega) hl2 rfl)) ?_
      rintro e a3 W3 hp
      cases e with
      | normal =>
        obtain ⟨hkf3, hkp3, hi3⟩ := hp
        have hl4 := hkf3.same _ _ (by omega) hl3 rfl
        have hk4 := hkf3.same _ _ (by omega) hk3 rfl
        have hend := run_endRound (P := P) none hl4
        refine ⟨_, _, hend, rfl, ⟨hI.putObj _ hi3 (by omega) hl4 rfl, ?_, (World.putObj_heap_other (by omega)).trans hk4⟩, hKt (hKt (hKt hkp hkb) hkp3) (hKb _ _ _ _ (by omega) hl4 rfl)⟩
        rw [World.putObj_heap_same (lt_heap hl4), hrec]
        rfl
      | ret => exact hp.elim
      | exit id => exact hp.elim
      | goto t => exact hp.elim
      | panic ch => exact hp.elim
      | outgrown => exact hp.elim
    · rintro e W2 ⟨⟨v, rfl⟩, xs, hxs, hi, hl, hk⟩
      have hend := run_endLoop (P := P) hl (by rw [hrec]; simp)
      refine ⟨none, _, by rw [hend, hrec], hdone _ xs _ (Nat.le_refl _) (hS.putObj _ hxs (by omega) hl rfl) (hI.putObj _ hi (by omega) hl rfl) ((World.putObj_heap_other (by omega)).trans hk)⟩
end Go.Proofs.Ytiomeoihekifeaa

/- Two Epochs side by side, the program's and ref6's. -/
import Derived.Test.YtbkgobdpgokbaaaEpCutF
import Derived.Test.YtbkgobdpgokbaaaEpUniP
namespace Go.Proofs.Ytbkgobdpgokbaaa
open Go.RowKit
/-- The program's Epochs g and the model's m, in blocks of their own from B on; X's blocks are neither's. -/
def TwoE (B : Nat) (w : World) (g m : Nat) (al : Int) (L1 L2 : List Ep) (X : Nat → Prop) : Prop :=
  ∃ F1 F2 : Nat → Prop, EpAt F1 w g al L1 ∧ REpAt F2 w m al L2 ∧ (∀ k, F1 k → ¬ F2 k) ∧ (∀ k, F1 k → B ≤ k ∧ k < w.heap.size ∧ ¬ X k) ∧ (∀ k, F2 k → B ≤ k ∧ k < w.heap.size ∧ ¬ X k) ∧ ∀ k, X k → k < w.heap.size
section
variable {w w' : World} {B g m : Nat} {al : Int} {L1 L2 : List Ep} {X : Nat → Prop}
theorem TwoE.keepF (h : TwoE B w g m al L1 L2 X) (hk : Keep (fun _ => False) w w') : TwoE B w' g m al L1 L2 X := by
  obtain ⟨F1, F2, h1, h2, h3, h4, h5, h6⟩ := h
  have hs := hk.size
  exact ⟨F1, F2, h1.keepF hk, h2.keepF hk, h3, fun k q => ⟨(h4 k q).1, by have := (h4 k q).2.1; omega, (h4 k q).2.2⟩, fun k q => ⟨(h5 k q).1, by have := (h5 k q).2.1; omega, (h5 k q).2.2⟩, fun k q => by have := h6 k q; omega⟩
theorem TwoE.step1 {F1 F2 : Nat → Prop} {L3 : List Ep} (h2 : REpAt F2 w m al L2) (h3 : ∀ k, F1 k → ¬ F2 k) (h4 : ∀ k, F1 k → B ≤ k ∧ k < w.heap.size ∧ ¬ X k) (h5 : ∀ k, F2 k → B ≤ k ∧ k < w.heap.size ∧ ¬ X k) (h6 : ∀ k, X k → k < w.heap.size) (hB : B ≤ w.heap.size)
    (he : EpAt (Grow F1 w w') w' g al L3) (hk : Keep F1 w w') : TwoE B w' g m al L3 L2 X := by
  have hs := hk.size
  refine ⟨Grow F1 w w', F2, he, h2.keep hk (fun k q2 q1 => h3 k q1 q2), fun k q q2 => ?_, fun k q => ?_, fun k q => ⟨(h5 k q).1, by have := (h5 k q).2.1; omega, (h5 k q).2.2⟩, fun k q => by have := h6 k q; omega⟩
  · rcases q with q | q
    · exact h3 k q q2
    · have := (h5 k q2).2.1; have := q.1; omega
  · rcases q with q | q
    · exact ⟨(h4 k q).1, by have := (h4 k q).2.1; omega, (h4 k q).2.2⟩
    · exact ⟨by have := q.1; omega, q.2, fun x => by have := h6 k x; have := q.1; omega⟩
theorem TwoE.step2 {F1 F2 : Nat → Prop} {L3 : List Ep} (h1 : EpAt F1 w g al L1) (h3 : ∀ k, F1 k → ¬ F2 k) (h4 : ∀ k, F1 k → B ≤ k ∧ k < w.heap.size ∧ ¬ X k) (h5 : ∀ k, F2 k → B ≤ k ∧ k < w.heap.size ∧ ¬ X k) (h6 : ∀ k, X k → k < w.heap.size) (hB : B ≤ w.heap.size)
    (he : REpAt (Grow F2 w w') w' m al L3) (hk : Keep F2 w w') : TwoE B w' g m al L1 L3 X := by
  have hs := hk.size
  refine ⟨F1, Grow F2 w w', h1.keep hk (fun k q1 q2 => h3 k q1 q2), he, fun k q1 q => ?_, fun k q => ⟨(h4 k q).1, by have := (h4 k q).2.1; omega, (h4 k q).2.2⟩, fun k q => ?_, fun k q => by have := h6 k q; omega⟩
  · rcases q with q | q
    · exact h3 k q1 q
    · have := (h4 k q1).2.1; have := q.1; omega
  · rcases q with q | q
    · exact ⟨(h5 k q).1, by have := (h5 k q).2.1; omega, (h5 k q).2.2⟩
    · exact ⟨by have := q.1; omega, q.2, fun x => by have := h6 k x; have := q.1; omega⟩
end
end Go.Proofs.Ytbkgobdpgokbaaa

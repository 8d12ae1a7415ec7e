/- Two Epochs side by side: Change and Cut of each. -/
import Derived.Test.YtbkgobdpgokbaaaEpTwo
namespace Go.Proofs.Ytbkgobdpgokbaaa
open Go.RowKit
section
variable {w w' : World} {B g m : Nat} {al : Int} {L1 L2 : List Ep} {X : Nat → Prop}
theorem TwoE.lt (h : TwoE B w g m al L1 L2 X) : B ≤ w.heap.size := by
  obtain ⟨F1, F2, h1, h2, h3, h4, h5, h6⟩ := h
  have := h4 g h1.inF; omega
theorem TwoE.ch1 (h : TwoE B w g m al L1 L2 X) (slot mm : Int) (hs : okI slot) (hm : okI mm) (add : Bool) (hl : L1.length ≤ 100000) : Calls Try.prog 12 #[.pointer (some ⟨g, 0, none⟩), .int .i64 slot, .int .i64 mm, .bool add] w fun e w' => e = .returned (.int .i64 (chE al L1 slot mm add)) ∧ TwoE B w' g m al (chL al L1 slot mm add) L2 X ∧ Keep (fun k => B ≤ k ∧ ¬ X k) w w' := by
  have hB := h.lt
  obtain ⟨F1, F2, h1, h2, h3, h4, h5, h6⟩ := h
  refine (change_calls h1 (fun k q => (h4 k q).2.1) slot mm hs hm add hl).mono ?_
  rintro e w' ⟨he, hE, hk⟩
  exact ⟨he, TwoE.step1 h2 h3 h4 h5 h6 hB hE hk, hk.mono (fun k _ q => ⟨(h4 k q).1, (h4 k q).2.2⟩)⟩
theorem TwoE.ch2 (h : TwoE B w g m al L1 L2 X) (slot mm : Int) (hs : okI slot) (hm : okI mm) (add : Bool) (hl : L2.length ≤ 100000) : Calls Try.prog 30 #[.pointer (some ⟨m, 0, none⟩), .int .i64 slot, .int .i64 mm, .bool add] w fun e w' => e = .returned (.int .i64 (chE al L2 slot mm add)) ∧ TwoE B w' g m al L1 (chL al L2 slot mm add) X ∧ Keep (fun k => B ≤ k ∧ ¬ X k) w w' := by
  have hB := h.lt
  obtain ⟨F1, F2, h1, h2, h3, h4, h5, h6⟩ := h
  refine (rchange_calls h2 (fun k q => (h5 k q).2.1) slot mm hs hm add hl).mono ?_
  rintro e w' ⟨he, hE, hk⟩
  exact ⟨he, TwoE.step2 h1 h3 h4 h5 h6 hB hE hk, hk.mono (fun k _ q => ⟨(h5 k q).1, (h5 k q).2.2⟩)⟩
theorem TwoE.cut1 (h : TwoE B w g m al L1 L2 X) (slot : Int) (hl : L1.length ≤ 100000) : Calls Try.prog 19 #[.pointer (some ⟨g, 0, none⟩), .int .i64 slot] w fun e w' => e = .returned (.tuple #[]) ∧ TwoE B w' g m al (L1.drop (atP L1 slot L1.length)) L2 X ∧ Keep (fun k => B ≤ k ∧ ¬ X k) w w' := by
  have hB := h.lt
  obtain ⟨F1, F2, h1, h2, h3, h4, h5, h6⟩ := h
  refine (ecut_callsF h1 (fun k q => (h4 k q).2.1) slot hl).mono ?_
  rintro e w' ⟨he, hE, hk⟩
  have hk1 : Keep F1 w w' := hk.mono (fun k _ q => by subst q; exact h1.inF)
  exact ⟨he, TwoE.step1 h2 h3 h4 h5 h6 hB hE hk1, hk1.mono (fun k _ q => ⟨(h4 k q).1, (h4 k q).2.2⟩)⟩
theorem TwoE.cut2 (h : TwoE B w g m al L1 L2 X) (slot : Int) (hl : L2.length ≤ 100000) : Calls Try.prog 31 #[.pointer (some ⟨m, 0, none⟩), .int .i64 slot] w fun e w' => e = .returned (.tuple #[]) ∧ TwoE B w' g m al L1 (L2.drop (atP L2 slot L2.length)) X ∧ Keep (fun k => B ≤ k ∧ ¬ X k) w w' := by
  have hB := h.lt
  obtain ⟨F1, F2, h1, h2, h3, h4, h5, h6⟩ := h
  refine (recut_callsF h2 (fun k q => (h5 k q).2.1) slot hl).mono ?_
  rintro e w' ⟨he, hE, hk⟩
  have hk1 : Keep F2 w w' := hk.mono (fun k _ q => by subst q; exact h2.inF)
  exact ⟨he, TwoE.step2 h1 h3 h4 h5 h6 hB hE hk1, hk1.mono (fun k _ q => ⟨(h5 k q).1, (h5 k q).2.2⟩)⟩
end
end Go.Proofs.Ytbkgobdpgokbaaa

/- What is looked at behind each deed. -/
import Derived.Test.YtbkgobdpgokbaaaEpTwo2
import Derived.Test.YtbkgobdpgokbaaaEpLoads
namespace Go.Proofs.Ytbkgobdpgokbaaa
open Go.RowKit
section
variable {w w' : World} {B g m : Nat} {al : Int} {L L1 L2 : List Ep} {X : Nat → Prop}
theorem TwoE.withX (h : TwoE B w g m al L1 L2 (fun _ => False)) (o : Obj) : TwoE B (w.alloc o) g m al L1 L2 (fun k => k = w.heap.size) := by
  obtain ⟨F1, F2, h1, h2, h3, h4, h5, h6⟩ := h
  have hk : Keep (fun _ => False) w (w.alloc o) := (Keep.refl _ w).alloc o
  have hs : (w.alloc o).heap.size = w.heap.size + 1 := by simp
  exact ⟨F1, F2, h1.keepF hk, h2.keepF hk, h3, fun k q => ⟨(h4 k q).1, by have := (h4 k q).2.1; omega, by have := (h4 k q).2.1; omega⟩, fun k q => ⟨(h5 k q).1, by have := (h5 k q).2.1; omega, by have := (h5 k q).2.1; omega⟩, fun k q => by omega⟩
theorem TwoE.noX (h : TwoE B w g m al L1 L2 X) : TwoE B w g m al L1 L2 (fun _ => False) := by
  obtain ⟨F1, F2, h1, h2, h3, h4, h5, h6⟩ := h
  exact ⟨F1, F2, h1, h2, h3, fun k q => ⟨(h4 k q).1, (h4 k q).2.1, id⟩, fun k q => ⟨(h5 k q).1, (h5 k q).2.1, id⟩, fun _ f => f.elim⟩
/-- What the looks at both Epochs answer. -/
def Looks (w4 : World) (g m n : Nat) (L : List Ep) (Am : Option Addr) (cm : Nat) : Prop :=
  (∀ w', Keep (fun _ => False) w4 w' → Calls Try.prog 15 #[.pointer (some ⟨g, 0, none⟩)] w' fun e w'' => ∃ A c, e = .returned (.slice A n c) ∧ EpSl (fun _ => True) (fun _ => True) w'' (.slice A n c) L ∧ Keep (fun _ => False) w4 w'') ∧
  (∀ w' A c, Keep (fun _ => False) w4 w' → EpSl (fun _ => True) (fun _ => True) w' (.slice A n c) L → Calls Try.prog 22 #[.slice A n c, .slice Am n cm] w' fun e w'' => e = .returned (.bool true) ∧ Keep (fun _ => False) w4 w'') ∧
  (∀ w', Keep (fun _ => False) w4 w' → Calls Try.prog 28 #[.pointer (some ⟨g, 0, none⟩)] w' fun e w'' => ∃ A c, e = .returned (.slice A (memL (inU L)).length c) ∧ Row (fun _ => True) w'' (.slice A (memL (inU L)).length c) (memL (inU L)).length 1 ((memL (inU L)).map I64) ∧ Keep (fun _ => False) w' w'' ∧ Keep (fun _ => False) w4 w'') ∧
  (∀ w', Keep (fun _ => False) w4 w' → Calls Try.prog 32 #[.pointer (some ⟨m, 0, none⟩)] w' fun e w'' => ∃ A c, e = .returned (.slice A (memL (inU L)).length c) ∧ Row (fun _ => True) w'' (.slice A (memL (inU L)).length c) (memL (inU L)).length 1 ((memL (inU L)).map I64) ∧ Keep (fun _ => False) w' w'' ∧ Keep (fun _ => False) w4 w'') ∧
  (∀ w' s, Keep (fun _ => False) w4 w' → Calls Try.prog 14 #[.pointer (some ⟨g, 0, none⟩), .int .i64 s] w' fun e w'' => ∃ A c, e = .returned (.slice A (atE L s).2.length c) ∧ Row (fun _ => True) w'' (.slice A (atE L s).2.length c) (atE L s).2.length 1 ((atE L s).2.map I64) ∧ Keep (fun _ => False) w' w'' ∧ Keep (fun _ => False) w4 w'') ∧
  (∀ w' s, Keep (fun _ => False) w4 w' → Calls Try.prog 23 #[.pointer (some ⟨m, 0, none⟩), .int .i64 s] w' fun e w'' => ∃ A c, e = .returned (.slice A (atE L s).2.length c) ∧ Row (fun _ => True) w'' (.slice A (atE L s).2.length c) (atE L s).2.length 1 ((atE L s).2.map I64) ∧ Keep (fun _ => False) w' w'' ∧ Keep (fun _ => False) w4 w'')
theorem TwoE.looks (h : TwoE B w g m al L L X) (hl : L.length ≤ 50000) : ∃ Am cm, w.cell? ⟨m, 1, none⟩ = some (.slice Am L.length cm) ∧ Looks w g m L.length L Am cm := by
  obtain ⟨F1, F2, hE, hM, h3, h4, h5, h6⟩ := h
  have hok := hE.ok
  have hm1000 : ∀ x ∈ L, x.2.length ≤ 1000 := fun x hx => by have := (hok.2.2.2 x hx).1.2.1; omega
  obtain ⟨vm, hg, hsm⟩ := hM.val
  obtain ⟨Am, cm, rfl⟩ := hsm.shape
  refine ⟨Am, cm, cell_at hg 1 _ rfl, ?_, ?_, ?_, ?_, ?_, ?_⟩
  · intro w' hk
    refine (list_in (hE.keepF hk) (fun q hq => by have := (h4 q hq).2.1; have := hk.size; omega) (by omega)).mono ?_
    rintro e w'' ⟨v', he, hO, hk2⟩
    obtain ⟨A, c, rfl⟩ := hO.sl.shape
    obtain ⟨cs, q1, q2⟩ := hO.sl
    exact ⟨A, c, he, ⟨cs, q1.mono (fun _ _ => trivial), q2.mono (fun _ _ => trivial)⟩, hk.trans hk2 (fun _ _ h => h)⟩
  · intro w' A c hk hs
    refine (sameE_calls hs (hsm.keepF hk) hm1000 (by omega)).mono ?_
    rintro e w'' ⟨h1, z, h2⟩
    exact ⟨h1, by rw [h2]; exact hk.drewN z⟩
  · intro w' hk
    refine (union_in (hE.keepF hk) (fun q hq => by have := (h4 q hq).2.1; have := hk.size; omega) hl).mono ?_
    rintro e w'' ⟨A, c, he, hr, hk2⟩
    rw [union_same (fun x hx => (hok.2.2.2 x hx).1)] at he hr
    exact ⟨A, c, he, hr.mono (fun _ _ => trivial), hk2, hk.trans hk2 (fun _ _ h => h)⟩
  · intro w' hk
    refine (runion_calls (hM.keepF hk) (by omega)).mono ?_
    rintro e w'' ⟨A, c, he, hr, hk2⟩
    exact ⟨A, c, he, (Row.ofOwn hr).mono (fun _ _ => trivial), hk2, hk.trans hk2 (fun _ _ h => h)⟩
  · intro w' s hk
    refine (eAt_calls (hE.keepF hk) s (by omega)).mono ?_
    rintro e w'' ⟨g2, c2, he, ho, _, hk2⟩
    exact ⟨_, c2, he, (Row.ofOwn ho).mono (fun _ _ => trivial), hk2, hk.trans hk2 (fun _ _ h => h)⟩
  · intro w' s hk
    refine (reAt_calls (hM.keepF hk) s (by omega)).mono ?_
    rintro e w'' ⟨A2, c2, he, ho, hk2⟩
    exact ⟨A2, c2, he, (Row.ofOwn ho).mono (fun _ _ => trivial), hk2, hk.trans hk2 (fun _ _ h => h)⟩
theorem drop_le (L : List Ep) (k : Nat) : (L.drop k).length ≤ L.length := by rw [List.length_drop]; omega
end
end Go.Proofs.Ytbkgobdpgokbaaa

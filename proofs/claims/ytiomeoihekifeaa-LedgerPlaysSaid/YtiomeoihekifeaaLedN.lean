/- The ledger's methods, where its blocks are the call's own; wapentakelaw17.awake. -/
import Derived.Test.YtiomeoihekifeaaLed
namespace Go.Proofs.Ytiomeoihekifeaa
open Go.RowKit

abbrev reqX (n : Int) : Req := ⟨3, ByteArray.empty, n, 1, 0, ByteArray.empty, [], ByteArray.empty, 0, 0, 0⟩
theorem nilC (w : World) (F : Nat → Prop) : Sl .change w F (.slice none 0 0) [] := ⟨none, 0, rfl, Nat.le_refl _, Nat.zero_le _, .inl rfl⟩
def LedN (B : Nat) (w : World) (g : Nat) (s : LS) : Prop := ∃ F, LedAt F w g s ∧ ∀ k, F k → B ≤ k ∧ k < w.heap.size
section
variable {B : Nat} {w w' : World} {g : Nat} {s : LS}
theorem LedN.keep (h : LedN B w g s) (hk : Keep (fun _ => False) w w') : LedN B w' g s := by
  obtain ⟨F, h1, h2⟩ := h
  have := hk.size
  exact ⟨F, h1.keep hk (fun _ _ => id), fun k q => ⟨(h2 k q).1, by have := (h2 k q).2; omega⟩⟩
theorem newN_calls (next : Int) (hn : 0 ≤ next) :
    Calls Try.prog 12 #[.int .i64 next] w fun e w' => ∃ g, e = .returned (.pointer (some ⟨g, 0, none⟩)) ∧ LedN w.heap.size w' g ⟨next, next, []⟩ ∧ Keep (fun _ => False) w w' :=
  (new_calls next hn).mono fun _ _ ⟨he, hl, hk⟩ => ⟨_, he, ⟨_, hl, fun _ q => q⟩, hk⟩
theorem learnN_calls (h : LedN B w g s) (k : Int) (hk : (Lit.int .i64 k).wf = true) (n : Int) :
    Calls Try.prog 13 #[.pointer (some ⟨g, 0, none⟩), .int .i64 k, reqV (reqX n) (.slice none 0 0)] w fun e w' =>
      e = .returned (.int .i64 (learnS s k (reqX n)).1) ∧ LedN B w' g (learnS s k (reqX n)).2 ∧ Keep (fun k => B ≤ k) w w' := by
  obtain ⟨F, h1, h2⟩ := h
  refine (learn_calls (G := fun _ => False) h1 k hk (nilC w _) (by simp) (fun k q => (h2 k q).2)).mono ?_
  rintro e w' ⟨he, hl, hkp⟩
  have hs := hkp.size
  refine ⟨he, ⟨_, hl, ?_⟩, hkp.mono (fun k _ q => (h2 k q).1)⟩
  rintro k (q | ⟨a, b⟩)
  · have := h2 k q; omega
  · exact ⟨by have := h1.lt; obtain ⟨_, _, _, hg, _⟩ := h1; have := (h2 g hg).1; omega, b⟩
theorem readyN_calls (h : LedN B w g s) (hk : (Lit.int .i64 s.next).wf = true) :
    Calls Try.prog 16 #[.pointer (some ⟨g, 0, none⟩)] w fun e w' => ∃ v, e = .returned (.tuple #[reqV ((look s.l s.next).getD reqZero) v, .bool (look s.l s.next).isSome]) ∧ (∃ A n c, v = .slice A n c) ∧ LedN B w' g s ∧ Keep (fun _ => False) w w' := by
  have h0 := h
  obtain ⟨F, h1, h2⟩ := h
  refine (ready'_calls h1 hk).mono ?_
  rintro e w' ⟨v, he, hs, hkp⟩
  obtain ⟨A, c, rfl⟩ := hs.shape
  exact ⟨_, he, ⟨_, _, _, rfl⟩, h0.keep hkp, hkp⟩
theorem stepN_calls (h : LedN B w g s) (hk : (Lit.int .i64 s.next).wf = true) (hk' : (Lit.int .i64 (s.next + 1)).wf = true) :
    Calls Try.prog 17 #[.pointer (some ⟨g, 0, none⟩)] w fun e w' =>
      e = .returned (.bool (look s.l s.next).isSome) ∧ LedN B w' g (stepS s) ∧ Keep (fun k => B ≤ k) w w' := by
  obtain ⟨F, h1, h2⟩ := h
  refine (step_calls h1 hk hk').mono ?_
  rintro e w' ⟨he, hl, hkp⟩
  have hs := hkp.size
  have hg : F g := by obtain ⟨_, _, _, hg, _⟩ := h1; exact hg
  exact ⟨he, ⟨F, hl, fun k q => ⟨(h2 k q).1, by have := (h2 k q).2; omega⟩⟩, hkp.mono (fun k _ q => by have q : k = g := q; subst q; exact (h2 k hg).1)⟩
theorem nextN_calls (h : LedN B w g s) : Calls Try.prog 18 #[.pointer (some ⟨g, 0, none⟩)] w fun e w' => e = .returned (.int .i64 s.next) ∧ w = w' := by
  obtain ⟨F, h1, _⟩ := h
  exact next_calls h1

set_option maxRecDepth 20000 in
set_option maxHeartbeats 2000000 in
theorem awake17_calls (w : World) : Calls Try.prog 11 #[] w fun e w' => e = .returned (.bool true) ∧ Keep (fun _ => False) w w' := by
  go_enter Try.func11, Try.ntmps11
  go_wp2_with fail
  refine (newN_calls 0 (by decide)).mono ?_
  rintro e w1 ⟨g, rfl, hl1, hk1⟩
  go_wp2_with fail
  refine (x_calls 1).mono ?_
  rintro e w2 ⟨rfl, hk2⟩
  have hl2 := hl1.keep hk2
  go_wp2_with fail
  refine (learnN_calls hl2 1 (by decide) 1).mono ?_
  rintro e w3 ⟨rfl, hl3, hk3⟩
  have e1 : learnS ⟨0, 0, []⟩ 1 (reqX 1) = (0, ⟨0, 0, [(1, reqX 1)]⟩) := rfl
  rw [e1] at hl3 ⊢
  clear e1
  go_wp2_with fail
  refine (readyN_calls hl3 (by decide)).mono ?_
  rintro e w4 ⟨v4, rfl, ⟨A4, n4, c4, rfl⟩, hl4, hk4⟩
  have e1 : look [((1 : Int), reqX 1)] 0 = none := rfl
  simp only [e1, Option.getD_none, Option.isSome_none]
  clear e1
  go_wp2_with fail
  refine (x_calls 2).mono ?_
  rintro e w5 ⟨rfl, hk5⟩
  have hka : Keep (fun _ => False) w4 w5 := ((Keep.refl _ _).alloc _).trans hk5 (fun _ _ q => q)
  have hl5 := hl4.keep hka
  have hkx : Keep (fun k => w.heap.size ≤ k) w w5 := ((((hk1.trans hk2 (fun _ _ q => q)).mono (T := fun k => w.heap.size ≤ k) (fun _ _ q => q.elim)).trans hk3 (fun _ _ q => q)).trans hk4 (fun _ _ q => q.elim)).trans hka (fun _ _ q => q.elim)
  clear hl1 hl2 hl3 hl4 hk1 hk2 hk3 hk4 hk5 hka
  go_wp2_with fail
  refine (learnN_calls hl5 0 (by decide) 2).mono ?_
  rintro e w6 ⟨rfl, hl6, hk6⟩
  have e1 : learnS ⟨0, 0, [(1, reqX 1)]⟩ 0 (reqX 2) = (0, ⟨0, 0, [(1, reqX 1), (0, reqX 2)]⟩) := rfl
  rw [e1] at hl6 ⊢
  clear e1
  go_wp2_with fail
  refine (readyN_calls hl6 (by decide)).mono ?_
  rintro e w7 ⟨v7, rfl, ⟨A7, n7, c7, rfl⟩, hl7, hk7⟩
  have e1 : look [((1 : Int), reqX 1), ((0 : Int), reqX 2)] 0 = some (reqX 2) := rfl
  simp only [e1, Option.getD_some, Option.isSome_some]
  clear e1
  have HX := hid (fun o => hl7.keep ((Keep.refl (fun _ => False) w7).alloc o))
  have HK7 := hid (fun o => ((hkx.trans hk6 (fun _ _ q => q)).trans hk7 (fun _ _ q => q.elim)).alloc o)
  clear hl5 hl6 hkx hk6 hk7
  go_wp2_with fail
  refine (stepN_calls (HX.out _) (by decide) (by decide)).mono ?_
  rintro e w8 ⟨rfl, hl8, hk8⟩
  have e1 : (look [((1 : Int), reqX 1), ((0 : Int), reqX 2)] 0).isSome = true := rfl
  have e2 : stepS ⟨0, 0, [((1 : Int), reqX 1), ((0 : Int), reqX 2)]⟩ = ⟨0, 1, [((1 : Int), reqX 1), ((0 : Int), reqX 2)]⟩ := rfl
  rw [e2] at hl8
  simp only [e1]
  clear e1 e2
  go_wp2_with fail
  refine (stepN_calls hl8 (by decide) (by decide)).mono ?_
  rintro e w9 ⟨rfl, hl9, hk9⟩
  have e1 : (look [((1 : Int), reqX 1), ((0 : Int), reqX 2)] 1).isSome = true := rfl
  have e2 : stepS ⟨0, 1, [((1 : Int), reqX 1), ((0 : Int), reqX 2)]⟩ = ⟨0, 2, [((1 : Int), reqX 1), ((0 : Int), reqX 2)]⟩ := rfl
  rw [e2] at hl9
  simp only [e1]
  clear e1 e2
  go_wp2_with fail
  refine (stepN_calls hl9 (by decide) (by decide)).mono ?_
  rintro e w10 ⟨rfl, hl10, hk10⟩
  have e1 : (look [((1 : Int), reqX 1), ((0 : Int), reqX 2)] 2).isSome = false := rfl
  have e2 : stepS ⟨0, 2, [((1 : Int), reqX 1), ((0 : Int), reqX 2)]⟩ = ⟨0, 2, [((1 : Int), reqX 1), ((0 : Int), reqX 2)]⟩ := rfl
  rw [e2] at hl10
  simp only [e1]
  clear e1 e2
  go_wp2_with fail
  refine (nextN_calls hl10).mono ?_
  rintro e w' ⟨rfl, rfl⟩
  go_wp2_with fail
  go_ret
  exact ⟨rfl, ((((HK7.out _).trans hk8 (fun _ _ q => q)).trans hk9 (fun _ _ q => q)).trans hk10 (fun _ _ q => q)).mono (fun b hb q => by omega)⟩
end
end Go.Proofs.Ytiomeoihekifeaa

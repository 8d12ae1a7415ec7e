/- wapentakelaw7.EpochKnown: the walk. -/
import Derived.Test.YtbkgobdpgokbaaaEpN
namespace Go.Proofs.Ytbkgobdpgokbaaa
open Go.RowKit
theorem setM_good {M : List Int} (h : mayP M) : setM M = M := h.good.set
theorem mostB_good {M I : List Int} (h : mayP M) : mostB M I = decide (quoN M ≤ M.countP (fun x => I.contains x)) := by rw [mostB, cntM, setM_good h]
set_option maxRecDepth 20000 in
set_option maxHeartbeats 1600000 in
theorem epochKnown_calls (w : World) : Calls Try.prog 6 #[] w fun e w' => e = .returned (.bool true) ∧ Below w.heap.size w w' := by
  have e1 : chE 2 [(0, [0, 1, 2])] 5 3 true = 0 := by decide
  have e2 : chL 2 [(0, [0, 1, 2])] 5 3 true = [(0, [0, 1, 2]), (7, [0, 1, 2, 3])] := by decide
  have e3 : chE 2 [(0, [0, 1, 2]), (7, [0, 1, 2, 3])] 6 0 false = 12 := by decide
  have e4 : chL 2 [(0, [0, 1, 2]), (7, [0, 1, 2, 3])] 6 0 false = [(0, [0, 1, 2]), (7, [0, 1, 2, 3])] := by decide
  have e5 : chE 2 [(0, [0, 1, 2]), (7, [0, 1, 2, 3])] 7 0 false = 0 := by decide
  have e6 : chL 2 [(0, [0, 1, 2]), (7, [0, 1, 2, 3])] 7 0 false = [(0, [0, 1, 2]), (7, [0, 1, 2, 3]), (9, [1, 2, 3])] := by decide
  have e7 : (atE [(0, [0, 1, 2]), (7, [0, 1, 2, 3]), (9, [1, 2, 3])] 9).2 = [1, 2, 3] := by decide
  have e8 : mostB [0, 1, 2] [2, 2, 0] = true := by rw [mostB_good (by decide)]; decide
  have e9 : mostB [0, 1, 2] [2, 2, 7] = false := by rw [mostB_good (by decide)]; decide
  have e10 : quoN [0, 1, 2, 3] = 3 := by decide
  go_enter Try.func6, Try.ntmps6
  go_wp2_with fail
  refine (awake7_calls w).mono ?_
  rintro e w0 ⟨rfl, k0⟩
  have K0 := hid k0
  have hnew := enew_lit (w := w0) (B := w.heap.size) k0.size [0, 1, 2] 2 3 (fun y hy => by simp at hy; rcases hy with rfl | rfl | rfl <;> exact ⟨by omega, by omega⟩) (by decide)
  clear k0
  go_wp2_with fail
  refine hnew.mono ?_
  rintro e w1 ⟨g, rfl, hE, hk, hBs⟩
  have hch := changeB hE 5 3 ⟨by omega, by omega⟩ ⟨by omega, by omega⟩ true (by simp)
  rw [e1, e2] at hch
  have HK := hid (K0.out.trans hk (fun _ _ h => h))
  clear hnew hE hk e1 e2
  go_wp2_with fail
  refine hch.mono ?_
  rintro e w2 ⟨rfl, hE2, k2⟩
  have HK2 := hid (HK.out.trans k2 (S := fun _ => False) (fun b hb h => by omega))
  have hch2 := changeB hE2 6 0 ⟨by omega, by omega⟩ ⟨by omega, by omega⟩ false (by simp)
  rw [e3, e4] at hch2
  clear hch hE2 k2 e3 e4
  go_wp2_with fail
  refine hch2.mono ?_
  rintro e w3 ⟨rfl, hE3, k3⟩
  have HK3 := hid (HK2.out.trans k3 (S := fun _ => False) (fun b hb h => by omega))
  have hch3 := changeB hE3 7 0 ⟨by omega, by omega⟩ ⟨by omega, by omega⟩ false (by simp)
  rw [e5, e6] at hch3
  clear hch2 hE3 k3 e5 e6
  go_wp2_with fail
  refine hch3.mono ?_
  rintro e w4 ⟨rfl, hE4, k4⟩
  have HK4 := hid (HK3.out.trans k4 (S := fun _ => False) (fun b hb h => by omega))
  have hat := eAt_calls hE4 9 (by simp)
  rw [e7] at hat
  clear hch3 hE4 k4 e7
  go_wp2_with fail
  refine hat.mono ?_
  rintro e w5 ⟨g5, c5, rfl, ho5, _, k5⟩
  have HK5 := hid (HK4.out.trans k5 (fun _ _ h => h))
  have hr5 := (Row.ofOwn ho5).keep ((Keep.refl (fun _ => False) w5).alloc (.cells (([1, 2, 3] : List Int).map I64).toArray 3)) (fun _ _ => id)
  have hsi := (sameInts_calls hr5 (row_ints w5 [1, 2, 3] 3 (by decide))).mono (R' := fun e w' => e = .returned (.bool true) ∧ Keep (fun _ => False) w5 w') (fun e w' ⟨he, z, hw⟩ => ⟨by rw [he, decide_eq_true rfl], by rw [hw]; exact ((Keep.refl _ w5).alloc _).drewN z⟩)
  clear hat ho5 k5 hr5
  go_wp2_with fail
  refine hsi.mono ?_
  rintro e w6 ⟨rfl, k6⟩
  have HK6 := hid (HK5.out.trans k6 (fun _ _ h => h))
  have hq := (quorum_calls (row_ints w6 [0, 1, 2, 3] 3 (by decide)) (by simp)).mono (R' := fun e w' => e = .returned (.int .i64 3) ∧ Keep (fun _ => False) w6 w') (fun e w' ⟨he, hw⟩ => ⟨by rw [he, e10]; rfl, by rw [← hw]; exact (Keep.refl _ w6).alloc _⟩)
  clear hsi k6
  go_wp2_with fail
  refine hq.mono ?_
  rintro e w7 ⟨rfl, k7⟩
  have HK7 := hid (HK6.out.trans k7 (fun _ _ h => h))
  clear hq e10 k7
  have ra := (row_ints w7 [0, 1, 2] 3 (by decide)).keep ((Keep.refl (fun _ => False) _).alloc (.cells (([2, 2, 0] : List Int).map I64).toArray 3)) (fun _ _ => id)
  have hm1 := (most_any ra (by simp) (row_ints (w7.alloc (.cells (([0, 1, 2] : List Int).map I64).toArray 3)) [2, 2, 0] 3 (by decide))).mono (R' := fun e w' => e = .returned (.bool true) ∧ Keep (fun _ => False) w7 w') (fun e w' ⟨he, hk⟩ => ⟨by rw [he, e8], (((Keep.refl (fun _ => False) w7).alloc _).alloc _).trans hk (fun _ _ h => h)⟩)
  simp only [World.size_alloc] at hm1
  clear ra e8
  go_wp2_with fail
  refine hm1.mono ?_
  rintro e w9 ⟨rfl, k9⟩
  have HK9 := hid (HK7.out.trans k9 (fun _ _ h => h))
  clear hm1 k9
  have ra := (row_ints w9 [0, 1, 2] 3 (by decide)).keep ((Keep.refl (fun _ => False) _).alloc (.cells (([2, 2, 7] : List Int).map I64).toArray 3)) (fun _ _ => id)
  have hm1 := (most_any ra (by simp) (row_ints (w9.alloc (.cells (([0, 1, 2] : List Int).map I64).toArray 3)) [2, 2, 7] 3 (by decide))).mono (R' := fun e w' => e = .returned (.bool false) ∧ Keep (fun _ => False) w9 w') (fun e w' ⟨he, hk⟩ => ⟨by rw [he, e9], (((Keep.refl (fun _ => False) w9).alloc _).alloc _).trans hk (fun _ _ h => h)⟩)
  simp only [World.size_alloc] at hm1
  clear ra e9
  go_wp2_with fail
  refine hm1.mono ?_
  rintro e w10 ⟨rfl, k10⟩
  have HK10 := hid (HK9.out.trans k10 (fun _ _ h => h))
  clear hm1 k10
  go_wp2_with fail
  go_ret
  exact ⟨rfl, HK10.out.below (Nat.le_refl _) (fun _ _ h => h)⟩
end Go.Proofs.Ytbkgobdpgokbaaa

/- wapentakelaw16.TallyKnown. -/
import Derived.Test.YthlgnilgjeebaaaTalA
import Derived.Test.YthlgnilgjeebaaaTalM
namespace Go.Proofs.Ythlgnilgjeebaaa
open Go.RowKit Go.MapKept
theorem row_c (w : World) (l : List Int) (e : TypeId) (hl : l.length ≤ maxLen) : Row (fun k => k = w.heap.size) (w.alloc (.cells (l.map I64).toArray e)) (.slice (some ⟨w.heap.size, 0, none⟩) l.length l.length) l.length 1 (l.map I64) :=
  ⟨_, _, rfl, by simp, Nat.le_refl _, hl, .inr ⟨w.heap.size, 0, rfl, rfl, by simp, fun j u hu => by
    refine cell_at (heap_alloc_new w _) _ _ ?_
    rw [Nat.zero_add]
    simpa using hu⟩⟩
abbrev kS1 : TS := ⟨16, 3, [(0, 0)], [], 3, []⟩
abbrev kS2 : TS := ⟨16, 3, [(0, 0), (2, 0)], [], 3, []⟩
abbrev kS3 : TS := ⟨16, 3, [(0, 0), (2, 0)], [], 3, [((3, 1), 1)]⟩
theorem kE1 : readyB kS1 0 [0, 1, 2] = false := by rw [readyB_is]; rfl
theorem kE2 : readyB kS2 0 [0, 1, 2] = true := by rw [readyB_is]; rfl
theorem kE3 : mostB [1] (votersR kS3 3) = true := by rw [mostB_is]; rfl
theorem kE4 : mostB [0, 1] (votersR kS3 3) = false := by rw [mostB_is]; rfl
theorem kI2 : TInv 2 kS2 := ((TInv.new 16 3).prom 0 0 []).prom 2 0 []
theorem kI3 : TInv 3 kS3 := kI2.vote 3 1
set_option maxRecDepth 20000 in
set_option maxHeartbeats 4000000 in
theorem tallyKnown_calls (w : World) : Calls Try.prog 7 #[] w fun e w' => e = .returned (.bool true) ∧ Below w.heap.size w w' := by
  go_enter Try.func7, Try.ntmps7
  go_wp2_with fail
  refine (awake16_calls w).mono ?_
  rintro e w0 ⟨rfl, k0⟩
  have K0 := hid (k0.mono (T := fun k => w.heap.size ≤ k) (fun _ _ f => f.elim))
  clear k0
  go_wp2_with fail
  refine (newN_calls 16 3).mono ?_
  rintro e w1 ⟨g, rfl, ht1, k1⟩
  have hB := K0.out.size
  have HB := hid hB
  have HT1 := hid ht1; have K1 := hid (K0.out.trans k1 (fun _ _ f => f.elim))
  clear ht1 k1 hB K0
  go_wp2_with fail
  refine (promN_nil HT1.out 0 0).mono ?_
  rintro e w2 ⟨rfl, ht2, k2⟩
  replace ht2 : TalN w0.heap.size w2 g kS1 := ht2
  have HT2 := hid ht2; have K2 := hid (K1.out.trans k2 (fun b hb e => by have := HB.out; omega))
  clear ht2 k2 HT1 K1
  generalize promB ⟨16, 3, [], [], 3, []⟩ 0 = b0
  go_wp2_with fail
  have ka := (Keep.refl (fun _ => False) w2).alloc (.cells (([0, 1, 2] : List Int).map I64).toArray 3)
  refine (readyN_calls (HT2.out.keep ka) (by simp) 0 (row_c w2 [0, 1, 2] _ (by simp [maxLen])) (by simp)).mono ?_
  rintro e w3 ⟨rfl, ht3, k3⟩
  rw [kE1]
  have HT3 := hid ht3; have K3 := hid (K2.out.trans (ka.trans k3 (fun _ _ f => f)) (fun _ _ f => f.elim))
  clear ht3 k3 ka HT2 K2
  go_wp2_with fail
  refine (promN_nil HT3.out 2 0).mono ?_
  rintro e w4 ⟨rfl, ht4, k4⟩
  replace ht4 : TalN w0.heap.size w4 g kS2 := ht4
  have HT4 := hid ht4; have K4 := hid (K3.out.trans k4 (fun b hb e => by have := HB.out; omega))
  clear ht4 k4 HT3 K3
  generalize promB kS1 2 = b1
  go_wp2_with fail
  have ka := (Keep.refl (fun _ => False) w4).alloc (.cells (([0, 1, 2] : List Int).map I64).toArray 3)
  refine (readyN_calls (HT4.out.keep ka) (by simp) 0 (row_c w4 [0, 1, 2] _ (by simp [maxLen])) (by simp)).mono ?_
  rintro e w5 ⟨rfl, ht5, k5⟩
  rw [kE2]
  have HT5 := hid ht5; have K5 := hid (K4.out.trans (ka.trans k5 (fun _ _ f => f)) (fun _ _ f => f.elim))
  clear ht5 k5 ka HT4 K4
  go_wp2_with fail
  refine (voteN_calls HT5.out 3 1 (okI_c (by decide) (by decide)) kI2 (by decide)).mono ?_
  rintro e w6 ⟨rfl, ht6, k6⟩
  replace ht6 : TalN w0.heap.size w6 g kS3 := ht6
  rw [show voteB kS2 3 1 = true from rfl]
  have HT6 := hid ht6; have K6 := hid (K5.out.trans k6 (fun b hb e => by have := HB.out; omega))
  clear ht6 k6 HT5 K5
  go_wp2_with fail
  refine (voteN_calls HT6.out 3 1 (okI_c (by decide) (by decide)) kI3 (by decide)).mono ?_
  rintro e w7 ⟨rfl, ht7, k7⟩
  replace ht7 : TalN w0.heap.size w7 g kS3 := ht7
  rw [show voteB kS3 3 1 = false from rfl]
  have HT7 := hid ht7; have K7 := hid (K6.out.trans k7 (fun b hb e => by have := HB.out; omega))
  clear ht7 k7 HT6 K6
  go_wp2_with fail
  have ka := (Keep.refl (fun _ => False) w7).alloc (.cells (([1] : List Int).map I64).toArray 3)
  refine (wonN_calls (HT7.out.keep ka) 3 (okI_c (by decide) (by decide)) (row_c w7 [1] _ (by simp [maxLen])) (by simp)).mono ?_
  rintro e w8 ⟨rfl, ht8, k8⟩
  rw [kE3]
  have HT8 := hid ht8; have K8 := hid (K7.out.trans (ka.trans k8 (fun _ _ f => f)) (fun _ _ f => f.elim))
  clear ht8 k8 ka HT7 K7
  go_wp2_with fail
  have ka := (Keep.refl (fun _ => False) w8).alloc (.cells (([0, 1] : List Int).map I64).toArray 3)
  refine (wonN_calls (HT8.out.keep ka) 3 (okI_c (by decide) (by decide)) (row_c w8 [0, 1] _ (by simp [maxLen])) (by simp)).mono ?_
  rintro e w9 ⟨rfl, ht9, k9⟩
  rw [kE4]
  have HT9 := hid ht9; have K9 := hid (K8.out.trans (ka.trans k9 (fun _ _ f => f)) (fun _ _ f => f.elim))
  clear ht9 k9 ka HT8 K8
  go_wp2_with fail
  refine (topN_calls HT9.out).mono ?_
  rintro e w' ⟨rfl, rfl⟩
  go_wp2_with fail
  refine (ballotN_calls HT9.out).mono ?_
  rintro e w' ⟨rfl, rfl⟩
  go_wp2_with fail
  refine (fromN_calls HT9.out).mono ?_
  rintro e w' ⟨rfl, rfl⟩
  go_wp2_with fail
  refine (promN_nil HT9.out 15 0).mono ?_
  rintro e w10 ⟨rfl, _, k10⟩
  rw [show promB kS3 15 = false from rfl]
  have K10 := hid (K9.out.trans k10 (fun b hb e => by have := HB.out; omega))
  clear k10 HT9 K9
  go_wp2_with fail
  go_ret
  exact ⟨rfl, K10.out.below (Nat.le_refl _) (fun b hb q => by omega)⟩
end Go.Proofs.Ythlgnilgjeebaaa

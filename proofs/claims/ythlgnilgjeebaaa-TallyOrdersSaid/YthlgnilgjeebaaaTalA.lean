/- wapentakelaw16.awake. -/
import Derived.Test.YthlgnilgjeebaaaTalN
namespace Go.Proofs.Ythlgnilgjeebaaa
open Go.RowKit Go.MapKept
theorem nilSl {w : World} {F : Nat → Prop} : Sl .change w F (.slice none 0 0) ([] : List Change) := ⟨none, 0, rfl, Nat.le_refl _, Nat.zero_le _, .inl rfl⟩
section
variable {w : World}
set_option maxRecDepth 20000 in
set_option maxHeartbeats 4000000 in
theorem awake16_calls (w : World) : Calls Try.prog 8 #[] w fun e w' => e = .returned (.bool true) ∧ Keep (fun _ => False) w w' := by
  go_enter Try.func8, Try.ntmps8
  go_wp2_with fail
  refine (newN_calls 16 3).mono ?_
  rintro e w1 ⟨g, rfl, ht1, k1⟩
  have HT1 := hid ht1; have K1 := hid k1
  clear ht1 k1
  go_wp2_with fail
  refine (x_calls 1).mono ?_
  rintro e w2 ⟨rfl, k2⟩
  have K2 := hid k2
  clear k2
  go_wp2_with (first
    | (refine wpl_buildG (cells := (voteCs (vX 4 5 1) (.slice none 0 0)).toArray) rfl rfl (by kernel_rfl) ?_)
    | (refine wpl_sliceOneG (v := .agg (voteCs (vX 4 5 1) (.slice none 0 0)).toArray) (z := .agg (voteCs ⟨0, 0, reqZ'⟩ (.slice none 0 0)).toArray) rfl rfl Try.underlying28 (n := 13) (by kernel_rfl) (by decide) (by decide) rfl (by simp [Value.cells, voteCs, reqCs]) ?_; intro g3 w3 hg3 hb3 k3 s3; have HG3 := hid hg3; have K3 := hid k3; have HS3 := hid s3; clear hg3 s3 k3))
  have k13 : Keep (fun _ => False) w1 w3 := K2.out.trans K3.out (fun _ _ q => q)
  refine (promN_calls HT1.out k13 0 0 (G := fun k => k = g3) (l := [vX 4 5 1]) (sl_vote1 hb3 nilSl (vX_ok (okI_c (by decide) (by decide)) (okI_c (by decide) (by decide)) (okI_c (by decide) (by decide))) rfl) (fun k hk => by have := HG3.out; have := HS3.out; have := K2.out.size; omega) (by simp)).mono ?_
  rintro e w4 ⟨rfl, ht4, k4⟩
  have e1 : promB ⟨16, 3, [], [], 3, []⟩ 0 = true := rfl
  have e2 : promS ⟨16, 3, [], [], 3, []⟩ 0 0 [vX 4 5 1] = ⟨16, 3, [(0, 0)], [(4, vX 4 5 1)], 5, []⟩ := rfl
  rw [e2] at ht4
  rw [e1]
  have HT4 := hid ht4; have K4 := hid (((K1.out.trans k13 (fun _ _ q => q)).mono (T := fun k => w.heap.size ≤ k) (fun _ _ f => f.elim)).trans k4 (fun _ _ q => q))
  clear ht4 k4 k13 hb3 e1 e2 HT1 K1 K2 K3
  go_wp2_with fail
  refine (promN_nil HT4.out 0 0).mono ?_
  rintro e w5 ⟨rfl, ht5, k5⟩
  have e1 : promB ⟨16, 3, [(0, 0)], [(4, vX 4 5 1)], 5, []⟩ 0 = false := rfl
  have e2 : promS ⟨16, 3, [(0, 0)], [(4, vX 4 5 1)], 5, []⟩ 0 0 [] = ⟨16, 3, [(0, 0)], [(4, vX 4 5 1)], 5, []⟩ := rfl
  rw [e2] at ht5
  rw [e1]
  have HT5 := hid ht5; have K5 := hid (K4.out.trans k5 (fun _ _ q => q))
  clear ht5 k5 e1 e2 HT4 K4
  go_wp2_with fail
  refine (x_calls 2).mono ?_
  rintro e w6 ⟨rfl, k6⟩
  have K6 := hid k6
  clear k6
  go_wp2_with (first
    | (refine wpl_buildG (cells := (voteCs (vX 4 7 2) (.slice none 0 0)).toArray) rfl rfl (by kernel_rfl) ?_)
    | (refine wpl_sliceOneG (v := .agg (voteCs (vX 4 7 2) (.slice none 0 0)).toArray) (z := .agg (voteCs ⟨0, 0, reqZ'⟩ (.slice none 0 0)).toArray) rfl rfl Try.underlying28 (n := 13) (by kernel_rfl) (by decide) (by decide) rfl (by simp [Value.cells, voteCs, reqCs]) ?_; intro g7 w7 hg7 hb7 k7 s7; have HG7 := hid hg7; have K7 := hid k7; have HS7 := hid s7; clear hg7 s7 k7))
  have k57 : Keep (fun _ => False) w5 w7 := K6.out.trans K7.out (fun _ _ q => q)
  refine (promN_calls HT5.out k57 2 1 (G := fun k => k = g7) (l := [vX 4 7 2]) (sl_vote1 hb7 nilSl (vX_ok (okI_c (by decide) (by decide)) (okI_c (by decide) (by decide)) (okI_c (by decide) (by decide))) rfl) (fun k hk => by have := HG7.out; have := HS7.out; have := K6.out.size; omega) (by simp)).mono ?_
  rintro e w8 ⟨rfl, ht8, k8⟩
  have e1 : promB ⟨16, 3, [(0, 0)], [(4, vX 4 5 1)], 5, []⟩ 2 = true := rfl
  have e2 : promS ⟨16, 3, [(0, 0)], [(4, vX 4 5 1)], 5, []⟩ 2 1 [vX 4 7 2] = ⟨16, 3, [(0, 0), (2, 1)], [(4, vX 4 7 2)], 5, []⟩ := rfl
  rw [e2] at ht8
  rw [e1]
  have HT8 := hid ht8; have K8 := hid ((K5.out.trans k57 (fun _ _ f => f.elim)).trans k8 (fun _ _ q => q))
  clear ht8 k8 k57 hb7 e1 e2 HT5 K5 K6 K7
  go_wp2_with fail
  refine (valN_calls HT8.out 4 (by decide)).mono ?_
  rintro e w9 ⟨⟨A9, c9, rfl, _, _, k9⟩, ht9⟩
  have e1 : valR ⟨16, 3, [(0, 0), (2, 1)], [(4, vX 4 7 2)], 5, []⟩ 4 = reqX 2 := rfl
  have e2 : (look [((4 : Int), vX 4 7 2)] 4).isSome = true := rfl
  simp only [e1, e2]
  have HT9 := hid ht9; have K9 := hid (K8.out.trans k9 (fun _ _ f => f.elim))
  clear ht9 k9 e1 e2 HT8 K8
  go_wp2_with (first
    | (refine wpl_allocB rfl rfl (z := .agg (reqCs reqZ' (.slice none 0 0)).toArray) (by kernel_rfl) ?_; intro g10 w10 hg10 hb10 k10 s10; have HG10 := hid hg10; have HT10 := hid (HT9.out.keep k10); have K10 := hid (K9.out.trans k10 (fun _ _ f => f.elim)); have KA10 := hid k10; have HSZ := hid (show w9.heap.size ≤ g10 ∧ w10.heap.size = g10 + 1 by omega); clear hg10 s10 k10)
    | (refine wpl_storeB (v := .agg (reqCs (reqX 2) (.slice A9 0 c9)).toArray) rfl rfl rfl rfl hb10 (by kernel_rfl) (by simp [reqCs, Value.cells]) (by simp [reqCs, Value.oneCell', Value.cells]) ?_; intro w11 hb11 k11 s11; have K911 := hid ((KA10.out.mono (T := fun k => w9.heap.size ≤ k) (fun _ _ f => f.elim)).trans k11 (fun b hb e => by have := HSZ.out; omega)); replace hb11 : w11.heap[g10]? = some (.cells (reqCs (reqX 2) (.slice A9 0 c9)).toArray 34) := hb11; have q2 := cell_at hb11 2 (.int .i64 2) rfl; clear s11 k11))
  have HT11 := hid (HT9.out.keepB K911.out (Nat.le_refl _))
  have K11 := hid (K9.out.trans K911.out (fun b hb e => by have := K9.out.size; omega))
  clear HT9 K911 HT10 K10 hb10 hb11 KA10 HSZ HG10 K9
  refine (topN_calls HT11.out).mono ?_
  rintro e w' ⟨rfl, rfl⟩
  go_wp2_with fail
  refine (baseN_calls HT11.out (by simp)).mono ?_
  rintro e w12 ⟨rfl, ht12, k12⟩
  have e1 : baseR ⟨16, 3, [(0, 0), (2, 1)], [(4, vX 4 7 2)], 5, []⟩ = 1 := rfl
  rw [e1]
  have HT12 := hid ht12; have K12 := hid (K11.out.trans k12 (fun _ _ f => f.elim))
  clear ht12 k12 e1 q2
  go_wp2_with fail
  refine (furtherN_calls HT12.out (by simp) 0).mono ?_
  rintro e w13 ⟨u13, rfl, hr13, ht13, k13⟩
  have e1 : (byR ⟨16, 3, [(0, 0), (2, 1)], [(4, vX 4 7 2)], 5, []⟩ true 0).length = 1 := by rw [byR_len]; rfl
  rw [e1] at hr13
  obtain ⟨A13, c13, rfl⟩ := hr13.shape
  have K13 := hid (K12.out.trans k13 (fun _ _ f => f.elim))
  clear ht13 k13 e1 hr13
  go_wp2_with fail
  go_ret
  exact ⟨rfl, K13.out.mono (fun b hb e => by omega)⟩
end
end Go.Proofs.Ythlgnilgjeebaaa

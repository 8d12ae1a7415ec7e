/- wapentakelaw20.BoxKnown: the walk. -/
import Derived.Test.YtiomeoihekifeaaBoxN
namespace Go.Proofs.Ytiomeoihekifeaa
open Go.RowKit Go.Conc
set_option maxRecDepth 20000 in
set_option maxHeartbeats 800000 in
theorem boxKnown_calls (w : World) : Calls Try.prog 8 #[] w fun e w' => e = .returned (.bool true) ∧ Below w.heap.size w w' := by
  go_enter Try.func8, Try.ntmps8
  go_wp2_with fail
  refine (awake20_calls w).mono ?_
  rintro e w0 ⟨rfl, k0⟩
  go_wp2_with fail
  refine (newB_calls 2 (by decide) (by decide)).mono ?_
  rintro e w1 ⟨g, c, rfl, hb1, k1⟩
  go_wp2_with fail
  refine (newBox_bad 0 (.inl (by decide))).mono ?_
  rintro e w' ⟨rfl, rfl⟩
  go_wp2_with fail
  refine (nack_calls 5).mono ?_
  rintro e w2 ⟨rfl, k2⟩
  have hb2 := hb1.keepF k2
  go_wp2_with fail
  refine (hb2.post (nack_cells w2 (fun _ => False) 5 ⟨by decide, by decide⟩) (fun _ e => e.elim) (nack_fits 5)).mono ?_
  rintro e w3 ⟨rfl, hb3, k3⟩
  simp only [List.length_nil, Nat.zero_lt_succ, decide_true, if_true, List.nil_append] at hb3 ⊢
  go_wp2_with fail
  refine (hb3.symm.either).mono ?_
  rintro e w4 ⟨cs, rfl, hm4, hb4, k4⟩
  simp only [List.length_nil, Nat.lt_irrefl, if_false, List.length_singleton, Nat.lt_add_one, if_true, List.headD_cons, List.tail_cons, List.tail_nil] at hm4 hb4 ⊢
  obtain ⟨vc, vv, vi, vk, hcs, hL⟩ := nack_of hm4
  have HL := hid hL
  have hc1 := (hb1.inA (by simp)).1
  have HK4 := hid ((((((k0.trans k1 (fun _ _ q => q)).trans k2 (fun _ _ q => q)).mono (T := fun k => w0.heap.size ≤ k) (fun _ _ q => q.elim)).trans k3 (fun _ _ e => by omega)).trans k4 (fun b _ e => by rcases e with e | e; exact absurd rfl e.1; omega)))
  have hc4 := (hb4.inB (by simp)).2
  have z0 := k0.size
  have HB4 := hid hb4
  have hin : cs.toArray = (msgCs (nackM 5) vc vv vi vk).toArray := by rw [hcs]
  have HIN := hid hin
  clear hm4 hL hb1 hb2 hb3 hb4 k0 k1 k2 k3 k4 hcs hin
  go_wp2_with (first
    | (refine wpl_allocB (z := zM) rfl rfl (by kernel_rfl) ?_; intro g3 w7 hg3 hb7 k7 s7; have HG3 := hid hg3; clear hg3)
    | (refine wpl_storeB (v := .agg cs.toArray) rfl rfl rfl rfl hb7 HL.out.info HL.out.fit HL.out.oneA ?_; intro w8 hb8' k8 s8; have hb8 := hb8'.trans (HL.out.whole rfl)))
  have e3 : w4.heap.size ≤ g3 := Nat.le_of_eq HG3.out.symm
  have k78 : Keep (fun k => w4.heap.size ≤ k) w4 w8 := (k7.mono (fun _ _ q => q.elim)).trans k8 (fun b hb e => by omega)
  have hb9 := HB4.out.keep k78
  have HK8 := hid (HK4.out.trans k78 (fun b hb q => by have := HK4.out.size; omega))
  rw [HIN.out] at hb8
  have HB8 := hid hb8
  clear hb8 hb7 hb8' k7 k8 k78
  refine (hb9.symm.either).mono ?_
  rintro e w9 ⟨ct, rfl, hm9, hb10, k9⟩
  simp only [List.length_nil, Nat.lt_irrefl, if_false, List.headD_nil, List.tail_nil] at hm9 hb10 ⊢
  have HL9 := hid (MsgL.of hm9)
  have hb11 := k9.heap HB8.out (fun e => by rcases e with e | e; omega; exact absurd rfl e.1)
  have HB10 := hid hb10
  have HK9 := hid (HK8.out.trans k9 (fun b hb e => by rcases e with e | e; omega; exact absurd rfl e.1))
  have z9 := k9.size
  clear hm9 hb9 hb10 k9
  go_wp2_with (first
    | (refine wpl_allocB (z := zM) rfl rfl (by kernel_rfl) ?_; intro g5 w10 hg5 hb12 k10 s10; have HG5 := hid hg5; clear hg5; replace hb11 := k10.heap hb11 id)
    | (refine wpl_storeB (v := .agg ct.toArray) rfl rfl rfl rfl hb12 HL9.out.info HL9.out.fit HL9.out.oneA ?_; intro w11 hb12' k11 s11; replace hb11 := k11.heap hb11 (fun e => by have := HG5.out; omega); have c3 := cell_at hb11 3 (.int .i64 5) rfl))
  have e5 : w9.heap.size ≤ g5 := Nat.le_of_eq HG5.out.symm
  have ka : Keep (fun k => w9.heap.size ≤ k) w9 w11 := (k10.mono (fun _ _ q => q.elim)).trans k11 (fun b hb e => by omega)
  have hb13 := (HB10.out.keep ka).symm
  have HK11 := hid (HK9.out.trans ka (fun b hb q => by have := HK9.out.size; omega))
  clear ka k10 k11
  refine (hb13.drain (by decide) (by have := HK11.out.size; have := HK8.out.size; omega) 3).mono ?_
  rintro e w12 ⟨v, rfl, hv, _, k12⟩
  obtain ⟨A, cc, rfl⟩ := hv.shape
  go_wp2_with fail
  go_ret
  exact ⟨rfl, ((HK11.out.trans k12 (fun b hb e => absurd rfl e.1)).below (Nat.le_refl _) (fun b hb q => by omega))⟩
end Go.Proofs.Ytiomeoihekifeaa

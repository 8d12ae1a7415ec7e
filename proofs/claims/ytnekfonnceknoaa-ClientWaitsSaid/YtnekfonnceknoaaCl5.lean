/- client: opened. -/
import Derived.Test.YtnekfonnceknoaaCl4
namespace Go.Proofs.Ytnekfonnceknoaa
open Go.RowKit Go.Lib
def openedS (s : CS) (x : Verdict) : CS := { s with opening := false, session := x.session, seq := 1, number := s.number + 1, asked := withR s.wish x.session 1 }
def openedF (s : CS) (x : Verdict) : CS × Option Msg := if x.code = 1 then (sentS (openedS s x), some (sentM (openedS s x))) else (s, none)
theorem CInv.opened0 {s : CS} {N : Int} {x : Verdict} (h : CInv N s) (hx : x.Ok) : CInv (N + 1) (openedS s x) :=
  { h with num := ⟨by have := h.num; simp only [openedS]; omega, by have := h.num; simp only [openedS]; omega⟩, seq := ⟨by simp [openedS], by have := h.num; simp only [openedS]; omega⟩, ses := hx.session, asked := withR_ok h.wish hx.session (ok_small (by omega)) }
theorem CInv.opened {s : CS} {N : Int} {x : Verdict} (h : CInv N s) (hx : x.Ok) : CInv (N + 1) (openedF s x).1 := by
  unfold openedF
  split
  · exact (h.opened0 hx).sent
  · exact h.more (by omega)
section
variable {X Y : Nat → Prop} {w w' : World} {g : Nat} {s : CS} {vw va vt vk : Value} {F : Nat → Prop} {N : Int}
set_option maxRecDepth 20000 in
set_option maxHeartbeats 8000000 in
theorem opened_calls {x : Verdict} {v : Value} (h : CliM X w g s vw va vt vk) (hI : CInv N s) (hN : N < 1000000) (hx : x.Ok) (hv : ∃ A n c, v = .slice A n c) : Calls Try.prog 27 #[.pointer (some ⟨g, 0, none⟩), .agg (verdictCs x v).toArray] w (Ans X w g (openedF s x).1 (openedF s x).2) := by
  obtain ⟨Av, nv, cv, rfl⟩ := hv
  have H := hid h; have HI := hid hI; have HN := hid hN; have HX := hid hx
  have hgl := lt_heap h.obj
  have HGL := hid hgl; have HG := hid h.hg
  have EW := hid (enters_of Try.func23 (by kernel_rfl) rfl)
  obtain ⟨Aw, cw, hsw⟩ := h.hw.shape
  have HSW := hid hsw
  clear h hI hN hgl hx hsw
  go_enter Try.func27, Try.ntmps27
  go_upto_region 1 with (first
    | (refine wpl_boxB (v := .agg (verdictCs x (.slice Av nv cv)).toArray) rfl rfl rfl ?_; intro g3 w1 hg3 hb3 k1 s1; have HG3 := hid hg3; have HS1 := hid s1; have K1 := hid k1; clear hg3 s1 k1)
    | (refine wpl_allocB (ty := 37) rfl rfl (z := zM) (by kernel_rfl) ?_; intro gm w2 hgm hbm k2 s2; have HGM := hid hgm; have K2 := hid (K1.out.trans k2 (fun _ _ f => f)); have hb32 := k2.heap hb3 id; have HBM := hid hbm; clear hgm s2 k2 hbm))
  have HGE := hid (show w.heap.size ≤ gm ∧ g < g3 ∧ g3 < gm from ⟨by have := HGM.out; have := K1.out.size; omega, by have := HG3.out; have := HGL.out; omega, by have := HGM.out; have := HS1.out; omega⟩)
  have HM1 := hid (H.out.box K2.out HGE.out.1 (lt_heap HBM.out))
  have c0 := cell_at hb32 0 (.int .i64 x.code) rfl
  have HB3 := hid hb32
  clear hb3 hb32
  by_cases p1 : x.code = 1
  case neg =>
    have d1 : (x.code != 1) = true := by simp [p1]
    have HMC := hid HM1.out
    have HE := hid (show openedF s x = (s, none) from if_neg p1)
    have hbm := HBM.out
    clear p1
    go_wp2_with (first
      | (refine wpl_build rfl rfl (msgCs msgZ nilV nilV nilV nilV).toArray (by kernel_rfl) ?_)
      | (refine wpl_storeB (v := zM) rfl rfl rfl rfl hbm msgL_z.info msgL_z.fit msgL_z.oneA ?_; intro w9 hb9 k9 s9))
    refine bodyPost_ret (res_cell_tmp (g := gm) (cs := (msgCs msgZ nilV nilV nilV nilV).toArray) (v := .bool false) Try.results27 _ rfl rfl (hb9.trans (msgL_z.whole rfl)) (by kernel_rfl) (by kernel_rfl)) rfl ?_
    rw [HE.out]
    exact Ans.none HG.out K2.out HGE.out.1 (Keep.refl _ _) k9 HGL.out HMC.out.at
  have d1 : (x.code != 1) = false := by simp [p1]
  have HE := hid (show openedF s x = (sentS (openedS s x), some (sentM (openedS s x))) from if_pos p1)
  clear p1
  have kd : Keep (fun _ => False) w2 w2.drew := (Keep.refl _ _).drew
  have HM2 := hid (HM1.out.keep kd); have HBM2 := hid (kd.heap HBM.out id); have HB32 := hid (kd.heap HB3.out id); have KD := hid kd
  have hS : w2.drew.cell? ⟨g3, 1, none⟩ = some (.int .i64 x.session) := cell_at HB32.out 1 _ rfl
  clear kd
  go_wp2_with fail
  refine wp_region_X (fun y => y.cell? ⟨g3, 1, none⟩ = some (.int .i64 x.session)) [] (by kernel_rfl) hS (fun _ => ?_)
  refine wpAnyX_take (i := 0) [5, 6, 7, 8, 9, 10, 11, 12, 13] (some 11) (v := ?_) rfl (by rfl) (by kernel_rfl) (by kernel_rfl) (by kernel_rfl) (by kernel_rfl) (fun _ _ _ h => h) (Or.inl ⟨by rfl, ?_⟩) hS ?_
  rotate_left
  focus (intro w' hSw; (try dsimp only at hSw); go_simp; try with_reducible rfl)
  simp only [Act.put, List.setIfInBounds_toArray, List.set_cons_zero, List.set_cons_succ]
  refine wpAnyX_take (i := 1) [8, 9, 10, 11, 12, 13] (some 12) (v := ?_) rfl (by rfl) (by kernel_rfl) (by kernel_rfl) (by kernel_rfl) (by kernel_rfl) (fun _ _ _ h => h) (Or.inl ⟨by rfl, ?_⟩) hS ?_
  rotate_left
  focus (intro w' hSw; (try dsimp only at hSw); go_simp; try with_reducible rfl)
  simp only [Act.put, List.setIfInBounds_toArray, List.set_cons_zero, List.set_cons_succ]
  refine wpAnyX_take (i := 2) [11, 12, 13] (some 13) (v := ?_) rfl (by rfl) (by kernel_rfl) (by kernel_rfl) (by kernel_rfl) (by kernel_rfl) (fun _ _ _ h => h) (Or.inl ⟨by rfl, ?_⟩) hS ?_
  rotate_left
  focus (intro w' hSw; (try dsimp only at hSw); go_simp; try with_reducible rfl)
  simp only [Act.put, List.setIfInBounds_toArray, List.set_cons_zero, List.set_cons_succ]
  refine wpAnyX_take (i := 3) [4, 8, 9, 10, 11, 12, 13] (some 14) (v := ?_) rfl (by rfl) (by kernel_rfl) (by kernel_rfl) (by kernel_rfl) (by kernel_rfl) (fun _ _ _ h => h) (Or.inl ⟨by rfl, ?_⟩) hS ?_
  rotate_left
  focus (intro w' hSw; (try dsimp only at hSw); go_simp; try with_reducible rfl)
  simp only [Act.put, List.setIfInBounds_toArray, List.set_cons_zero, List.set_cons_succ]
  refine wpAnyX_take (i := 4) [8, 9, 10, 11, 12, 13] (some 15) (v := _) rfl (by rfl) (by kernel_rfl) (by kernel_rfl) (by kernel_rfl) (by kernel_rfl) (fun _ _ _ h => h) (yieldsIf_cell (v := .int .i64 x.session) (by rfl) rfl (by rfl) (by kernel_rfl) (fun y hy => hy)) hS ?_
  simp only [Act.put, List.setIfInBounds_toArray, List.set_cons_zero, List.set_cons_succ]
  refine wpAnyX_take (i := 5) [6, 7, 8, 9, 10, 11, 12, 13] (some 16) (v := ?_) rfl (by rfl) (by kernel_rfl) (by kernel_rfl) (by kernel_rfl) (by kernel_rfl) (fun _ _ _ h => h) (Or.inl ⟨by rfl, ?_⟩) hS ?_
  rotate_left
  focus (intro w' hSw; (try dsimp only at hSw); go_simp; try with_reducible rfl)
  simp only [Act.put, List.setIfInBounds_toArray, List.set_cons_zero, List.set_cons_succ]
  refine wpAnyX_take (i := 6) [7, 8, 9, 10, 11, 12, 13] (some 17) (v := ?_) rfl (by rfl) (by kernel_rfl) (by kernel_rfl) (by kernel_rfl) (by kernel_rfl) (fun _ _ _ h => h) (Or.inl ⟨by rfl, ?_⟩) hS ?_
  rotate_left
  focus (intro w' hSw; (try dsimp only at hSw); go_simp; try with_reducible rfl)
  simp only [Act.put, List.setIfInBounds_toArray, List.set_cons_zero, List.set_cons_succ]
  refine wpAnyX_one (i := 7) (by kernel_rfl) rfl (fun K hK => ?_)
  refine step_store (none) (by rfl) (v := .bool false) (by rfl) rfl (by rfl) (by rfl) HM2.out.obj (by kernel_rfl) (of_decide_eq_true (by kernel_rfl)) (by simp [Value.oneCell', Value.cells]) ?_
  intro w3 hb3 k3 s3
  replace hb3 : w3.heap[g]? = some (CObj { s with opening := false } vw va vt vk) := hb3
  have hS3 : w3.cell? ⟨g3, 1, none⟩ = some (.int .i64 x.session) := k3.cell hS (fun e => Nat.ne_of_gt HGE.out.2.1 e)
  refine hK _ _ (hS3) ?_
  clear hK K
  simp only [Act.put]
  refine wpAnyX_take (i := 8) [9, 10, 11, 12, 13] (some 18) (v := ?_) rfl (by rfl) (by kernel_rfl) (by kernel_rfl) (by kernel_rfl) (by kernel_rfl) (fun _ _ _ h => h) (Or.inl ⟨by rfl, ?_⟩) hS3 ?_
  rotate_left
  focus (intro w' hSw; (try dsimp only at hSw); go_simp; try with_reducible rfl)
  simp only [Act.put, List.setIfInBounds_toArray, List.set_cons_zero, List.set_cons_succ]
  refine wpAnyX_take (i := 9) [10, 11, 12, 13] (some 19) (v := ?_) rfl (by rfl) (by kernel_rfl) (by kernel_rfl) (by kernel_rfl) (by kernel_rfl) (fun _ _ _ h => h) (Or.inl ⟨by rfl, ?_⟩) hS3 ?_
  rotate_left
  focus (intro w' hSw; (try dsimp only at hSw); go_simp; try with_reducible rfl)
  simp only [Act.put, List.setIfInBounds_toArray, List.set_cons_zero, List.set_cons_succ]
  refine wpAnyX_one (i := 10) (by kernel_rfl) rfl (fun K hK => ?_)
  refine step_store (none) (by rfl) (v := .int .i64 x.session) (by rfl) rfl (by rfl) (by rfl) hb3 (by kernel_rfl) (of_decide_eq_true (by kernel_rfl)) (by simp [Value.oneCell', Value.cells]) ?_
  intro w4 hb4 k4 s4
  replace hb4 : w4.heap[g]? = some (CObj { s with opening := false, session := x.session } vw va vt vk) := hb4
  have hS4 : w4.cell? ⟨g3, 1, none⟩ = some (.int .i64 x.session) := k4.cell hS3 (fun e => Nat.ne_of_gt HGE.out.2.1 e)
  refine hK _ _ (hS4) ?_
  clear hK K
  simp only [Act.put]
  refine wpAnyX_take (i := 11) [12, 13] (some 20) (v := ?_) rfl (by rfl) (by kernel_rfl) (by kernel_rfl) (by kernel_rfl) (by kernel_rfl) (fun _ _ _ h => h) (Or.inl ⟨by rfl, ?_⟩) hS4 ?_
  rotate_left
  focus (intro w' hSw; (try dsimp only at hSw); go_simp; try with_reducible rfl)
  simp only [Act.put, List.setIfInBounds_toArray, List.set_cons_zero, List.set_cons_succ]
  refine wpAnyX_take (i := 12) [13] (some 21) (v := ?_) rfl (by rfl) (by kernel_rfl) (by kernel_rfl) (by kernel_rfl) (by kernel_rfl) (fun _ _ _ h => h) (Or.inl ⟨by rfl, ?_⟩) hS4 ?_
  rotate_left
  focus (intro w' hSw; (try dsimp only at hSw); go_simp; try with_reducible rfl)
  simp only [Act.put, List.setIfInBounds_toArray, List.set_cons_zero, List.set_cons_succ]
  refine wpAnyX_one (i := 13) (by kernel_rfl) rfl (fun K hK => ?_)
  refine step_store (none) (by rfl) (v := .int .i64 1) (by rfl) rfl (by rfl) (by rfl) hb4 (by kernel_rfl) (of_decide_eq_true (by kernel_rfl)) (by simp [Value.oneCell', Value.cells]) ?_
  intro w5 hb5 k5 s5
  replace hb5 : w5.heap[g]? = some (CObj { s with opening := false, session := x.session, seq := 1 } vw va vt vk) := hb5
  have hS5 : w5.cell? ⟨g3, 1, none⟩ = some (.int .i64 x.session) := k5.cell hS4 (fun e => Nat.ne_of_gt HGE.out.2.1 e)
  refine hK _ _ (hS5) ?_
  clear hK K
  simp only [Act.put]
  refine wpAnyX_done (by kernel_rfl) ?_ _
  have K5 := hid (show Keep (fun q => q = g) w2.drew w5 from (k3.trans k4 (fun _ _ e => e)).trans k5 (fun _ _ e => e))
  have c6 := cell_at hb5 6 (.int .i64 s.number) rfl
  have hw1 : IntKind.i64.wrap (s.number + 1) = s.number + 1 := by have := HI.out.num; have := HN.out; simp [IntKind.wrap, IntKind.signed, IntKind.bits]; omega
  clear hS hS3 hS4 hS5 k3 s3 k4 s4 k5 s5 hb3 hb4 c0
  go_upto_region 5 with (first
    | (refine wpl_storeB (v := .int .i64 (s.number + 1)) (o := 6) (b := g) rfl rfl rfl rfl hb5 (by kernel_rfl) (of_decide_eq_true (by kernel_rfl)) (by simp [Value.oneCell', Value.cells]) ?_; intro w6 hb6 k6 s6; have K6 := hid (K5.out.trans k6 (fun _ _ e => e)); clear s6 k6; replace hb6 : w6.heap[g]? = some (CObj { s with opening := false, session := x.session, seq := 1, number := s.number + 1 } vw va vt vk) := hb6))
  have HM6 := hid ((HM2.out.same K6.out hb6 rfl rfl rfl rfl rfl : CliM _ w6 g { s with opening := false, session := x.session, seq := 1, number := s.number + 1 } vw va vt vk))
  have kd6 : Keep (fun _ => False) w6 w6.drew := (Keep.refl _ _).drew
  have HM7 := hid (HM6.out.keep kd6)
  have HO7 := hid HM7.out.obj
  have HWC := hid ((with_calls (r := s.wish) (v := vw) HM7.out.hw HM7.out.lw x.session 1).mono (R' := fun e w' => ∃ u, e = .returned u ∧ ∃ A c, u = reqV (withR s.wish x.session 1) (.slice A s.wish.changes.length c) ∧ Sl .change w' (NewIn w6.drew w') (.slice A s.wish.changes.length c) s.wish.changes ∧ Keep (fun _ => False) w6.drew w') (fun e w' ⟨A, c, h1, h2, h3⟩ => ⟨_, h1, A, c, rfl, h2, h3⟩))
  have hS : Keep (fun _ => False) w6.drew w6.drew := Keep.refl _ _
  have hvw1 : vw.oneCell' = true := by rw [HSW.out]; rfl
  clear hb5 hb6 c6 hw1 d1
  go_wp2_with fail
  refine wp_region_X (fun y => Keep (fun _ => False) w6.drew y) [16] (by kernel_rfl) hS (fun _ => ?_)
  refine wpAnyX_take (i := 0) [14, 15, 16] (some 29) (v := ?_) rfl (by rfl) (by kernel_rfl) (by kernel_rfl) (by kernel_rfl) (by kernel_rfl) (fun _ _ _ h => h) (Or.inl ⟨by rfl, ?_⟩) hS ?_
  rotate_left
  focus (intro w' hSw; (try dsimp only at hSw); go_simp; try with_reducible rfl)
  simp only [Act.put, List.setIfInBounds_toArray, List.set_cons_zero, List.set_cons_succ]
  refine wpAnyX_take (i := 1) [2, 3, 4, 13, 14, 15, 16] (some 30) (v := ?_) rfl (by rfl) (by kernel_rfl) (by kernel_rfl) (by kernel_rfl) (by kernel_rfl) (fun _ _ _ h => h) (Or.inl ⟨by rfl, ?_⟩) hS ?_
  rotate_left
  focus (intro w' hSw; (try dsimp only at hSw); go_simp; try with_reducible rfl)
  simp only [Act.put, List.setIfInBounds_toArray, List.set_cons_zero, List.set_cons_succ]
  refine wpAnyX_take (i := 2) [3, 4, 13, 14, 15, 16] (some 31) (v := ?_) rfl (by rfl) (by kernel_rfl) (by kernel_rfl) (by kernel_rfl) (by kernel_rfl) (fun _ _ _ h => h) (Or.inl ⟨by rfl, ?_⟩) hS ?_
  rotate_left
  focus (intro w' hSw; (try dsimp only at hSw); go_simp; try with_reducible rfl)
  simp only [Act.put, List.setIfInBounds_toArray, List.set_cons_zero, List.set_cons_succ]
  refine wpAnyX_take (i := 3) [4, 13, 14, 15, 16] (some 32) (v := ?_) rfl (by rfl) (by kernel_rfl) (by kernel_rfl) (by kernel_rfl) (by kernel_rfl) (fun _ _ _ h => h) (Or.inl ⟨by rfl, ?_⟩) hS ?_
  rotate_left
  focus (intro w' hSw; (try dsimp only at hSw); go_simp; try with_reducible rfl)
  simp only [Act.put, List.setIfInBounds_toArray, List.set_cons_zero, List.set_cons_succ]
  refine wpAnyX_take (i := 4) [13, 14, 15, 16] (some 33) (v := _) rfl (by rfl) (by kernel_rfl) (by kernel_rfl) (by kernel_rfl) (by kernel_rfl) (fun _ _ _ h => h) (yieldsIf_row (n := 11) (vs := reqCs s.wish vw) (by rfl) rfl (by rfl) (by kernel_rfl) (by kernel_rfl) rfl (fun y hy => range_of (n := 11) (hy.heap HO7.out id) _ rfl)) hS ?_
  simp only [Act.put, List.setIfInBounds_toArray, List.set_cons_zero, List.set_cons_succ]
  refine wpAnyX_take (i := 5) [6, 7, 8, 13, 14, 15, 16] (some 34) (v := ?_) rfl (by rfl) (by kernel_rfl) (by kernel_rfl) (by kernel_rfl) (by kernel_rfl) (fun _ _ _ h => h) (Or.inl ⟨by rfl, ?_⟩) hS ?_
  rotate_left
  focus (intro w' hSw; (try dsimp only at hSw); go_simp; try with_reducible rfl)
  simp only [Act.put, List.setIfInBounds_toArray, List.set_cons_zero, List.set_cons_succ]
  refine wpAnyX_take (i := 6) [7, 8, 13, 14, 15, 16] (some 35) (v := ?_) rfl (by rfl) (by kernel_rfl) (by kernel_rfl) (by kernel_rfl) (by kernel_rfl) (fun _ _ _ h => h) (Or.inl ⟨by rfl, ?_⟩) hS ?_
  rotate_left
  focus (intro w' hSw; (try dsimp only at hSw); go_simp; try with_reducible rfl)
  simp only [Act.put, List.setIfInBounds_toArray, List.set_cons_zero, List.set_cons_succ]
  refine wpAnyX_take (i := 7) [8, 13, 14, 15, 16] (some 36) (v := ?_) rfl (by rfl) (by kernel_rfl) (by kernel_rfl) (by kernel_rfl) (by kernel_rfl) (fun _ _ _ h => h) (Or.inl ⟨by rfl, ?_⟩) hS ?_
  rotate_left
  focus (intro w' hSw; (try dsimp only at hSw); go_simp; try with_reducible rfl)
  simp only [Act.put, List.setIfInBounds_toArray, List.set_cons_zero, List.set_cons_succ]
  refine wpAnyX_take (i := 8) [13, 14, 15, 16] (some 37) (v := _) rfl (by rfl) (by kernel_rfl) (by kernel_rfl) (by kernel_rfl) (by kernel_rfl) (fun _ _ _ h => h) (yieldsIf_cell (v := .int .i64 x.session) (by rfl) rfl (by rfl) (by kernel_rfl) (fun y hy => cell_at (hy.heap HO7.out id) 8 _ rfl)) hS ?_
  simp only [Act.put, List.setIfInBounds_toArray, List.set_cons_zero, List.set_cons_succ]
  refine wpAnyX_take (i := 9) [10, 11, 12, 13, 14, 15, 16] (some 38) (v := ?_) rfl (by rfl) (by kernel_rfl) (by kernel_rfl) (by kernel_rfl) (by kernel_rfl) (fun _ _ _ h => h) (Or.inl ⟨by rfl, ?_⟩) hS ?_
  rotate_left
  focus (intro w' hSw; (try dsimp only at hSw); go_simp; try with_reducible rfl)
  simp only [Act.put, List.setIfInBounds_toArray, List.set_cons_zero, List.set_cons_succ]
  refine wpAnyX_take (i := 10) [11, 12, 13, 14, 15, 16] (some 39) (v := ?_) rfl (by rfl) (by kernel_rfl) (by kernel_rfl) (by kernel_rfl) (by kernel_rfl) (fun _ _ _ h => h) (Or.inl ⟨by rfl, ?_⟩) hS ?_
  rotate_left
  focus (intro w' hSw; (try dsimp only at hSw); go_simp; try with_reducible rfl)
  simp only [Act.put, List.setIfInBounds_toArray, List.set_cons_zero, List.set_cons_succ]
  refine wpAnyX_take (i := 11) [12, 13, 14, 15, 16] (some 40) (v := ?_) rfl (by rfl) (by kernel_rfl) (by kernel_rfl) (by kernel_rfl) (by kernel_rfl) (fun _ _ _ h => h) (Or.inl ⟨by rfl, ?_⟩) hS ?_
  rotate_left
  focus (intro w' hSw; (try dsimp only at hSw); go_simp; try with_reducible rfl)
  simp only [Act.put, List.setIfInBounds_toArray, List.set_cons_zero, List.set_cons_succ]
  refine wpAnyX_take (i := 12) [13, 14, 15, 16] (some 41) (v := _) rfl (by rfl) (by kernel_rfl) (by kernel_rfl) (by kernel_rfl) (by kernel_rfl) (fun _ _ _ h => h) (yieldsIf_cell (v := .int .i64 1) (by rfl) rfl (by rfl) (by kernel_rfl) (fun y hy => cell_at (hy.heap HO7.out id) 9 _ rfl)) hS ?_
  simp only [Act.put, List.setIfInBounds_toArray, List.set_cons_zero, List.set_cons_succ]
  refine wpAnyX_one (i := 13) (by kernel_rfl) rfl (fun K hK => ?_)
  refine step_call (some 42) (by rfl) (by rfl) rfl EW.out (by rfl) HWC.out ?_
  rintro u w7 ⟨A7, c7, rfl, hs7, k7⟩
  have HS7 := hid hs7; have K7 := hid k7
  clear hs7
  refine hK _ _ (k7) ?_
  clear hK K
  simp only [Act.put, List.setIfInBounds_toArray, List.set_cons_zero, List.set_cons_succ]
  refine wpAnyX_take (i := 14) [15, 16] (some 43) (v := ?_) rfl (by rfl) (by kernel_rfl) (by kernel_rfl) (by kernel_rfl) (by kernel_rfl) (fun _ _ _ h => h) (Or.inl ⟨by rfl, ?_⟩) k7 ?_
  rotate_left
  focus (intro w' hSw; (try dsimp only at hSw); go_simp; try with_reducible rfl)
  simp only [Act.put, List.setIfInBounds_toArray, List.set_cons_zero, List.set_cons_succ]
  refine wpAnyX_take (i := 15) [16] (some 44) (v := ?_) rfl (by rfl) (by kernel_rfl) (by kernel_rfl) (by kernel_rfl) (by kernel_rfl) (fun _ _ _ h => h) (Or.inl ⟨by rfl, ?_⟩) k7 ?_
  rotate_left
  focus (intro w' hSw; (try dsimp only at hSw); go_simp; try with_reducible rfl)
  simp only [Act.put, List.setIfInBounds_toArray, List.set_cons_zero, List.set_cons_succ]
  refine wpAnyX_oneX (i := 16) (by kernel_rfl) rfl (by kernel_rfl) (fun K hK => ?_)
  have hb7 := K7.out.heap HO7.out id
  refine step_store (none) (by rfl) (v := reqV (withR s.wish x.session 1) (.slice A7 s.wish.changes.length c7)) (by rfl) rfl (by rfl) (by rfl) hb7 (by kernel_rfl) (of_decide_eq_true (by kernel_rfl)) (by simp [Value.oneCell', Value.cells]) ?_
  intro w8 hb8 k8 s8
  have K8 := hid k8
  replace hb8 : w8.heap[g]? = some (CObj (openedS s x) vw (.slice A7 s.wish.changes.length c7) vt vk) := hb8
  refine hK _ _ ?_
  clear hK K
  simp only [Act.put]
  refine wpAnyX_done (by kernel_rfl) ?_ _
  have k68 : Keep (fun q => q = g) w6.drew w8 := (K7.out.mono (fun _ _ f => f.elim)).trans K8.out (fun _ _ e => e)
  have hm7 := HM7.out
  have hs8 := (HS7.out.keep K8.out (fun q hq e => by have := hq.1; have := HM7.out.hX g HM7.out.hg; omega)).mono (G := fun k => ¬ (X k ∨ k = gm) ∧ k < w8.heap.size) (fun q hq => ⟨fun hx => by have := hq.1; have := HM7.out.hX q hx; omega, by have := hq.2; have := K8.out.size; omega⟩)
  have HM8 := hid (show CliM (fun k => X k ∨ k = gm) w8 g (openedS s x) vw (.slice A7 s.wish.changes.length c7) vt vk from ⟨hb8, hm7.hg, fun k q => Nat.lt_of_lt_of_le (hm7.hX k q) k68.size, slKeepG hm7.hg hm7.hw k68, hs8, slKeepG hm7.hg hm7.ht k68, slKeepG hm7.hg hm7.hv k68, hm7.lw, hm7.lw, hm7.lt, hm7.hr⟩)
  have hgn : gm ≠ g := by have := HGE.out; omega
  have HGN := hid hgn
  have kall : Keep (fun q => q = g) w2 w8 := (((KD.out.mono (fun _ _ f => f.elim)).trans K6.out (fun _ _ e => e)).trans ((Keep.refl (fun _ => False) w6).drew.mono (fun _ _ f => f.elim)) (fun _ _ e => e)).trans k68 (fun _ _ e => e)
  have HBM8 := hid (kall.heap HBM.out hgn); have KALL := hid kall
  have hst := sent_calls HM8.out (HI.out.opened0 HX.out) (by have := HN.out; omega)
  have HST := hid hst
  clear hst kall hgn hm7 hs8 k68 hb8 hb7 k7 k8 s8 hS kd6
  go_wp2_with fail
  refine HST.out.mono ?_
  rintro e w9 ⟨cs, rfl, hm9, hc9, k9⟩
  have HL9 := hid (MsgL.of hm9); have HM9 := hid hm9; have HC9 := hid hc9; have K9 := hid k9
  have hbm := K9.out.heap HBM8.out HGN.out
  clear hm9 hc9 k9 HST
  go_wp2_with (first
    | (refine wpl_storeB (v := .agg cs.toArray) rfl rfl rfl rfl hbm HL9.out.info HL9.out.fit HL9.out.oneA ?_; intro w10 hb10 k10 s10))
  refine bodyPost_ret (res_cell_tmp (g := gm) (cs := cs.toArray) (v := .bool true) Try.results27 _ rfl rfl (hb10.trans (HL9.out.whole rfl)) (by kernel_rfl) HL9.out.info') rfl ?_
  rw [HE.out]
  exact Ans.lay HG.out K2.out HGE.out.1 KALL.out K9.out k10 HGL.out HM9.out HC9.out
end
end Go.Proofs.Ytnekfonnceknoaa

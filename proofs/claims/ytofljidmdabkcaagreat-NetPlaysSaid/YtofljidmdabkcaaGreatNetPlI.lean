/- wapentakelaw24.NetPlays: one message of what is on its way beside the document's. -/
import Derived.Test.YtofljidmdabkcaaGreatNetP
import Derived.Test.YtofljidmdabkcaaGreatRegY
namespace Go.Proofs.YtofljidmdabkcaaGreat
open Go.RowKit Go.Lib
theorem NetAt.elem {ty : TypeId} {F : Nat → Prop} {w : World} {g : Nat} {most : Int} {L : List Msg} {x : Msg} {i n : Nat} (h : NetAt ty F w g most L) (hn : n = L.length) (hx : L[i]? = some x) :
    ∃ b c xs, w.cell? ⟨g, 1, none⟩ = some (.slice (some ⟨b, 0, none⟩) n c) ∧ n ≤ c ∧ Rep.msg.cells w F x xs ∧ w.rangeAt b (i * 27) xs := by
  obtain ⟨v, cs, h⟩ := h
  have hi : i < L.length := by
    rcases Nat.lt_or_ge i L.length with q | q
    · exact q
    · rw [List.getElem?_eq_none q] at hx; cases hx
  obtain ⟨A, c, rfl⟩ := h.shape
  rcases h.row.2 with ⟨_, h00⟩ | ⟨b, cap, cur, he, _, hgb, hnc, hcm, hcs, htk⟩
  · omega
  simp only [Value.slice.injEq, true_and] at he
  obtain ⟨rfl, rfl⟩ := he
  have hxm := h.parts i x hx
  have hsz : Rep.msg.size = 27 := rfl
  rw [hsz] at hxm
  have hrow := Row.ofOwn h.row
  refine ⟨b, c, (cs.drop (i * 27)).take 27, by rw [hn]; exact cell_at h.obj 1 _ rfl, by have := hrow.cap; omega, Rep.msg.mono hxm (fun q hq => hq.1), fun j u hu => ?_⟩
  refine (World.ownsRow.cells h.row (g := b) rfl (i * 27 + j) u ?_ : _).trans rfl |> fun q => by rw [Addr.add_lit, Nat.zero_add] at q; exact q
  rw [List.getElem?_take] at hu
  split at hu
  · rwa [List.getElem?_drop] at hu
  · cases hu
set_option maxRecDepth 20000 in
set_option maxHeartbeats 4000000 in
theorem nplays1 {Q : Exit → Act → World → Prop} {v0 v1 v2 v3 v4 v5 v6 v8 v9 v10 v11 v12 v13 v14 v17 v18 v19 v20 v21 v22 v23 v24 v25 v26 v27 v28 v29 v30 v31 v32 v33 v34 v35 v36 v37 v38 v39 v40 v41 v42 v43 v44 v45 v46 v47 v48 v49 v50 v51 v52 v53 v54 v55 v56 v57 v58 v59 v60 v61 v62 v63 v64 v65 v66 v67 v68 v69 v70 v71 v72 v73 v74 v75 v76 v77 v78 v79 v80 v81 v82 v83 v84 v85 v86 v87 v88 v89 v90 v91 v92 v93 v94 v95 v96 v97 v98 v99 v100 v101 v102 v103 v104 v105 v106 v107 v108 v109 v110 v111 v112 v113 v114 v115 v116 v117 v118 v119 v120 v121 v122 v123 v124 v125 v126 v127 v128 v129 v130 v131 v132 v133 v134 v135 v136 v137 v138 v139 v140 v141 v142 v143 v144 v145 v146 v147 v148 v149 v150 v151 : Value} {n c5 k r : Nat} {A5 : Option Addr} {wr : World} {FA G : Nat → Prop} {most : Int} {L : List Msg}
    (hlt : k < n) (hmax : n ≤ 100000) (hnl : n = L.length) (hA : Sl .msg wr FA (.slice A5 n c5) L) (hd : NetAt 54 G wr r most L)
    (hn : ∀  (w' : World), Keep (fun _ => False) wr w' → ∀ {u4 u133 u134 u135 u136 u137 u138 u139 u140 u141 u142 u143 u144 u145 u146 u147 u148 u149 u150 u151 : Value}, Q .normal ⟨#[v0, v1, v2, v3, u4, v5, v6, .pointer (some ⟨r, 0, none⟩), v8, v9, v10, v11, v12, v13, v14, .slice A5 n c5, .int .i64 ((k : Int) + 1), v17, v18, v19, v20, v21, v22, v23, v24, v25, v26, v27, v28, v29, v30, v31, v32, v33, v34, v35, v36, v37, v38, v39, v40, v41, v42, v43, v44, v45, v46, v47, v48, v49, v50, v51, v52, v53, v54, v55, v56, v57, v58, v59, v60, v61, v62, v63, v64, v65, v66, v67, v68, v69, v70, v71, v72, v73, v74, v75, v76, v77, v78, v79, v80, v81, v82, v83, v84, v85, v86, v87, v88, v89, v90, v91, v92, v93, v94, v95, v96, v97, v98, v99, v100, v101, v102, v103, v104, v105, v106, v107, v108, v109, v110, v111, v112, v113, v114, v115, v116, v117, v118, v119, v120, v121, v122, v123, v124, v125, v126, v127, v128, v129, v130, v131, v132, u133, u134, u135, u136, u137, u138, u139, u140, u141, u142, u143, u144, u145, u146, u147, u148, u149, u150, u151], []⟩ w')
    (hpan : ∀ (c : _) (a : Act) (d : Option Tmp) (v : Value) (w : World), Q (.panic c) (a.put d v) w → Q (.panic c) a w)
    : Code.wp Tryz.prog (loopBody Tryz.f3 1) Q ⟨#[v0, v1, v2, v3, v4, v5, v6, .pointer (some ⟨r, 0, none⟩), v8, v9, v10, v11, v12, v13, v14, .slice A5 n c5, .int .i64 k, v17, v18, v19, v20, v21, v22, v23, v24, v25, v26, v27, v28, v29, v30, v31, v32, v33, v34, v35, v36, v37, v38, v39, v40, v41, v42, v43, v44, v45, v46, v47, v48, v49, v50, v51, v52, v53, v54, v55, v56, v57, v58, v59, v60, v61, v62, v63, v64, v65, v66, v67, v68, v69, v70, v71, v72, v73, v74, v75, v76, v77, v78, v79, v80, v81, v82, v83, v84, v85, v86, v87, v88, v89, v90, v91, v92, v93, v94, v95, v96, v97, v98, v99, v100, v101, v102, v103, v104, v105, v106, v107, v108, v109, v110, v111, v112, v113, v114, v115, v116, v117, v118, v119, v120, v121, v122, v123, v124, v125, v126, v127, v128, v129, v130, v131, v132, v133, v134, v135, v136, v137, v138, v139, v140, v141, v142, v143, v144, v145, v146, v147, v148, v149, v150, v151], []⟩ wr := by
  conv => arg 2; whnf
  have HHN := hid @hn; have HPAN := hid hpan
  obtain ⟨x, hx⟩ : ∃ x, L[k]? = some x := ⟨L[k]'(by rw [← hnl]; exact hlt), List.getElem?_eq_getElem _⟩
  obtain ⟨A', c', bs, os, cs, he, rfl, hcs, hcell⟩ := elem_cells7 hA hnl hx
  simp only [Value.slice.injEq, true_and] at he
  obtain ⟨rfl, rfl⟩ := he
  have hsz : Rep.msg.size = 27 := rfl
  rw [hsz] at hcell
  obtain ⟨b, c, xs, hrc, hnc, hxm, hxr⟩ := hd.elem hnl hx
  have kd : Keep (fun _ => False) wr wr.drew := (Keep.refl _ _).drew
  have HL1 := hid (MsgL.of hcs); have HL2 := hid (MsgL.of hxm)
  have hsm := sameM_calls (Rep.msg.keep hcs kd (fun _ _ => id)) (Rep.msg.keep hxm kd (fun _ _ => id))
  have HSM := hid (hsm.mono (R' := fun e w' => ∃ u, e = .returned u ∧ (u = .bool true ∧ Keep (fun _ => False) wr.drew w')) (fun e w' h => ⟨_, h.1, rfl, h.2⟩))
  have EG := hid (enters_of Tryz.func16 (by kernel_rfl) rfl)
  have HC1 := hid (fun j u (hu : cs[j]? = some u) => kd.cell (hcell j u hu) id)
  have HC2 := hid (fun j u (hu : xs[j]? = some u) => kd.cell (hxr j u hu) id)
  have HRC := hid (kd.cell hrc id)
  obtain ⟨dM, hu, hdm⟩ : ∃ d, Tryz.prog.underlying 42 = some d ∧ d.isRow = true := ⟨_, Tryz.underlying42, rfl⟩
  have hi1 : (Tryz.prog.info? 42).map (·.size) = some cs.length := by rw [HL1.out.len]; kernel_rfl
  have hi2 : (Tryz.prog.info? 42).map (·.size) = some xs.length := by rw [HL2.out.len]; kernel_rfl
  have HU := hid hu; have HD := hid hdm; have HI1 := hid hi1; have HI2 := hid hi2
  have hS : Keep (fun _ => False) wr.drew wr.drew := Keep.refl _ _
  have hk1 : (0 : Int) ≤ (k : Int) := by omega
  have hk2 : (k : Int) < (n : Int) := by omega
  have hcapA : n ≤ c5 := by obtain ⟨_, _, he, q, _⟩ := hA; simp only [Value.slice.injEq] at he; obtain ⟨_, h2, h3⟩ := he; omega
  clear hnl hn hpan hsm hcs hcell hrc hxm hxr hu hdm hi1 hi2 hx hA hd kd hsz
  go_wp2_with fail
  refine wp_region_X (fun y => Keep (fun _ => False) wr.drew y) [] (by kernel_rfl) hS (fun _ => ?_)
  refine wpAnyX_take (i := 0) [2, 3, 11, 12] (some 139) (v := ?_) rfl (by rfl) (by kernel_rfl) (by kernel_rfl) (by kernel_rfl) (by kernel_rfl) (fun c _ _ h => HPAN.out c _ _ _ _ h) (Or.inl ⟨by rfl, ?_⟩) hS ?_
  rotate_left
  focus (intro w' hSw; (try dsimp only at hSw); go_simp; try with_reducible rfl)
  simp only [Act.put, List.setIfInBounds_toArray, List.set_cons_zero, List.set_cons_succ]
  refine wpAnyX_take (i := 1) [2, 3, 11, 12] (some 140) (v := ?_) rfl (by rfl) (by kernel_rfl) (by kernel_rfl) (by kernel_rfl) (by kernel_rfl) (fun c _ _ h => HPAN.out c _ _ _ _ h) (Or.inl ⟨by rfl, ?_⟩) hS ?_
  rotate_left
  focus (intro w' hSw; (try dsimp only at hSw); go_simp; try with_reducible rfl)
  simp only [Act.put, List.setIfInBounds_toArray, List.set_cons_zero, List.set_cons_succ]
  refine wpAnyX_take (i := 2) [3, 11, 12] (some 141) (v := ?_) rfl (by rfl) (by kernel_rfl) (by kernel_rfl) (by kernel_rfl) (by kernel_rfl) (fun c _ _ h => HPAN.out c _ _ _ _ h) (Or.inl ⟨by rfl, ?_⟩) hS ?_
  rotate_left
  focus (intro w' hSw; (try dsimp only at hSw); go_simp; try with_reducible rfl)
  simp only [Act.put, List.setIfInBounds_toArray, List.set_cons_zero, List.set_cons_succ]
  refine wpAnyX_take (i := 3) [11, 12] (some 142) (v := _) rfl (by rfl) (by kernel_rfl) (by kernel_rfl) (by kernel_rfl) (by kernel_rfl) (fun c _ _ h => HPAN.out c _ _ _ _ h) (yieldsIf_load_mid (by rfl) _ _ rfl bs (os + k * 27) rfl cs dM (fun y hy => fun j u hu => hy.cell (HC1.out j u hu) id) HU.out HD.out HI1.out) hS ?_
  simp only [Act.put, List.setIfInBounds_toArray, List.set_cons_zero, List.set_cons_succ]
  refine wpAnyX_take (i := 4) [5, 6, 7, 9, 10, 11, 12] (some 143) (v := ?_) rfl (by rfl) (by kernel_rfl) (by kernel_rfl) (by kernel_rfl) (by kernel_rfl) (fun c _ _ h => HPAN.out c _ _ _ _ h) (Or.inl ⟨by rfl, ?_⟩) hS ?_
  rotate_left
  focus (intro w' hSw; (try dsimp only at hSw); go_simp; try with_reducible rfl)
  simp only [Act.put, List.setIfInBounds_toArray, List.set_cons_zero, List.set_cons_succ]
  refine wpAnyX_take (i := 5) [6, 7, 9, 10, 11, 12] (some 144) (v := ?_) rfl (by rfl) (by kernel_rfl) (by kernel_rfl) (by kernel_rfl) (by kernel_rfl) (fun c _ _ h => HPAN.out c _ _ _ _ h) (Or.inl ⟨by rfl, ?_⟩) hS ?_
  rotate_left
  focus (intro w' hSw; (try dsimp only at hSw); go_simp; try with_reducible rfl)
  simp only [Act.put, List.setIfInBounds_toArray, List.set_cons_zero, List.set_cons_succ]
  refine wpAnyX_take (i := 6) [7, 9, 10, 11, 12] (some 145) (v := ?_) rfl (by rfl) (by kernel_rfl) (by kernel_rfl) (by kernel_rfl) (by kernel_rfl) (fun c _ _ h => HPAN.out c _ _ _ _ h) (Or.inl ⟨by rfl, ?_⟩) hS ?_
  rotate_left
  focus (intro w' hSw; (try dsimp only at hSw); go_simp; try with_reducible rfl)
  simp only [Act.put, List.setIfInBounds_toArray, List.set_cons_zero, List.set_cons_succ]
  refine wpAnyX_take (i := 7) [9, 10, 11, 12] (some 146) (v := _) rfl (by rfl) (by kernel_rfl) (by kernel_rfl) (by kernel_rfl) (by kernel_rfl) (fun c _ _ h => HPAN.out c _ _ _ _ h) (yieldsIf_cell (v := .slice (some ⟨b, 0, none⟩) n c) (by rfl) rfl (by rfl) (by kernel_rfl) (fun y hy => hy.cell HRC.out id)) hS ?_
  simp only [Act.put, List.setIfInBounds_toArray, List.set_cons_zero, List.set_cons_succ]
  refine wpAnyX_take (i := 8) [9, 10, 11, 12] (some 147) (v := ?_) rfl (by rfl) (by kernel_rfl) (by kernel_rfl) (by kernel_rfl) (by kernel_rfl) (fun c _ _ h => HPAN.out c _ _ _ _ h) (Or.inl ⟨by rfl, ?_⟩) hS ?_
  rotate_left
  focus (intro w' hSw; (try dsimp only at hSw); go_simp; try with_reducible rfl)
  simp only [Act.put, List.setIfInBounds_toArray, List.set_cons_zero, List.set_cons_succ]
  refine wpAnyX_take (i := 9) [10, 11, 12] (some 148) (v := ?_) rfl (by rfl) (by kernel_rfl) (by kernel_rfl) (by kernel_rfl) (by kernel_rfl) (fun c _ _ h => HPAN.out c _ _ _ _ h) (Or.inl ⟨by rfl, ?_⟩) hS ?_
  rotate_left
  focus (intro w' hSw; (try dsimp only at hSw); go_simp; try with_reducible rfl)
  simp only [Act.put, List.setIfInBounds_toArray, List.set_cons_zero, List.set_cons_succ]
  refine wpAnyX_take (i := 10) [11, 12] (some 149) (v := _) rfl (by rfl) (by kernel_rfl) (by kernel_rfl) (by kernel_rfl) (by kernel_rfl) (fun c _ _ h => HPAN.out c _ _ _ _ h) (yieldsIf_load_mid (by rfl) _ _ rfl b (k * 27) rfl xs dM (fun y hy => fun j u hu => hy.cell (HC2.out j u hu) id) HU.out HD.out HI2.out) hS ?_
  simp only [Act.put, List.setIfInBounds_toArray, List.set_cons_zero, List.set_cons_succ]
  refine wpAnyX_one (i := 11) (by kernel_rfl) rfl (fun K hK => ?_)
  refine step_call (some 150) (by rfl) (by rfl) rfl EG.out (by rfl) HSM.out ?_
  rintro u w2 ⟨rfl, k2⟩
  refine hK _ _ (k2) ?_
  clear hK K
  simp only [Act.put, List.setIfInBounds_toArray, List.set_cons_zero, List.set_cons_succ]
  refine wpAnyX_take (i := 12) [] (some 151) (v := ?_) rfl (by rfl) (by kernel_rfl) (by kernel_rfl) (by kernel_rfl) (by kernel_rfl) (fun c _ _ h => HPAN.out c _ _ _ _ h) (Or.inl ⟨by rfl, ?_⟩) k2 ?_
  rotate_left
  focus (intro w' hSw; (try dsimp only at hSw); go_simp; try with_reducible rfl)
  simp only [Act.put, List.setIfInBounds_toArray, List.set_cons_zero, List.set_cons_succ]
  refine wpAnyX_done (by kernel_rfl) ?_ _
  have HK2 := hid ((show Keep (fun _ => False) wr wr.drew from (Keep.refl _ _).drew).trans k2 (fun _ _ f => f))
  clear k2 hS
  go_wp2_with fail
  exact HHN.out _ HK2.out
end Go.Proofs.YtofljidmdabkcaaGreat

/- wapentakelaw20.BoxPlays: the loop's round. -/
import Derived.Test.YtiomeoihekifeaaBoxPlaysI
import Derived.Deep.DeepCutAuto
import Derived.Deep.CutBlock
import Derived.Deep.CutRange
namespace Go.Proofs.Ytiomeoihekifeaa
open Go.RowKit
set_option maxRecDepth 20000 in
set_option maxHeartbeats 4000000 in
theorem bplays0 {Q : Exit → Act → World → Prop} {v3 v4 v5 v6 v8 v10 v14 v15 v16 v17 v18 v19 v20 v21 v22 v23 v24 v25 v26 v27 v28 v29 v30 v31 v32 v33 v34 v35 v36 v37 v38 v39 v40 v41 v42 v43 v44 v45 v46 v47 v48 v49 v50 v51 v52 v53 v54 v55 v56 v57 v58 v59 v60 v61 v62 v63 v64 v65 v66 v67 v68 v69 v70 v71 v72 v73 v74 v75 v76 v77 v78 v79 v80 v81 v82 v83 v84 v85 v86 v87 v88 v89 v90 v91 v92 v93 v94 v95 v96 v97 v98 v99 v100 v101 v102 v103 v104 v105 v106 v107 v108 v109 v110 v111 v112 v113 v114 v115 v116 v117 v118 v119 v120 v121 v122 v123 v124 v125 v126 v127 v128 v129 v130 v131 v132 v133 v134 v135 v136 v137 v138 v139 v140 v141 v142 v143 v144 v145 v146 v147 v148 v149 v150 v151 v152 v153 v154 v155 v156 v157 v158 v159 v160 v161 v162 v163 v164 v165 v166 v167 v168 v169 v170 v171 v172 v173 v174 v175 v176 v177 v178 v179 v180 v181 v182 v183 v184 v185 v186 v187 v188 v189 v190 v191 v192 v193 v194 v195 v196 v197 v198 v199 v200 v201 v202 v203 v204 v205 v206 v207 v208 v209 v210 v211 v212 v213 v214 v215 v216 v217 v218 v219 v220 v221 v222 v223 v224 v225 v226 v227 v228 v229 v230 v231 v232 v233 v234 v235 v236 v237 v238 v239 v240 v241 v242 v243 v244 v245 v246 v247 v248 v249 : Value} {n cC ga ca na gb cb nb B k bl ol : Nat} {w0 w : World} {X Y : List Msg} {d : BDeed} {ms : List Value} {vx vy : Value}
    (hlt : k < n) (h200 : n ≤ 200) (hna : na ≤ 4096) (hnb : nb ≤ 4096) (hB : B ≤ w.heap.size) (hQ : QS B w ga ca na X gb cb nb Y vx X vy Y (fun _ => False)) (hkp : Keep (fun q => B ≤ q) w0 w)
    (hcell : w.rangeAt bl (ol + k * 29) (bdCs d ms)) (hms : Rep.msg.cells w (fun q => q < B) d.m ms) (hfit : d.m.Fits) (_hod : okI d.do_) (_hon : okI d.n)
    (hn : ∀ (X' Y' : List Msg) (vx' vy' : Value) (w' : World), QS B w' ga ca na X' gb cb nb Y' vx' X' vy' Y' (fun _ => False) ∧ Keep (fun q => B ≤ q) w0 w' ∧ B ≤ w'.heap.size → ∀ {u6 u14 u15 u16 u17 u18 u19 u20 u21 u63 u64 u65 u66 u67 u68 u69 u70 u71 u72 u73 u74 u75 u76 u77 u78 u79 u80 u81 u82 u83 u84 u85 u86 u87 u88 u89 u90 u91 u92 u93 u94 u95 u96 u97 u98 u99 u100 u101 u102 u103 u104 u105 u106 u107 u108 u109 u110 u111 u112 u113 u114 u115 u116 u117 u118 u119 u120 u121 u122 u123 u124 u125 u126 u127 u128 u129 u130 u131 u132 u133 u134 u135 u136 u137 u138 u139 u140 u141 u142 u143 u144 u145 u146 u147 u148 u149 u150 u151 u152 u153 u154 u155 u156 u157 u158 u159 u160 u161 u162 u163 u164 u165 u166 u167 u168 u169 u170 u171 u172 u173 u174 u175 u176 u177 u178 u179 u180 u181 u182 u183 u184 u185 u186 u187 u188 u189 u190 u191 u192 u193 u194 u195 u196 u197 u198 u199 u200 u201 u202 u203 u204 u205 u206 u207 u208 u209 u210 u211 u212 u213 u214 u215 u216 u217 u218 u219 u220 u221 u222 u223 u224 u225 u226 u227 u228 u229 u230 u231 u232 u233 u234 u235 u236 u237 u238 u239 u240 u241 u242 u243 u244 u245 u246 u247 u248 u249 : Value}, Q .normal ⟨#[.int .i64 na, .int .i64 nb, .slice (some ⟨bl, ol, none⟩) n cC, v3, v4, v5, u6, .pointer (some ⟨ga, 0, none⟩), v8, .pointer (some ⟨gb, 0, none⟩), v10, vx', vy', .int .i64 ((k : Int) + 1), u14, u15, u16, u17, u18, u19, u20, u21, v22, v23, v24, v25, v26, v27, v28, v29, v30, v31, v32, v33, v34, v35, v36, v37, v38, v39, v40, v41, v42, v43, v44, v45, v46, v47, v48, v49, v50, v51, v52, v53, v54, v55, v56, v57, v58, v59, v60, v61, v62, u63, u64, u65, u66, u67, u68, u69, u70, u71, u72, u73, u74, u75, u76, u77, u78, u79, u80, u81, u82, u83, u84, u85, u86, u87, u88, u89, u90, u91, u92, u93, u94, u95, u96, u97, u98, u99, u100, u101, u102, u103, u104, u105, u106, u107, u108, u109, u110, u111, u112, u113, u114, u115, u116, u117, u118, u119, u120, u121, u122, u123, u124, u125, u126, u127, u128, u129, u130, u131, u132, u133, u134, u135, u136, u137, u138, u139, u140, u141, u142, u143, u144, u145, u146, u147, u148, u149, u150, u151, u152, u153, u154, u155, u156, u157, u158, u159, u160, u161, u162, u163, u164, u165, u166, u167, u168, u169, u170, u171, u172, u173, u174, u175, u176, u177, u178, u179, u180, u181, u182, u183, u184, u185, u186, u187, u188, u189, u190, u191, u192, u193, u194, u195, u196, u197, u198, u199, u200, u201, u202, u203, u204, u205, u206, u207, u208, u209, u210, u211, u212, u213, u214, u215, u216, u217, u218, u219, u220, u221, u222, u223, u224, u225, u226, u227, u228, u229, u230, u231, u232, u233, u234, u235, u236, u237, u238, u239, u240, u241, u242, u243, u244, u245, u246, u247, u248, u249], []⟩ w')
    : Code.wp Try.prog (loopBody Try.f10 0) Q ⟨#[.int .i64 na, .int .i64 nb, .slice (some ⟨bl, ol, none⟩) n cC, v3, v4, v5, v6, .pointer (some ⟨ga, 0, none⟩), v8, .pointer (some ⟨gb, 0, none⟩), v10, vx, vy, .int .i64 k, v14, v15, v16, v17, v18, v19, v20, v21, v22, v23, v24, v25, v26, v27, v28, v29, v30, v31, v32, v33, v34, v35, v36, v37, v38, v39, v40, v41, v42, v43, v44, v45, v46, v47, v48, v49, v50, v51, v52, v53, v54, v55, v56, v57, v58, v59, v60, v61, v62, v63, v64, v65, v66, v67, v68, v69, v70, v71, v72, v73, v74, v75, v76, v77, v78, v79, v80, v81, v82, v83, v84, v85, v86, v87, v88, v89, v90, v91, v92, v93, v94, v95, v96, v97, v98, v99, v100, v101, v102, v103, v104, v105, v106, v107, v108, v109, v110, v111, v112, v113, v114, v115, v116, v117, v118, v119, v120, v121, v122, v123, v124, v125, v126, v127, v128, v129, v130, v131, v132, v133, v134, v135, v136, v137, v138, v139, v140, v141, v142, v143, v144, v145, v146, v147, v148, v149, v150, v151, v152, v153, v154, v155, v156, v157, v158, v159, v160, v161, v162, v163, v164, v165, v166, v167, v168, v169, v170, v171, v172, v173, v174, v175, v176, v177, v178, v179, v180, v181, v182, v183, v184, v185, v186, v187, v188, v189, v190, v191, v192, v193, v194, v195, v196, v197, v198, v199, v200, v201, v202, v203, v204, v205, v206, v207, v208, v209, v210, v211, v212, v213, v214, v215, v216, v217, v218, v219, v220, v221, v222, v223, v224, v225, v226, v227, v228, v229, v230, v231, v232, v233, v234, v235, v236, v237, v238, v239, v240, v241, v242, v243, v244, v245, v246, v247, v248, v249], []⟩ w := by
  conv => arg 2; whnf
  have HHN := Go.Proofs.Ytiomeoihekifeaa.hid @hn
  have HMS := Go.Proofs.Ytiomeoihekifeaa.hid hms; have HFI := Go.Proofs.Ytiomeoihekifeaa.hid hfit
  have HL := Go.Proofs.Ytiomeoihekifeaa.hid (MsgL.of hms)
  obtain ⟨Ax, cx, rfl⟩ := hQ.shapeX
  obtain ⟨Ay, cy, rfl⟩ := hQ.swap.shapeX
  have HQ0 := Go.Proofs.Ytiomeoihekifeaa.hid hQ; have HKP := Go.Proofs.Ytiomeoihekifeaa.hid hkp
  have hlx := hQ.le; have hly := hQ.swap.le
  obtain ⟨dD, hu, hd⟩ : ∃ d, Try.prog.underlying 81 = some d ∧ d.isRow = true := ⟨_, Try.underlying81, rfl⟩
  have hlen29 : (bdCs d ms).length = 29 := by simp [bdCs, HL.out.len]
  have hi : (Try.prog.info? 81).map (·.size) = some (bdCs d ms).length := by rw [hlen29]; kernel_rfl
  have hi2 : (Try.prog.info? 81).map (·.size) = some (Value.agg (bdCs d ms).toArray).cells.size := by simp only [Value.cells, List.size_toArray]; exact hi
  have hone : ∀ u ∈ (Value.agg (bdCs d ms).toArray).cells.toList, u.oneCell' = true := by simp only [Value.cells]; exact bd_one HL.out.one
  have hfit29 : 0 + (Value.agg (bdCs d ms).toArray).cells.size ≤ zD.cells.size := by simp only [Value.cells, List.size_toArray, hlen29]; decide
  have HU := Go.Proofs.Ytiomeoihekifeaa.hid hu; have HD := Go.Proofs.Ytiomeoihekifeaa.hid hd; have HI := Go.Proofs.Ytiomeoihekifeaa.hid hi; have HI2 := Go.Proofs.Ytiomeoihekifeaa.hid hi2; have HO := Go.Proofs.Ytiomeoihekifeaa.hid hone; have HF29 := Go.Proofs.Ytiomeoihekifeaa.hid hfit29; have HCE := Go.Proofs.Ytiomeoihekifeaa.hid hcell; have HL29 := Go.Proofs.Ytiomeoihekifeaa.hid hlen29
  have hB0 := hB
  clear hn hms hfit hQ hkp hu hd hi hi2 hone hfit29 hcell hlen29
  go_upto_block 2 with (first
    | (refine wpList_load_mid rfl _ _ rfl bl (ol + k * 29) rfl (bdCs d ms) dD HCE.out HU.out HD.out HI.out ?_)
    | (refine wpl_allocB (z := zD) rfl rfl (by kernel_rfl) ?_; intro gd w1 hgd hbd k1 s1; have HGD := Go.Proofs.Ytiomeoihekifeaa.hid hgd; have hqd : w.heap.size ≤ gd := Nat.le_of_eq hgd.symm; have hqd2 : gd < w1.heap.size := lt_heap hbd; clear hgd s1)
    | (refine wpl_storeB (v := .agg (bdCs d ms).toArray) rfl rfl rfl rfl hbd HI2.out HF29.out HO.out ?_; intro w2 hbd2 k2 s2; have HS2 := Go.Proofs.Ytiomeoihekifeaa.hid s2; clear s2)
    | (have _q := hb15; refine wpl_allocB (z := zM) rfl rfl (by kernel_rfl) ?_; intro g16 w4 hg16 hb16 k4 s4; have hq16 : w3.heap.size ≤ g16 := Nat.le_of_eq hg16.symm; have hq16' : g16 < w4.heap.size := lt_heap hb16; clear hg16 s4)
    | (refine wpl_allocB (z := zM) rfl rfl (by kernel_rfl) ?_; intro g15 w3 hg15 hb15 k3 s3; have hq15 : w2.heap.size ≤ g15 := Nat.le_of_eq hg15.symm; have hq15' : g15 < w3.heap.size := lt_heap hb15; clear hg15 s3))
  have z2 : w2.heap.size = w1.heap.size := HS2.out
  have z3 := k3.size
  have z4 := k4.size
  have k01 : Keep (fun _ => False) w w4 := (((k1.trans k2 (fun b hb e => by omega)).trans k3 (fun _ _ f => f)).trans k4 (fun _ _ f => f))
  have hQ4 := QS.withE (E := E3 gd g15 g16) HQ0.out hB k01 (fun q e => by rcases e with e | e | e <;> omega)
  replace hbd2 : w2.heap[gd]? = some (.cells (bdCs d ms).toArray 81) := by
    rw [hbd2]
    congr 2
    exact spl_whole _ _ (by simp only [Value.cells, List.size_toArray, HL29.out]; decide)
  have hbd4 := k4.heap (k3.heap hbd2 id) id
  have hb15' := k4.heap hb15 id
  have hEB : ∀ q, E3 gd g15 g16 q → B ≤ q := fun q e => by rcases e with e | e | e <;> omega
  have hE15 : E3 gd g15 g16 g15 := .inr (.inl rfl)
  have hE16 : E3 gd g15 g16 g16 := .inr (.inr rfl)
  have hEd : E3 gd g15 g16 gd := .inl rfl
  have hne : gd ≠ g15 ∧ gd ≠ g16 ∧ g15 ≠ g16 := by omega
  have hb4 : B ≤ w4.heap.size := by omega
  have HQ := Go.Proofs.Ytiomeoihekifeaa.hid hQ4; have HBD := Go.Proofs.Ytiomeoihekifeaa.hid hbd4; have HB15 := Go.Proofs.Ytiomeoihekifeaa.hid hb15'; have HB16 := Go.Proofs.Ytiomeoihekifeaa.hid hb16; have HM4 := Go.Proofs.Ytiomeoihekifeaa.hid (Rep.msg.keep HMS.out k01 (fun _ _ => id)); have HK4 := Go.Proofs.Ytiomeoihekifeaa.hid ((HKP.out.trans k01 (fun _ _ f => f.elim)))
  have HNE := Go.Proofs.Ytiomeoihekifeaa.hid hne; have HEB := Go.Proofs.Ytiomeoihekifeaa.hid hEB; have HE15 := Go.Proofs.Ytiomeoihekifeaa.hid hE15; have HE16 := Go.Proofs.Ytiomeoihekifeaa.hid hE16; have HED := Go.Proofs.Ytiomeoihekifeaa.hid hEd
  clear k1 k2 k3 k4 k01 hQ4 hbd2 hbd4 hb15 hb15' hb16 hbd z2 z3 z4 hne hEB hE15 hE16 hEd hqd hqd2 hq15 hq15' hq16 hq16' HS2 HGD HQ0 HKP HMS hB0 HCE hB
  generalize hEe : E3 gd g15 g16 = E at *
  have HEE := Go.Proofs.Ytiomeoihekifeaa.hid hEe
  clear hEe
  go_cut [11, 12, 17, 18] from 63 to 226 (fun s11 s12 s17 s18 wx => AfterQ B w0 ga ca na gb cb nb g15 g16 E s11 s12 s17 s18 wx)
  case first =>
    by_cases h2 : d.do_ ≤ 2
    · have hbd := HBD.out
      have hp := (HQ.out).post hb4 HM4.out HFI.out
      have c0 := cell_at hbd 0 (.int .i64 d.do_) rfl
      go_wp2_with (first | (refine wpl_loadA (ty := 60) (o := 2) rfl rfl rfl hbd (by kernel_rfl) (by kernel_rfl) ms (by simp [bdCs, HL.out.take]) HL.out.len ?_))
      refine hp.mono ?_
      rintro e w5 ⟨rfl, hQ5, k5⟩
      have hbd5 := k5.heap hbd (fun e => e.2.1 HED.out)
      have hb15 := k5.heap HB15.out (fun e => e.2.1 HE15.out)
      have hb16 := k5.heap HB16.out (fun e => e.2.1 HE16.out)
      have K5 := Go.Proofs.Ytiomeoihekifeaa.hid (HK4.out.trans k5 (fun b hb e => e.1))
      have HM5 := Go.Proofs.Ytiomeoihekifeaa.hid (Rep.msg.keep HM4.out k5 (fun b hb e => by have := e.1; omega))
      have z5 := k5.size
      have c0 := cell_at hbd5 0 (.int .i64 d.do_) rfl
      have HB155 := Go.Proofs.Ytiomeoihekifeaa.hid hb15; have HB165 := Go.Proofs.Ytiomeoihekifeaa.hid hb16
      clear hp k5 hbd hb15 hb16
      by_cases hlt2 : X.length < na
      · rw [if_pos hlt2] at hQ5
        rw [decide_eq_true hlt2]
        have HQ5 := Go.Proofs.Ytiomeoihekifeaa.hid hQ5
        obtain ⟨F, G, _, _, _, _, _, hmq, _⟩ := hQ5
        obtain ⟨cs, hqr, hpa, _⟩ := hmq
        have HQR := Go.Proofs.Ytiomeoihekifeaa.hid hqr; have HPA := Go.Proofs.Ytiomeoihekifeaa.hid hpa
        clear hqr hpa
        go_wp2_with (first
          | (refine wpl_loadA (ty := 60) (o := 2) rfl rfl rfl hbd5 (by kernel_rfl) (by kernel_rfl) ms (by simp [bdCs, HL.out.take]) HL.out.len ?_)
          | (refine wpl_sliceOne (v := .agg ms.toArray) (z := zM) rfl rfl Try.underlying76 (n := 27) (by kernel_rfl) (by decide) (by decide) rfl (by simp [Value.cells, HL.out.len]) ?_; intro g7 w6 hg7 hb7 k6 s6; clear hg7 s6)
          | (at_builtin; refine stopHere ?_))
        have hrow : Row (fun q => q = g7) w6 (.slice (some ⟨g7, 0, none⟩) 1 1) 1 27 ms := by have := row_at (w := w6) (d := ms) hb7; rwa [HL.out.len] at this
        refine goOn (wpl_appQ (v := .slice Ax X.length cx) rfl rfl T_M rfl (HQR.out.keep k6 (fun _ _ => id)) rfl hrow (by decide) HL.out.one (by omega) (by omega) ?_)
        intro A8 c8 w8 ho8 hk8 hn8
        obtain ⟨hQ8, k8⟩ := QS.more HQ5.out HQR.out HPA.out HM5.out (by omega) k6 ho8 hk8 hn8
        have hb15 := k8.heap HB155.out (fun e => e.2 HE15.out)
        have hb16 := k8.heap HB165.out (fun e => e.2 HE16.out)
        have HA := Go.Proofs.Ytiomeoihekifeaa.hid (AfterQ.mk (g15 := g15) (g16 := g16) true hQ8 hb15 hb16 (msgZ_any _ _) (msgZ_any _ _) (K5.out.trans k8 (fun b hb e => e.1)) (by have := k8.size; omega))
        clear ho8 hk8 hn8 hQ8 k8 k6 hb7 hrow hb15 hb16
        go_wp2_with fail
        go_meet
        exact HA.out
      · rw [if_neg hlt2] at hQ5
        rw [decide_eq_false hlt2]
        have HA := Go.Proofs.Ytiomeoihekifeaa.hid (AfterQ.mk (g15 := g15) (g16 := g16) false hQ5 HB155.out HB165.out (msgZ_any _ _) (msgZ_any _ _) K5.out (by omega))
        clear hQ5
        go_wp2_with fail
        go_meet
        exact HA.out
    by_cases h4 : d.do_ ≤ 4
    · have hbd := HBD.out
      have hp := (HQ.out.swap).post hb4 HM4.out HFI.out
      have c0 := cell_at hbd 0 (.int .i64 d.do_) rfl
      go_wp2_with (first | (refine wpl_loadA (ty := 60) (o := 2) rfl rfl rfl hbd (by kernel_rfl) (by kernel_rfl) ms (by simp [bdCs, HL.out.take]) HL.out.len ?_))
      refine hp.mono ?_
      rintro e w5 ⟨rfl, hQ5, k5⟩
      have hbd5 := k5.heap hbd (fun e => e.2.1 HED.out)
      have hb15 := k5.heap HB15.out (fun e => e.2.1 HE15.out)
      have hb16 := k5.heap HB16.out (fun e => e.2.1 HE16.out)
      have K5 := Go.Proofs.Ytiomeoihekifeaa.hid (HK4.out.trans k5 (fun b hb e => e.1))
      have HM5 := Go.Proofs.Ytiomeoihekifeaa.hid (Rep.msg.keep HM4.out k5 (fun b hb e => by have := e.1; omega))
      have z5 := k5.size
      have c0 := cell_at hbd5 0 (.int .i64 d.do_) rfl
      have HB155 := Go.Proofs.Ytiomeoihekifeaa.hid hb15; have HB165 := Go.Proofs.Ytiomeoihekifeaa.hid hb16
      clear hp k5 hbd hb15 hb16
      by_cases hlt2 : Y.length < nb
      · rw [if_pos hlt2] at hQ5
        rw [decide_eq_true hlt2]
        have HQ5 := Go.Proofs.Ytiomeoihekifeaa.hid hQ5
        obtain ⟨F, G, _, _, _, _, _, hmq, _⟩ := hQ5
        obtain ⟨cs, hqr, hpa, _⟩ := hmq
        have HQR := Go.Proofs.Ytiomeoihekifeaa.hid hqr; have HPA := Go.Proofs.Ytiomeoihekifeaa.hid hpa
        clear hqr hpa
        go_wp2_with (first
          | (refine wpl_loadA (ty := 60) (o := 2) rfl rfl rfl hbd5 (by kernel_rfl) (by kernel_rfl) ms (by simp [bdCs, HL.out.take]) HL.out.len ?_)
          | (refine wpl_sliceOne (v := .agg ms.toArray) (z := zM) rfl rfl Try.underlying76 (n := 27) (by kernel_rfl) (by decide) (by decide) rfl (by simp [Value.cells, HL.out.len]) ?_; intro g7 w6 hg7 hb7 k6 s6; clear hg7 s6)
          | (at_builtin; refine stopHere ?_))
        have hrow : Row (fun q => q = g7) w6 (.slice (some ⟨g7, 0, none⟩) 1 1) 1 27 ms := by have := row_at (w := w6) (d := ms) hb7; rwa [HL.out.len] at this
        refine goOn (wpl_appQ (v := .slice Ay Y.length cy) rfl rfl T_M rfl (HQR.out.keep k6 (fun _ _ => id)) rfl hrow (by decide) HL.out.one (by omega) (by omega) ?_)
        intro A8 c8 w8 ho8 hk8 hn8
        obtain ⟨hQ8, k8⟩ := QS.more HQ5.out HQR.out HPA.out HM5.out (by omega) k6 ho8 hk8 hn8
        have hb15 := k8.heap HB155.out (fun e => e.2 HE15.out)
        have hb16 := k8.heap HB165.out (fun e => e.2 HE16.out)
        have HA := Go.Proofs.Ytiomeoihekifeaa.hid (AfterQ.mk (g15 := g15) (g16 := g16) true hQ8.swap hb15 hb16 (msgZ_any _ _) (msgZ_any _ _) (K5.out.trans k8 (fun b hb e => e.1)) (by have := k8.size; omega))
        clear ho8 hk8 hn8 hQ8 k8 k6 hb7 hrow hb15 hb16
        go_wp2_with fail
        go_meet
        exact HA.out
      · rw [if_neg hlt2] at hQ5
        rw [decide_eq_false hlt2]
        have HA := Go.Proofs.Ytiomeoihekifeaa.hid (AfterQ.mk (g15 := g15) (g16 := g16) false hQ5.swap HB155.out HB165.out (msgZ_any _ _) (msgZ_any _ _) K5.out (by omega))
        clear hQ5
        go_wp2_with fail
        go_meet
        exact HA.out
    by_cases h5 : d.do_ = 5
    · have h5' : (d.do_ == 5) = true := by simp [h5]
      have H5 := Go.Proofs.Ytiomeoihekifeaa.hid h5
      clear h5
      have c0 := cell_at HBD.out 0 (.int .i64 d.do_) rfl
      have hp := (HQ.out).take
      go_wp2_with fail
      refine hp.mono ?_
      rintro e w5 ⟨cs, rfl, hm5, hQ5, k5⟩
      have hb15 := k5.heap HB15.out (fun e => e.2.1 HE15.out)
      have hb16 := k5.heap HB16.out (fun e => e.2.1 HE16.out)
      have HB165 := Go.Proofs.Ytiomeoihekifeaa.hid hb16
      have K5 := Go.Proofs.Ytiomeoihekifeaa.hid (HK4.out.trans k5 (fun b hb e => e.1))
      have z5 := k5.size
      have HL5 := Go.Proofs.Ytiomeoihekifeaa.hid (MsgL.of hm5)
      have HM5 := Go.Proofs.Ytiomeoihekifeaa.hid (Rep.msg.mono (G := fun q => ¬ E q) hm5 (fun q h => h.2.1))
      have HQ5 := Go.Proofs.Ytiomeoihekifeaa.hid hQ5
      obtain ⟨b, hb⟩ : ∃ b, b = decide (0 < X.length) := ⟨_, rfl⟩
      rw [← hb]
      have HBB := Go.Proofs.Ytiomeoihekifeaa.hid hb
      clear hp k5 hm5 hQ5 hb16 hb
      go_wp2_with (first | (refine wpl_storeB (v := .agg cs.toArray) rfl rfl rfl rfl hb15 HL5.out.info HL5.out.fit HL5.out.oneA ?_; intro w6 hb15' k6 _; replace hb15' := hb15'.trans (HL5.out.whole rfl)))
      have hQ6 := HQ5.out.keepE k6 (fun q e => by subst e; exact HEB.out _ HE15.out) (fun q _ e => by subst e; exact HE15.out)
      have HM6 := Go.Proofs.Ytiomeoihekifeaa.hid (Rep.msg.keep HM5.out k6 (fun q h e => h (by subst e; exact HE15.out)))
      have hb16 := k6.heap HB165.out (fun e => HNE.out.2.2 e.symm)
      have K6 := Go.Proofs.Ytiomeoihekifeaa.hid (K5.out.trans k6 (fun q _ e => by subst e; exact HEB.out _ HE15.out))
      have z6 := k6.size
      have hf := hQ6.first
      rw [← HBB.out] at hf
      have HB156 := Go.Proofs.Ytiomeoihekifeaa.hid hb15'; have HB166 := Go.Proofs.Ytiomeoihekifeaa.hid hb16
      clear k6 hQ6 hb15 hb15' hb16
      go_wp2_with fail
      refine hf.mono ?_
      rintro e w7 ⟨ds, v', rfl, hm7, hQ7, k7⟩
      have HL7 := Go.Proofs.Ytiomeoihekifeaa.hid (MsgL.of hm7)
      have hb16 := k7.heap HB166.out id
      have hb15 := k7.heap HB156.out id
      have HB157 := Go.Proofs.Ytiomeoihekifeaa.hid hb15
      have HM67 := Go.Proofs.Ytiomeoihekifeaa.hid (Rep.msg.keep HM6.out k7 (fun _ _ => id))
      have HM7 := Go.Proofs.Ytiomeoihekifeaa.hid (Rep.msg.mono (G := fun q => ¬ E q) hm7 (fun q h e => by have := HEB.out q e; omega))
      have HQ7 := Go.Proofs.Ytiomeoihekifeaa.hid hQ7
      have K7 := Go.Proofs.Ytiomeoihekifeaa.hid (K6.out.trans k7 (fun _ _ f => f.elim))
      have z7 := k7.size
      clear hf k7 hm7 hQ7 hb15
      go_wp2_with (first | (refine wpl_storeB (v := .agg ds.toArray) rfl rfl rfl rfl hb16 HL7.out.info HL7.out.fit HL7.out.oneA ?_; intro w8 hb16' k8 _; replace hb16' := hb16'.trans (HL7.out.whole rfl)))
      have hQ8 := HQ7.out.keepE k8 (fun q e => by subst e; exact HEB.out _ HE16.out) (fun q _ e => by subst e; exact HE16.out)
      have hb15 := k8.heap HB157.out HNE.out.2.2
      have HA := Go.Proofs.Ytiomeoihekifeaa.hid (AfterQ.mk (g15 := g15) (g16 := g16) b hQ8 hb15 hb16' (Rep.msg.keep HM67.out k8 (fun q h e => h (by subst e; exact HE16.out))) (Rep.msg.keep HM7.out k8 (fun q h e => h (by subst e; exact HE16.out))) (K7.out.trans k8 (fun q _ e => by subst e; exact HEB.out _ HE16.out)) (by have := k8.size; omega))
      clear k8 hQ8 hb15 hb16 hb16'
      go_wp2_with fail
      go_meet
      exact HA.out
    by_cases h6 : d.do_ = 6
    · have h5' : (d.do_ == 5) = false := by simp [h5]
      have h6' : (d.do_ == 6) = true := by simp [h6]
      have H6 := Go.Proofs.Ytiomeoihekifeaa.hid h6
      clear h6 h5
      have c0 := cell_at HBD.out 0 (.int .i64 d.do_) rfl
      have hp := (HQ.out.swap).take
      go_wp2_with fail
      refine hp.mono ?_
      rintro e w5 ⟨cs, rfl, hm5, hQ5, k5⟩
      have hb15 := k5.heap HB15.out (fun e => e.2.1 HE15.out)
      have hb16 := k5.heap HB16.out (fun e => e.2.1 HE16.out)
      have HB165 := Go.Proofs.Ytiomeoihekifeaa.hid hb16
      have K5 := Go.Proofs.Ytiomeoihekifeaa.hid (HK4.out.trans k5 (fun b hb e => e.1))
      have z5 := k5.size
      have HL5 := Go.Proofs.Ytiomeoihekifeaa.hid (MsgL.of hm5)
      have HM5 := Go.Proofs.Ytiomeoihekifeaa.hid (Rep.msg.mono (G := fun q => ¬ E q) hm5 (fun q h => h.2.1))
      have HQ5 := Go.Proofs.Ytiomeoihekifeaa.hid hQ5
      obtain ⟨b, hb⟩ : ∃ b, b = decide (0 < Y.length) := ⟨_, rfl⟩
      rw [← hb]
      have HBB := Go.Proofs.Ytiomeoihekifeaa.hid hb
      clear hp k5 hm5 hQ5 hb16 hb
      go_wp2_with (first | (refine wpl_storeB (v := .agg cs.toArray) rfl rfl rfl rfl hb15 HL5.out.info HL5.out.fit HL5.out.oneA ?_; intro w6 hb15' k6 _; replace hb15' := hb15'.trans (HL5.out.whole rfl)))
      have hQ6 := HQ5.out.keepE k6 (fun q e => by subst e; exact HEB.out _ HE15.out) (fun q _ e => by subst e; exact HE15.out)
      have HM6 := Go.Proofs.Ytiomeoihekifeaa.hid (Rep.msg.keep HM5.out k6 (fun q h e => h (by subst e; exact HE15.out)))
      have hb16 := k6.heap HB165.out (fun e => HNE.out.2.2 e.symm)
      have K6 := Go.Proofs.Ytiomeoihekifeaa.hid (K5.out.trans k6 (fun q _ e => by subst e; exact HEB.out _ HE15.out))
      have z6 := k6.size
      have hf := hQ6.first
      rw [← HBB.out] at hf
      have HB156 := Go.Proofs.Ytiomeoihekifeaa.hid hb15'; have HB166 := Go.Proofs.Ytiomeoihekifeaa.hid hb16
      clear k6 hQ6 hb15 hb15' hb16
      go_wp2_with fail
      refine hf.mono ?_
      rintro e w7 ⟨ds, v', rfl, hm7, hQ7, k7⟩
      have HL7 := Go.Proofs.Ytiomeoihekifeaa.hid (MsgL.of hm7)
      have hb16 := k7.heap HB166.out id
      have hb15 := k7.heap HB156.out id
      have HB157 := Go.Proofs.Ytiomeoihekifeaa.hid hb15
      have HM67 := Go.Proofs.Ytiomeoihekifeaa.hid (Rep.msg.keep HM6.out k7 (fun _ _ => id))
      have HM7 := Go.Proofs.Ytiomeoihekifeaa.hid (Rep.msg.mono (G := fun q => ¬ E q) hm7 (fun q h e => by have := HEB.out q e; omega))
      have HQ7 := Go.Proofs.Ytiomeoihekifeaa.hid hQ7
      have K7 := Go.Proofs.Ytiomeoihekifeaa.hid (K6.out.trans k7 (fun _ _ f => f.elim))
      have z7 := k7.size
      clear hf k7 hm7 hQ7 hb15
      go_wp2_with (first | (refine wpl_storeB (v := .agg ds.toArray) rfl rfl rfl rfl hb16 HL7.out.info HL7.out.fit HL7.out.oneA ?_; intro w8 hb16' k8 _; replace hb16' := hb16'.trans (HL7.out.whole rfl)))
      have hQ8 := HQ7.out.keepE k8 (fun q e => by subst e; exact HEB.out _ HE16.out) (fun q _ e => by subst e; exact HE16.out)
      have hb15 := k8.heap HB157.out HNE.out.2.2
      have HA := Go.Proofs.Ytiomeoihekifeaa.hid (AfterQ.mk (g15 := g15) (g16 := g16) b hQ8.swap hb15 hb16' (Rep.msg.keep HM67.out k8 (fun q h e => h (by subst e; exact HE16.out))) (Rep.msg.keep HM7.out k8 (fun q h e => h (by subst e; exact HE16.out))) (K7.out.trans k8 (fun q _ e => by subst e; exact HEB.out _ HE16.out)) (by have := k8.size; omega))
      clear k8 hQ8 hb15 hb16 hb16'
      go_wp2_with fail
      go_meet
      exact HA.out
    by_cases h7 : d.do_ = 7
    · have h5' : (d.do_ == 5) = false := by simp [h5]
      have h6' : (d.do_ == 6) = false := by simp [h6]
      have h7' : (d.do_ == 7) = true := by simp [h7]
      have H7 := Go.Proofs.Ytiomeoihekifeaa.hid h7
      clear h7 h6 h5
      have c0 := cell_at HBD.out 0 (.int .i64 d.do_) rfl
      have hp := HQ.out.either
      by_cases hx : 0 < X.length
      · simp only [if_pos hx] at hp
        have hxd : decide (0 < X.length) = true := decide_eq_true hx
        have HX := Go.Proofs.Ytiomeoihekifeaa.hid hx
        clear hx
        go_wp2_with fail
        refine hp.mono ?_
        rintro e w5 ⟨cs, rfl, hm5, hQ5, k5⟩
        have hb15 := k5.heap HB15.out (fun e => e.2.1 HE15.out)
        have hb16 := k5.heap HB16.out (fun e => e.2.1 HE16.out)
        have HB165 := Go.Proofs.Ytiomeoihekifeaa.hid hb16
        have K5 := Go.Proofs.Ytiomeoihekifeaa.hid (HK4.out.trans k5 (fun b hb e => e.1))
        have z5 := k5.size
        have HL5 := Go.Proofs.Ytiomeoihekifeaa.hid (MsgL.of hm5)
        have HM5 := Go.Proofs.Ytiomeoihekifeaa.hid (Rep.msg.mono (G := fun q => ¬ E q) hm5 (fun q h => h.2.1))
        have HQ5 := Go.Proofs.Ytiomeoihekifeaa.hid hQ5
        clear hp k5 hm5 hQ5 hb16
        go_wp2_with (first | (refine wpl_storeB (v := .agg cs.toArray) rfl rfl rfl rfl hb15 HL5.out.info HL5.out.fit HL5.out.oneA ?_; intro w6 hb15' k6 _; replace hb15' := hb15'.trans (HL5.out.whole rfl)))
        have hQ6 := HQ5.out.keepE k6 (fun q e => by subst e; exact HEB.out _ HE15.out) (fun q _ e => by subst e; exact HE15.out)
        have HM6 := Go.Proofs.Ytiomeoihekifeaa.hid (Rep.msg.keep HM5.out k6 (fun q h e => h (by subst e; exact HE15.out)))
        have hb16 := k6.heap HB165.out (fun e => HNE.out.2.2 e.symm)
        have K6 := Go.Proofs.Ytiomeoihekifeaa.hid (K5.out.trans k6 (fun q _ e => by subst e; exact HEB.out _ HE15.out))
        have z6 := k6.size
        have hf := (hQ6).first
        simp only [hxd] at hf
        have HB156 := Go.Proofs.Ytiomeoihekifeaa.hid hb15'; have HB166 := Go.Proofs.Ytiomeoihekifeaa.hid hb16
        clear k6 hQ6 hb15 hb15' hb16
        go_wp2_with fail
        refine hf.mono ?_
        rintro e w7 ⟨ds, v', rfl, hm7, hQ7, k7⟩
        have HL7 := Go.Proofs.Ytiomeoihekifeaa.hid (MsgL.of hm7)
        have hb16 := k7.heap HB166.out id
        have hb15 := k7.heap HB156.out id
        have HB157 := Go.Proofs.Ytiomeoihekifeaa.hid hb15
        have HM67 := Go.Proofs.Ytiomeoihekifeaa.hid (Rep.msg.keep HM6.out k7 (fun _ _ => id))
        have HM7 := Go.Proofs.Ytiomeoihekifeaa.hid (Rep.msg.mono (G := fun q => ¬ E q) hm7 (fun q h e => by have := HEB.out q e; omega))
        have HQ7 := Go.Proofs.Ytiomeoihekifeaa.hid hQ7
        have K7 := Go.Proofs.Ytiomeoihekifeaa.hid (K6.out.trans k7 (fun _ _ f => f.elim))
        have z7 := k7.size
        clear hf k7 hm7 hQ7 hb15
        go_wp2_with (first | (refine wpl_storeB (v := .agg ds.toArray) rfl rfl rfl rfl hb16 HL7.out.info HL7.out.fit HL7.out.oneA ?_; intro w8 hb16' k8 _; replace hb16' := hb16'.trans (HL7.out.whole rfl)))
        have hQ8 := HQ7.out.keepE k8 (fun q e => by subst e; exact HEB.out _ HE16.out) (fun q _ e => by subst e; exact HE16.out)
        have hb15 := k8.heap HB157.out HNE.out.2.2
        have HA := Go.Proofs.Ytiomeoihekifeaa.hid (AfterQ.mk (g15 := g15) (g16 := g16) true hQ8 hb15 hb16' (Rep.msg.keep HM67.out k8 (fun q h e => h (by subst e; exact HE16.out))) (Rep.msg.keep HM7.out k8 (fun q h e => h (by subst e; exact HE16.out))) (K7.out.trans k8 (fun q _ e => by subst e; exact HEB.out _ HE16.out)) (by have := k8.size; omega))
        clear k8 hQ8 hb15 hb16 hb16'
        go_wp2_with fail
        go_meet
        exact HA.out
      have hxt : X.tail = X := by cases X with | nil => rfl | cons _ _ => simp at hx
      simp only [if_neg hx, hxt] at hp
      have hx0 : X.length = 0 := by omega
      have hxd : decide (0 < X.length) = false := decide_eq_false hx
      clear hxt
      by_cases hy : 0 < Y.length
      · simp only [if_pos hy] at hp
        have hyd : decide (0 < Y.length) = true := decide_eq_true hy
        have HY := Go.Proofs.Ytiomeoihekifeaa.hid hy; have HX0 := Go.Proofs.Ytiomeoihekifeaa.hid hx0
        clear hy hx0 hx
        go_wp2_with fail
        refine hp.mono ?_
        rintro e w5 ⟨cs, rfl, hm5, hQ5, k5⟩
        have hb15 := k5.heap HB15.out (fun e => e.2.1 HE15.out)
        have hb16 := k5.heap HB16.out (fun e => e.2.1 HE16.out)
        have HB165 := Go.Proofs.Ytiomeoihekifeaa.hid hb16
        have K5 := Go.Proofs.Ytiomeoihekifeaa.hid (HK4.out.trans k5 (fun b hb e => e.1))
        have z5 := k5.size
        have HL5 := Go.Proofs.Ytiomeoihekifeaa.hid (MsgL.of hm5)
        have HM5 := Go.Proofs.Ytiomeoihekifeaa.hid (Rep.msg.mono (G := fun q => ¬ E q) hm5 (fun q h => h.2.1))
        have HQ5 := Go.Proofs.Ytiomeoihekifeaa.hid hQ5
        clear hp k5 hm5 hQ5 hb16
        go_wp2_with (first | (refine wpl_storeB (v := .agg cs.toArray) rfl rfl rfl rfl hb15 HL5.out.info HL5.out.fit HL5.out.oneA ?_; intro w6 hb15' k6 _; replace hb15' := hb15'.trans (HL5.out.whole rfl)))
        have hQ6 := HQ5.out.keepE k6 (fun q e => by subst e; exact HEB.out _ HE15.out) (fun q _ e => by subst e; exact HE15.out)
        have HM6 := Go.Proofs.Ytiomeoihekifeaa.hid (Rep.msg.keep HM5.out k6 (fun q h e => h (by subst e; exact HE15.out)))
        have hb16 := k6.heap HB165.out (fun e => HNE.out.2.2 e.symm)
        have K6 := Go.Proofs.Ytiomeoihekifeaa.hid (K5.out.trans k6 (fun q _ e => by subst e; exact HEB.out _ HE15.out))
        have z6 := k6.size
        have hf := (hQ6.swap).first
        simp only [hyd] at hf
        have HB156 := Go.Proofs.Ytiomeoihekifeaa.hid hb15'; have HB166 := Go.Proofs.Ytiomeoihekifeaa.hid hb16
        clear k6 hQ6 hb15 hb15' hb16
        go_wp2_with fail
        refine hf.mono ?_
        rintro e w7 ⟨ds, v', rfl, hm7, hQ7, k7⟩
        have HL7 := Go.Proofs.Ytiomeoihekifeaa.hid (MsgL.of hm7)
        have hb16 := k7.heap HB166.out id
        have hb15 := k7.heap HB156.out id
        have HB157 := Go.Proofs.Ytiomeoihekifeaa.hid hb15
        have HM67 := Go.Proofs.Ytiomeoihekifeaa.hid (Rep.msg.keep HM6.out k7 (fun _ _ => id))
        have HM7 := Go.Proofs.Ytiomeoihekifeaa.hid (Rep.msg.mono (G := fun q => ¬ E q) hm7 (fun q h e => by have := HEB.out q e; omega))
        have HQ7 := Go.Proofs.Ytiomeoihekifeaa.hid hQ7
        have K7 := Go.Proofs.Ytiomeoihekifeaa.hid (K6.out.trans k7 (fun _ _ f => f.elim))
        have z7 := k7.size
        clear hf k7 hm7 hQ7 hb15
        go_wp2_with (first | (refine wpl_storeB (v := .agg ds.toArray) rfl rfl rfl rfl hb16 HL7.out.info HL7.out.fit HL7.out.oneA ?_; intro w8 hb16' k8 _; replace hb16' := hb16'.trans (HL7.out.whole rfl)))
        have hQ8 := HQ7.out.keepE k8 (fun q e => by subst e; exact HEB.out _ HE16.out) (fun q _ e => by subst e; exact HE16.out)
        have hb15 := k8.heap HB157.out HNE.out.2.2
        have HA := Go.Proofs.Ytiomeoihekifeaa.hid (AfterQ.mk (g15 := g15) (g16 := g16) true hQ8.swap hb15 hb16' (Rep.msg.keep HM67.out k8 (fun q h e => h (by subst e; exact HE16.out))) (Rep.msg.keep HM7.out k8 (fun q h e => h (by subst e; exact HE16.out))) (K7.out.trans k8 (fun q _ e => by subst e; exact HEB.out _ HE16.out)) (by have := k8.size; omega))
        clear k8 hQ8 hb15 hb16 hb16'
        go_wp2_with fail
        go_meet
        exact HA.out
      · simp only [if_neg hy] at hp
        have hyd : decide (0 < Y.length) = false := decide_eq_false hy
        have HY := Go.Proofs.Ytiomeoihekifeaa.hid hy; have HX0 := Go.Proofs.Ytiomeoihekifeaa.hid hx0
        clear hy hx0 hx
        go_wp2_with fail
        refine hp.mono ?_
        rintro e w5 ⟨cs, rfl, hm5, hQ5, k5⟩
        have hb15 := k5.heap HB15.out (fun e => e.2.1 HE15.out)
        have hb16 := k5.heap HB16.out (fun e => e.2.1 HE16.out)
        have HB165 := Go.Proofs.Ytiomeoihekifeaa.hid hb16
        have K5 := Go.Proofs.Ytiomeoihekifeaa.hid (HK4.out.trans k5 (fun b hb e => e.1))
        have z5 := k5.size
        have HL5 := Go.Proofs.Ytiomeoihekifeaa.hid (MsgL.of hm5)
        have HM5 := Go.Proofs.Ytiomeoihekifeaa.hid (Rep.msg.mono (G := fun q => ¬ E q) hm5 (fun q h => h.2.1))
        have HQ5 := Go.Proofs.Ytiomeoihekifeaa.hid hQ5
        clear hp k5 hm5 hQ5 hb16
        go_wp2_with (first | (refine wpl_storeB (v := .agg cs.toArray) rfl rfl rfl rfl hb15 HL5.out.info HL5.out.fit HL5.out.oneA ?_; intro w6 hb15' k6 _; replace hb15' := hb15'.trans (HL5.out.whole rfl)))
        have hQ6 := HQ5.out.keepE k6 (fun q e => by subst e; exact HEB.out _ HE15.out) (fun q _ e => by subst e; exact HE15.out)
        have HM6 := Go.Proofs.Ytiomeoihekifeaa.hid (Rep.msg.keep HM5.out k6 (fun q h e => h (by subst e; exact HE15.out)))
        have hb16 := k6.heap HB165.out (fun e => HNE.out.2.2 e.symm)
        have K6 := Go.Proofs.Ytiomeoihekifeaa.hid (K5.out.trans k6 (fun q _ e => by subst e; exact HEB.out _ HE15.out))
        have z6 := k6.size
        have hf := (hQ6.swap).first
        simp only [hyd] at hf
        have HB156 := Go.Proofs.Ytiomeoihekifeaa.hid hb15'; have HB166 := Go.Proofs.Ytiomeoihekifeaa.hid hb16
        clear k6 hQ6 hb15 hb15' hb16
        go_wp2_with fail
        refine hf.mono ?_
        rintro e w7 ⟨ds, v', rfl, hm7, hQ7, k7⟩
        have HL7 := Go.Proofs.Ytiomeoihekifeaa.hid (MsgL.of hm7)
        have hb16 := k7.heap HB166.out id
        have hb15 := k7.heap HB156.out id
        have HB157 := Go.Proofs.Ytiomeoihekifeaa.hid hb15
        have HM67 := Go.Proofs.Ytiomeoihekifeaa.hid (Rep.msg.keep HM6.out k7 (fun _ _ => id))
        have HM7 := Go.Proofs.Ytiomeoihekifeaa.hid (Rep.msg.mono (G := fun q => ¬ E q) hm7 (fun q h e => by have := HEB.out q e; omega))
        have HQ7 := Go.Proofs.Ytiomeoihekifeaa.hid hQ7
        have K7 := Go.Proofs.Ytiomeoihekifeaa.hid (K6.out.trans k7 (fun _ _ f => f.elim))
        have z7 := k7.size
        clear hf k7 hm7 hQ7 hb15
        go_wp2_with (first | (refine wpl_storeB (v := .agg ds.toArray) rfl rfl rfl rfl hb16 HL7.out.info HL7.out.fit HL7.out.oneA ?_; intro w8 hb16' k8 _; replace hb16' := hb16'.trans (HL7.out.whole rfl)))
        have hQ8 := HQ7.out.keepE k8 (fun q e => by subst e; exact HEB.out _ HE16.out) (fun q _ e => by subst e; exact HE16.out)
        have hb15 := k8.heap HB157.out HNE.out.2.2
        have HA := Go.Proofs.Ytiomeoihekifeaa.hid (AfterQ.mk (g15 := g15) (g16 := g16) false hQ8.swap hb15 hb16' (Rep.msg.keep HM67.out k8 (fun q h e => h (by subst e; exact HE16.out))) (Rep.msg.keep HM7.out k8 (fun q h e => h (by subst e; exact HE16.out))) (K7.out.trans k8 (fun q _ e => by subst e; exact HEB.out _ HE16.out)) (by have := k8.size; omega))
        clear k8 hQ8 hb15 hb16 hb16'
        go_wp2_with fail
        go_meet
        exact HA.out
    have h5' : (d.do_ == 5) = false := by simp [h5]
    have h6' : (d.do_ == 6) = false := by simp [h6]
    have h7' : (d.do_ == 7) = false := by simp [h7]
    clear h7 h6 h5
    have hz := fun w => (by obtain ⟨i, hi, _, hz⟩ := info_msg; simp [zeroValue, typeInfo, hi, hz] : (zeroValue 60).run Try.prog w = .ok (.agg (msgCs msgZ nilV nilV nilV nilV).toArray) w)
    have HZ := Go.Proofs.Ytiomeoihekifeaa.hid hz
    clear hz
    have c0 := cell_at HBD.out 0 (.int .i64 d.do_) rfl
    have c1 := cell_at HBD.out 1 (.int .i64 d.n) rfl
    have hp := HQ.out.drain hb4 hna d.n
    obtain ⟨N, hN⟩ : ∃ N, N = d.n.toNat := ⟨_, rfl⟩
    rw [← hN] at hp
    have HN := Go.Proofs.Ytiomeoihekifeaa.hid hN
    clear hN
    go_wp2_with fail
    refine hp.mono ?_
    rintro e w5 ⟨v5, rfl, hs5, hQ5, k5⟩
    obtain ⟨A5, c5, rfl⟩ := hs5.shape
    have hb15 := k5.heap HB15.out (fun e => e.2.1 HE15.out)
    have hb16 := k5.heap HB16.out (fun e => e.2.1 HE16.out)
    have hbd := k5.heap HBD.out (fun e => e.2.1 HED.out)
    have HBD5 := Go.Proofs.Ytiomeoihekifeaa.hid hbd
    have K5 := Go.Proofs.Ytiomeoihekifeaa.hid (HK4.out.trans k5 (fun b hb e => e.1))
    have z5 := k5.size
    have HSL := Go.Proofs.Ytiomeoihekifeaa.hid (hs5.mono (G := fun q => ¬ E q) (fun q h => h.2.1))
    have HQ5 := Go.Proofs.Ytiomeoihekifeaa.hid hQ5; have HB155 := Go.Proofs.Ytiomeoihekifeaa.hid hb15; have HB165 := Go.Proofs.Ytiomeoihekifeaa.hid hb16
    have hLx : (X.take N).length ≤ X.length := by rw [List.length_take]; omega
    obtain ⟨L, hL⟩ : ∃ L, L = (X.take N).length := ⟨_, rfl⟩
    rw [← hL] at HSL hLx ⊢
    have HLL := Go.Proofs.Ytiomeoihekifeaa.hid hL
    have hL4 : L ≤ 4096 := by omega
    clear hp k5 hs5 hQ5 hb15 hb16 hbd hL c0 c1
    go_wp2_with fail
    have HIN := Go.Proofs.Ytiomeoihekifeaa.hid (InD.mk (w := w5) (B := B) (w0 := w0) (j := 0) HQ5.out HB155.out HB165.out rfl HBD5.out HSL.out K5.out (by omega))
    go_loopw [11, 18, 21] (fun s11 s18 s21 wr => ∃ (j : Nat) (b : Bool), j ≤ L ∧ s21 = .int .i64 j ∧ s18 = .bool b ∧ InD B w0 ga ca na gb cb nb gd g15 g16 E X Y N L A5 c5 (.slice Ay Y.length cy) d ms j s11 wr) (fun _ _ s21 _ => L - (intOf s21).toNat)
    case atStart => exact ⟨0, false, Nat.zero_le _, rfl, rfl, HIN.out⟩
    case round =>
      obtain ⟨j, b, hj, rfl, rfl, hrel⟩ := hrel
      by_cases hlt6 : j < L
      · refine bplays1 (ms := ms) (d := d) hlt6 hL4 HLL.out HNE.out HEB.out HE16.out hrel ?_
        intro v' w9 hr9
        intros
        go_wp2_with fail
        exact ⟨⟨j + 1, true, by omega, by simp, rfl, hr9⟩, by simp [intOf]; omega⟩
      · obtain rfl : L = j := by omega
        obtain ⟨ds0, hQ6, hb15, hb16, hds0, hbd, hsl, hk6, hb6⟩ := hrel
        have hdN : X.drop L = X.drop N := by
          rw [HLL.out, List.length_take]
          by_cases h : N ≤ X.length
          · rw [Nat.min_eq_left h]
          · rw [Nat.min_eq_right (by omega), List.drop_length, List.drop_of_length_le (by omega)]
        rw [hdN] at hQ6
        have hmin : L = min N X.length := by rw [HLL.out, List.length_take]
        obtain ⟨Ax6, cx6, rfl⟩ := hQ6.shapeX
        obtain ⟨nq, hnq⟩ : ∃ nq, nq = (X.drop N).length := ⟨_, rfl⟩
        rw [← hnq] at hQ6 ⊢
        have hnq2 : nq = X.length - N := by rw [hnq, List.length_drop]
        have c1 := cell_at hbd 1 (.int .i64 d.n) rfl
        have HQ6 := Go.Proofs.Ytiomeoihekifeaa.hid hQ6; have HSZ := Go.Proofs.Ytiomeoihekifeaa.hid hds0; have HB15 := Go.Proofs.Ytiomeoihekifeaa.hid hb15; have HK6 := Go.Proofs.Ytiomeoihekifeaa.hid hk6
        clear hdN hnq hQ6 hsl hbd hds0 hb15 hk6
        have hcases : (d.n < 0 ∧ L = 0) ∨ (0 ≤ d.n ∧ (L : Int) ≤ d.n ∧ (((L : Int) < d.n ∧ nq = 0) ∨ d.n ≤ (L : Int))) := by
          have := HN.out
          omega
        rcases hcases with ⟨hneg, hL0⟩ | ⟨hn0, hle, ⟨hlnd, hnq0⟩ | hlnd⟩
        · subst hL0
          have hz := HZ.out
          have HM := Go.Proofs.Ytiomeoihekifeaa.hid hmin; have HN2 := Go.Proofs.Ytiomeoihekifeaa.hid hnq2
          clear hmin hnq2
          go_wp2_with (first | (refine wpl_storeB (v := zM) rfl rfl rfl rfl hb16 msgL_z.info (by rw [show (Array.size _) = 27 from HSZ.out]; exact msgL_z.fit) msgL_z.oneA ?_; intro w8 hb16' k8 _; replace hb16' := hb16'.trans (msgL_z.whole HSZ.out)))
          have hQ8 := HQ6.out.keepE k8 (fun q e => by subst e; exact HEB.out _ HE16.out) (fun q _ e => by subst e; exact HE16.out)
          have hb15 := k8.heap HB15.out HNE.out.2.2
          have HA := Go.Proofs.Ytiomeoihekifeaa.hid (AfterQ.mk (g15 := g15) (g16 := g16) true hQ8 hb15 hb16' (msgZ_any _ _) (msgZ_any _ _) (HK6.out.trans k8 (fun q _ e => by subst e; exact HEB.out _ HE16.out)) (by have := k8.size; omega))
          clear hz k8 hQ8 hb15 hb16 hb16'
          go_wp2_with fail
          go_meet
          exact HA.out
        · have hnd : decide ((0 : Int) < (nq : Int)) = false := decide_eq_false (by omega)
          have hnd2 : decide (0 < nq) = false := decide_eq_false (by omega)
          have HNQ := Go.Proofs.Ytiomeoihekifeaa.hid hnq0
          clear hnq0
          have hz := HZ.out
          have HM := Go.Proofs.Ytiomeoihekifeaa.hid hmin; have HN2 := Go.Proofs.Ytiomeoihekifeaa.hid hnq2
          clear hmin hnq2
          go_wp2_with (first | (refine wpl_storeB (v := zM) rfl rfl rfl rfl hb16 msgL_z.info (by rw [show (Array.size _) = 27 from HSZ.out]; exact msgL_z.fit) msgL_z.oneA ?_; intro w8 hb16' k8 _; replace hb16' := hb16'.trans (msgL_z.whole HSZ.out)))
          have hQ8 := HQ6.out.keepE k8 (fun q e => by subst e; exact HEB.out _ HE16.out) (fun q _ e => by subst e; exact HE16.out)
          have hb15 := k8.heap HB15.out HNE.out.2.2
          have HA := Go.Proofs.Ytiomeoihekifeaa.hid (AfterQ.mk (g15 := g15) (g16 := g16) true hQ8 hb15 hb16' (msgZ_any _ _) (msgZ_any _ _) (HK6.out.trans k8 (fun q _ e => by subst e; exact HEB.out _ HE16.out)) (by have := k8.size; omega))
          clear hz k8 hQ8 hb15 hb16 hb16'
          go_wp2_with fail
          go_meet
          exact HA.out
        · skip
          have hz := HZ.out
          have HM := Go.Proofs.Ytiomeoihekifeaa.hid hmin; have HN2 := Go.Proofs.Ytiomeoihekifeaa.hid hnq2
          clear hmin hnq2
          go_wp2_with (first | (refine wpl_storeB (v := zM) rfl rfl rfl rfl hb16 msgL_z.info (by rw [show (Array.size _) = 27 from HSZ.out]; exact msgL_z.fit) msgL_z.oneA ?_; intro w8 hb16' k8 _; replace hb16' := hb16'.trans (msgL_z.whole HSZ.out)))
          have hQ8 := HQ6.out.keepE k8 (fun q e => by subst e; exact HEB.out _ HE16.out) (fun q _ e => by subst e; exact HE16.out)
          have hb15 := k8.heap HB15.out HNE.out.2.2
          have HA := Go.Proofs.Ytiomeoihekifeaa.hid (AfterQ.mk (g15 := g15) (g16 := g16) true hQ8 hb15 hb16' (msgZ_any _ _) (msgZ_any _ _) (HK6.out.trans k8 (fun q _ e => by subst e; exact HEB.out _ HE16.out)) (by have := k8.size; omega))
          clear hz k8 hQ8 hb15 hb16 hb16'
          go_wp2_with fail
          go_meet
          exact HA.out
  case rest =>
    revert wc
    intro w5 hcut
    obtain ⟨X', Y', m, cs, ds, b, rfl, rfl, hQ, hb15, hb16, hm1, hm2, hk, hb5⟩ := hcut
    obtain ⟨Ax', cx', rfl⟩ := hQ.shapeX
    obtain ⟨Ay', cy', rfl⟩ := hQ.swap.shapeX
    have hle1 := hQ.le; have hle2 := hQ.swap.le
    have hs := sameM_calls hm1 hm2
    have HL1 := Go.Proofs.Ytiomeoihekifeaa.hid (MsgL.of hm1); have HL2 := Go.Proofs.Ytiomeoihekifeaa.hid (MsgL.of hm2)
    have HQ5 := Go.Proofs.Ytiomeoihekifeaa.hid hQ; have HK5 := Go.Proofs.Ytiomeoihekifeaa.hid hk
    clear hQ hk hm1 hm2 HQ HBD HB15 HB16 HM4 HK4 hb4 HNE HEB HEE HE15 HE16 HED hlx hly
    go_wp2_with (first
      | (refine wpl_loadW (ty := 60) rfl rfl rfl hb15 (by kernel_rfl) (by kernel_rfl) cs HL1.out.take HL1.out.len ?_)
      | (refine wpl_loadW (ty := 60) rfl rfl rfl hb16 (by kernel_rfl) (by kernel_rfl) ds HL2.out.take HL2.out.len ?_))
    refine hs.mono ?_
    rintro e w6 ⟨rfl, k6⟩
    have hQ6 := HQ5.out.keepF k6
    have hla := hQ6.len
    have hlb := hQ6.swap.len
    have hend : QS B w6 ga ca na X' gb cb nb Y' (.slice Ax' X'.length cx') X' (.slice Ay' Y'.length cy') Y' (fun _ => False) ∧ Keep (fun q => B ≤ q) w0 w6 ∧ B ≤ w6.heap.size := ⟨hQ6.noE, HK5.out.trans k6 (fun _ _ f => f.elim), by have := k6.size; omega⟩
    have HEND := Go.Proofs.Ytiomeoihekifeaa.hid hend
    clear hs k6 hQ6 hb15 hb16 hend
    go_wp2_with fail
    refine hla.mono ?_
    rintro e w' ⟨rfl, rfl⟩
    go_wp2_with fail
    refine hlb.mono ?_
    rintro e w' ⟨rfl, rfl⟩
    clear hla hlb
    go_wp2_with fail
    exact HHN.out X' Y' _ _ _ HEND.out
end Go.Proofs.Ytiomeoihekifeaa

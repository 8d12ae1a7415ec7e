/- wapentakelaw20.BoxPlays: what was drained, one by one. -/
import Derived.Test.YtiomeoihekifeaaQS
import Derived.Test.YtiomeoihekifeaaLoop
import Derived.Test.YtiomeoihekifeaaGrow
import Derived.Deep.DeepCutAuto
import Derived.Deep.CutBlock
import Derived.Deep.CutRange
namespace Go.Proofs.Ytiomeoihekifeaa
open Go.RowKit
/-- A struct's cells are loaded in a region that draws its order: they lie as they lay in every world of the class. -/
theorem wpQuiet_load {P : Program} {ops : Array Oper} {rest : List Oper} {o : Oper} {a : Act} {C : World → Prop} {Q : Act → Prop} {ty : TypeId} {x : Operand} {b off : Nat}
    (hgw : Region.wanted o (yielded ops a.tmps) = true) (ho : o.op = .load ty x) (hx : a.eval x = .pointer (some ⟨b, off, none⟩)) (cs : List Value) (d : TypeDesc) (hC : ∀ w, C w → w.rangeAt b off cs)
    (hu : P.underlying ty = some d) (hd : d.isRow = true) (hi : (P.info? ty).map (·.size) = some cs.length) (h : wpQuiet P ops C Q rest (a.put o.dst (.agg cs.toArray))) : wpQuiet P ops C Q (o :: rest) a := by
  refine wpQuiet_step fun K hK => ?_
  rw [if_pos hgw]
  refine ⟨.agg cs.toArray, fun w hw => ?_, hK _ h⟩
  have hr : (execOp a.eval o).run P w = .ok (.value (.agg cs.toArray)) w := by
    unfold execOp
    simp only [ho, hx, Instr.loadAt, Instr.sureAddr, Sem.run_bind, Sem.run_pure, Result.andThen_ok, run_loadVar_mid w b off ty cs d (hC w hw) hu hd hi]
  unfold Oper.quietAt
  rw [hr]
  exact ⟨rfl, rfl⟩
def bdCs (d : BDeed) (ms : List Value) : List Value := .int .i64 d.do_ :: .int .i64 d.n :: ms
abbrev zD : Value := .agg (bdCs ⟨0, 0, msgZ⟩ (msgCs msgZ nilV nilV nilV nilV)).toArray
abbrev msgO (cs : List Value) : Obj := .cells cs.toArray 60
/-- Behind a deed: what was told and what was wanted are one message; the boxes hold what the queues hold. -/
def AfterQ (B : Nat) (w0 : World) (ga ca na gb cb nb g15 g16 : Nat) (E : Nat → Prop) (s11 s12 s17 s18 : Value) (w : World) : Prop :=
  ∃ (X Y : List Msg) (m : Msg) (cs ds : List Value) (b : Bool), s17 = .bool b ∧ s18 = .bool b ∧ QS B w ga ca na X gb cb nb Y s11 X s12 Y E ∧ w.heap[g15]? = some (msgO cs) ∧ w.heap[g16]? = some (msgO ds) ∧
    Rep.msg.cells w (fun q => ¬ E q) m cs ∧ Rep.msg.cells w (fun q => ¬ E q) m ds ∧ Keep (fun q => B ≤ q) w0 w ∧ B ≤ w.heap.size
theorem AfterQ.mk {B : Nat} {w0 w : World} {ga ca na gb cb nb g15 g16 : Nat} {E : Nat → Prop} {s11 s12 : Value} {X Y : List Msg} {m : Msg} {cs ds : List Value} (b : Bool) (h1 : QS B w ga ca na X gb cb nb Y s11 X s12 Y E) (h2 : w.heap[g15]? = some (msgO cs)) (h3 : w.heap[g16]? = some (msgO ds)) (h4 : Rep.msg.cells w (fun q => ¬ E q) m cs) (h5 : Rep.msg.cells w (fun q => ¬ E q) m ds) (h6 : Keep (fun q => B ≤ q) w0 w) (h7 : B ≤ w.heap.size) :
    AfterQ B w0 ga ca na gb cb nb g15 g16 E s11 s12 (.bool b) (.bool b) w := ⟨X, Y, m, cs, ds, b, rfl, rfl, h1, h2, h3, h4, h5, h6, h7⟩
def E3 (a b c : Nat) (k : Nat) : Prop := k = a ∨ k = b ∨ k = c
theorem bd_one {d : BDeed} {ms : List Value} (h : ∀ u ∈ ms, u.oneCell' = true) : ∀ u ∈ bdCs d ms, u.oneCell' = true := by
  intro u hu
  simp only [bdCs, List.mem_cons] at hu
  rcases hu with rfl | rfl | hu
  · rfl
  · rfl
  · exact h u hu
theorem msgZ_any (w : World) (F : Nat → Prop) : Rep.msg.cells w F msgZ (msgCs msgZ nilV nilV nilV nilV) := msgZ_cells w F
def InD (B : Nat) (w0 : World) (ga ca na gb cb nb gd g15 g16 : Nat) (E : Nat → Prop) (X Y : List Msg) (N L : Nat) (A5 : Option Addr) (c5 : Nat) (vy : Value) (d : BDeed) (ms : List Value) (j : Nat) (s11 : Value) (wr : World) : Prop :=
  ∃ ds0 : List Value, QS B wr ga ca na (X.drop N) gb cb nb Y s11 (X.drop j) vy Y E ∧ wr.heap[g15]? = some (.cells zM.cells 60) ∧ wr.heap[g16]? = some (msgO ds0) ∧ ds0.length = 27 ∧ wr.heap[gd]? = some (.cells (bdCs d ms).toArray 81) ∧ Sl .msg wr (fun q => ¬ E q) (.slice A5 L c5) (X.take N) ∧ Keep (fun q => B ≤ q) w0 wr ∧ B ≤ wr.heap.size
theorem InD.mk {B : Nat} {w0 w : World} {ga ca na gb cb nb gd g15 g16 : Nat} {E : Nat → Prop} {X Y : List Msg} {N L : Nat} {A5 : Option Addr} {c5 : Nat} {vy s11 : Value} {d : BDeed} {ms ds0 : List Value} {j : Nat} (h1 : QS B w ga ca na (X.drop N) gb cb nb Y s11 (X.drop j) vy Y E) (h2 : w.heap[g15]? = some (.cells zM.cells 60)) (h3 : w.heap[g16]? = some (msgO ds0)) (h4 : ds0.length = 27) (h5 : w.heap[gd]? = some (.cells (bdCs d ms).toArray 81)) (h6 : Sl .msg w (fun q => ¬ E q) (.slice A5 L c5) (X.take N)) (h7 : Keep (fun q => B ≤ q) w0 w) (h8 : B ≤ w.heap.size) :
    InD B w0 ga ca na gb cb nb gd g15 g16 E X Y N L A5 c5 vy d ms j s11 w := ⟨ds0, h1, h2, h3, h4, h5, h6, h7, h8⟩
set_option maxRecDepth 20000 in
set_option maxHeartbeats 4000000 in
theorem bplays1 {Q : Exit → Act → World → Prop} {v0 v1 v2 v3 v4 v5 v6 v7 v8 v9 v10 v12 v13 v17 v19 v22 v23 v24 v25 v26 v27 v28 v29 v30 v31 v32 v33 v34 v35 v36 v37 v38 v39 v40 v41 v42 v43 v44 v45 v46 v47 v48 v49 v50 v51 v52 v53 v54 v55 v56 v57 v58 v59 v60 v61 v62 v63 v64 v65 v66 v67 v68 v69 v70 v71 v72 v73 v74 v75 v76 v77 v78 v79 v80 v81 v82 v83 v84 v85 v86 v87 v88 v89 v90 v91 v92 v93 v94 v95 v96 v97 v98 v99 v100 v101 v102 v103 v104 v105 v106 v107 v108 v109 v110 v111 v112 v113 v114 v115 v116 v117 v118 v119 v120 v121 v122 v123 v124 v125 v126 v127 v128 v129 v130 v131 v132 v133 v134 v135 v136 v137 v138 v139 v140 v141 v142 v143 v144 v145 v146 v147 v148 v149 v150 v151 v152 v153 v154 v155 v156 v157 v158 v159 v160 v161 v162 v163 v164 v165 v166 v167 v168 v169 v170 v171 v172 v173 v174 v175 v176 v177 v178 v179 v180 v181 v182 v183 v184 v185 v186 v187 v188 v189 v190 v191 v192 v193 v194 v195 v196 v197 v198 v199 v200 v201 v202 v203 v204 v205 v206 v207 v208 v209 v210 v211 v212 v213 v214 v215 v216 v217 v218 v219 v220 v221 v222 v223 v224 v225 v226 v227 v228 v229 v230 v231 v232 v233 v234 v235 v236 v237 v238 v239 v240 v241 v242 v243 v244 v245 v246 v247 v248 v249 : Value} {v11 : Value} {B ga ca na gb cb nb gd g15 g16 N L c5 j : Nat} {A5 : Option Addr} {b : Bool} {w0 wr : World} {X Y : List Msg} {E : Nat → Prop} {vy : Value} {d : BDeed} {ms : List Value}
    (hlt6 : j < L) (hL4 : L ≤ 4096) (hLL : L = (X.take N).length) (hne : gd ≠ g15 ∧ gd ≠ g16 ∧ g15 ≠ g16) (heb : ∀ q, E q → B ≤ q) (he16 : E g16) (hrel : InD B w0 ga ca na gb cb nb gd g15 g16 E X Y N L A5 c5 vy d ms j v11 wr)
    (hn : ∀ (v' : Value) (w' : World), InD B w0 ga ca na gb cb nb gd g15 g16 E X Y N L A5 c5 vy d ms (j + 1) v' w' → ∀ {u6 u77 u78 u79 u80 u81 u82 u83 u84 u85 u86 u87 u88 u89 u90 u91 u92 u93 u94 u95 u96 u97 u98 u99 : Value}, Q .normal ⟨#[v0, v1, v2, v3, v4, v5, u6, v7, v8, v9, v10, v', v12, v13, .pointer (some ⟨gd, 0, none⟩), .pointer (some ⟨g15, 0, none⟩), .pointer (some ⟨g16, 0, none⟩), v17, .bool true, v19, .slice A5 L c5, .int .i64 ((j : Int) + 1), v22, v23, v24, v25, v26, v27, v28, v29, v30, v31, v32, v33, v34, v35, v36, v37, v38, v39, v40, v41, v42, v43, v44, v45, v46, v47, v48, v49, v50, v51, v52, v53, v54, v55, v56, v57, v58, v59, v60, v61, v62, v63, v64, v65, v66, v67, v68, v69, v70, v71, v72, v73, v74, v75, v76, u77, u78, u79, u80, u81, u82, u83, u84, u85, u86, u87, u88, u89, u90, u91, u92, u93, u94, u95, u96, u97, u98, u99, v100, v101, v102, v103, v104, v105, v106, v107, v108, v109, v110, v111, v112, v113, v114, v115, v116, v117, v118, v119, v120, v121, v122, v123, v124, v125, v126, v127, v128, v129, v130, v131, v132, v133, v134, v135, v136, v137, v138, v139, v140, v141, v142, v143, v144, v145, v146, v147, v148, v149, v150, v151, v152, v153, v154, v155, v156, v157, v158, v159, v160, v161, v162, v163, v164, v165, v166, v167, v168, v169, v170, v171, v172, v173, v174, v175, v176, v177, v178, v179, v180, v181, v182, v183, v184, v185, v186, v187, v188, v189, v190, v191, v192, v193, v194, v195, v196, v197, v198, v199, v200, v201, v202, v203, v204, v205, v206, v207, v208, v209, v210, v211, v212, v213, v214, v215, v216, v217, v218, v219, v220, v221, v222, v223, v224, v225, v226, v227, v228, v229, v230, v231, v232, v233, v234, v235, v236, v237, v238, v239, v240, v241, v242, v243, v244, v245, v246, v247, v248, v249], []⟩ w')
    : Code.wp Try.prog (loopBody Try.f10 1) Q ⟨#[v0, v1, v2, v3, v4, v5, v6, v7, v8, v9, v10, v11, v12, v13, .pointer (some ⟨gd, 0, none⟩), .pointer (some ⟨g15, 0, none⟩), .pointer (some ⟨g16, 0, none⟩), v17, .bool b, v19, .slice A5 L c5, .int .i64 j, v22, v23, v24, v25, v26, v27, v28, v29, v30, v31, v32, v33, v34, v35, v36, v37, v38, v39, v40, v41, v42, v43, v44, v45, v46, v47, v48, v49, v50, v51, v52, v53, v54, v55, v56, v57, v58, v59, v60, v61, v62, v63, v64, v65, v66, v67, v68, v69, v70, v71, v72, v73, v74, v75, v76, v77, v78, v79, v80, v81, v82, v83, v84, v85, v86, v87, v88, v89, v90, v91, v92, v93, v94, v95, v96, v97, v98, v99, v100, v101, v102, v103, v104, v105, v106, v107, v108, v109, v110, v111, v112, v113, v114, v115, v116, v117, v118, v119, v120, v121, v122, v123, v124, v125, v126, v127, v128, v129, v130, v131, v132, v133, v134, v135, v136, v137, v138, v139, v140, v141, v142, v143, v144, v145, v146, v147, v148, v149, v150, v151, v152, v153, v154, v155, v156, v157, v158, v159, v160, v161, v162, v163, v164, v165, v166, v167, v168, v169, v170, v171, v172, v173, v174, v175, v176, v177, v178, v179, v180, v181, v182, v183, v184, v185, v186, v187, v188, v189, v190, v191, v192, v193, v194, v195, v196, v197, v198, v199, v200, v201, v202, v203, v204, v205, v206, v207, v208, v209, v210, v211, v212, v213, v214, v215, v216, v217, v218, v219, v220, v221, v222, v223, v224, v225, v226, v227, v228, v229, v230, v231, v232, v233, v234, v235, v236, v237, v238, v239, v240, v241, v242, v243, v244, v245, v246, v247, v248, v249], []⟩ wr := by
  conv => arg 2; whnf
  obtain ⟨ds0, hQ6, hb15, hb16, hds0, hbd, hsl, hk6, hb6⟩ := hrel
  have HHN := Go.Proofs.Ytiomeoihekifeaa.hid @hn
  have HLL := Go.Proofs.Ytiomeoihekifeaa.hid hLL; have HNE := Go.Proofs.Ytiomeoihekifeaa.hid hne; have HEB := Go.Proofs.Ytiomeoihekifeaa.hid heb; have HE16 := Go.Proofs.Ytiomeoihekifeaa.hid he16
  clear hn hLL hne heb he16
  obtain ⟨x, hx⟩ : ∃ x, (X.take N)[j]? = some x := ⟨(X.take N)[j]'(by rw [← HLL.out]; exact hlt6), List.getElem?_eq_getElem _⟩
  have hxX : X[j]? = some x := by
    rw [List.getElem?_take] at hx
    split at hx
    · exact hx
    · cases hx
  have hdj : X.drop j = x :: X.drop (j + 1) := by
    obtain ⟨hj1, rfl⟩ := List.getElem?_eq_some_iff.1 hxX
    exact List.drop_eq_getElem_cons hj1
  obtain ⟨bs, os, rfl, hbs, cs, hcs, hcell⟩ := (HLL.out ▸ hsl : Sl .msg wr (fun q => ¬ E q) (.slice A5 (X.take N).length c5) (X.take N)).elem hx
  obtain ⟨vc, vv, vi, vk, rfl, e1, e2, e3, e4, _⟩ := msg_cells hcs
  obtain ⟨Ac, cc, rfl⟩ := e1.shape
  obtain ⟨Av, cv, rfl⟩ := e2.shape
  obtain ⟨Ai, ci, rfl⟩ := e3.shape
  obtain ⟨Ak, ck, rfl⟩ := e4.shape
  have hf := hQ6.first
  have hd1 : decide (0 < (X.drop j).length) = true := decide_eq_true (by rw [hdj]; simp)
  rw [hd1] at hf
  have HDJ := Go.Proofs.Ytiomeoihekifeaa.hid hdj
  have hsz : Rep.msg.size = 27 := rfl
  rw [hsz] at hcell
  have HCELL := Go.Proofs.Ytiomeoihekifeaa.hid hcell; have HCS := Go.Proofs.Ytiomeoihekifeaa.hid hcs; have HB15 := Go.Proofs.Ytiomeoihekifeaa.hid hb15; have HB16 := Go.Proofs.Ytiomeoihekifeaa.hid hb16; have HBD := Go.Proofs.Ytiomeoihekifeaa.hid hbd; have HSL6 := Go.Proofs.Ytiomeoihekifeaa.hid hsl; have HK6 := Go.Proofs.Ytiomeoihekifeaa.hid hk6; have HDS := Go.Proofs.Ytiomeoihekifeaa.hid hds0
  clear hd1 hdj hx hxX hsz hcell hcs hb15 hb16 hbd hsl hk6 hds0 hQ6 e1 e2 e3 e4
  go_wp2_with fail
  refine hf.mono ?_
  rintro e w7 ⟨ds, v', rfl, hm7, hQ7, k7⟩
  rw [HDJ.out, List.headD_cons] at hm7
  rw [HDJ.out, List.tail_cons] at hQ7
  obtain ⟨uc, uv, ui, uk, rfl, f1, f2, f3, f4, _⟩ := msg_cells hm7
  obtain ⟨Bc, dc, rfl⟩ := f1.shape
  obtain ⟨Bv, dv, rfl⟩ := f2.shape
  obtain ⟨Bi, di, rfl⟩ := f3.shape
  obtain ⟨Bk, dk, rfl⟩ := f4.shape
  have HL7 := Go.Proofs.Ytiomeoihekifeaa.hid (MsgL.of hm7)
  have hb16 := k7.heap HB16.out id
  have HB157 := Go.Proofs.Ytiomeoihekifeaa.hid (k7.heap HB15.out id); have HBD7 := Go.Proofs.Ytiomeoihekifeaa.hid (k7.heap HBD.out id); have HSL7 := Go.Proofs.Ytiomeoihekifeaa.hid (HSL6.out.keep k7 (fun _ _ => id))
  have HCS7 := Go.Proofs.Ytiomeoihekifeaa.hid (Rep.msg.keep HCS.out k7 (fun _ _ => id))
  have HCELL7 := Go.Proofs.Ytiomeoihekifeaa.hid (fun i u hu => k7.cell (HCELL.out i u hu) id)
  have HM7 := Go.Proofs.Ytiomeoihekifeaa.hid (Rep.msg.mono (G := fun q => ¬ E q) hm7 (fun q h e => by have := HEB.out q e; omega))
  have HQ7 := Go.Proofs.Ytiomeoihekifeaa.hid hQ7
  have K7 := Go.Proofs.Ytiomeoihekifeaa.hid (HK6.out.trans k7 (fun _ _ f => f.elim))
  have z7 := k7.size
  clear hf k7 hm7 hQ7 f1 f2 f3 f4 HB15 HB16 HBD HSL6 HCS HCELL HK6
  go_upto_region 23 with (first | (refine wpl_storeB (v := .agg (msgCs x (.slice Bc x.value.changes.length dc) (.slice Bv x.votes.length dv) (.slice Bi x.image.length di) (.slice Bk x.verdict.commits.length dk)).toArray) rfl rfl rfl rfl hb16 HL7.out.info (by rw [show (Array.size _) = 27 from HDS.out]; exact HL7.out.fit) HL7.out.oneA ?_; intro w8 hb16' k8 _; replace hb16' := hb16'.trans (HL7.out.whole HDS.out)))
  have hQ8 := HQ7.out.keepE k8 (fun q e => by subst e; exact HEB.out _ HE16.out) (fun q _ e => by subst e; exact HE16.out)
  have hgs : bs ≠ g16 := fun e => hbs (e ▸ HE16.out)
  have HQ8 := Go.Proofs.Ytiomeoihekifeaa.hid hQ8
  have hcs8 := Rep.msg.keep HCS7.out k8 (fun q h e => h (by subst e; exact HE16.out))
  have hm8 := Rep.msg.keep HM7.out k8 (fun q h e => h (by subst e; exact HE16.out))
  have KS := fun w' (hk : Keep (fun _ => False) w8 w') => (sameM_calls (Rep.msg.keep hcs8 hk (fun _ _ => id)) (Rep.msg.keep hm8 hk (fun _ _ => id))).mono (R' := fun e w'' => e = .returned (.bool true) ∧ Keep (fun _ => False) w8 w'') (fun e w'' ⟨h1, h2⟩ => ⟨h1, hk.trans h2 (fun _ _ h => h)⟩)
  have hce8 := fun i u hu => k8.cell (HCELL7.out i u hu) hgs
  have HB158 := Go.Proofs.Ytiomeoihekifeaa.hid (k8.heap HB157.out HNE.out.2.2); have HBD8 := Go.Proofs.Ytiomeoihekifeaa.hid (k8.heap HBD7.out HNE.out.2.1); have HSL8 := Go.Proofs.Ytiomeoihekifeaa.hid (HSL7.out.keep k8 (fun q h e => h (by subst e; exact HE16.out)))
  have K8 := Go.Proofs.Ytiomeoihekifeaa.hid (K7.out.trans k8 (fun q _ e => by subst e; exact HEB.out _ HE16.out))
  have z8 := k8.size
  have HB168 := Go.Proofs.Ytiomeoihekifeaa.hid hb16'
  have hr1 : ∀ w', (∃ p : Gr w8, w' = p.w') → w'.rangeAt bs (os + j * 27) (msgCs x (.slice Ac x.value.changes.length cc) (.slice Av x.votes.length cv) (.slice Ai x.image.length ci) (.slice Ak x.verdict.commits.length ck)) := fun w' ⟨p, e⟩ => e ▸ fun i u hu => p.k.cell (hce8 i u hu) id
  have hr2 : ∀ w', (∃ p : Gr w8, w' = p.w') → w'.rangeAt g16 0 (msgCs x (.slice Bc x.value.changes.length dc) (.slice Bv x.votes.length dv) (.slice Bi x.image.length di) (.slice Bk x.verdict.commits.length dk)) := fun w' ⟨p, e⟩ => e ▸ fun i u hu => p.k.cell (by rw [Nat.zero_add]; exact cell_at hb16' i u (by simpa using hu)) id
  obtain ⟨dM, hu, hd⟩ : ∃ d, Try.prog.underlying 60 = some d ∧ d.isRow = true := ⟨_, Try.underlying60, rfl⟩
  have hi1 : (Try.prog.info? 60).map (·.size) = some (msgCs x (.slice Ac x.value.changes.length cc) (.slice Av x.votes.length cv) (.slice Ai x.image.length ci) (.slice Ak x.verdict.commits.length ck)).length := by kernel_rfl
  have hi2 : (Try.prog.info? 60).map (·.size) = some (msgCs x (.slice Bc x.value.changes.length dc) (.slice Bv x.votes.length dv) (.slice Bi x.image.length di) (.slice Bk x.verdict.commits.length dk)).length := by kernel_rfl
  have HU := Go.Proofs.Ytiomeoihekifeaa.hid hu; have HD := Go.Proofs.Ytiomeoihekifeaa.hid hd; have HI1 := Go.Proofs.Ytiomeoihekifeaa.hid hi1; have HI2 := Go.Proofs.Ytiomeoihekifeaa.hid hi2; have HR1 := Go.Proofs.Ytiomeoihekifeaa.hid hr1; have HR2 := Go.Proofs.Ytiomeoihekifeaa.hid hr2
  clear hu hd hi1 hi2 hr1 hr2 hb16 hb16' hcs8 hm8 hce8 k8 hQ8 hgs
  refine wp_region_gr (by kernel_rfl) (lexB_of (by kernel_rfl)) ?_
  repeat (first
    | (refine wpQuiet_load (ty := 60) rfl rfl (b := bs) (off := os + j * 27) rfl (msgCs x (.slice Ac x.value.changes.length cc) (.slice Av x.votes.length cv) (.slice Ai x.image.length ci) (.slice Ak x.verdict.commits.length ck)) dM HR1.out HU.out HD.out HI1.out ?_; simp only [Act.put, List.setIfInBounds_toArray, List.set_cons_zero, List.set_cons_succ])
    | (refine wpQuiet_load (ty := 60) rfl rfl (b := g16) (off := 0) rfl (msgCs x (.slice Bc x.value.changes.length dc) (.slice Bv x.votes.length dv) (.slice Bi x.image.length di) (.slice Bk x.verdict.commits.length dk)) dM HR2.out HU.out HD.out HI2.out ?_; simp only [Act.put, List.setIfInBounds_toArray, List.set_cons_zero, List.set_cons_succ])
    | go_big_quiet_step (first | (go_at_call 40; exact grOf (KS _ (Gr.k _)))))
  refine wpQuiet_nil ?_
  rintro w9 ⟨⟨w9, hk9⟩, rfl⟩
  clear KS HR1 HR2
  go_wp2_with fail
  exact HHN.out _ w9 (InD.mk (HQ8.out.keepF hk9) (hk9.heap HB158.out id) (hk9.heap HB168.out id) rfl (hk9.heap HBD8.out id) (HSL8.out.keep hk9 (fun _ _ => id)) (K8.out.trans hk9 (fun _ _ f => f.elim)) (by have := hk9.size; omega))
end Go.Proofs.Ytiomeoihekifeaa

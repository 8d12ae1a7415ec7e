/- wapentakelaw18.LeasePlays: the loop's round. -/
import Derived.Test.YtfaifokeenhfkaaLeaseP2
import Derived.Test.YtfaifokeenhfkaaLoop
import Derived.Test.YtfaifokeenhfkaaBlk
import Derived.Test.YtfaifokeenhfkaaGrow
import Derived.Deep.DeepCutAuto
import Derived.Deep.CutBlock
import Derived.Deep.CutRange
namespace Go.Proofs.Ytfaifokeenhfkaa
open Go.RowKit
abbrev deedO (d : Deed) : Obj := .cells #[.int .i64 d.do_, .int .i64 d.id, .int .i64 d.time, .int .i64 d.ballot] 45
/-- Behind a deed: both leases are alike, the deed's cell is as it was. -/
def After (B : Nat) (w0 : World) (G : Nat → Prop) (M : List Int) (vm : Value) (x m gd : Nat) (d : Deed) (w : World) : Prop :=
  ∃ s, TwoL B w x s m s (fun k => k = gd) ∧ w.heap[gd]? = some (deedO d) ∧ Keep (fun q => B ≤ q) w0 w ∧ B ≤ w.heap.size ∧ Row G w vm M.length 1 (M.map I64)
theorem After.mk {B : Nat} {w0 w : World} {G : Nat → Prop} {M : List Int} {vm : Value} {x m gd : Nat} {d : Deed} {s : LeS} (h1 : TwoL B w x s m s (fun k => k = gd)) (h2 : w.heap[gd]? = some (deedO d)) (h3 : Keep (fun q => B ≤ q) w0 w) (h4 : B ≤ w.heap.size) (h5 : Row G w vm M.length 1 (M.map I64)) : After B w0 G M vm x m gd d w := ⟨s, h1, h2, h3, h4, h5⟩
set_option maxRecDepth 20000 in
set_option maxHeartbeats 4000000 in
theorem plays0 {Q : Exit → Act → World → Prop} {v0 v3 v4 v5 v6 v8 v10 v12 v13 v14 v15 v16 v17 v18 v19 v20 v21 v22 v23 v24 v25 v26 v27 v28 v29 v30 v31 v32 v33 v34 v35 v36 v37 v38 v39 v40 v41 v42 v43 v44 v45 v46 v47 v48 v49 v50 v51 v52 v53 v54 v55 v56 v57 v58 v59 v60 v61 v62 v63 v64 v65 v66 v67 v68 v69 v70 v71 v72 v73 v74 v75 v76 v77 v78 v79 v80 v81 v82 v83 v84 v85 v86 v87 v88 v89 v90 v91 v92 v93 v94 v95 v96 v97 v98 v99 v100 v101 v102 v103 v104 v105 v106 v107 v108 v109 v110 v111 v112 v113 v114 v115 v116 v117 v118 v119 v120 v121 v122 v123 v124 v125 v126 v127 v128 v129 v130 v131 v132 v133 v134 v135 v136 v137 v138 v139 v140 v141 v142 v143 v144 v145 v146 v147 v148 v149 v150 v151 v152 v153 v154 v155 v156 v157 v158 v159 v160 v161 v162 v163 v164 v165 v166 v167 v168 v169 v170 v171 v172 v173 v174 v175 v176 v177 v178 v179 v180 v181 v182 v183 v184 v185 v186 v187 v188 v189 v190 v191 v192 v193 v194 v195 v196 v197 v198 v199 v200 v201 v202 v203 v204 v205 v206 v207 v208 v209 v210 v211 v212 v213 v214 v215 v216 v217 v218 v219 v220 v221 v222 v223 v224 v225 v226 : Value} {A : Option Addr} {mM cA n cC x m B k bl ol : Nat} {w0 w : World} {s : LeS} {d : Deed} {M : List Int} {G : Nat → Prop}
    (hlt : k < n) (h200 : n ≤ 200) (hB : B ≤ w.heap.size) (hM : Row G w (.slice A mM cA) M.length 1 (M.map I64)) (hl : M.length ≤ 100) (hTL : TwoL B w x s m s (fun _ => False)) (hkp : Keep (fun q => B ≤ q) w0 w)
    (c0 : w.cell? ⟨bl, ol + k * 4, none⟩ = some (.int .i64 d.do_)) (c1 : w.cell? ⟨bl, ol + k * 4 + 1, none⟩ = some (.int .i64 d.id)) (c2 : w.cell? ⟨bl, ol + k * 4 + 2, none⟩ = some (.int .i64 d.time)) (c3 : w.cell? ⟨bl, ol + k * 4 + 3, none⟩ = some (.int .i64 d.ballot))
    (hid : okI d.id) (hti : okI d.time) (hba : okI d.ballot) (hG : ∀ k, G k → k < B)
    (hn : ∀ (s' : LeS) (w' : World), TwoL B w' x s' m s' (fun _ => False) ∧ Keep (fun q => B ≤ q) w0 w' ∧ B ≤ w'.heap.size → ∀ {u6 u12 u13 u14 u15 u16 u17 u55 u56 u57 u58 u59 u60 u61 u62 u63 u64 u65 u66 u67 u68 u69 u70 u71 u72 u73 u74 u75 u76 u77 u78 u79 u80 u81 u82 u83 u84 u85 u86 u87 u88 u89 u90 u91 u92 u93 u94 u95 u96 u97 u98 u99 u100 u101 u102 u103 u104 u105 u106 u107 u108 u109 u110 u111 u112 u113 u114 u115 u116 u117 u118 u119 u120 u121 u122 u123 u124 u125 u126 u127 u128 u129 u130 u131 u132 u133 u134 u135 u136 u137 u138 u139 u140 u141 u142 u143 u144 u145 u146 u147 u148 u149 u150 u151 u152 u153 u154 u155 u156 u157 u158 u159 u160 u161 u162 u163 u164 u165 u166 u167 u168 u169 u170 u171 u172 u173 u174 u175 u176 u177 u178 u179 u180 u181 u182 u183 u184 u185 u186 u187 u188 u189 u190 u191 u192 u193 u194 u195 u196 u197 u198 u199 u200 u201 u202 u203 u204 u205 u206 u207 u208 u209 u210 u211 u212 u213 u214 u215 u216 u217 u218 u219 u220 u221 u222 u223 u224 u225 u226 : Value}, Q .normal ⟨#[v0, .slice A mM cA, .slice (some ⟨bl, ol, none⟩) n cC, v3, v4, v5, u6, .pointer (some ⟨x, 0, none⟩), v8, .pointer (some ⟨m, 0, none⟩), v10, .int .i64 ((k : Int) + 1), u12, u13, u14, u15, u16, u17, v18, v19, v20, v21, v22, v23, v24, v25, v26, v27, v28, v29, v30, v31, v32, v33, v34, v35, v36, v37, v38, v39, v40, v41, v42, v43, v44, v45, v46, v47, v48, v49, v50, v51, v52, v53, v54, u55, u56, u57, u58, u59, u60, u61, u62, u63, u64, u65, u66, u67, u68, u69, u70, u71, u72, u73, u74, u75, u76, u77, u78, u79, u80, u81, u82, u83, u84, u85, u86, u87, u88, u89, u90, u91, u92, u93, u94, u95, u96, u97, u98, u99, u100, u101, u102, u103, u104, u105, u106, u107, u108, u109, u110, u111, u112, u113, u114, u115, u116, u117, u118, u119, u120, u121, u122, u123, u124, u125, u126, u127, u128, u129, u130, u131, u132, u133, u134, u135, u136, u137, u138, u139, u140, u141, u142, u143, u144, u145, u146, u147, u148, u149, u150, u151, u152, u153, u154, u155, u156, u157, u158, u159, u160, u161, u162, u163, u164, u165, u166, u167, u168, u169, u170, u171, u172, u173, u174, u175, u176, u177, u178, u179, u180, u181, u182, u183, u184, u185, u186, u187, u188, u189, u190, u191, u192, u193, u194, u195, u196, u197, u198, u199, u200, u201, u202, u203, u204, u205, u206, u207, u208, u209, u210, u211, u212, u213, u214, u215, u216, u217, u218, u219, u220, u221, u222, u223, u224, u225, u226], []⟩ w')
    : Code.wp Try.prog (loopBody Try.f6 0) Q ⟨#[v0, .slice A mM cA, .slice (some ⟨bl, ol, none⟩) n cC, v3, v4, v5, v6, .pointer (some ⟨x, 0, none⟩), v8, .pointer (some ⟨m, 0, none⟩), v10, .int .i64 k, v12, v13, v14, v15, v16, v17, v18, v19, v20, v21, v22, v23, v24, v25, v26, v27, v28, v29, v30, v31, v32, v33, v34, v35, v36, v37, v38, v39, v40, v41, v42, v43, v44, v45, v46, v47, v48, v49, v50, v51, v52, v53, v54, v55, v56, v57, v58, v59, v60, v61, v62, v63, v64, v65, v66, v67, v68, v69, v70, v71, v72, v73, v74, v75, v76, v77, v78, v79, v80, v81, v82, v83, v84, v85, v86, v87, v88, v89, v90, v91, v92, v93, v94, v95, v96, v97, v98, v99, v100, v101, v102, v103, v104, v105, v106, v107, v108, v109, v110, v111, v112, v113, v114, v115, v116, v117, v118, v119, v120, v121, v122, v123, v124, v125, v126, v127, v128, v129, v130, v131, v132, v133, v134, v135, v136, v137, v138, v139, v140, v141, v142, v143, v144, v145, v146, v147, v148, v149, v150, v151, v152, v153, v154, v155, v156, v157, v158, v159, v160, v161, v162, v163, v164, v165, v166, v167, v168, v169, v170, v171, v172, v173, v174, v175, v176, v177, v178, v179, v180, v181, v182, v183, v184, v185, v186, v187, v188, v189, v190, v191, v192, v193, v194, v195, v196, v197, v198, v199, v200, v201, v202, v203, v204, v205, v206, v207, v208, v209, v210, v211, v212, v213, v214, v215, v216, v217, v218, v219, v220, v221, v222, v223, v224, v225, v226], []⟩ w := by
  conv => arg 2; whnf
  have HM := Go.Proofs.Ytfaifokeenhfkaa.hid hM
  have HHN := Go.Proofs.Ytfaifokeenhfkaa.hid @hn
  obtain ⟨do_, id, time, ballot⟩ := d
  simp only at c0 c1 c2 c3 hid hti hba
  clear hM hn
  go_upto_region 15 with fail
  have hT2 : TwoL B (w.alloc (deedO ⟨do_, id, time, ballot⟩)) x s m s (fun k => k = w.heap.size) := hTL.withNew ((Keep.refl _ w).alloc _) (fun k e => by subst e; simp)
  have hd2 := heap_alloc_new w (deedO ⟨do_, id, time, ballot⟩)
  have hk2 : Keep (fun q => B ≤ q) w0 (w.alloc (deedO ⟨do_, id, time, ballot⟩)) := hkp.alloc _
  have hb2 : B ≤ (w.alloc (deedO ⟨do_, id, time, ballot⟩)).heap.size := by simp; omega
  have hM2 := HM.out.keep ((Keep.refl (fun _ => False) w).alloc (deedO ⟨do_, id, time, ballot⟩)) (fun _ _ => fun h => h)
  have HBD := Go.Proofs.Ytfaifokeenhfkaa.hid (fun q (e : q = w.heap.size) => by omega : ∀ q, q = w.heap.size → B ≤ q)
  have ho : ∀ (wa wb : World), Keep (Out B (fun k => k = w.heap.size)) wa wb → Keep (fun q => B ≤ q) w0 wa → Keep (fun q => B ≤ q) w0 wb := fun _ _ h1 h2 => h2.trans h1 (fun b hb e => e.1)
  have HO := Go.Proofs.Ytfaifokeenhfkaa.hid ho
  generalize w.alloc (deedO ⟨do_, id, time, ballot⟩) = w2 at *
  generalize hgd : w.heap.size = gd at *
  clear hTL hkp c0 c1 c2 c3 hB hgd ho
  have HM2 := Go.Proofs.Ytfaifokeenhfkaa.hid hM2
  have c0 := cell_at hd2 0 (.int .i64 do_) rfl
  have c1 := cell_at hd2 1 (.int .i64 id) rfl
  have c2 := cell_at hd2 2 (.int .i64 time) rfl
  have c3 := cell_at hd2 3 (.int .i64 ballot) rfl
  have HD2 := Go.Proofs.Ytfaifokeenhfkaa.hid hd2
  have HK2 := Go.Proofs.Ytfaifokeenhfkaa.hid hk2
  have HB2 := Go.Proofs.Ytfaifokeenhfkaa.hid hb2
  have HT2 := Go.Proofs.Ytfaifokeenhfkaa.hid hT2
  clear hM2 hd2 hk2 hb2 hT2
  go_upto_block 2 with fail
  go_cut [13, 14] from 65 to 102 (fun s13 s14 wx => s13 = .bool true ∧ After B w0 G M (.slice A mM cA) x m gd ⟨do_, id, time, ballot⟩ wx)
  case first =>
    by_cases h3 : do_ ≤ 3
    · have hgv := HT2.out.give id time hid
      generalize hbb : giveB s id time = bb at *
      have HBB := Go.Proofs.Ytfaifokeenhfkaa.hid hbb
      clear hbb
      go_wp2_with fail
      refine hgv.mono ?_
      rintro e w3 ⟨rfl, hT3, k3⟩
      have hd3 := k3.heap HD2.out (fun q => q.2 rfl)
      have e1 := cell_at hd3 1 (.int .i64 id) rfl
      have e2 := cell_at hd3 2 (.int .i64 time) rfl
      have hrg := hT3.rgive id time
      rw [HBB.out] at hrg
      have K3 := Go.Proofs.Ytfaifokeenhfkaa.hid k3
      have HD3 := Go.Proofs.Ytfaifokeenhfkaa.hid hd3
      clear hgv hd3 k3 hT3 c0 c1 c2 c3
      go_wp2_with fail
      refine hrg.mono ?_
      rintro e w4 ⟨rfl, hT4, k4⟩
      have HA := Go.Proofs.Ytfaifokeenhfkaa.hid (After.mk (M := M) (G := G) (d := ⟨do_, id, time, ballot⟩) hT4 (k4.heap HD3.out (fun q => q.2 rfl)) (HO.out _ _ k4 (HO.out _ _ K3.out HK2.out)) (by have := HB2.out; have := K3.out.size; have := k4.size; omega) ((HM2.out.keep K3.out (fun k hk q => by have := hG k hk; have := q.1; omega)).keep k4 (fun k hk q => by have := hG k hk; have := q.1; omega)))
      clear hrg hT4 k4
      go_wp2_with fail
      go_meet
      exact ⟨by simp, HA.out⟩
    by_cases h6 : do_ ≤ 6
    · have hgv := HT2.out.bind ballot time
      go_wp2_with fail
      refine hgv.mono ?_
      rintro e w3 ⟨rfl, hT3, k3⟩
      have hd3 := k3.heap HD2.out (fun q => q.2 rfl)
      have e2 := cell_at hd3 2 (.int .i64 time) rfl
      have e3 := cell_at hd3 3 (.int .i64 ballot) rfl
      have hrg := hT3.rbind ballot time
      have K3 := Go.Proofs.Ytfaifokeenhfkaa.hid k3
      have HD3 := Go.Proofs.Ytfaifokeenhfkaa.hid hd3
      clear hgv hd3 k3 hT3 c0 c1 c2 c3
      go_wp2_with fail
      refine hrg.mono ?_
      rintro e w4 ⟨rfl, hT4, k4⟩
      have HA := Go.Proofs.Ytfaifokeenhfkaa.hid (After.mk (M := M) (G := G) (d := ⟨do_, id, time, ballot⟩) hT4 (k4.heap HD3.out (fun q => q.2 rfl)) (HO.out _ _ k4 (HO.out _ _ K3.out HK2.out)) (by have := HB2.out; have := K3.out.size; have := k4.size; omega) ((HM2.out.keep K3.out (fun k hk q => by have := hG k hk; have := q.1; omega)).keep k4 (fun k hk q => by have := hG k hk; have := q.1; omega)))
      clear hrg hT4 k4
      go_wp2_with fail
      go_meet
      exact ⟨rfl, HA.out⟩
    · have hgv := HT2.out.drop HB2.out
      go_wp2_with fail
      refine hgv.mono ?_
      rintro e w3 ⟨rfl, hT3, k3⟩
      have hd3 := k3.heap HD2.out (fun q => q.2 rfl)
      have hb3 : B ≤ w3.heap.size := by have := HB2.out; have := k3.size; omega
      have hrg := hT3.rdrop hb3
      have K3 := Go.Proofs.Ytfaifokeenhfkaa.hid k3
      have HD3 := Go.Proofs.Ytfaifokeenhfkaa.hid hd3
      clear hgv hd3 k3 hT3 c0 c1 c2 c3
      go_wp2_with fail
      refine hrg.mono ?_
      rintro e w4 ⟨rfl, hT4, k4⟩
      have HA := Go.Proofs.Ytfaifokeenhfkaa.hid (After.mk (M := M) (G := G) (d := ⟨do_, id, time, ballot⟩) hT4 (k4.heap HD3.out (fun q => q.2 rfl)) (HO.out _ _ k4 (HO.out _ _ K3.out HK2.out)) (by have := k4.size; omega) ((HM2.out.keep K3.out (fun k hk q => by have := hG k hk; have := q.1; omega)).keep k4 (fun k hk q => by have := hG k hk; have := q.1; omega)))
      clear hrg hT4 k4
      go_wp2_with fail
      go_meet
      exact ⟨rfl, HA.out⟩
  case rest =>
    revert wc
    intro w1 hcut
    obtain ⟨rfl, s1, hT, hd, hk, hb, hMc⟩ := hcut
    clear c0 c1 c2 c3 HD2 HK2 HB2 HT2 HM2 HO HM
    have c1 := cell_at hd 1 (.int .i64 id) rfl
    have hgn := hT.given id hid
    obtain ⟨sm, hsm⟩ : ∃ sm, sm = (look s1.given id).isSome := ⟨_, rfl⟩
    obtain ⟨a, ha⟩ : ∃ a, a = (look s1.given id).getD 0 := ⟨_, rfl⟩
    rw [← hsm, ← ha] at hgn
    obtain ⟨b, cap, hcells⟩ := hT.cells
    have c3 := (hcells w1 (Keep.refl _ _)).1
    have hfin : (sm = true ∧ ∃ i : Nat, i < 15 ∧ id = (i : Int) ∧ 0 ≤ a ∧ a ≤ 1099511627776 ∧ ∀ w', Keep (fun _ => False) w1 w' → w'.cell? ⟨b, i, none⟩ = some (.int .i64 a)) ∨ (sm = false ∧ (id < 0 ∨ 15 ≤ id ∨ ∃ i : Nat, i < 15 ∧ id = (i : Int) ∧ w1.cell? ⟨b, i, none⟩ = some (.int .i64 (-1)))) := by
      cases hl : look s1.given id with
      | none =>
        right
        refine ⟨by rw [hsm, hl]; rfl, ?_⟩
        by_cases q1 : id < 0
        · exact .inl q1
        by_cases q2 : 15 ≤ id
        · exact .inr (.inl q2)
        · have hi : ((id.toNat : Nat) : Int) = id := by omega
          have hc := (hcells w1 (Keep.refl _ _)).2.2 id.toNat (by omega)
          rw [hi, hl] at hc
          exact .inr (.inr ⟨id.toNat, by omega, hi.symm, hc⟩)
      | some y =>
        left
        obtain ⟨g1, g2, g3, g4⟩ := hT.okS.giv _ (look_mem hl)
        simp only at g1 g2 g3 g4
        have hi : ((id.toNat : Nat) : Int) = id := by omega
        have hay : a = y := by rw [ha, hl]; rfl
        refine ⟨by rw [hsm, hl]; rfl, id.toNat, by omega, hi.symm, by omega, by omega, fun w' hk => ?_⟩
        have hc := (hcells w' hk).2.2 id.toNat (by omega)
        rw [hi, hl] at hc
        rw [hay]
        exact hc
    have HFIN := Go.Proofs.Ytfaifokeenhfkaa.hid hfin
    have HCELLS := Go.Proofs.Ytfaifokeenhfkaa.hid hcells
    have HT := Go.Proofs.Ytfaifokeenhfkaa.hid hT
    have HD := Go.Proofs.Ytfaifokeenhfkaa.hid hd
    have HK := Go.Proofs.Ytfaifokeenhfkaa.hid hk
    have HB := Go.Proofs.Ytfaifokeenhfkaa.hid hb
    have HMC := Go.Proofs.Ytfaifokeenhfkaa.hid hMc
    clear hfin hcells hT hd hk hb hMc hsm ha
    go_wp2_with fail
    refine hgn.mono ?_
    rintro e w' ⟨rfl, rfl⟩
    clear hgn
    go_upto_region 25 with fail
    go_cut [17] from 110 to 128 (fun s17 wx => s17 = .bool sm ∧ Keep (fun _ => False) w1 wx)
    case first =>
      rcases HFIN.out with ⟨rfl, i, hi, rfl, ha0, _, hci⟩ | ⟨rfl, q | q | ⟨i, hi, rfl, hci⟩⟩
      · have ci := hci w1 (Keep.refl _ _)
        have d1 : decide ((i : Int) < 15) = true := decide_eq_true (by omega)
        have d2 : decide (0 ≤ a) = true := decide_eq_true ha0
        clear hci
        go_quiet (fail)
        go_wp2_with fail
        go_meet
        exact ⟨rfl, (Keep.refl _ w1).drewN _⟩
      · have d1 : decide (0 ≤ id) = false := decide_eq_false (by omega)
        go_quiet (fail)
        go_wp2_with fail
        go_meet
        exact ⟨rfl, (Keep.refl _ w1).drewN _⟩
      · have d1 : decide (0 ≤ id) = true := decide_eq_true (by omega)
        have d2 : decide (id < 15) = false := decide_eq_false (by omega)
        go_quiet (fail)
        go_wp2_with fail
        go_meet
        exact ⟨rfl, (Keep.refl _ w1).drewN _⟩
      · have ci := hci
        have d1 : decide ((i : Int) < 15) = true := decide_eq_true (by omega)
        clear hci
        go_quiet (fail)
        go_wp2_with fail
        go_meet
        exact ⟨rfl, (Keep.refl _ w1).drewN _⟩
    case rest =>
      revert wc
      intro w3 hcut
      obtain ⟨rfl, hk17⟩ := hcut
      have HT3 := Go.Proofs.Ytfaifokeenhfkaa.hid (HT.out.keepF hk17)
      have hd3 := hk17.heap HD.out (fun h => h)
      obtain ⟨KS, KRS, KU, KH, KRH, KF, KRF⟩ := HT3.out.reads (HMC.out.keep hk17 (fun _ _ h => h)) (by omega)
      have hcl : ∀ w', Keep (fun _ => False) w3 w' → (w'.cell? ⟨gd, 1, none⟩ = some (.int .i64 id) ∧ w'.cell? ⟨gd, 2, none⟩ = some (.int .i64 time) ∧ w'.cell? ⟨gd, 3, none⟩ = some (.int .i64 ballot)) ∧ w'.cell? ⟨m, 3, none⟩ = some (.slice (some ⟨b, 0, none⟩) 15 cap) ∧ w'.cell? ⟨m, 6, none⟩ = some (.int .i64 s1.till) := fun w' hk' => by
        have hd' := hk'.heap hd3 (fun h => h)
        have hq := HCELLS.out w' (hk17.trans hk' (fun _ _ h => h))
        exact ⟨⟨cell_at hd' 1 _ rfl, cell_at hd' 2 _ rfl, cell_at hd' 3 _ rfl⟩, hq.1, hq.2.1⟩
      have hK3 : Keep (fun q => B ≤ q) w0 w3 := HK.out.trans hk17 (fun b hb h => h.elim)
      have hB3 : B ≤ w3.heap.size := by have := HB.out; have := hk17.size; omega
      have HEND := Go.Proofs.Ytfaifokeenhfkaa.hid (fun (w' : World) (hk' : Keep (fun _ => False) w3 w') => (⟨(HT3.out.keepF hk').withNew (Keep.refl _ _) (fun _ h => h.elim), hK3.trans hk' (fun b hb h => h.elim), by have := hk'.size; omega⟩ : (TwoL B w' x s1 m s1 fun _ => False) ∧ Keep (fun q => B ≤ q) w0 w' ∧ B ≤ w'.heap.size))
      have hkd : Keep (fun _ => False) w3 w3.drew := (Keep.refl _ w3).drew
      obtain ⟨sh, hsh⟩ : ∃ sh, sh = shortP s1 := ⟨_, rfl⟩
      obtain ⟨tl, htl⟩ : ∃ tl, tl = s1.till := ⟨_, rfl⟩
      rw [← hsh] at KS KRS
      rw [← htl] at KU hcl
      have HFIN3 : (sm = true ∧ ∃ i : Nat, i < 15 ∧ id = (i : Int) ∧ ∀ w', Keep (fun _ => False) w3 w' → w'.cell? ⟨b, i, none⟩ = some (.int .i64 a)) ∨ sm = false := by
        rcases HFIN.out with ⟨q, i, hi, hid, _, _, hci⟩ | ⟨q, _⟩
        · exact .inl ⟨q, i, hi, hid, fun w' hk' => hci w' (hk17.trans hk' (fun _ _ h => h))⟩
        · exact .inr q
      clear HFIN HT3 HD HK HB HMC HCELLS hk17 hd3 hK3 hB3 hsh htl c1 c3 HT
      have c1 := fun p : Gr w3 => (hcl p.w' p.k).1.1
      have c2 := fun p : Gr w3 => (hcl p.w' p.k).1.2.1
      have c3 := fun p : Gr w3 => (hcl p.w' p.k).1.2.2
      have m3 := fun p : Gr w3 => (hcl p.w' p.k).2.1
      have m6 := fun p : Gr w3 => (hcl p.w' p.k).2.2
      clear hcl hkd
      rcases HFIN3 with ⟨rfl, i, hi, rfl, hci⟩ | rfl
      · have c5 := fun p : Gr w3 => hci p.w' p.k
        clear hci
        have hi1 : (0 : Int) ≤ (i : Int) := by omega
        have hi2 : (i : Int) < 15 := by omega
        go_wp2_with fail
        refine wp_region_gr (by kernel_rfl) (lexB_of (by kernel_rfl)) ?_
        repeat (go_big_quiet_step (first
          | (go_at_call 24; exact grOf (KS _ (Gr.k _)))
          | (go_at_call 25; exact grOf (KRS _ (Gr.k _)))
          | (go_at_call 17; exact grOf (KU _ (Gr.k _)))
          | (go_at_call 12; exact grOf (KH _ _ (Gr.k _) (by first | assumption | exact okI_wrap _ | exact okI_wrap64 _)))
          | (go_at_call 26; exact grOf (KRH _ _ (Gr.k _) (by first | assumption | exact okI_wrap _ | exact okI_wrap64 _)))
          | (go_at_call 13; exact grOf (KF _ _ _ (Gr.k _)))
          | (go_at_call 27; exact grOf (KRF _ _ _ (Gr.k _)))))
        refine wpQuiet_nil ?_
        rintro w6 ⟨⟨w6, hk6⟩, rfl⟩
        clear KS KRS KU KH KRH KF KRF
        go_wp2_with fail
        exact HHN.out s1 w6 (HEND.out w6 hk6)
      · clear hba
        go_wp2_with fail
        refine wp_region_gr (by kernel_rfl) (lexB_of (by kernel_rfl)) ?_
        repeat (go_big_quiet_step (first
          | (go_at_call 24; exact grOf (KS _ (Gr.k _)))
          | (go_at_call 25; exact grOf (KRS _ (Gr.k _)))
          | (go_at_call 17; exact grOf (KU _ (Gr.k _)))
          | (go_at_call 12; exact grOf (KH _ _ (Gr.k _) (by first | assumption | exact okI_wrap _ | exact okI_wrap64 _)))
          | (go_at_call 26; exact grOf (KRH _ _ (Gr.k _) (by first | assumption | exact okI_wrap _ | exact okI_wrap64 _)))
          | (go_at_call 13; exact grOf (KF _ _ _ (Gr.k _)))
          | (go_at_call 27; exact grOf (KRF _ _ _ (Gr.k _)))))
        refine wpQuiet_nil ?_
        rintro w6 ⟨⟨w6, hk6⟩, rfl⟩
        clear KS KRS KU KH KRH KF KRF
        go_wp2_with fail
        exact HHN.out s1 w6 (HEND.out w6 hk6)
end Go.Proofs.Ytfaifokeenhfkaa

/- wapentakelaw24.NetPlays: the loop's round. -/
import Derived.Test.YtofljidmdabkcaaGreatNetPlI
import Derived.Deep.DeepCutAuto
import Derived.Deep.CutBlock
import Derived.Deep.CutRange
namespace Go.Proofs.YtofljidmdabkcaaGreat
open Go.RowKit Go.Lib
def ndCs (d : NDeed) (ms : List Value) : List Value := .int .i64 d.do_ :: .int .i64 d.n :: ms
abbrev zD : Value := .agg (ndCs ⟨0, 0, msgZ⟩ (msgCs msgZ nilV nilV nilV nilV)).toArray
abbrev msgO (cs : List Value) : Obj := .cells cs.toArray 42
/-- Behind a deed: both answered alike and told alike; what is on its way is alike. -/
def AfterN (B : Nat) (w0 : World) (g r : Nat) (most : Int) (g11 g12 : Nat) (E : Nat → Prop) (s13 s14 : Value) (w : World) : Prop :=
  ∃ (F G : Nat → Prop) (L : List Msg) (m : Msg) (cs ds : List Value) (b : Bool), s13 = .bool b ∧ s14 = .bool b ∧ PQ B E F G w g r most L L ∧ InvN L ∧ w.heap[g11]? = some (msgO cs) ∧ w.heap[g12]? = some (msgO ds) ∧
    Rep.msg.cells w (fun q => ¬ E q) m cs ∧ Rep.msg.cells w (fun q => ¬ E q) m ds ∧ Keep (fun q => B ≤ q) w0 w ∧ B ≤ w.heap.size
theorem AfterN.mk {B : Nat} {w0 w : World} {g r : Nat} {most : Int} {g11 g12 : Nat} {E F G : Nat → Prop} {L : List Msg} {m : Msg} {cs ds : List Value} (b : Bool) (h1 : PQ B E F G w g r most L L) (hi : InvN L) (h2 : w.heap[g11]? = some (msgO cs)) (h3 : w.heap[g12]? = some (msgO ds)) (h4 : Rep.msg.cells w (fun q => ¬ E q) m cs) (h5 : Rep.msg.cells w (fun q => ¬ E q) m ds) (h6 : Keep (fun q => B ≤ q) w0 w) (h7 : B ≤ w.heap.size) :
    AfterN B w0 g r most g11 g12 E (.bool b) (.bool b) w := ⟨F, G, L, m, cs, ds, b, rfl, rfl, h1, hi, h2, h3, h4, h5, h6, h7⟩
def E3 (a b c : Nat) (k : Nat) : Prop := k = a ∨ k = b ∨ k = c
theorem nd_one {d : NDeed} {ms : List Value} (h : ∀ u ∈ ms, u.oneCell' = true) : ∀ u ∈ ndCs d ms, u.oneCell' = true := by
  intro u hu
  simp only [ndCs, List.mem_cons] at hu
  rcases hu with rfl | rfl | hu
  · rfl
  · rfl
  · exact h u hu
theorem msgZ_any (w : World) (F : Nat → Prop) : Rep.msg.cells w F msgZ (msgCs msgZ nilV nilV nilV nilV) := msgZ_cells w F
theorem hI {p : Prop} (h : p) : Hid p := hid h
set_option maxRecDepth 20000 in
set_option maxHeartbeats 4000000 in
theorem nplays0 {Q : Exit → Act → World → Prop} {v0 v2 v3 v4 v6 v8 v10 v11 v12 v13 v14 v15 v16 v17 v18 v19 v20 v21 v22 v23 v24 v25 v26 v27 v28 v29 v30 v31 v32 v33 v34 v35 v36 v37 v38 v39 v40 v41 v42 v43 v44 v45 v46 v47 v48 v49 v50 v51 v52 v53 v54 v55 v56 v57 v58 v59 v60 v61 v62 v63 v64 v65 v66 v67 v68 v69 v70 v71 v72 v73 v74 v75 v76 v77 v78 v79 v80 v81 v82 v83 v84 v85 v86 v87 v88 v89 v90 v91 v92 v93 v94 v95 v96 v97 v98 v99 v100 v101 v102 v103 v104 v105 v106 v107 v108 v109 v110 v111 v112 v113 v114 v115 v116 v117 v118 v119 v120 v121 v122 v123 v124 v125 v126 v127 v128 v129 v130 v131 v132 v133 v134 v135 v136 v137 v138 v139 v140 v141 v142 v143 v144 v145 v146 v147 v148 v149 v150 v151 : Value} {n cC g r B k bl ol : Nat} {most : Int} {w0 w : World} {F G : Nat → Prop} {L : List Msg} {d : NDeed} {ms : List Value}
    (hlt : k < n) (h200 : n ≤ 200) (hB : B ≤ w.heap.size) (hQ : PQ B (fun _ => False) F G w g r most L L) (hinv : InvN L) (hkp : Keep (fun q => B ≤ q) w0 w)
    (hcell : w.rangeAt bl (ol + k * 29) (ndCs d ms)) (hms : Rep.msg.cells w (fun q => q < B) d.m ms) (hfit : d.m.Fits) (hfew : Few d.m) (hon : okI d.n)
    (hn : ∀ (F' G' : Nat → Prop) (L' : List Msg) (w' : World), PQ B (fun _ => False) F' G' w' g r most L' L' ∧ InvN L' ∧ Keep (fun q => B ≤ q) w0 w' ∧ B ≤ w'.heap.size → ∀ {u4 u10 u11 u12 u13 u14 u15 u16 u39 u40 u41 u42 u43 u44 u45 u46 u47 u48 u49 u50 u51 u52 u53 u54 u55 u56 u57 u58 u59 u60 u61 u62 u63 u64 u65 u66 u67 u68 u69 u70 u71 u72 u73 u74 u75 u76 u77 u78 u79 u80 u81 u82 u83 u84 u85 u86 u87 u88 u89 u90 u91 u92 u93 u94 u95 u96 u97 u98 u99 u100 u101 u102 u103 u104 u105 u106 u107 u108 u109 u110 u111 u112 u113 u114 u115 u116 u117 u118 u119 u120 u121 u122 u123 u124 u125 u126 u127 u128 u129 u130 u131 u132 u133 u134 u135 u136 u137 u138 u139 u140 u141 u142 u143 u144 u145 u146 u147 u148 u149 u150 u151 : Value}, Q .normal ⟨#[v0, .slice (some ⟨bl, ol, none⟩) n cC, v2, v3, u4, .pointer (some ⟨g, 0, none⟩), v6, .pointer (some ⟨r, 0, none⟩), v8, .int .i64 ((k : Int) + 1), u10, u11, u12, u13, u14, u15, u16, v17, v18, v19, v20, v21, v22, v23, v24, v25, v26, v27, v28, v29, v30, v31, v32, v33, v34, v35, v36, v37, v38, u39, u40, u41, u42, u43, u44, u45, u46, u47, u48, u49, u50, u51, u52, u53, u54, u55, u56, u57, u58, u59, u60, u61, u62, u63, u64, u65, u66, u67, u68, u69, u70, u71, u72, u73, u74, u75, u76, u77, u78, u79, u80, u81, u82, u83, u84, u85, u86, u87, u88, u89, u90, u91, u92, u93, u94, u95, u96, u97, u98, u99, u100, u101, u102, u103, u104, u105, u106, u107, u108, u109, u110, u111, u112, u113, u114, u115, u116, u117, u118, u119, u120, u121, u122, u123, u124, u125, u126, u127, u128, u129, u130, u131, u132, u133, u134, u135, u136, u137, u138, u139, u140, u141, u142, u143, u144, u145, u146, u147, u148, u149, u150, u151], []⟩ w')
    (hpan : ∀ (c : _) (a : Act) (d : Option Tmp) (v : Value) (w : World), Q (.panic c) (a.put d v) w → Q (.panic c) a w)
    : Code.wp Tryz.prog (loopBody Tryz.f3 0) Q ⟨#[v0, .slice (some ⟨bl, ol, none⟩) n cC, v2, v3, v4, .pointer (some ⟨g, 0, none⟩), v6, .pointer (some ⟨r, 0, none⟩), v8, .int .i64 k, v10, v11, v12, v13, v14, v15, v16, v17, v18, v19, v20, v21, v22, v23, v24, v25, v26, v27, v28, v29, v30, v31, v32, v33, v34, v35, v36, v37, v38, v39, v40, v41, v42, v43, v44, v45, v46, v47, v48, v49, v50, v51, v52, v53, v54, v55, v56, v57, v58, v59, v60, v61, v62, v63, v64, v65, v66, v67, v68, v69, v70, v71, v72, v73, v74, v75, v76, v77, v78, v79, v80, v81, v82, v83, v84, v85, v86, v87, v88, v89, v90, v91, v92, v93, v94, v95, v96, v97, v98, v99, v100, v101, v102, v103, v104, v105, v106, v107, v108, v109, v110, v111, v112, v113, v114, v115, v116, v117, v118, v119, v120, v121, v122, v123, v124, v125, v126, v127, v128, v129, v130, v131, v132, v133, v134, v135, v136, v137, v138, v139, v140, v141, v142, v143, v144, v145, v146, v147, v148, v149, v150, v151], []⟩ w := by
  conv => arg 2; whnf
  have HHN := hI @hn; have HPAN := hI hpan
  have HMS := hI hms; have HFI := hI hfit; have HFEW := hI hfew; have HON := hI hon; have HINV := hI hinv
  have HL := hI (MsgL.of hms)
  have HQ0 := hI hQ; have HKP := hI hkp
  obtain ⟨dD, hu, hd⟩ : ∃ d, Tryz.prog.underlying 44 = some d ∧ d.isRow = true := ⟨_, Tryz.underlying44, rfl⟩
  have hlen29 : (ndCs d ms).length = 29 := by simp [ndCs, HL.out.len]
  have hi : (Tryz.prog.info? 44).map (·.size) = some (ndCs d ms).length := by rw [hlen29]; kernel_rfl
  have hi2 : (Tryz.prog.info? 44).map (·.size) = some (Value.agg (ndCs d ms).toArray).cells.size := by simp only [Value.cells, List.size_toArray]; exact hi
  have hone : ∀ u ∈ (Value.agg (ndCs d ms).toArray).cells.toList, u.oneCell' = true := by simp only [Value.cells]; exact nd_one HL.out.one
  have hfit29 : 0 + (Value.agg (ndCs d ms).toArray).cells.size ≤ zD.cells.size := by simp only [Value.cells, List.size_toArray, hlen29]; decide
  have HU := hI hu; have HD := hI hd; have HI := hI hi; have HI2 := hI hi2; have HO := hI hone; have HF29 := hI hfit29; have HCE := hI hcell; have HL29 := hI hlen29
  have hB0 := hB
  clear hn hpan hms hfit hfew hon hinv hQ hkp hu hd hi hi2 hone hfit29 hcell hlen29
  go_upto_block 2 with (first
    | (refine wpList_load_mid rfl _ _ rfl bl (ol + k * 29) rfl (ndCs d ms) dD HCE.out HU.out HD.out HI.out ?_)
    | (refine wpl_allocB (z := zD) rfl rfl (by kernel_rfl) ?_; intro gd w1 hgd hbd k1 s1; have HGD := hI hgd; have hqd : w.heap.size ≤ gd := Nat.le_of_eq hgd.symm; have hqd2 : gd < w1.heap.size := lt_heap hbd; clear hgd s1)
    | (refine wpl_storeB (v := .agg (ndCs d ms).toArray) rfl rfl rfl rfl hbd HI2.out HF29.out HO.out ?_; intro w2 hbd2 k2 s2; have HS2 := hI s2; clear s2)
    | (have _q := hb11; refine wpl_allocB (z := zM) rfl rfl (by kernel_rfl) ?_; intro g12 w4 hg12 hb12 k4 s4; have hq12 : w3.heap.size ≤ g12 := Nat.le_of_eq hg12.symm; have hq12' : g12 < w4.heap.size := lt_heap hb12; clear hg12 s4)
    | (refine wpl_allocB (z := zM) rfl rfl (by kernel_rfl) ?_; intro g11 w3 hg11 hb11 k3 s3; have hq11 : w2.heap.size ≤ g11 := Nat.le_of_eq hg11.symm; have hq11' : g11 < w3.heap.size := lt_heap hb11; clear hg11 s3))
  have z2 : w2.heap.size = w1.heap.size := HS2.out
  have z3 := k3.size
  have z4 := k4.size
  have k01 : Keep (fun _ => False) w w4 := (((k1.trans k2 (fun b hb e => by omega)).trans k3 (fun _ _ f => f)).trans k4 (fun _ _ f => f))
  have hQ4 := PQ.withE (E := E3 gd g11 g12) HQ0.out hB k01 (fun q e => by rcases e with e | e | e <;> omega)
  replace hbd2 : w2.heap[gd]? = some (.cells (ndCs d ms).toArray 44) := by
    rw [hbd2]
    congr 2
    exact spl_whole _ _ (by simp only [Value.cells, List.size_toArray, HL29.out]; decide)
  have hbd4 := k4.heap (k3.heap hbd2 id) id
  have hb11' := k4.heap hb11 id
  have hEB : ∀ q, E3 gd g11 g12 q → B ≤ q := fun q e => by rcases e with e | e | e <;> omega
  have hE11 : E3 gd g11 g12 g11 := .inr (.inl rfl)
  have hE12 : E3 gd g11 g12 g12 := .inr (.inr rfl)
  have hEd : E3 gd g11 g12 gd := .inl rfl
  have hne : gd ≠ g11 ∧ gd ≠ g12 ∧ g11 ≠ g12 := by omega
  have hb4 : B ≤ w4.heap.size := by omega
  have HQ := hI hQ4; have HBD := hI hbd4; have HB11 := hI hb11'; have HB12 := hI hb12; have HM4 := hI (Rep.msg.keep HMS.out k01 (fun _ _ => id)); have HK4 := hI ((HKP.out.trans k01 (fun _ _ f => f.elim)))
  have HNE := hI hne; have HEB := hI hEB; have HE11 := hI hE11; have HE12 := hI hE12; have HED := hI hEd
  clear k1 k2 k3 k4 k01 hQ4 hbd2 hbd4 hb11 hb11' hb12 hbd z2 z3 z4 hne hEB hE11 hE12 hEd hqd hqd2 hq11 hq11' hq12 hq12' HS2 HGD HQ0 HKP HMS hB0 HCE hB
  generalize hEe : E3 gd g11 g12 = E at *
  have HEE := hI hEe
  clear hEe
  go_cut [13, 14] from 49 to 102 (fun s13 s14 wx => AfterN B w0 g r most g11 g12 E s13 s14 wx)
  case first =>
    by_cases h4 : d.do_ ≤ 4
    · have hbd := HBD.out
      have hp := nsend_calls HQ.out.n HM4.out (fun q hq => by omega) HFI.out
      have c0 := cell_at hbd 0 (.int .i64 d.do_) rfl
      go_wp2_with (first | (refine wpl_loadA (ty := 42) (o := 2) rfl rfl rfl hbd (by kernel_rfl) (by kernel_rfl) ms (by simp [ndCs, HL.out.take]) HL.out.len ?_))
      refine hp.mono ?_
      rintro e w5 ⟨rfl, hn5, k5⟩
      have hQ5 := HQ.out.step1 hb4 hn5 k5
      have hbd5 := k5.heap hbd (fun e => (HQ.out.f _ e).2 HED.out)
      have hb11 := k5.heap HB11.out (fun e => (HQ.out.f _ e).2 HE11.out)
      have hb12 := k5.heap HB12.out (fun e => (HQ.out.f _ e).2 HE12.out)
      have K5 := hI (HK4.out.trans k5 (fun b hb e => (HQ.out.f _ e).1))
      have HM5 := hI (Rep.msg.keep HM4.out k5 (fun b hb e => by have := (HQ.out.f _ e).1; omega))
      have z5 := k5.size
      have hp2 := rsend_calls hQ5.d HM5.out (fun q hq => by omega) HFI.out HFEW.out
      have HQ5 := hI hQ5; have HB115 := hI hb11; have HB125 := hI hb12
      clear hp k5 hbd hb11 hb12 hn5 hQ5 c0
      go_wp2_with (first | (refine wpl_loadA (ty := 42) (o := 2) rfl rfl rfl hbd5 (by kernel_rfl) (by kernel_rfl) ms (by simp [ndCs, HL.out.take]) HL.out.len ?_))
      refine hp2.mono ?_
      rintro e w6 ⟨rfl, hn6, k6⟩
      have hQ6 := HQ5.out.step2 (by omega) hn6 k6
      have hb11 := k6.heap HB115.out (fun e => (HQ5.out.g' _ e).2 HE11.out)
      have hb12 := k6.heap HB125.out (fun e => (HQ5.out.g' _ e).2 HE12.out)
      have HA := hI (AfterN.mk (g11 := g11) (g12 := g12) (sendB most L d.m) hQ6 (HINV.out.send HFEW.out) hb11 hb12 (msgZ_any _ _) (msgZ_any _ _) (K5.out.trans k6 (fun b hb e => (HQ5.out.g' _ e).1)) (by have := k6.size; omega))
      clear hp2 k6 hn6 hQ6 hb11 hb12 hbd5
      go_wp2_with fail
      go_meet
      exact HA.out
    by_cases h6 : d.do_ ≤ 6
    · have c0 := cell_at HBD.out 0 (.int .i64 d.do_) rfl
      have c1 := cell_at HBD.out 1 (.int .i64 d.n) rfl
      have hp := ntake_calls HQ.out.n HON.out
      go_wp2_with fail
      refine hp.mono ?_
      rintro e w5 ⟨cs, rfl, hm5, hn5, k5⟩
      have hQ5 := HQ.out.step0 hn5 k5
      have hbd := k5.heap HBD.out (fun e => (HQ.out.f _ e).2 HED.out)
      have hb11 := k5.heap HB11.out (fun e => (HQ.out.f _ e).2 HE11.out)
      have hb12 := k5.heap HB12.out (fun e => (HQ.out.f _ e).2 HE12.out)
      have HB125 := hI hb12; have HBD5 := hI hbd
      have K5 := hI (HK4.out.trans k5 (fun b hb e => (HQ.out.f _ e).1))
      have z5 := k5.size
      have HL5 := hI (MsgL.of hm5)
      have HM5 := hI (Rep.msg.mono (G := F) hm5 (fun q h => h.1))
      have HQ5 := hI hQ5
      obtain ⟨b, hb⟩ : ∃ b, b = decide (0 < L.length) := ⟨_, rfl⟩
      rw [← hb]
      have HBB := hI hb
      clear hp k5 hm5 hQ5 hb12 hb hn5 c0 c1 hbd
      go_wp2_with (first | (refine wpl_storeB (v := .agg cs.toArray) rfl rfl rfl rfl hb11 HL5.out.info HL5.out.fit HL5.out.oneA ?_; intro w6 hb11' k6 _; replace hb11' := hb11'.trans (HL5.out.whole rfl); have c1 := cell_at (k6.heap HBD5.out HNE.out.1) 1 (.int .i64 d.n) rfl))
      have hQ6 := HQ5.out.keepE k6 (fun q e => by subst e; exact HE11.out)
      have HM6 := hI (Rep.msg.keep HM5.out k6 (fun q h e => (HQ5.out.f _ h).2 (by subst e; exact HE11.out)))
      have hb12 := k6.heap HB125.out (fun e => HNE.out.2.2 e.symm)
      have K6 := hI (K5.out.trans k6 (fun q _ e => by subst e; exact HEB.out _ HE11.out))
      have z6 := k6.size
      have hf := rtake_calls hQ6.d HON.out
      have HB116 := hI hb11'; have HB126 := hI hb12; have HQ6 := hI hQ6
      clear k6 hQ6 hb11 hb11' hb12
      go_wp2_with fail
      refine hf.mono ?_
      rintro e w7 ⟨ds, rfl, hm7, hn7, k7⟩
      have hQ7 := HQ6.out.step2 (by omega) hn7 k7
      have HL7 := hI (MsgL.of hm7)
      have hb12 := k7.heap HB126.out (fun e => (HQ6.out.g' _ e).2 HE12.out)
      have hb11 := k7.heap HB116.out (fun e => (HQ6.out.g' _ e).2 HE11.out)
      have HB117 := hI hb11
      have HM67 := hI (Rep.msg.mono (G := fun q => ¬ E q) (Rep.msg.keep HM6.out k7 (fun q h e => HQ6.out.apart q h e)) (fun q h => (HQ6.out.f q h).2))
      have HM7 := hI (Rep.msg.mono (G := fun q => ¬ E q) hm7 (fun q h => (HQ6.out.g' q h.1).2))
      have HQ7 := hI hQ7
      have K7 := hI (K6.out.trans k7 (fun q _ e => (HQ6.out.g' q e).1))
      have z7 := k7.size
      rw [← HBB.out]
      clear hf k7 hm7 hQ7 hb11 hn7 c1
      go_wp2_with (first | (refine wpl_storeB (v := .agg ds.toArray) rfl rfl rfl rfl hb12 HL7.out.info HL7.out.fit HL7.out.oneA ?_; intro w8 hb12' k8 _; replace hb12' := hb12'.trans (HL7.out.whole rfl)))
      have hQ8 := HQ7.out.keepE k8 (fun q e => by subst e; exact HE12.out)
      have hb11 := k8.heap HB117.out HNE.out.2.2
      have HA := hI (AfterN.mk (g11 := g11) (g12 := g12) b hQ8 HINV.out.cut hb11 hb12' (Rep.msg.keep HM67.out k8 (fun q h e => h (by subst e; exact HE12.out))) (Rep.msg.keep HM7.out k8 (fun q h e => h (by subst e; exact HE12.out))) (K7.out.trans k8 (fun q _ e => by subst e; exact HEB.out _ HE12.out)) (by have := k8.size; omega))
      clear k8 hQ8 hb11 hb12 hb12'
      go_wp2_with fail
      go_meet
      exact HA.out
    by_cases h7 : d.do_ = 7
    · have h7' : (d.do_ == 7) = true := by simp [h7]
      have H7 := hI h7
      clear h7
      have c0 := cell_at HBD.out 0 (.int .i64 d.do_) rfl
      have c1 := cell_at HBD.out 1 (.int .i64 d.n) rfl
      have hp := nlose_calls HQ.out.n HON.out
      go_wp2_with fail
      refine hp.mono ?_
      rintro e w5 ⟨rfl, hn5, k5⟩
      have hQ5 := HQ.out.step0 hn5 k5
      have hbd := k5.heap HBD.out (fun e => (HQ.out.f _ e).2 HED.out)
      have hb11 := k5.heap HB11.out (fun e => (HQ.out.f _ e).2 HE11.out)
      have hb12 := k5.heap HB12.out (fun e => (HQ.out.f _ e).2 HE12.out)
      have HB115 := hI hb11; have HB125 := hI hb12
      have K5 := hI (HK4.out.trans k5 (fun b hb e => (HQ.out.f _ e).1))
      have z5 := k5.size
      have c15 := cell_at hbd 1 (.int .i64 d.n) rfl
      have hf := rtake_calls hQ5.d HON.out
      have HQ5 := hI hQ5
      clear hp k5 hQ5 hb11 hb12 hn5 c0 c1 hbd
      go_wp2_with fail
      refine hf.mono ?_
      rintro e w6 ⟨ds, rfl, hm6, hn6, k6⟩
      clear hm6
      have hQ6 := HQ5.out.step2 (by omega) hn6 k6
      have hb11 := k6.heap HB115.out (fun e => (HQ5.out.g' _ e).2 HE11.out)
      have hb12 := k6.heap HB125.out (fun e => (HQ5.out.g' _ e).2 HE12.out)
      have HA := hI (AfterN.mk (g11 := g11) (g12 := g12) (decide (0 < L.length)) hQ6 (HINV.out.cut) hb11 hb12 (msgZ_any _ _) (msgZ_any _ _) (K5.out.trans k6 (fun b hb e => (HQ5.out.g' _ e).1)) (by have := k6.size; omega))
      clear hf k6 hn6 hQ6 hb11 hb12 c15
      go_wp2_with fail
      go_meet
      exact HA.out
    have h7' : (d.do_ == 7) = false := by simp [h7]
    clear h7
    have c0 := cell_at HBD.out 0 (.int .i64 d.do_) rfl
    have c1 := cell_at HBD.out 1 (.int .i64 d.n) rfl
    have hp := ntwice_calls HQ.out.n HON.out
    go_wp2_with fail
    refine hp.mono ?_
    rintro e w5 ⟨he, hn5, k5⟩
    rw [HINV.out.tw] at he hn5
    subst he
    have hQ5 := HQ.out.step1 hb4 hn5 k5
    have hbd := k5.heap HBD.out (fun e => (HQ.out.f _ e).2 HED.out)
    have hb11 := k5.heap HB11.out (fun e => (HQ.out.f _ e).2 HE11.out)
    have hb12 := k5.heap HB12.out (fun e => (HQ.out.f _ e).2 HE12.out)
    have HB115 := hI hb11; have HB125 := hI hb12
    have K5 := hI (HK4.out.trans k5 (fun b hb e => (HQ.out.f _ e).1))
    have z5 := k5.size
    have c15 := cell_at hbd 1 (.int .i64 d.n) rfl
    have hf := rtwice_calls hQ5.d HON.out (fun m hm => (HINV.out m hm).2)
    have HQ5 := hI hQ5
    clear hp k5 hQ5 hb11 hb12 hn5 c0 c1 hbd
    go_wp2_with fail
    refine hf.mono ?_
    rintro e w6 ⟨rfl, hn6, k6⟩
    have hQ6 := HQ5.out.step2 (by omega) hn6 k6
    have hb11 := k6.heap HB115.out (fun e => (HQ5.out.g' _ e).2 HE11.out)
    have hb12 := k6.heap HB125.out (fun e => (HQ5.out.g' _ e).2 HE12.out)
    have HA := hI (AfterN.mk (g11 := g11) (g12 := g12) (rtwB most L) hQ6 (HINV.out.twice) hb11 hb12 (msgZ_any _ _) (msgZ_any _ _) (K5.out.trans k6 (fun b hb e => (HQ5.out.g' _ e).1)) (by have := k6.size; omega))
    clear hf k6 hn6 hQ6 hb11 hb12 c15
    go_wp2_with fail
    go_meet
    exact HA.out
  case rest =>
    revert wc
    intro w5 hcut
    obtain ⟨F', G', L', m, cs, ds, b, rfl, rfl, hQ, hinv, hb11, hb12, hm1, hm2, hk, hb5⟩ := hcut
    have hall := nall_calls hQ.n
    have HQ5 := hI hQ; have HK5 := hI hk; have HINV5 := hI hinv; have HM1 := hI hm1; have HM2 := hI hm2; have HB115 := hI hb11; have HB125 := hI hb12
    have HL1 := hI (MsgL.of hm1); have HL2 := hI (MsgL.of hm2)
    clear hQ hk hinv hm1 hm2 hb11 hb12 HQ HBD HB11 HB12 HM4 HK4 hb4 HNE HEB HEE HE11 HE12 HED HINV HU HD HI HI2 HO HF29 HL29
    go_wp2_with fail
    refine hall.mono ?_
    rintro e w6 ⟨v6, rfl, hs6, k6⟩
    obtain ⟨A6, c6, rfl⟩ := hs6.shape
    obtain ⟨nl, hnl⟩ : ∃ nl, nl = L'.length := ⟨_, rfl⟩
    rw [← hnl] at hs6 ⊢
    have HS6 := hI hs6; have K6 := hI k6; have HNL := hI hnl
    have kd : Keep (fun _ => False) w5 w6.drew := k6.drew
    have hQ6 := HQ5.out.keepF kd
    have hmx : nl ≤ 100000 := by have := hQ6.n.le; omega
    obtain ⟨vr, csr, hr⟩ := hQ6.d
    obtain ⟨Ar, cr, rfl⟩ := hr.shape
    rw [← hnl] at hr
    have HR := hI hr.obj
    have HB116 := hI (kd.heap HB115.out id); have HB126 := hI (kd.heap HB125.out id)
    have hsm := sameM_calls (Rep.msg.keep HM1.out kd (fun _ _ => id)) (Rep.msg.keep HM2.out kd (fun _ _ => id))
    have HSM := hI (hsm.mono (R' := fun e w' => ∃ u, e = .returned u ∧ (u = .bool true ∧ Keep (fun _ => False) w6.drew w')) (fun e w' h => ⟨_, h.1, rfl, h.2⟩))
    have HQ6 := hI hQ6
    have HLEN := hI (fun w' (hk' : Keep (fun _ => False) w6.drew w') => (nlen_calls (HQ6.out.n.keepF hk')).mono (R' := fun e w'' => ∃ u, e = .returned u ∧ (u = .int .i64 nl ∧ w' = w'')) (fun e w'' h => ⟨_, h.1, by rw [hnl], h.2⟩))
    have EG := hI (enters_of Tryz.func16 (by kernel_rfl) rfl)
    have EL := hI (enters_of Tryz.func17 (by kernel_rfl) rfl)
    have hS : Keep (fun _ => False) w6.drew w6.drew := Keep.refl _ _
    clear hall hs6 k6 hnl kd hQ6 hr hsm
    go_wp2_with fail
    cases b <;> (
      refine wp_region_X (fun y => Keep (fun _ => False) w6.drew y) [] (by kernel_rfl) hS (fun _ => ?_)
      refine wpAnyX_take (i := 0) [2, 3, 4, 5, 6, 7, 8, 9, 10, 11, 12, 13, 14, 15, 16, 17, 18, 19, 20, 21, 22, 23, 24, 25, 26, 27, 28] (some 104) (v := ?_) rfl (by rfl) (by kernel_rfl) (by kernel_rfl) (by kernel_rfl) (by kernel_rfl) (fun c _ _ h => HPAN.out c _ _ _ _ h) (Or.inl ⟨by rfl, ?_⟩) hS ?_
      rotate_left
      focus (intro w' hSw; (try dsimp only at hSw); go_simp; try with_reducible rfl)
      simp only [Act.put, List.setIfInBounds_toArray, List.set_cons_zero, List.set_cons_succ]
      refine wpAnyX_take (i := 1) [2, 3, 4, 5, 6, 7, 8, 9, 10, 11, 12, 13, 14, 15, 16, 17, 18, 19, 20, 21, 22, 23, 24, 25, 26, 27, 28] (some 105) (v := ?_) rfl (by rfl) (by kernel_rfl) (by kernel_rfl) (by kernel_rfl) (by kernel_rfl) (fun c _ _ h => HPAN.out c _ _ _ _ h) (Or.inl ⟨by rfl, ?_⟩) hS ?_
      rotate_left
      focus (intro w' hSw; (try dsimp only at hSw); go_simp; try with_reducible rfl)
      simp only [Act.put, List.setIfInBounds_toArray, List.set_cons_zero, List.set_cons_succ]
      refine wpAnyX_take (i := 2) [3, 4, 5, 6, 7, 8, 9, 10, 11, 12, 13, 14, 15, 16, 17, 18, 19, 20, 21, 22, 23, 24, 25, 26, 27, 28] (some 106) (v := ?_) rfl (by rfl) (by kernel_rfl) (by kernel_rfl) (by kernel_rfl) (by kernel_rfl) (fun c _ _ h => HPAN.out c _ _ _ _ h) (Or.inl ⟨by rfl, ?_⟩) hS ?_
      rotate_left
      focus (intro w' hSw; (try dsimp only at hSw); go_simp; try with_reducible rfl)
      simp only [Act.put, List.setIfInBounds_toArray, List.set_cons_zero, List.set_cons_succ]
      refine wpAnyX_take (i := 3) [4, 5, 6, 7, 8, 9, 10, 11, 12, 13, 14, 15, 16, 17, 18, 19, 20, 21, 22, 23, 24, 25, 26, 27, 28] (some 107) (v := ?_) rfl (by rfl) (by kernel_rfl) (by kernel_rfl) (by kernel_rfl) (by kernel_rfl) (fun c _ _ h => HPAN.out c _ _ _ _ h) (Or.inl ⟨by rfl, ?_⟩) hS ?_
      rotate_left
      focus (intro w' hSw; (try dsimp only at hSw); go_simp; try with_reducible rfl)
      simp only [Act.put, List.setIfInBounds_toArray, List.set_cons_zero, List.set_cons_succ]
      refine wpAnyX_take (i := 4) [6, 7, 8, 9, 10, 11, 12, 13, 14, 15, 16, 17, 18, 19, 20, 21, 22, 23, 24, 25, 26, 27, 28] (some 108) (v := _) rfl (by rfl) (by kernel_rfl) (by kernel_rfl) (by kernel_rfl) (by kernel_rfl) (fun c _ _ h => HPAN.out c _ _ _ _ h) (yieldsIf_row (n := 27) (vs := cs) (by rfl) rfl (by rfl) (by kernel_rfl) (by kernel_rfl) HL1.out.len (fun y hy => range_of (n := 27) (hy.heap HB116.out id) _ (by simpa using HL1.out.take))) hS ?_
      simp only [Act.put, List.setIfInBounds_toArray, List.set_cons_zero, List.set_cons_succ]
      refine wpAnyX_take (i := 5) [6, 7, 8, 9, 10, 11, 12, 13, 14, 15, 16, 17, 18, 19, 20, 21, 22, 23, 24, 25, 26, 27, 28] (some 109) (v := _) rfl (by rfl) (by kernel_rfl) (by kernel_rfl) (by kernel_rfl) (by kernel_rfl) (fun c _ _ h => HPAN.out c _ _ _ _ h) (yieldsIf_row (n := 27) (vs := ds) (by rfl) rfl (by rfl) (by kernel_rfl) (by kernel_rfl) HL2.out.len (fun y hy => range_of (n := 27) (hy.heap HB126.out id) _ (by simpa using HL2.out.take))) hS ?_
      simp only [Act.put, List.setIfInBounds_toArray, List.set_cons_zero, List.set_cons_succ]
      refine wpAnyX_one (i := 6) (by kernel_rfl) rfl (fun K hK => ?_)
      refine step_call (some 110) (by rfl) (by rfl) rfl EG.out (by rfl) HSM.out ?_
      rintro u w7 ⟨rfl, k7⟩
      refine hK _ _ (k7) ?_
      clear hK K
      simp only [Act.put, List.setIfInBounds_toArray, List.set_cons_zero, List.set_cons_succ]
      refine wpAnyX_take (i := 7) [8, 9, 10, 11, 12, 13, 14, 15, 16, 17, 18, 19, 20, 21, 22, 23, 24, 25, 26, 27, 28] (some 111) (v := ?_) rfl (by rfl) (by kernel_rfl) (by kernel_rfl) (by kernel_rfl) (by kernel_rfl) (fun c _ _ h => HPAN.out c _ _ _ _ h) (Or.inl ⟨by rfl, ?_⟩) k7 ?_
      rotate_left
      focus (intro w' hSw; (try dsimp only at hSw); go_simp; try with_reducible rfl)
      simp only [Act.put, List.setIfInBounds_toArray, List.set_cons_zero, List.set_cons_succ]
      refine wpAnyX_take (i := 8) [9, 10, 11, 12, 13, 14, 15, 16, 17, 18, 19, 20, 21, 22, 23, 24, 25, 26, 27, 28] (some 112) (v := ?_) rfl (by rfl) (by kernel_rfl) (by kernel_rfl) (by kernel_rfl) (by kernel_rfl) (fun c _ _ h => HPAN.out c _ _ _ _ h) (Or.inl ⟨by rfl, ?_⟩) k7 ?_
      rotate_left
      focus (intro w' hSw; (try dsimp only at hSw); go_simp; try with_reducible rfl)
      simp only [Act.put, List.setIfInBounds_toArray, List.set_cons_zero, List.set_cons_succ]
      refine wpAnyX_take (i := 9) [10, 11, 12, 13, 14, 15, 16, 17, 18, 19, 20, 21, 22, 23, 24, 25, 26, 27, 28] (some 113) (v := ?_) rfl (by rfl) (by kernel_rfl) (by kernel_rfl) (by kernel_rfl) (by kernel_rfl) (fun c _ _ h => HPAN.out c _ _ _ _ h) (Or.inl ⟨by rfl, ?_⟩) k7 ?_
      rotate_left
      focus (intro w' hSw; (try dsimp only at hSw); go_simp; try with_reducible rfl)
      simp only [Act.put, List.setIfInBounds_toArray, List.set_cons_zero, List.set_cons_succ]
      refine wpAnyX_take (i := 10) [11, 17, 18, 19, 20, 21, 22, 23, 24, 25, 26, 27, 28] (some 114) (v := ?_) rfl (by rfl) (by kernel_rfl) (by kernel_rfl) (by kernel_rfl) (by kernel_rfl) (fun c _ _ h => HPAN.out c _ _ _ _ h) (Or.inl ⟨by rfl, ?_⟩) k7 ?_
      rotate_left
      focus (intro w' hSw; (try dsimp only at hSw); go_simp; try with_reducible rfl)
      simp only [Act.put, List.setIfInBounds_toArray, List.set_cons_zero, List.set_cons_succ]
      refine wpAnyX_take (i := 12) [13, 14, 15, 16, 17, 18, 19, 20, 21, 22, 23, 24, 25, 26, 27, 28] (some 116) (v := ?_) rfl (by rfl) (by kernel_rfl) (by kernel_rfl) (by kernel_rfl) (by kernel_rfl) (fun c _ _ h => HPAN.out c _ _ _ _ h) (Or.inl ⟨by rfl, ?_⟩) k7 ?_
      rotate_left
      focus (intro w' hSw; (try dsimp only at hSw); go_simp; try with_reducible rfl)
      simp only [Act.put, List.setIfInBounds_toArray, List.set_cons_zero, List.set_cons_succ]
      refine wpAnyX_take (i := 13) [14, 15, 16, 17, 18, 19, 20, 21, 22, 23, 24, 25, 26, 27, 28] (some 117) (v := ?_) rfl (by rfl) (by kernel_rfl) (by kernel_rfl) (by kernel_rfl) (by kernel_rfl) (fun c _ _ h => HPAN.out c _ _ _ _ h) (Or.inl ⟨by rfl, ?_⟩) k7 ?_
      rotate_left
      focus (intro w' hSw; (try dsimp only at hSw); go_simp; try with_reducible rfl)
      simp only [Act.put, List.setIfInBounds_toArray, List.set_cons_zero, List.set_cons_succ]
      refine wpAnyX_take (i := 14) [15, 16, 17, 18, 19, 20, 21, 22, 23, 24, 25, 26, 27, 28] (some 118) (v := ?_) rfl (by rfl) (by kernel_rfl) (by kernel_rfl) (by kernel_rfl) (by kernel_rfl) (fun c _ _ h => HPAN.out c _ _ _ _ h) (Or.inl ⟨by rfl, ?_⟩) k7 ?_
      rotate_left
      focus (intro w' hSw; (try dsimp only at hSw); go_simp; try with_reducible rfl)
      simp only [Act.put, List.setIfInBounds_toArray, List.set_cons_zero, List.set_cons_succ]
      refine wpAnyX_take (i := 15) [16, 17, 18, 19, 20, 21, 22, 23, 24, 25, 26, 27, 28] (some 119) (v := _) rfl (by rfl) (by kernel_rfl) (by kernel_rfl) (by kernel_rfl) (by kernel_rfl) (fun c _ _ h => HPAN.out c _ _ _ _ h) (yieldsIf_cell (v := .slice Ar nl cr) (by rfl) rfl (by rfl) (by kernel_rfl) (fun y hy => cell_at (hy.heap HR.out id) 1 _ rfl)) k7 ?_
      simp only [Act.put, List.setIfInBounds_toArray, List.set_cons_zero, List.set_cons_succ]
      refine wpAnyX_take (i := 16) [17, 18, 19, 20, 21, 22, 23, 24, 25, 26, 27, 28] (some 120) (v := ?_) rfl (by rfl) (by kernel_rfl) (by kernel_rfl) (by kernel_rfl) (by kernel_rfl) (fun c _ _ h => HPAN.out c _ _ _ _ h) (Or.inl ⟨by rfl, ?_⟩) k7 ?_
      rotate_left
      focus (intro w' hSw; (try dsimp only at hSw); go_simp; try with_reducible rfl)
      simp only [Act.put, List.setIfInBounds_toArray, List.set_cons_zero, List.set_cons_succ]
      refine wpAnyX_one (i := 11) (by kernel_rfl) rfl (fun K hK => ?_)
      refine step_call (some 115) (by rfl) (by rfl) rfl EL.out (by rfl) (HLEN.out _ k7) ?_
      rintro u w8 ⟨rfl, rfl⟩
      refine hK _ _ (k7) ?_
      clear hK K
      simp only [Act.put, List.setIfInBounds_toArray, List.set_cons_zero, List.set_cons_succ]
      refine wpAnyX_take (i := 17) [18, 19, 20, 21, 22, 23, 24, 25, 26, 27, 28] (some 121) (v := ?_) rfl (by rfl) (by kernel_rfl) (by kernel_rfl) (by kernel_rfl) (by kernel_rfl) (fun c _ _ h => HPAN.out c _ _ _ _ h) (Or.inl ⟨by rfl, ?_⟩) k7 ?_
      rotate_left
      focus (intro w' hSw; (try dsimp only at hSw); go_simp; try with_reducible rfl)
      simp only [Act.put, List.setIfInBounds_toArray, List.set_cons_zero, List.set_cons_succ]
      refine wpAnyX_take (i := 18) [19, 20, 21, 22, 23, 24, 25, 26, 27, 28] (some 122) (v := ?_) rfl (by rfl) (by kernel_rfl) (by kernel_rfl) (by kernel_rfl) (by kernel_rfl) (fun c _ _ h => HPAN.out c _ _ _ _ h) (Or.inl ⟨by rfl, ?_⟩) k7 ?_
      rotate_left
      focus (intro w' hSw; (try dsimp only at hSw); go_simp; try with_reducible rfl)
      simp only [Act.put, List.setIfInBounds_toArray, List.set_cons_zero, List.set_cons_succ]
      refine wpAnyX_take (i := 19) [20, 21, 22, 23, 24, 25, 26, 27, 28] (some 123) (v := ?_) rfl (by rfl) (by kernel_rfl) (by kernel_rfl) (by kernel_rfl) (by kernel_rfl) (fun c _ _ h => HPAN.out c _ _ _ _ h) (Or.inl ⟨by rfl, ?_⟩) k7 ?_
      rotate_left
      focus (intro w' hSw; (try dsimp only at hSw); go_simp; try with_reducible rfl)
      simp only [Act.put, List.setIfInBounds_toArray, List.set_cons_zero, List.set_cons_succ]
      refine wpAnyX_take (i := 20) [21, 27, 28] (some 124) (v := ?_) rfl (by rfl) (by kernel_rfl) (by kernel_rfl) (by kernel_rfl) (by kernel_rfl) (fun c _ _ h => HPAN.out c _ _ _ _ h) (Or.inl ⟨by rfl, ?_⟩) k7 ?_
      rotate_left
      focus (intro w' hSw; (try dsimp only at hSw); go_simp; try with_reducible rfl)
      simp only [Act.put, List.setIfInBounds_toArray, List.set_cons_zero, List.set_cons_succ]
      refine wpAnyX_take (i := 21) [27, 28] (some 125) (v := ?_) rfl (by rfl) (by kernel_rfl) (by kernel_rfl) (by kernel_rfl) (by kernel_rfl) (fun c _ _ h => HPAN.out c _ _ _ _ h) (Or.inl ⟨by rfl, ?_⟩) k7 ?_
      rotate_left
      focus (intro w' hSw; (try dsimp only at hSw); go_simp; try with_reducible rfl)
      simp only [Act.put, List.setIfInBounds_toArray, List.set_cons_zero, List.set_cons_succ]
      refine wpAnyX_take (i := 22) [23, 24, 25, 26, 27, 28] (some 126) (v := ?_) rfl (by rfl) (by kernel_rfl) (by kernel_rfl) (by kernel_rfl) (by kernel_rfl) (fun c _ _ h => HPAN.out c _ _ _ _ h) (Or.inl ⟨by rfl, ?_⟩) k7 ?_
      rotate_left
      focus (intro w' hSw; (try dsimp only at hSw); go_simp; try with_reducible rfl)
      simp only [Act.put, List.setIfInBounds_toArray, List.set_cons_zero, List.set_cons_succ]
      refine wpAnyX_take (i := 23) [24, 25, 26, 27, 28] (some 127) (v := ?_) rfl (by rfl) (by kernel_rfl) (by kernel_rfl) (by kernel_rfl) (by kernel_rfl) (fun c _ _ h => HPAN.out c _ _ _ _ h) (Or.inl ⟨by rfl, ?_⟩) k7 ?_
      rotate_left
      focus (intro w' hSw; (try dsimp only at hSw); go_simp; try with_reducible rfl)
      simp only [Act.put, List.setIfInBounds_toArray, List.set_cons_zero, List.set_cons_succ]
      refine wpAnyX_take (i := 24) [25, 26, 27, 28] (some 128) (v := ?_) rfl (by rfl) (by kernel_rfl) (by kernel_rfl) (by kernel_rfl) (by kernel_rfl) (fun c _ _ h => HPAN.out c _ _ _ _ h) (Or.inl ⟨by rfl, ?_⟩) k7 ?_
      rotate_left
      focus (intro w' hSw; (try dsimp only at hSw); go_simp; try with_reducible rfl)
      simp only [Act.put, List.setIfInBounds_toArray, List.set_cons_zero, List.set_cons_succ]
      refine wpAnyX_take (i := 25) [26, 27, 28] (some 129) (v := _) rfl (by rfl) (by kernel_rfl) (by kernel_rfl) (by kernel_rfl) (by kernel_rfl) (fun c _ _ h => HPAN.out c _ _ _ _ h) (yieldsIf_cell (v := .slice Ar nl cr) (by rfl) rfl (by rfl) (by kernel_rfl) (fun y hy => cell_at (hy.heap HR.out id) 1 _ rfl)) k7 ?_
      simp only [Act.put, List.setIfInBounds_toArray, List.set_cons_zero, List.set_cons_succ]
      refine wpAnyX_take (i := 26) [27, 28] (some 130) (v := ?_) rfl (by rfl) (by kernel_rfl) (by kernel_rfl) (by kernel_rfl) (by kernel_rfl) (fun c _ _ h => HPAN.out c _ _ _ _ h) (Or.inl ⟨by rfl, ?_⟩) k7 ?_
      rotate_left
      focus (intro w' hSw; (try dsimp only at hSw); go_simp; try with_reducible rfl)
      simp only [Act.put, List.setIfInBounds_toArray, List.set_cons_zero, List.set_cons_succ]
      refine wpAnyX_take (i := 27) [28] (some 131) (v := ?_) rfl (by rfl) (by kernel_rfl) (by kernel_rfl) (by kernel_rfl) (by kernel_rfl) (fun c _ _ h => HPAN.out c _ _ _ _ h) (Or.inl ⟨by rfl, ?_⟩) k7 ?_
      rotate_left
      focus (intro w' hSw; (try dsimp only at hSw); go_simp; try with_reducible rfl)
      simp only [Act.put, List.setIfInBounds_toArray, List.set_cons_zero, List.set_cons_succ]
      refine wpAnyX_take (i := 28) [] (some 132) (v := ?_) rfl (by rfl) (by kernel_rfl) (by kernel_rfl) (by kernel_rfl) (by kernel_rfl) (fun c _ _ h => HPAN.out c _ _ _ _ h) (Or.inl ⟨by rfl, ?_⟩) k7 ?_
      rotate_left
      focus (intro w' hSw; (try dsimp only at hSw); go_simp; try with_reducible rfl)
      simp only [Act.put, List.setIfInBounds_toArray, List.set_cons_zero, List.set_cons_succ]
      refine wpAnyX_done (by kernel_rfl) ?_ _
      have HK7 := hI k7
      clear k7 hS HLEN HSM
      go_wp2_with fail
      go_loopw [16] (fun s16 wr => ∃ (j : Nat), j ≤ nl ∧ s16 = .int .i64 j ∧ Keep (fun _ => False) w7 wr) (fun s16 _ => nl - (intOf s16).toNat)
      case atStart => exact ⟨0, Nat.zero_le _, rfl, Keep.refl _ _⟩
      case round =>
        obtain ⟨j, hj, rfl, hrel⟩ := hrel
        have kr := HK7.out.trans hrel (fun _ _ f => f)
        by_cases hlt6 : j < nl
        · refine nplays1 hlt6 hmx HNL.out (HS6.out.keep ((Keep.refl (fun _ => False) w6).drew.trans kr (fun _ _ f => f)) (fun _ _ => id)) (HQ6.out.d.keepF kr) ?_ (fun c _ _ _ _ h => HPAN.out c _ _ _ _ h)
          intro w9 hr9
          intros
          go_wp2_with fail
          exact ⟨⟨j + 1, by omega, by simp, hrel.trans hr9 (fun _ _ f => f)⟩, by simp [intOf]; omega⟩
        · obtain rfl : nl = j := by omega
          go_wp2_with fail
          refine HHN.out _ _ _ _ ⟨(HQ6.out.keepF kr).noE, HINV5.out, ((HK5.out.trans K6.out.drew (fun _ _ f => f.elim)).trans kr (fun _ _ f => f.elim)), ?_⟩
          have := K6.out.drew.size
          have := kr.size
          omega)
end Go.Proofs.YtofljidmdabkcaaGreat

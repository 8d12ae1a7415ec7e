/- wapentakelaw20.BoxOrders: the walk. -/
import Derived.Test.YtiomeoihekifeaaBoxN
import Derived.Test.YtiomeoihekifeaaHas
import Derived.Test.YtiomeoihekifeaaLoop
namespace Go.Proofs.Ytiomeoihekifeaa
open Go.RowKit Go.Conc
theorem and7 (x : Int) : ∃ k : Nat, k ≤ 7 ∧ bits .and .i64 x 7 = (k : Int) := by
  have h : (BitVec.ofInt 64 x &&& 7#64).toNat ≤ 7 := by rw [BitVec.toNat_and]; exact Nat.and_le_right
  have e : bits .and .i64 x 7 = IntKind.i64.wrap ((BitVec.ofInt 64 x &&& 7#64).toNat : Int) := rfl
  refine ⟨_, h, ?_⟩
  rw [e]
  generalize (BitVec.ofInt 64 x &&& 7#64).toNat = q at *
  simp [IntKind.wrap, IntKind.bits, IntKind.signed]
  omega
/-- The nacks of base, base + 1, .. -/
def nacks (base : Int) (n : Nat) : List Msg := (List.range n).map fun (i : Nat) => nackM (base + (i : Int))
theorem nacks_len (b : Int) (n : Nat) : (nacks b n).length = n := by simp [nacks]
theorem nacks_succ (b : Int) (n : Nat) : nacks b (n + 1) = nacks b n ++ [nackM (b + (n : Int))] := by simp [nacks, List.range_succ]
theorem nacks_zero (b : Int) : nacks b 0 = [] := rfl
theorem nacks_at {b : Int} {n i : Nat} (h : i < n) : (nacks b n)[i]? = some (nackM (b + (i : Int))) := by simp [nacks, h]
theorem nacks_head {b : Int} {n i : Nat} (h : i < n) : ((nacks b n).drop i).headD msgZ = nackM (b + (i : Int)) := by
  have := nacks_at (b := b) h
  rw [List.headD_eq_head?_getD, List.head?_drop, this]; rfl
theorem msg_ballot {w : World} {F : Nat → Prop} {A : Option Addr} {n c : Nat} {l : List Msg} (h : Sl .msg w F (.slice A n c) l) {i : Nat} {m : Msg} (hm : l[i]? = some m) :
    ∃ b off, A = some ⟨b, off, none⟩ ∧ w.cell? ⟨b, off + i * 27 + 3, none⟩ = some (.int .i64 m.ballot) := by
  obtain ⟨b, off, hA, _, cs, hcs, hcell⟩ := h.elem hm
  obtain ⟨vc, vv, vi, vk, rfl, _⟩ := msg_cells hcs
  exact ⟨b, off, hA, hcell 3 _ rfl⟩
set_option maxRecDepth 20000 in
set_option maxHeartbeats 4000000 in
theorem ord0 {Q : Exit → Act → World → Prop} {v1 v2 v3 v4 v6 v8 v10 v11 v12 v13 v14 v15 v16 v17 v18 v19 v20 v21 v22 v23 v24 v25 v26 v27 v28 v29 v30 v31 v32 v33 v34 v35 v36 v37 v38 v39 v40 v41 v42 v43 v44 v45 v46 v47 v48 v49 v50 v51 v52 v53 v54 v55 v56 v57 v58 v59 v60 v61 v62 v63 v64 v65 v66 v67 v68 v69 v70 v71 v72 v73 v74 v75 v76 v77 v78 v79 v80 v81 v82 v83 v84 v85 v86 v87 v88 v89 v90 v91 v92 v93 v94 v95 v96 v97 v98 v99 v100 v101 v102 v103 v104 v105 v106 v107 v108 v109 v110 v111 v112 v113 v114 v115 v116 v117 v118 v119 v120 v121 v122 v123 v124 v125 v126 v127 v128 v129 v130 v131 v132 v133 v134 v135 v136 v137 v138 v139 v140 v141 v142 v143 v144 v145 v146 v147 v148 v149 v150 v151 v152 v153 v154 v155 v156 v157 v158 v159 v160 v161 v162 v163 v164 v165 v166 : Value} {A : Option Addr} {cA n ga ca gb cb B : Nat} {w0 w : World} {k : Nat}
    (hlt : k < n) (h200 : n ≤ 200) (hB : B ≤ w.heap.size) (htb : TwoB B w (some ga) ca 4096 (nacks 0 k) (some gb) cb 4096 (nacks 1000 k)) (hkp : Keep (fun q => B ≤ q) w0 w)
    (hn : ∀  (w' : World), TwoB B w' (some ga) ca 4096 (nacks 0 (k + 1)) (some gb) cb 4096 (nacks 1000 (k + 1)) ∧ Keep (fun q => B ≤ q) w0 w' ∧ B ≤ w'.heap.size → ∀ {u4 u54 u55 u56 u57 u58 u59 u60 u61 u62 u63 u64 u65 u66 u67 u68 u69 u70 u71 u72 : Value}, Q .normal ⟨#[.slice A n cA, v1, v2, v3, u4, .pointer (some ⟨ga, 0, none⟩), v6, .pointer (some ⟨gb, 0, none⟩), v8, .int .i64 ((k : Int) + 1), v10, v11, v12, v13, v14, v15, v16, v17, v18, v19, v20, v21, v22, v23, v24, v25, v26, v27, v28, v29, v30, v31, v32, v33, v34, v35, v36, v37, v38, v39, v40, v41, v42, v43, v44, v45, v46, v47, v48, v49, v50, v51, v52, v53, u54, u55, u56, u57, u58, u59, u60, u61, u62, u63, u64, u65, u66, u67, u68, u69, u70, u71, u72, v73, v74, v75, v76, v77, v78, v79, v80, v81, v82, v83, v84, v85, v86, v87, v88, v89, v90, v91, v92, v93, v94, v95, v96, v97, v98, v99, v100, v101, v102, v103, v104, v105, v106, v107, v108, v109, v110, v111, v112, v113, v114, v115, v116, v117, v118, v119, v120, v121, v122, v123, v124, v125, v126, v127, v128, v129, v130, v131, v132, v133, v134, v135, v136, v137, v138, v139, v140, v141, v142, v143, v144, v145, v146, v147, v148, v149, v150, v151, v152, v153, v154, v155, v156, v157, v158, v159, v160, v161, v162, v163, v164, v165, v166], []⟩ w')
    : Code.wp Try.prog (loopBody Try.f9 0) Q ⟨#[.slice A n cA, v1, v2, v3, v4, .pointer (some ⟨ga, 0, none⟩), v6, .pointer (some ⟨gb, 0, none⟩), v8, .int .i64 k, v10, v11, v12, v13, v14, v15, v16, v17, v18, v19, v20, v21, v22, v23, v24, v25, v26, v27, v28, v29, v30, v31, v32, v33, v34, v35, v36, v37, v38, v39, v40, v41, v42, v43, v44, v45, v46, v47, v48, v49, v50, v51, v52, v53, v54, v55, v56, v57, v58, v59, v60, v61, v62, v63, v64, v65, v66, v67, v68, v69, v70, v71, v72, v73, v74, v75, v76, v77, v78, v79, v80, v81, v82, v83, v84, v85, v86, v87, v88, v89, v90, v91, v92, v93, v94, v95, v96, v97, v98, v99, v100, v101, v102, v103, v104, v105, v106, v107, v108, v109, v110, v111, v112, v113, v114, v115, v116, v117, v118, v119, v120, v121, v122, v123, v124, v125, v126, v127, v128, v129, v130, v131, v132, v133, v134, v135, v136, v137, v138, v139, v140, v141, v142, v143, v144, v145, v146, v147, v148, v149, v150, v151, v152, v153, v154, v155, v156, v157, v158, v159, v160, v161, v162, v163, v164, v165, v166], []⟩ w := by
  conv => arg 2; whnf
  have hca := (htb.inA (by simp)).1
  have hcb := (htb.inB (by simp)).1
  go_wp2_with fail
  refine (nack_calls k).mono ?_
  rintro e w3 ⟨rfl, k3⟩
  have hb3 := htb.keepF k3
  go_wp2_with fail
  refine (hb3.post (nack_cells w3 (fun _ => False) k (okN k (by omega))) (fun _ e => e.elim) (nack_fits k)).mono ?_
  rintro e w4 ⟨rfl, hb4, k4⟩
  have hl4 : (nacks 0 k).length < 4096 := by rw [nacks_len]; omega
  rw [if_pos hl4] at hb4
  have hd4 : decide ((nacks 0 k).length < 4096) = true := decide_eq_true hl4
  rw [hd4]
  have he : nacks 0 k ++ [nackM (k : Int)] = nacks 0 (k + 1) := by rw [nacks_succ]; simp
  rw [he] at hb4
  have hkx : Keep (fun k => B ≤ k) w0 w4 := (hkp.trans k3 (fun _ _ q => q.elim)).trans k4 (fun _ _ e => by omega)
  have hsz4 : B ≤ w4.heap.size := by have := k3.size; have := k4.size; omega
  clear he hd4 hl4 k3 k4 hb3 htb hkp
  go_wp2_with fail
  refine (nack_calls _).mono ?_
  rintro e w5 ⟨rfl, k5⟩
  have hb5 := (hb4.keepF k5).symm
  go_wp2_with fail
  have hob : okI (1000 + (k : Int)) := ⟨by omega, by omega⟩
  have hwr : wrap64 (1000 + (k : Int)) = 1000 + (k : Int) := by unfold wrap64; omega
  refine (hb5.post (nack_cells w5 (fun _ => False) (1000 + (k : Int)) hob) (fun _ e => e.elim) (nack_fits _)).mono ?_
  rintro e w6 ⟨rfl, hb6, k6⟩
  have hl6 : (nacks 1000 k).length < 4096 := by rw [nacks_len]; omega
  rw [if_pos hl6, ← nacks_succ] at hb6
  have hd6 : decide ((nacks 1000 k).length < 4096) = true := decide_eq_true hl6
  rw [hd6]
  have hky := (hkx.trans k5 (fun _ _ q => q.elim)).trans k6 (fun _ _ e => by omega)
  have hb7 := hb6.symm
  have hsz7 : B ≤ w6.heap.size := by have := k5.size; have := k6.size; omega
  clear hl6 hd6 hb6 hb5 hb4 k5 k6 hkx hob hwr
  go_wp2_with fail
  exact ⟨hb7, hky, hsz7⟩
set_option maxRecDepth 20000 in
set_option maxHeartbeats 4000000 in
theorem ord2 {Q : Exit → Act → World → Prop} {v0 v1 v2 v3 v4 v5 v6 v7 v8 v9 v11 v12 v15 v16 v17 v18 v19 v20 v21 v22 v23 v24 v25 v26 v27 v28 v29 v30 v31 v32 v33 v34 v35 v36 v37 v38 v39 v40 v41 v42 v43 v44 v45 v46 v47 v48 v49 v50 v51 v52 v53 v54 v55 v56 v57 v58 v59 v60 v61 v62 v63 v64 v65 v66 v67 v68 v69 v70 v71 v72 v73 v74 v75 v76 v77 v78 v79 v80 v81 v82 v83 v84 v85 v86 v87 v88 v89 v90 v91 v92 v93 v94 v95 v96 v97 v98 v99 v100 v101 v102 v103 v104 v105 v106 v107 v108 v109 v110 v111 v112 v113 v114 v115 v116 v117 v118 v119 v120 v121 v122 v123 v124 v125 v126 v127 v128 v129 v130 v131 v132 v133 v134 v135 v136 v137 v138 v139 v140 v141 v142 v143 v144 v145 v146 v147 v148 v149 v150 v151 v152 v153 v154 v155 v156 v157 v158 v159 v160 v161 v162 v163 v164 v165 v166 : Value} {w : World} {mj j xl b9 o9 c9 : Nat}
    (hlt : j < xl) (hx : xl ≤ 1000) (hm : mj ≤ 1000) (hc : w.cell? ⟨b9, o9 + j * 27 + 3, none⟩ = some (.int .i64 mj))
    (hn : ∀  (w' : World), w = w' → ∀ {u4 u87 u88 u89 u90 u91 u92 u93 u94 u95 u96 u97 u98 u99 u100 u101 : Value}, Q .normal ⟨#[v0, v1, v2, v3, u4, v5, v6, v7, v8, v9, .int .i64 ((mj : Int) + 1), v11, v12, .slice (some ⟨b9, o9, none⟩) xl c9, .int .i64 ((j : Int) + 1), v15, v16, v17, v18, v19, v20, v21, v22, v23, v24, v25, v26, v27, v28, v29, v30, v31, v32, v33, v34, v35, v36, v37, v38, v39, v40, v41, v42, v43, v44, v45, v46, v47, v48, v49, v50, v51, v52, v53, v54, v55, v56, v57, v58, v59, v60, v61, v62, v63, v64, v65, v66, v67, v68, v69, v70, v71, v72, v73, v74, v75, v76, v77, v78, v79, v80, v81, v82, v83, v84, v85, v86, u87, u88, u89, u90, u91, u92, u93, u94, u95, u96, u97, u98, u99, u100, u101, v102, v103, v104, v105, v106, v107, v108, v109, v110, v111, v112, v113, v114, v115, v116, v117, v118, v119, v120, v121, v122, v123, v124, v125, v126, v127, v128, v129, v130, v131, v132, v133, v134, v135, v136, v137, v138, v139, v140, v141, v142, v143, v144, v145, v146, v147, v148, v149, v150, v151, v152, v153, v154, v155, v156, v157, v158, v159, v160, v161, v162, v163, v164, v165, v166], []⟩ w')
    : Code.wp Try.prog (loopBody Try.f9 2) Q ⟨#[v0, v1, v2, v3, v4, v5, v6, v7, v8, v9, .int .i64 mj, v11, v12, .slice (some ⟨b9, o9, none⟩) xl c9, .int .i64 j, v15, v16, v17, v18, v19, v20, v21, v22, v23, v24, v25, v26, v27, v28, v29, v30, v31, v32, v33, v34, v35, v36, v37, v38, v39, v40, v41, v42, v43, v44, v45, v46, v47, v48, v49, v50, v51, v52, v53, v54, v55, v56, v57, v58, v59, v60, v61, v62, v63, v64, v65, v66, v67, v68, v69, v70, v71, v72, v73, v74, v75, v76, v77, v78, v79, v80, v81, v82, v83, v84, v85, v86, v87, v88, v89, v90, v91, v92, v93, v94, v95, v96, v97, v98, v99, v100, v101, v102, v103, v104, v105, v106, v107, v108, v109, v110, v111, v112, v113, v114, v115, v116, v117, v118, v119, v120, v121, v122, v123, v124, v125, v126, v127, v128, v129, v130, v131, v132, v133, v134, v135, v136, v137, v138, v139, v140, v141, v142, v143, v144, v145, v146, v147, v148, v149, v150, v151, v152, v153, v154, v155, v156, v157, v158, v159, v160, v161, v162, v163, v164, v165, v166], []⟩ w := by
  conv => arg 2; whnf
  have hne : ((mj : Int) != (mj : Int)) = false := by simp
  go_wp2_with fail
  exact rfl
set_option maxRecDepth 20000 in
set_option maxHeartbeats 4000000 in
theorem ord1 {Q : Exit → Act → World → Prop} {v2 v3 v4 v6 v8 v9 v12 v13 v14 v15 v16 v17 v18 v19 v20 v21 v22 v23 v24 v25 v26 v27 v28 v29 v30 v31 v32 v33 v34 v35 v36 v37 v38 v39 v40 v41 v42 v43 v44 v45 v46 v47 v48 v49 v50 v51 v52 v53 v54 v55 v56 v57 v58 v59 v60 v61 v62 v63 v64 v65 v66 v67 v68 v69 v70 v71 v72 v73 v74 v75 v76 v77 v78 v79 v80 v81 v82 v83 v84 v85 v86 v87 v88 v89 v90 v91 v92 v93 v94 v95 v96 v97 v98 v99 v100 v101 v102 v103 v104 v105 v106 v107 v108 v109 v110 v111 v112 v113 v114 v115 v116 v117 v118 v119 v120 v121 v122 v123 v124 v125 v126 v127 v128 v129 v130 v131 v132 v133 v134 v135 v136 v137 v138 v139 v140 v141 v142 v143 v144 v145 v146 v147 v148 v149 v150 v151 v152 v153 v154 v155 v156 v157 v158 v159 v160 v161 v162 v163 v164 v165 v166 : Value} {A : Option Addr} {cA n ga ca gb cb B : Nat} {w0 w : World} {C : Option Addr} {np cC m i : Nat} {ps : List Int}
    (hlt : i < np) (h400 : np ≤ 400) (hnp : np = ps.length) (hm : m ≤ n) (h200 : n ≤ 200) (hB : B ≤ w.heap.size) (hu : Row (fun k => k < B) w (.slice C ps.length cC) ps.length 1 (ps.map I64)) (hb8 : TwoB B w (some ga) ca 4096 ((nacks 0 n).drop m) (some gb) cb 4096 (nacks 1000 n)) (hk8 : Keep (fun q => B ≤ q) w0 w)
    (hn : ∀ (m' : Nat) (w' : World), m' ≤ n ∧ TwoB B w' (some ga) ca 4096 ((nacks 0 n).drop m') (some gb) cb 4096 (nacks 1000 n) ∧ Keep (fun q => B ≤ q) w0 w' ∧ B ≤ w'.heap.size → ∀ {u4 u12 u13 u14 u73 u74 u75 u76 u77 u78 u79 u80 u81 u82 u83 u84 u85 u86 u87 u88 u89 u90 u91 u92 u93 u94 u95 u96 u97 u98 u99 u100 u101 u102 u103 u104 u105 u106 u107 u108 u109 u110 u111 u112 u113 u114 u115 u116 u117 : Value}, Q .normal ⟨#[.slice A n cA, .slice C np cC, v2, v3, u4, .pointer (some ⟨ga, 0, none⟩), v6, .pointer (some ⟨gb, 0, none⟩), v8, v9, .int .i64 m', .int .i64 ((i : Int) + 1), u12, u13, u14, v15, v16, v17, v18, v19, v20, v21, v22, v23, v24, v25, v26, v27, v28, v29, v30, v31, v32, v33, v34, v35, v36, v37, v38, v39, v40, v41, v42, v43, v44, v45, v46, v47, v48, v49, v50, v51, v52, v53, v54, v55, v56, v57, v58, v59, v60, v61, v62, v63, v64, v65, v66, v67, v68, v69, v70, v71, v72, u73, u74, u75, u76, u77, u78, u79, u80, u81, u82, u83, u84, u85, u86, u87, u88, u89, u90, u91, u92, u93, u94, u95, u96, u97, u98, u99, u100, u101, u102, u103, u104, u105, u106, u107, u108, u109, u110, u111, u112, u113, u114, u115, u116, u117, v118, v119, v120, v121, v122, v123, v124, v125, v126, v127, v128, v129, v130, v131, v132, v133, v134, v135, v136, v137, v138, v139, v140, v141, v142, v143, v144, v145, v146, v147, v148, v149, v150, v151, v152, v153, v154, v155, v156, v157, v158, v159, v160, v161, v162, v163, v164, v165, v166], []⟩ w')
    : Code.wp Try.prog (loopBody Try.f9 1) Q ⟨#[.slice A n cA, .slice C np cC, v2, v3, v4, .pointer (some ⟨ga, 0, none⟩), v6, .pointer (some ⟨gb, 0, none⟩), v8, v9, .int .i64 m, .int .i64 i, v12, v13, v14, v15, v16, v17, v18, v19, v20, v21, v22, v23, v24, v25, v26, v27, v28, v29, v30, v31, v32, v33, v34, v35, v36, v37, v38, v39, v40, v41, v42, v43, v44, v45, v46, v47, v48, v49, v50, v51, v52, v53, v54, v55, v56, v57, v58, v59, v60, v61, v62, v63, v64, v65, v66, v67, v68, v69, v70, v71, v72, v73, v74, v75, v76, v77, v78, v79, v80, v81, v82, v83, v84, v85, v86, v87, v88, v89, v90, v91, v92, v93, v94, v95, v96, v97, v98, v99, v100, v101, v102, v103, v104, v105, v106, v107, v108, v109, v110, v111, v112, v113, v114, v115, v116, v117, v118, v119, v120, v121, v122, v123, v124, v125, v126, v127, v128, v129, v130, v131, v132, v133, v134, v135, v136, v137, v138, v139, v140, v141, v142, v143, v144, v145, v146, v147, v148, v149, v150, v151, v152, v153, v154, v155, v156, v157, v158, v159, v160, v161, v162, v163, v164, v165, v166], []⟩ w := by
  conv => arg 2; whnf
  have hca := (hb8.inA (by simp)).1
  have hil : i < ps.length := by rw [← hnp]; exact hlt
  obtain ⟨A', c', he, hcells⟩ := hu.int'
  simp only [Value.slice.injEq, true_and] at he
  obtain ⟨rfl, rfl⟩ := he
  obtain ⟨b, off, rfl, hbF, hcell⟩ := hcells (by omega)
  have hc := hcell i hil
  obtain ⟨x, hx⟩ := and7 (ps.getD i 0)
  obtain ⟨hx7, hxe⟩ := hx
  generalize ps.getD i 0 = y at *
  have hdr := hb8.drain (Nat.le_refl _) (by omega) (x : Int)
  simp only [Int.toNat_natCast, List.drop_drop] at hdr
  clear hb8 hcell hcells hu hnp
  go_wp2_with fail
  refine hdr.mono ?_
  clear hdr
  rintro e w9 ⟨v9, rfl, hs9, hb9, k9⟩
  obtain ⟨A9, c9, rfl⟩ := hs9.shape
  have hlx : (((nacks 0 n).drop m).take x).length = min x (n - m) := by rw [List.length_take, List.length_drop, nacks_len]
  have HS9 := hid hs9
  rw [hlx]
  obtain ⟨xl, hxl⟩ : ∃ xl, xl = min x (n - m) := ⟨_, rfl⟩
  rw [← hxl]
  have HXL := hid hxl
  have HLX := hid hlx
  have hsz9 : B ≤ w9.heap.size := by have := k9.size; omega
  have hxl7 : xl ≤ 7 := by omega
  have hxlk : m + xl ≤ n := by omega
  have hk9 : Keep (fun q => B ≤ q) w0 w9 := hk8.trans k9 (fun _ _ e => by omega)
  clear hs9 hlx hxl k9 hk8 hc
  go_wp2_with fail
  go_loopw [10, 14] (fun mv jv wr => ∃ j : Nat, j ≤ xl ∧ jv = .int .i64 j ∧ mv = .int .i64 ((m + j : Nat) : Int) ∧ w9 = wr) (fun _ jv _ => xl - (intOf jv).toNat)
  case atStart => exact ⟨0, Nat.zero_le _, rfl, rfl, rfl⟩
  case round =>
    obtain ⟨j, hj, rfl, rfl, rfl⟩ := hrel
    by_cases hlt3 : j < xl
    · have hat : (((nacks 0 n).drop m).take x)[j]? = some (nackM (0 + ((m + j : Nat) : Int))) := by
        have := HXL.out
        rw [List.getElem?_take, if_pos (by omega), List.getElem?_drop, nacks_at (by omega)]
      have hs := HS9.out
      rw [HLX.out, ← HXL.out] at hs
      obtain ⟨b9, o9, rfl, hcb9⟩ := msg_ballot hs hat
      refine ord2 (mj := m + j) hlt3 (by omega) (by omega) (by rw [hcb9]; simp [nackM]) ?_
      rintro w' rfl
      intros
      go_wp2_with fail
      exact ⟨⟨j + 1, by omega, by simp, by simp; omega, trivial⟩, by simp [intOf]; omega⟩
    · have hjx : j = xl := by omega
      subst hjx
      have hg1 : decide (x < j) = false := decide_eq_false (by have := HXL.out; omega)
      have hmx : m + j = min (m + x) n := by have := HXL.out; omega
      by_cases hlx2 : j < x
      · have hmk : m + j = n := by omega
        have hne : (((m + j : Nat) : Int) != (n : Int)) = false := by simp [hmk]
        have hnb : TwoB B w9 (some ga) ca 4096 ((nacks 0 n).drop (m + j)) (some gb) cb 4096 (nacks 1000 n) := by
          rw [hmk, List.drop_of_length_le (by rw [nacks_len]; exact Nat.le_refl _)]
          rw [List.drop_of_length_le (by rw [nacks_len]; omega)] at hb9
          exact hb9
        have hle : m + j ≤ n := by omega
        generalize m + j = mj at *
        clear hmk hmx hb9
        go_wp2_with fail
        exact ⟨hle, hnb, hk9, hsz9⟩
      · have hjx : j = x := by have := HXL.out; omega
        have hnb : TwoB B w9 (some ga) ca 4096 ((nacks 0 n).drop (m + j)) (some gb) cb 4096 (nacks 1000 n) := by
          rw [hjx]; exact hb9
        have hle : m + j ≤ n := by omega
        generalize m + j = mj at *
        clear hmx hb9 hjx
        go_wp2_with fail
        exact ⟨hle, hnb, hk9, hsz9⟩
set_option maxRecDepth 20000 in
set_option maxHeartbeats 4000000 in
theorem ord3 {Q : Exit → Act → World → Prop} {v1 v2 v3 v4 v6 v8 v9 v11 v12 v13 v14 v15 v16 v17 v18 v19 v20 v21 v22 v23 v24 v25 v26 v27 v28 v29 v30 v31 v32 v33 v34 v35 v36 v37 v38 v39 v40 v41 v42 v43 v44 v45 v46 v47 v48 v49 v50 v51 v52 v53 v54 v55 v56 v57 v58 v59 v60 v61 v62 v63 v64 v65 v66 v67 v68 v69 v70 v71 v72 v73 v74 v75 v76 v77 v78 v79 v80 v81 v82 v83 v84 v85 v86 v87 v88 v89 v90 v91 v92 v93 v94 v95 v96 v97 v98 v99 v100 v101 v102 v103 v104 v105 v106 v107 v108 v109 v110 v111 v112 v113 v114 v115 v116 v117 v118 v119 v120 v121 v122 v123 v124 v125 v126 v127 v128 v129 v130 v131 v132 v133 v134 v135 v136 v137 v138 v139 v140 v141 v142 v143 v144 v145 v146 v147 v148 v149 v150 v151 v152 v153 v154 v155 v156 v157 v158 v159 v160 v161 v162 v163 v164 v165 v166 : Value} {A : Option Addr} {cA n ga ca gb cb B : Nat} {w0 w : World} {m : Nat}
    (hmk : m < n) (h200 : n ≤ 200) (hb8 : TwoB B w (some ga) ca 4096 ((nacks 0 n).drop m) (some gb) cb 4096 (nacks 1000 n)) (hk8 : Keep (fun q => B ≤ q) w0 w)
    (hn : ∀  (w' : World), TwoB B w' (some ga) ca 4096 ((nacks 0 n).drop (m + 1)) (some gb) cb 4096 (nacks 1000 n) ∧ Keep (fun q => B ≤ q) w0 w' ∧ B ≤ w'.heap.size → ∀ {u4 u15 u16 u118 u119 u120 u121 u122 u123 u124 u125 u126 u127 u128 u129 u130 u131 u132 u133 u134 u135 u136 u137 : Value}, Q .normal ⟨#[.slice A n cA, v1, v2, v3, u4, .pointer (some ⟨ga, 0, none⟩), v6, .pointer (some ⟨gb, 0, none⟩), v8, v9, .int .i64 ((m : Int) + 1), v11, v12, v13, v14, u15, u16, v17, v18, v19, v20, v21, v22, v23, v24, v25, v26, v27, v28, v29, v30, v31, v32, v33, v34, v35, v36, v37, v38, v39, v40, v41, v42, v43, v44, v45, v46, v47, v48, v49, v50, v51, v52, v53, v54, v55, v56, v57, v58, v59, v60, v61, v62, v63, v64, v65, v66, v67, v68, v69, v70, v71, v72, v73, v74, v75, v76, v77, v78, v79, v80, v81, v82, v83, v84, v85, v86, v87, v88, v89, v90, v91, v92, v93, v94, v95, v96, v97, v98, v99, v100, v101, v102, v103, v104, v105, v106, v107, v108, v109, v110, v111, v112, v113, v114, v115, v116, v117, u118, u119, u120, u121, u122, u123, u124, u125, u126, u127, u128, u129, u130, u131, u132, u133, u134, u135, u136, u137, v138, v139, v140, v141, v142, v143, v144, v145, v146, v147, v148, v149, v150, v151, v152, v153, v154, v155, v156, v157, v158, v159, v160, v161, v162, v163, v164, v165, v166], []⟩ w')
    : Code.wp Try.prog (loopBody Try.f9 3) Q ⟨#[.slice A n cA, v1, v2, v3, v4, .pointer (some ⟨ga, 0, none⟩), v6, .pointer (some ⟨gb, 0, none⟩), v8, v9, .int .i64 m, v11, v12, v13, v14, v15, v16, v17, v18, v19, v20, v21, v22, v23, v24, v25, v26, v27, v28, v29, v30, v31, v32, v33, v34, v35, v36, v37, v38, v39, v40, v41, v42, v43, v44, v45, v46, v47, v48, v49, v50, v51, v52, v53, v54, v55, v56, v57, v58, v59, v60, v61, v62, v63, v64, v65, v66, v67, v68, v69, v70, v71, v72, v73, v74, v75, v76, v77, v78, v79, v80, v81, v82, v83, v84, v85, v86, v87, v88, v89, v90, v91, v92, v93, v94, v95, v96, v97, v98, v99, v100, v101, v102, v103, v104, v105, v106, v107, v108, v109, v110, v111, v112, v113, v114, v115, v116, v117, v118, v119, v120, v121, v122, v123, v124, v125, v126, v127, v128, v129, v130, v131, v132, v133, v134, v135, v136, v137, v138, v139, v140, v141, v142, v143, v144, v145, v146, v147, v148, v149, v150, v151, v152, v153, v154, v155, v156, v157, v158, v159, v160, v161, v162, v163, v164, v165, v166], []⟩ w := by
  conv => arg 2; whnf
  have hei := hb8.either
  have hll : 0 < ((nacks 0 n).drop m).length := by rw [List.length_drop, nacks_len]; omega
  rw [if_pos hll, if_pos hll, if_pos hll, nacks_head hmk, List.tail_drop] at hei
  clear hll
  have hcb := (hb8.inB (by simp)).2
  have hca := (hb8.inA (by simp)).2
  have hcb' := (hb8.inB (by simp)).1
  have hca' := (hb8.inA (by simp)).1
  go_wp2_with fail
  refine hei.mono ?_
  clear hei
  rintro e w9 ⟨cs, rfl, hm9, hb9, k9⟩
  obtain ⟨vc, vv, vi, vk, hcs, hL⟩ := nack_of hm9
  have HL := hid hL
  have hin : cs.toArray = (msgCs (nackM (0 + (m : Int))) vc vv vi vk).toArray := by rw [hcs]
  have HIN := hid hin
  have HK9 := hid (hk8.trans k9 (fun b hb e => by rcases e with e | e <;> omega))
  have z9 : B ≤ w9.heap.size := by have := k9.size; omega
  have HB9 := hid hb9
  clear hm9 hL hb9 k9 hk8 hb8 hcs hin
  go_wp2_with (first
    | (refine wpl_allocB (z := zM) rfl rfl (by kernel_rfl) ?_; intro g3 w10 hg3 hb10 k10 s10; have HG3 := hid hg3; clear hg3)
    | (refine wpl_storeB (v := .agg cs.toArray) rfl rfl rfl rfl hb10 HL.out.info HL.out.fit HL.out.oneA ?_; intro w11 hb11 k11 s11; have hb12 := (hb11.trans (HL.out.whole rfl)).trans (congrArg (fun C => some (Obj.cells C 60)) HIN.out); have c3 := cell_at hb12 3 (.int .i64 (m : Int)) (by simp [msgCs, nackM])))
  have e3 : w9.heap.size ≤ g3 := Nat.le_of_eq HG3.out.symm
  have ka : Keep (fun k => w9.heap.size ≤ k) w9 w11 := (k10.mono (fun _ _ q => q.elim)).trans k11 (fun b hb e => by omega)
  exact ⟨HB9.out.keep ka, HK9.out.trans ka (fun b hb q => by omega), by omega⟩
set_option maxRecDepth 20000 in
set_option maxHeartbeats 4000000 in
theorem ord4 {Q : Exit → Act → World → Prop} {v1 v2 v3 v4 v6 v8 v9 v11 v12 v13 v14 v15 v16 v18 v19 v20 v21 v22 v23 v24 v25 v26 v27 v28 v29 v30 v31 v32 v33 v34 v35 v36 v37 v38 v39 v40 v41 v42 v43 v44 v45 v46 v47 v48 v49 v50 v51 v52 v53 v54 v55 v56 v57 v58 v59 v60 v61 v62 v63 v64 v65 v66 v67 v68 v69 v70 v71 v72 v73 v74 v75 v76 v77 v78 v79 v80 v81 v82 v83 v84 v85 v86 v87 v88 v89 v90 v91 v92 v93 v94 v95 v96 v97 v98 v99 v100 v101 v102 v103 v104 v105 v106 v107 v108 v109 v110 v111 v112 v113 v114 v115 v116 v117 v118 v119 v120 v121 v122 v123 v124 v125 v126 v127 v128 v129 v130 v131 v132 v133 v134 v135 v136 v137 v138 v139 v140 v141 v142 v143 v144 v145 v146 v147 v148 v149 v150 v151 v152 v153 v154 v155 v156 v157 v158 v159 v160 v161 v162 v163 v164 v165 v166 : Value} {A : Option Addr} {cA n ga ca gb cb B : Nat} {w0 w : World} {m i : Nat}
    (him : i < n) (h200 : n ≤ 200) (hb8 : TwoB B w (some ga) ca 4096 [] (some gb) cb 4096 ((nacks 1000 n).drop i)) (hk8 : Keep (fun q => B ≤ q) w0 w)
    (hn : ∀  (w' : World), TwoB B w' (some ga) ca 4096 [] (some gb) cb 4096 ((nacks 1000 n).drop (i + 1)) ∧ Keep (fun q => B ≤ q) w0 w' ∧ B ≤ w'.heap.size → ∀ {u4 u18 u19 u138 u139 u140 u141 u142 u143 u144 u145 u146 u147 u148 u149 u150 u151 u152 u153 u154 u155 u156 u157 u158 : Value}, Q .normal ⟨#[.slice A n cA, v1, v2, v3, u4, .pointer (some ⟨ga, 0, none⟩), v6, .pointer (some ⟨gb, 0, none⟩), v8, v9, .int .i64 m, v11, v12, v13, v14, v15, v16, .int .i64 ((i : Int) + 1), u18, u19, v20, v21, v22, v23, v24, v25, v26, v27, v28, v29, v30, v31, v32, v33, v34, v35, v36, v37, v38, v39, v40, v41, v42, v43, v44, v45, v46, v47, v48, v49, v50, v51, v52, v53, v54, v55, v56, v57, v58, v59, v60, v61, v62, v63, v64, v65, v66, v67, v68, v69, v70, v71, v72, v73, v74, v75, v76, v77, v78, v79, v80, v81, v82, v83, v84, v85, v86, v87, v88, v89, v90, v91, v92, v93, v94, v95, v96, v97, v98, v99, v100, v101, v102, v103, v104, v105, v106, v107, v108, v109, v110, v111, v112, v113, v114, v115, v116, v117, v118, v119, v120, v121, v122, v123, v124, v125, v126, v127, v128, v129, v130, v131, v132, v133, v134, v135, v136, v137, u138, u139, u140, u141, u142, u143, u144, u145, u146, u147, u148, u149, u150, u151, u152, u153, u154, u155, u156, u157, u158, v159, v160, v161, v162, v163, v164, v165, v166], []⟩ w')
    : Code.wp Try.prog (loopBody Try.f9 4) Q ⟨#[.slice A n cA, v1, v2, v3, v4, .pointer (some ⟨ga, 0, none⟩), v6, .pointer (some ⟨gb, 0, none⟩), v8, v9, .int .i64 m, v11, v12, v13, v14, v15, v16, .int .i64 i, v18, v19, v20, v21, v22, v23, v24, v25, v26, v27, v28, v29, v30, v31, v32, v33, v34, v35, v36, v37, v38, v39, v40, v41, v42, v43, v44, v45, v46, v47, v48, v49, v50, v51, v52, v53, v54, v55, v56, v57, v58, v59, v60, v61, v62, v63, v64, v65, v66, v67, v68, v69, v70, v71, v72, v73, v74, v75, v76, v77, v78, v79, v80, v81, v82, v83, v84, v85, v86, v87, v88, v89, v90, v91, v92, v93, v94, v95, v96, v97, v98, v99, v100, v101, v102, v103, v104, v105, v106, v107, v108, v109, v110, v111, v112, v113, v114, v115, v116, v117, v118, v119, v120, v121, v122, v123, v124, v125, v126, v127, v128, v129, v130, v131, v132, v133, v134, v135, v136, v137, v138, v139, v140, v141, v142, v143, v144, v145, v146, v147, v148, v149, v150, v151, v152, v153, v154, v155, v156, v157, v158, v159, v160, v161, v162, v163, v164, v165, v166], []⟩ w := by
  conv => arg 2; whnf
  have hei := hb8.either
  simp only [List.length_nil, Nat.lt_irrefl, if_false, List.tail_nil] at hei
  have hll : 0 < ((nacks 1000 n).drop i).length := by rw [List.length_drop, nacks_len]; omega
  rw [if_pos hll, nacks_head him, List.tail_drop] at hei
  have hwr : wrap64 (1000 + (i : Int)) = 1000 + (i : Int) := by unfold wrap64; omega
  clear hll
  have hcb := (hb8.inB (by simp)).2
  have hca := (hb8.inA (by simp)).2
  have hcb' := (hb8.inB (by simp)).1
  have hca' := (hb8.inA (by simp)).1
  go_wp2_with fail
  refine hei.mono ?_
  clear hei
  rintro e w9 ⟨cs, rfl, hm9, hb9, k9⟩
  obtain ⟨vc, vv, vi, vk, hcs, hL⟩ := nack_of hm9
  have HL := hid hL
  have hin : cs.toArray = (msgCs (nackM (1000 + (i : Int))) vc vv vi vk).toArray := by rw [hcs]
  have HIN := hid hin
  have HK9 := hid (hk8.trans k9 (fun b hb e => by rcases e with e | e <;> omega))
  have z9 : B ≤ w9.heap.size := by have := k9.size; omega
  have HB9 := hid hb9
  clear hm9 hL hb9 k9 hk8 hb8 hcs hin
  go_wp2_with (first
    | (refine wpl_allocB (z := zM) rfl rfl (by kernel_rfl) ?_; intro g3 w10 hg3 hb10 k10 s10; have HG3 := hid hg3; clear hg3)
    | (refine wpl_storeB (v := .agg cs.toArray) rfl rfl rfl rfl hb10 HL.out.info HL.out.fit HL.out.oneA ?_; intro w11 hb11 k11 s11; have hb12 := (hb11.trans (HL.out.whole rfl)).trans (congrArg (fun C => some (Obj.cells C 60)) HIN.out); have c3 := cell_at hb12 3 (.int .i64 (1000 + (i : Int))) (by simp [msgCs, nackM])))
  have e3 : w9.heap.size ≤ g3 := Nat.le_of_eq HG3.out.symm
  have ka : Keep (fun k => w9.heap.size ≤ k) w9 w11 := (k10.mono (fun _ _ q => q.elim)).trans k11 (fun b hb e => by omega)
  exact ⟨HB9.out.keep ka, HK9.out.trans ka (fun b hb q => by omega), by omega⟩
set_option maxRecDepth 20000 in
set_option maxHeartbeats 4000000 in
theorem boxOrders_calls {w : World} {v u : Value} {l : List Int} {ps : List Int} (hv : Row (fun k => k < w.heap.size) w v l.length 1 (l.map I64)) (_hwf : ∀ n ∈ l, (Lit.int .i64 n).wf = true) (hu : Row (fun k => k < w.heap.size) w u ps.length 1 (ps.map I64)) (_hwf' : ∀ n ∈ ps, (Lit.int .i64 n).wf = true) :
    Calls Try.prog 9 #[v, u] w fun e w' => e = .returned (.bool true) ∧ Below w.heap.size w w' := by
  obtain ⟨A, cA, rfl, _⟩ := hv.int'
  obtain ⟨C, cC, rfl, _⟩ := hu.int'
  generalize l.length = n at *
  obtain ⟨np, hnp⟩ : ∃ np, np = ps.length := ⟨_, rfl⟩
  have hmaxp : np ≤ 9223372036854775807 := by obtain ⟨_, _, _, _, h1, h2, _⟩ := hu; unfold maxLen at h2; omega
  have hmaxn : n ≤ 9223372036854775807 := by obtain ⟨_, _, _, _, h1, h2, _⟩ := hv; unfold maxLen at h2; omega
  have HU := hid hu
  rw [← hnp]
  have HNP := hid hnp
  clear hnp hu hv
  go_enter Try.func9, Try.ntmps9
  go_wp2_with fail
  refine (awake20_calls w).mono ?_
  rintro e w0 ⟨rfl, k0⟩
  by_cases h1 : 200 < n
  · go_wp2
    go_ret
    exact ⟨rfl, k0.below (Nat.le_refl _) (fun _ _ => id)⟩
  by_cases h2 : 400 < np
  · go_wp2
    go_ret
    exact ⟨rfl, k0.below (Nat.le_refl _) (fun _ _ => id)⟩
  go_wp2_with fail
  refine (newB_calls 4096 (by decide) (by decide)).mono ?_
  rintro e w1 ⟨ga, ca, rfl, hb1, k1⟩
  go_wp2_with fail
  refine (newB_calls 4096 (by decide) (by decide)).mono ?_
  rintro e w2 ⟨gb, cb, rfl, hb2, k2⟩
  have hb := hb1.both hb2 k2 (by have := k1.size; omega)
  have z0 := k0.size
  have z1 := k1.size
  have z2 := k2.size
  have hk2 : Keep (fun k => w0.heap.size ≤ k) w w2 := ((k0.trans k1 (fun _ _ q => q)).trans k2 (fun _ _ q => q)).mono (fun _ _ q => q.elim)
  clear hb1 hb2 k0 k1 k2
  go_wp2_with fail
  go_loopw [9] (fun i wr => ∃ k : Nat, k ≤ n ∧ i = .int .i64 k ∧ TwoB w0.heap.size wr (some ga) ca 4096 (nacks 0 k) (some gb) cb 4096 (nacks 1000 k) ∧ Keep (fun k => w0.heap.size ≤ k) w wr ∧ w0.heap.size ≤ wr.heap.size) (fun i _ => n - (intOf i).toNat)
  case atStart => exact ⟨0, Nat.zero_le _, rfl, hb, hk2, by omega⟩
  case round =>
    obtain ⟨k, hk, rfl, htb, hkp, hsz⟩ := hrel
    by_cases hlt : k < n
    · refine ord0 hlt (by omega) hsz htb hkp ?_
      rintro w' ⟨q1, q2, q3⟩
      intros
      go_wp2_with fail
      exact ⟨⟨k + 1, by omega, by simp, q1, q2, q3⟩, by simp [intOf]; omega⟩
    · have hkn : k = n := by omega
      subst hkn
      clear hb hk
      go_wp2_with fail
      go_loopw [10, 11] (fun mv iv wr => ∃ (i m : Nat), i ≤ np ∧ m ≤ k ∧ iv = .int .i64 i ∧ mv = .int .i64 m ∧ TwoB w0.heap.size wr (some ga) ca 4096 ((nacks 0 k).drop m) (some gb) cb 4096 (nacks 1000 k) ∧ Keep (fun q => w0.heap.size ≤ q) w wr ∧ w0.heap.size ≤ wr.heap.size) (fun _ iv _ => np - (intOf iv).toNat)
      case atStart => exact ⟨0, 0, Nat.zero_le _, Nat.zero_le _, rfl, rfl, htb, hkp, hsz⟩
      case round =>
        obtain ⟨i, m, hi, hm, rfl, rfl, hb8, hk8, z8⟩ := hrel
        by_cases hlt2 : i < np
        · refine ord1 hlt2 (by omega) HNP.out hm (by omega) z8 ((HU.out.keep hk8 (fun q hq e => by omega)).mono (fun q hq => by omega)) hb8 hk8 ?_
          rintro m' w' ⟨q0, q1, q2, q3⟩
          intros
          go_wp2_with fail
          exact ⟨⟨i + 1, m', by omega, q0, by simp, rfl, q1, q2, q3⟩, by simp [intOf]; omega⟩
        · clear htb hkp hsz hi
          go_wp2_with fail
          go_loopw [10] (fun mv wr => ∃ m : Nat, m ≤ k ∧ mv = .int .i64 m ∧ TwoB w0.heap.size wr (some ga) ca 4096 ((nacks 0 k).drop m) (some gb) cb 4096 (nacks 1000 k) ∧ Keep (fun q => w0.heap.size ≤ q) w wr ∧ w0.heap.size ≤ wr.heap.size) (fun mv _ => k - (intOf mv).toNat)
          case atStart => exact ⟨m, hm, rfl, hb8, hk8, z8⟩
          case round =>
            clear hb8 hk8 z8 hm
            obtain ⟨m, hm, rfl, hb8, hk8, z8⟩ := hrel
            by_cases hmk : m < k
            · refine ord3 hmk (by omega) hb8 hk8 ?_
              rintro w' ⟨q1, q2, q3⟩
              intros
              go_wp2_with fail
              exact ⟨⟨m + 1, by omega, by simp, q1, q2, q3⟩, by simp [intOf]; omega⟩
            · have hmk : m = k := by omega
              subst hmk
              have hb9 : TwoB w0.heap.size wr (some ga) ca 4096 [] (some gb) cb 4096 ((nacks 1000 m).drop 0) := by
                rw [List.drop_of_length_le (by rw [nacks_len]; exact Nat.le_refl _)] at hb8
                exact hb8
              clear hb8
              go_wp2_with fail
              go_loopw [17] (fun iv wr => ∃ i : Nat, i ≤ m ∧ iv = .int .i64 i ∧ TwoB w0.heap.size wr (some ga) ca 4096 [] (some gb) cb 4096 ((nacks 1000 m).drop i) ∧ Keep (fun q => w0.heap.size ≤ q) w wr ∧ w0.heap.size ≤ wr.heap.size) (fun iv _ => m - (intOf iv).toNat)
              case atStart => exact ⟨0, Nat.zero_le _, rfl, hb9, hk8, z8⟩
              case round =>
                clear hb9 hk8 z8 hm
                obtain ⟨i, hi, rfl, hb8, hk8, z8⟩ := hrel
                by_cases him : i < m
                · refine ord4 him (by omega) hb8 hk8 ?_
                  rintro w' ⟨q1, q2, q3⟩
                  intros
                  go_wp2_with fail
                  exact ⟨⟨i + 1, by omega, by simp, q1, q2, q3⟩, by simp [intOf]; omega⟩
                · have hei := hb8.either
                  have hcb := (hb8.inB (by simp)).1
                  have hca := (hb8.inA (by simp)).1
                  simp only [List.length_nil, Nat.lt_irrefl, if_false, List.tail_nil] at hei
                  have hll : ¬ 0 < ((nacks 1000 m).drop i).length := by rw [List.length_drop, nacks_len]; omega
                  rw [if_neg hll] at hei
                  clear hll
                  go_wp2_with fail
                  refine hei.mono ?_
                  clear hei
                  rintro e w9 ⟨cs, rfl, hm9, hb9, k9⟩
                  have HL := hid (MsgL.of hm9)
                  have HK9 := hid (hk8.trans k9 (fun b hb e => by rcases e with e | e <;> omega))
                  clear hm9 hb9 k9 hk8 hb8
                  go_wp2_with (first
                    | (refine wpl_allocB (z := zM) rfl rfl (by kernel_rfl) ?_; intro g3 w10 hg3 hb10 k10 s10; have HG3 := hid hg3; clear hg3)
                    | (refine wpl_storeB (v := .agg cs.toArray) rfl rfl rfl rfl hb10 HL.out.info HL.out.fit HL.out.oneA ?_; intro w11 hb11 k11 s11))
                  go_ret
                  have e3 : w9.heap.size ≤ g3 := Nat.le_of_eq HG3.out.symm
                  have z9 := HK9.out.size
                  exact ⟨rfl, ((HK9.out.trans k10 (fun _ _ q => q.elim)).trans k11 (fun b hb e => by omega)).below (Nat.le_refl _) (fun b hb q => by omega)⟩
end Go.Proofs.Ytiomeoihekifeaa

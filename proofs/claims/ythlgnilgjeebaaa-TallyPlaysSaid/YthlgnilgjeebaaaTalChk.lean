/- TallyPlays: what is looked at behind each deed, as a theorem of its own. -/
import Derived.Test.YthlgnilgjeebaaaTalY
import Derived.Deep.RegionHeld3
namespace Go.Proofs.Ythlgnilgjeebaaa
open Go.RowKit
/-- A code's region of a number. -/
def regAt (id : Nat) : Code → Option Code
  | .region i ops d => cond (Nat.beq i id) (some (.region i ops d)) none
  | .seq a b => match regAt id a with | some c => some c | none => regAt id b
  | .cond _ a b => match regAt id a with | some c => some c | none => regAt id b
  | .block _ c => regAt id c
  | .loop c => regAt id c
  | .scope c => regAt id c
  | _ => none
noncomputable def regOf (f : Func) (id : Nat) : Code := match f.body with | some c => (regAt id c).getD .skip | none => .skip
set_option maxRecDepth 100000 in
set_option maxHeartbeats 32000000 in
theorem tchk {Q : Exit → Act → World → Prop} {c : Code} {v0 v2 v3 v4 v5 v6 v9 v12 v13 v18 v19 v20 v21 v22 v23 v24 v25 v26 v27 v28 v29 v30 v31 v32 v33 v34 v35 v36 v37 v38 v39 v40 v41 v42 v43 v44 v45 v46 v47 v48 v49 v50 v51 v52 v53 v54 v55 v56 v57 v58 v59 v60 v61 v62 v63 v64 v65 v66 v67 v68 v69 v70 v71 v72 v73 v74 v75 v76 v77 v78 v79 v80 v81 v82 v83 v84 v85 v86 v87 v88 v89 v90 v91 v92 v93 v94 v95 v96 v97 v98 v99 v100 v101 v102 v103 v104 v105 v106 v107 v108 v109 v110 v111 v112 v113 v114 v115 v116 v117 v118 v119 v120 v121 v122 v123 v124 v125 v126 v127 v128 v129 v130 v131 v132 v133 v134 v135 v136 v137 v138 v139 v140 v141 v142 v143 v144 v145 v146 v147 v148 v149 v150 v151 v152 v153 v154 v155 v156 v157 v158 v159 v160 v161 v162 v163 v164 v165 v166 v167 v168 v169 v170 v171 v172 v173 v174 v175 v176 v177 v178 : Value} {A0 A9 A10 : Option Addr} {m c0 g g2 gd ga gb nq c9 c10 : Nat} {iv rd wn : Bool} {slot bs tp : Int} {rq : Req} {L1 L2 L3 : List Int} {w10 : World}
    (hc : c = regOf Try.f5 21)
    (HCC : ∀ w', Keep (fun _ => False) w10 w' → w'.cell? ⟨ga, 0, none⟩ = some (.int .i64 rq.kind) ∧ w'.cell? ⟨ga, 1, none⟩ = some (.string rq.name) ∧ w'.cell? ⟨ga, 2, none⟩ = some (.int .i64 rq.session) ∧ w'.cell? ⟨ga, 3, none⟩ = some (.int .i64 rq.seq) ∧ w'.cell? ⟨ga, 4, none⟩ = some (.int .i64 rq.base) ∧ w'.cell? ⟨ga, 5, none⟩ = some (.string rq.ref) ∧ w'.cell? ⟨ga, 6, none⟩ = some (.slice A9 nq c9) ∧ w'.cell? ⟨ga, 7, none⟩ = some (.string rq.path) ∧ w'.cell? ⟨ga, 8, none⟩ = some (.int .i64 rq.from') ∧ w'.cell? ⟨ga, 9, none⟩ = some (.int .i64 rq.many) ∧ w'.cell? ⟨ga, 10, none⟩ = some (.int .i64 rq.member) ∧ w'.cell? ⟨gb, 0, none⟩ = some (.int .i64 rq.kind) ∧ w'.cell? ⟨gb, 1, none⟩ = some (.string rq.name) ∧ w'.cell? ⟨gb, 2, none⟩ = some (.int .i64 rq.session) ∧ w'.cell? ⟨gb, 3, none⟩ = some (.int .i64 rq.seq) ∧ w'.cell? ⟨gb, 4, none⟩ = some (.int .i64 rq.base) ∧ w'.cell? ⟨gb, 5, none⟩ = some (.string rq.ref) ∧ w'.cell? ⟨gb, 6, none⟩ = some (.slice A10 nq c10) ∧ w'.cell? ⟨gb, 7, none⟩ = some (.string rq.path) ∧ w'.cell? ⟨gb, 8, none⟩ = some (.int .i64 rq.from') ∧ w'.cell? ⟨gb, 9, none⟩ = some (.int .i64 rq.many) ∧ w'.cell? ⟨gb, 10, none⟩ = some (.int .i64 rq.member) ∧ w'.cell? ⟨gd, 3, none⟩ = some (.int .i64 slot))
    (SM : ∀ w', Keep (fun _ => False) w10 w' → Calls Try.prog 15 #[reqV rq (.slice A9 nq c9), reqV rq (.slice A10 nq c10)] w' fun e w'' => e = .returned (.bool true) ∧ Keep (fun _ => False) w10 w'')
    (PX : ∀ w', Keep (fun _ => False) w10 w' → Calls Try.prog 20 #[.pointer (some ⟨g, 0, none⟩)] w' fun e w'' => ∃ A c, e = .returned (.slice A L1.length c) ∧ Row (NewIn w' w'') w'' (.slice A L1.length c) L1.length 1 (L1.map I64) ∧ Keep (fun _ => False) w' w'' ∧ Keep (fun _ => False) w10 w'')
    (PY : ∀ w', Keep (fun _ => False) w10 w' → Calls Try.prog 28 #[.pointer (some ⟨g2, 0, none⟩)] w' fun e w'' => ∃ A c, e = .returned (.slice A L1.length c) ∧ Row (NewIn w' w'') w'' (.slice A L1.length c) L1.length 1 (L1.map I64) ∧ Keep (fun _ => False) w' w'' ∧ Keep (fun _ => False) w10 w'')
    (VX : ∀ w', Keep (fun _ => False) w10 w' → Calls Try.prog 29 #[.pointer (some ⟨g, 0, none⟩), .int .i64 slot] w' fun e w'' => ∃ A c, e = .returned (.slice A L2.length c) ∧ Row (NewIn w' w'') w'' (.slice A L2.length c) L2.length 1 (L2.map I64) ∧ Keep (fun _ => False) w' w'' ∧ Keep (fun _ => False) w10 w'')
    (VY : ∀ w', Keep (fun _ => False) w10 w' → Calls Try.prog 30 #[.pointer (some ⟨g2, 0, none⟩), .int .i64 slot] w' fun e w'' => ∃ A c, e = .returned (.slice A L2.length c) ∧ Row (NewIn w' w'') w'' (.slice A L2.length c) L2.length 1 (L2.map I64) ∧ Keep (fun _ => False) w' w'' ∧ Keep (fun _ => False) w10 w'')
    (FX : ∀ w', Keep (fun _ => False) w10 w' → Calls Try.prog 19 #[.pointer (some ⟨g, 0, none⟩), .int .i64 slot] w' fun e w'' => ∃ A c, e = .returned (.slice A L3.length c) ∧ Row (NewIn w' w'') w'' (.slice A L3.length c) L3.length 1 (L3.map I64) ∧ Keep (fun _ => False) w' w'' ∧ Keep (fun _ => False) w10 w'')
    (FY : ∀ w', Keep (fun _ => False) w10 w' → Calls Try.prog 32 #[.pointer (some ⟨g2, 0, none⟩), .int .i64 slot] w' fun e w'' => ∃ A c, e = .returned (.slice A L3.length c) ∧ Row (NewIn w' w'') w'' (.slice A L3.length c) L3.length 1 (L3.map I64) ∧ Keep (fun _ => False) w' w'' ∧ Keep (fun _ => False) w10 w'')
    (BX : ∀ w', Keep (fun _ => False) w10 w' → Calls Try.prog 17 #[.pointer (some ⟨g, 0, none⟩)] w' fun e w'' => e = .returned (.int .i64 bs) ∧ Keep (fun _ => False) w10 w'')
    (BY : ∀ w', Keep (fun _ => False) w10 w' → Calls Try.prog 31 #[.pointer (some ⟨g2, 0, none⟩)] w' fun e w'' => e = .returned (.int .i64 bs) ∧ Keep (fun _ => False) w10 w'')
    (TX : ∀ w', Keep (fun _ => False) w10 w' → Calls Try.prog 16 #[.pointer (some ⟨g, 0, none⟩)] w' fun e w'' => e = .returned (.int .i64 tp) ∧ Keep (fun _ => False) w10 w'')
    (TY : ∀ w', Keep (fun _ => False) w10 w' → Calls Try.prog 33 #[.pointer (some ⟨g2, 0, none⟩)] w' fun e w'' => e = .returned (.int .i64 tp) ∧ Keep (fun _ => False) w10 w'')
    (RX : ∀ w', Keep (fun _ => False) w10 w' → Calls Try.prog 23 #[.pointer (some ⟨g, 0, none⟩), .int .i64 slot, .slice A0 m c0] w' fun e w'' => e = .returned (.bool rd) ∧ Keep (fun _ => False) w10 w'')
    (RY : ∀ w', Keep (fun _ => False) w10 w' → Calls Try.prog 34 #[.pointer (some ⟨g2, 0, none⟩), .int .i64 slot, .slice A0 m c0] w' fun e w'' => e = .returned (.bool rd) ∧ Keep (fun _ => False) w10 w'')
    (WX : ∀ w', Keep (fun _ => False) w10 w' → Calls Try.prog 35 #[.pointer (some ⟨g, 0, none⟩), .int .i64 slot, .slice A0 m c0] w' fun e w'' => e = .returned (.bool wn) ∧ Keep (fun _ => False) w10 w'')
    (WY : ∀ w', Keep (fun _ => False) w10 w' → Calls Try.prog 36 #[.pointer (some ⟨g2, 0, none⟩), .int .i64 slot, .slice A0 m c0] w' fun e w'' => e = .returned (.bool wn) ∧ Keep (fun _ => False) w10 w'')
    (SI : ∀ w' a1 a2 (L : List Int) F1 F2, Keep (fun _ => False) w10 w' → Row F1 w' a1 L.length 1 (L.map I64) → Row F2 w' a2 L.length 1 (L.map I64) → Calls Try.prog 18 #[a1, a2] w' fun e w'' => e = .returned (.bool true) ∧ Keep (fun _ => False) w10 w'')
    (hn : ∀ (w' : World), Keep (fun _ => False) w10 w' → ∀ {u94 u95 u96 u97 u98 u99 u100 u101 u102 u103 u104 u105 u106 u107 u108 u109 u110 u111 u112 u113 u114 u115 u116 u117 u118 u119 u120 u121 u122 u123 u124 u125 u126 u127 u128 u129 u130 u131 u132 u133 u134 u135 u136 u137 u138 u139 u140 u141 u142 u143 u144 u145 u146 u147 u148 u149 u150 u151 u152 u153 u154 u155 u156 u157 u158 u159 u160 u161 u162 u163 u164 u165 u166 u167 u168 u169 u170 u171 u172 u173 u174 u175 u176 u177 : Value}, Q .normal ⟨#[v0, .slice A0 m c0, v2, v3, v4, v5, v6, .pointer (some ⟨g, 0, none⟩), .pointer (some ⟨g2, 0, none⟩), v9, .pointer (some ⟨gd, 0, none⟩), .bool true, v12, v13, .pointer (some ⟨ga, 0, none⟩), .bool iv, .pointer (some ⟨gb, 0, none⟩), .bool iv, v18, v19, v20, v21, v22, v23, v24, v25, v26, v27, v28, v29, v30, v31, v32, v33, v34, v35, v36, v37, v38, v39, v40, v41, v42, v43, v44, v45, v46, v47, v48, v49, v50, v51, v52, v53, v54, v55, v56, v57, v58, v59, v60, v61, v62, v63, v64, v65, v66, v67, v68, v69, v70, v71, v72, v73, v74, v75, v76, v77, v78, v79, v80, v81, v82, v83, v84, v85, v86, v87, v88, v89, v90, v91, v92, v93, u94, u95, u96, u97, u98, u99, u100, u101, u102, u103, u104, u105, u106, u107, u108, u109, u110, u111, u112, u113, u114, u115, u116, u117, u118, u119, u120, u121, u122, u123, u124, u125, u126, u127, u128, u129, u130, u131, u132, u133, u134, u135, u136, u137, u138, u139, u140, u141, u142, u143, u144, u145, u146, u147, u148, u149, u150, u151, u152, u153, u154, u155, u156, u157, u158, u159, u160, u161, u162, u163, u164, u165, u166, u167, u168, u169, u170, u171, u172, u173, u174, u175, u176, u177, .bool false], []⟩ w') :
    Code.wp Try.prog c Q ⟨#[v0, .slice A0 m c0, v2, v3, v4, v5, v6, .pointer (some ⟨g, 0, none⟩), .pointer (some ⟨g2, 0, none⟩), v9, .pointer (some ⟨gd, 0, none⟩), .bool true, v12, v13, .pointer (some ⟨ga, 0, none⟩), .bool iv, .pointer (some ⟨gb, 0, none⟩), .bool iv, v18, v19, v20, v21, v22, v23, v24, v25, v26, v27, v28, v29, v30, v31, v32, v33, v34, v35, v36, v37, v38, v39, v40, v41, v42, v43, v44, v45, v46, v47, v48, v49, v50, v51, v52, v53, v54, v55, v56, v57, v58, v59, v60, v61, v62, v63, v64, v65, v66, v67, v68, v69, v70, v71, v72, v73, v74, v75, v76, v77, v78, v79, v80, v81, v82, v83, v84, v85, v86, v87, v88, v89, v90, v91, v92, v93, v94, v95, v96, v97, v98, v99, v100, v101, v102, v103, v104, v105, v106, v107, v108, v109, v110, v111, v112, v113, v114, v115, v116, v117, v118, v119, v120, v121, v122, v123, v124, v125, v126, v127, v128, v129, v130, v131, v132, v133, v134, v135, v136, v137, v138, v139, v140, v141, v142, v143, v144, v145, v146, v147, v148, v149, v150, v151, v152, v153, v154, v155, v156, v157, v158, v159, v160, v161, v162, v163, v164, v165, v166, v167, v168, v169, v170, v171, v172, v173, v174, v175, v176, v177, v178], []⟩ w10 := by
  subst hc
  conv => arg 2; whnf
  simp only [List.append_eq, List.cons_append, List.nil_append]
  have HC := hid HCC
  have HN := hid @hn
  have kd : Keep (fun _ => False) w10 w10.drew := (Keep.refl (fun _ => False) w10).drew
  clear hn HCC
  refine wp_region_noPanic ?_
  go_region_held3 (fun w' => w'.cell? ⟨ga, 0, none⟩ = some (.int .i64 rq.kind) ∧ w'.cell? ⟨ga, 1, none⟩ = some (.string rq.name) ∧ w'.cell? ⟨ga, 2, none⟩ = some (.int .i64 rq.session) ∧ w'.cell? ⟨ga, 3, none⟩ = some (.int .i64 rq.seq) ∧ w'.cell? ⟨ga, 4, none⟩ = some (.int .i64 rq.base) ∧ w'.cell? ⟨ga, 5, none⟩ = some (.string rq.ref) ∧ w'.cell? ⟨ga, 6, none⟩ = some (.slice A9 nq c9) ∧ w'.cell? ⟨ga, 7, none⟩ = some (.string rq.path) ∧ w'.cell? ⟨ga, 8, none⟩ = some (.int .i64 rq.from') ∧ w'.cell? ⟨ga, 9, none⟩ = some (.int .i64 rq.many) ∧ w'.cell? ⟨ga, 10, none⟩ = some (.int .i64 rq.member) ∧ w'.cell? ⟨gb, 0, none⟩ = some (.int .i64 rq.kind) ∧ w'.cell? ⟨gb, 1, none⟩ = some (.string rq.name) ∧ w'.cell? ⟨gb, 2, none⟩ = some (.int .i64 rq.session) ∧ w'.cell? ⟨gb, 3, none⟩ = some (.int .i64 rq.seq) ∧ w'.cell? ⟨gb, 4, none⟩ = some (.int .i64 rq.base) ∧ w'.cell? ⟨gb, 5, none⟩ = some (.string rq.ref) ∧ w'.cell? ⟨gb, 6, none⟩ = some (.slice A10 nq c10) ∧ w'.cell? ⟨gb, 7, none⟩ = some (.string rq.path) ∧ w'.cell? ⟨gb, 8, none⟩ = some (.int .i64 rq.from') ∧ w'.cell? ⟨gb, 9, none⟩ = some (.int .i64 rq.many) ∧ w'.cell? ⟨gb, 10, none⟩ = some (.int .i64 rq.member) ∧ w'.cell? ⟨gd, 3, none⟩ = some (.int .i64 slot)) (exact HC.out _ (by assumption)) (first
    | (go_at_call 15; with_reducible refine (SM _ (by assumption)).mono ?_; rintro e w21 ⟨rfl, k21⟩)
    | (go_at_call 20; with_reducible refine (PX _ (by assumption)).mono ?_; rintro e w22 ⟨A22, c22, rfl, o22, q22, k22⟩)
    | (go_at_call 28; with_reducible refine (PY _ (by assumption)).mono ?_; rintro e w23 ⟨A23, c23, rfl, o23, q23, k23⟩)
    | (go_at_call 29; with_reducible refine (VX _ (by assumption)).mono ?_; rintro e w24 ⟨A24, c24, rfl, o24, q24, k24⟩)
    | (go_at_call 30; with_reducible refine (VY _ (by assumption)).mono ?_; rintro e w25 ⟨A25, c25, rfl, o25, q25, k25⟩)
    | (go_at_call 19; with_reducible refine (FX _ (by assumption)).mono ?_; rintro e w26 ⟨A26, c26, rfl, o26, q26, k26⟩)
    | (go_at_call 32; with_reducible refine (FY _ (by assumption)).mono ?_; rintro e w27 ⟨A27, c27, rfl, o27, q27, k27⟩)
    | (go_at_call 17; with_reducible refine (BX _ (by assumption)).mono ?_; rintro e w28 ⟨rfl, k28⟩)
    | (go_at_call 31; with_reducible refine (BY _ (by assumption)).mono ?_; rintro e w29 ⟨rfl, k29⟩)
    | (go_at_call 16; with_reducible refine (TX _ (by assumption)).mono ?_; rintro e w30 ⟨rfl, k30⟩)
    | (go_at_call 33; with_reducible refine (TY _ (by assumption)).mono ?_; rintro e w31 ⟨rfl, k31⟩)
    | (go_at_call 23; with_reducible refine (RX _ (by assumption)).mono ?_; rintro e w32 ⟨rfl, k32⟩)
    | (go_at_call 34; with_reducible refine (RY _ (by assumption)).mono ?_; rintro e w33 ⟨rfl, k33⟩)
    | (go_at_call 35; with_reducible refine (WX _ (by assumption)).mono ?_; rintro e w34 ⟨rfl, k34⟩)
    | (go_at_call 36; with_reducible refine (WY _ (by assumption)).mono ?_; rintro e w35 ⟨rfl, k35⟩)
    | (go_at_call 18; first
        | (with_reducible refine (SI _ _ _ _ _ _ (by assumption) (o22.keep q23 (fun _ _ => id)) o23).mono ?_; rintro e w41 ⟨rfl, k41⟩)
        | (with_reducible refine (SI _ _ _ _ _ _ (by assumption) o22 (o23.keep q22 (fun _ _ => id))).mono ?_; rintro e w41 ⟨rfl, k41⟩)
        | (with_reducible refine (SI _ _ _ _ _ _ (by assumption) (o24.keep q25 (fun _ _ => id)) o25).mono ?_; rintro e w42 ⟨rfl, k42⟩)
        | (with_reducible refine (SI _ _ _ _ _ _ (by assumption) o24 (o25.keep q24 (fun _ _ => id))).mono ?_; rintro e w42 ⟨rfl, k42⟩)
        | (with_reducible refine (SI _ _ _ _ _ _ (by assumption) (o26.keep q27 (fun _ _ => id)) o27).mono ?_; rintro e w43 ⟨rfl, k43⟩)
        | (with_reducible refine (SI _ _ _ _ _ _ (by assumption) o26 (o27.keep q26 (fun _ _ => id))).mono ?_; rintro e w43 ⟨rfl, k43⟩)))
  all_goals (
    clear SM PX PY VX VY FX FY BX BY TX TY RX RY WX WY SI
    exact HN.out _ (by first | exact k35 | exact k34))
end Go.Proofs.Ythlgnilgjeebaaa

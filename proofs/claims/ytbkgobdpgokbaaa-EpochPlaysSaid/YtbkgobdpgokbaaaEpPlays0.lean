/- wapentakelaw7.EpochPlays: the loop's round. -/
import Derived.Test.YtbkgobdpgokbaaaEpLook
import Derived.Test.YtbkgobdpgokbaaaLoop
import Derived.Deep.DeepCutAuto
import Derived.Deep.CutBlock
import Derived.Deep.CutRange
namespace Go.Proofs.Ytbkgobdpgokbaaa
open Go.RowKit
abbrev edeedO (d : EDeed) : Obj := .cells #[.int .i64 d.do_, .int .i64 d.slot, .int .i64 d.mem, .bool d.add] 24
/-- Behind a deed: both Epochs are alike, the deed's cell is as it was. -/
def AfterE (B : Nat) (w0 : World) (al : Int) (N g m gd : Nat) (d : EDeed) (w : World) : Prop :=
  ∃ L, TwoE B w g m al L L (fun k => k = gd) ∧ L.length ≤ N ∧ w.heap[gd]? = some (edeedO d) ∧ Keep (fun q => B ≤ q) w0 w ∧ B ≤ w.heap.size
theorem AfterE.mk {B : Nat} {w0 w : World} {al : Int} {N g m gd : Nat} {d : EDeed} {L : List Ep} (h1 : TwoE B w g m al L L (fun k => k = gd)) (h2 : L.length ≤ N) (h3 : w.heap[gd]? = some (edeedO d)) (h4 : Keep (fun q => B ≤ q) w0 w) (h5 : B ≤ w.heap.size) : AfterE B w0 al N g m gd d w := ⟨L, h1, h2, h3, h4, h5⟩
theorem chL_lenP {al : Int} {L : List Ep} {s m : Int} {add : Bool} : (chL al L s m add).length ≤ L.length + 1 := by
  unfold chL; split <;> simp
/-- The looks, their lists behind letters. -/
def Looks2 (w4 : World) (g m n : Nat) (L : List Ep) (Am : Option Addr) (cm : Nat) (U : List Int) (f : Int → List Int) : Prop :=
  (∀ w', Keep (fun _ => False) w4 w' → Calls Try.prog 15 #[.pointer (some ⟨g, 0, none⟩)] w' fun e w'' => ∃ A c, e = .returned (.slice A n c) ∧ EpSl (fun _ => True) (fun _ => True) w'' (.slice A n c) L ∧ Keep (fun _ => False) w4 w'') ∧
  (∀ w' A c, Keep (fun _ => False) w4 w' → EpSl (fun _ => True) (fun _ => True) w' (.slice A n c) L → Calls Try.prog 22 #[.slice A n c, .slice Am n cm] w' fun e w'' => e = .returned (.bool true) ∧ Keep (fun _ => False) w4 w'') ∧
  (∀ w', Keep (fun _ => False) w4 w' → Calls Try.prog 28 #[.pointer (some ⟨g, 0, none⟩)] w' fun e w'' => ∃ A c, e = .returned (.slice A U.length c) ∧ Row (fun _ => True) w'' (.slice A U.length c) U.length 1 (U.map I64) ∧ Keep (fun _ => False) w' w'' ∧ Keep (fun _ => False) w4 w'') ∧
  (∀ w', Keep (fun _ => False) w4 w' → Calls Try.prog 32 #[.pointer (some ⟨m, 0, none⟩)] w' fun e w'' => ∃ A c, e = .returned (.slice A U.length c) ∧ Row (fun _ => True) w'' (.slice A U.length c) U.length 1 (U.map I64) ∧ Keep (fun _ => False) w' w'' ∧ Keep (fun _ => False) w4 w'') ∧
  (∀ w' s, Keep (fun _ => False) w4 w' → Calls Try.prog 14 #[.pointer (some ⟨g, 0, none⟩), .int .i64 s] w' fun e w'' => ∃ A c, e = .returned (.slice A (f s).length c) ∧ Row (fun _ => True) w'' (.slice A (f s).length c) (f s).length 1 ((f s).map I64) ∧ Keep (fun _ => False) w' w'' ∧ Keep (fun _ => False) w4 w'') ∧
  (∀ w' s, Keep (fun _ => False) w4 w' → Calls Try.prog 23 #[.pointer (some ⟨m, 0, none⟩), .int .i64 s] w' fun e w'' => ∃ A c, e = .returned (.slice A (f s).length c) ∧ Row (fun _ => True) w'' (.slice A (f s).length c) (f s).length 1 ((f s).map I64) ∧ Keep (fun _ => False) w' w'' ∧ Keep (fun _ => False) w4 w'')
theorem Looks.two {w4 : World} {g m n : Nat} {L : List Ep} {Am : Option Addr} {cm : Nat} (h : Looks w4 g m n L Am cm) : ∃ U f, Looks2 w4 g m n L Am cm U f := ⟨memL (inU L), fun s => (atE L s).2, h⟩
set_option maxRecDepth 20000 in
set_option maxHeartbeats 4000000 in
theorem eplays0 {Q : Exit → Act → World → Prop} {v0 v1 v3 v4 v5 v6 v8 v10 v12 v13 v14 v15 v16 v17 v18 v19 v20 v21 v22 v23 v24 v25 v26 v27 v28 v29 v30 v31 v32 v33 v34 v35 v36 v37 v38 v39 v40 v41 v42 v43 v44 v45 v46 v47 v48 v49 v50 v51 v52 v53 v54 v55 v56 v57 v58 v59 v60 v61 v62 v63 v64 v65 v66 v67 v68 v69 v70 v71 v72 v73 v74 v75 v76 v77 v78 v79 v80 v81 v82 v83 v84 v85 v86 v87 v88 v89 v90 v91 v92 v93 v94 v95 v96 v97 v98 v99 v100 v101 v102 v103 v104 v105 v106 v107 v108 v109 v110 v111 v112 v113 v114 v115 v116 v117 v118 v119 v120 v121 v122 v123 v124 v125 : Value} {n cC g m B k bl ol : Nat} {al : Int} {w0 w : World} {L : List Ep} {d : EDeed}
    (hlt : k < n) (h200 : n ≤ 200) (hB : B ≤ w.heap.size) (hT : TwoE B w g m al L L (fun _ => False)) (hL : L.length ≤ k + 1) (hkp : Keep (fun q => B ≤ q) w0 w)
    (c0 : w.cell? ⟨bl, ol + k * 4, none⟩ = some (.int .i64 d.do_)) (c1 : w.cell? ⟨bl, ol + k * 4 + 1, none⟩ = some (.int .i64 d.slot)) (c2 : w.cell? ⟨bl, ol + k * 4 + 2, none⟩ = some (.int .i64 d.mem)) (c3 : w.cell? ⟨bl, ol + k * 4 + 3, none⟩ = some (.bool d.add))
    (hos : okI d.slot) (hom : okI d.mem)
    (hn : ∀ (L' : List Ep) (w' : World), TwoE B w' g m al L' L' (fun _ => False) ∧ L'.length ≤ k + 2 ∧ Keep (fun q => B ≤ q) w0 w' ∧ B ≤ w'.heap.size → ∀ {u6 u12 u13 u43 u44 u45 u46 u47 u48 u49 u50 u51 u52 u53 u54 u55 u56 u57 u58 u59 u60 u61 u62 u63 u64 u65 u66 u67 u68 u69 u70 u71 u72 u73 u74 u75 u76 u77 u78 u79 u80 u81 u82 u83 u84 u85 u86 u87 u88 u89 u90 u91 u92 u93 u94 u95 u96 u97 u98 u99 u100 u101 u102 u103 u104 u105 u106 u107 u108 u109 u110 u111 u112 u113 u114 u115 u116 u117 u118 u119 u120 u121 u122 u123 u124 u125 : Value}, Q .normal ⟨#[v0, v1, .slice (some ⟨bl, ol, none⟩) n cC, v3, v4, v5, u6, .pointer (some ⟨g, 0, none⟩), v8, .pointer (some ⟨m, 0, none⟩), v10, .int .i64 ((k : Int) + 1), u12, u13, v14, v15, v16, v17, v18, v19, v20, v21, v22, v23, v24, v25, v26, v27, v28, v29, v30, v31, v32, v33, v34, v35, v36, v37, v38, v39, v40, v41, v42, u43, u44, u45, u46, u47, u48, u49, u50, u51, u52, u53, u54, u55, u56, u57, u58, u59, u60, u61, u62, u63, u64, u65, u66, u67, u68, u69, u70, u71, u72, u73, u74, u75, u76, u77, u78, u79, u80, u81, u82, u83, u84, u85, u86, u87, u88, u89, u90, u91, u92, u93, u94, u95, u96, u97, u98, u99, u100, u101, u102, u103, u104, u105, u106, u107, u108, u109, u110, u111, u112, u113, u114, u115, u116, u117, u118, u119, u120, u121, u122, u123, u124, u125], []⟩ w')
    : Code.wp Try.prog (loopBody Try.f9 0) Q ⟨#[v0, v1, .slice (some ⟨bl, ol, none⟩) n cC, v3, v4, v5, v6, .pointer (some ⟨g, 0, none⟩), v8, .pointer (some ⟨m, 0, none⟩), v10, .int .i64 k, v12, v13, v14, v15, v16, v17, v18, v19, v20, v21, v22, v23, v24, v25, v26, v27, v28, v29, v30, v31, v32, v33, v34, v35, v36, v37, v38, v39, v40, v41, v42, v43, v44, v45, v46, v47, v48, v49, v50, v51, v52, v53, v54, v55, v56, v57, v58, v59, v60, v61, v62, v63, v64, v65, v66, v67, v68, v69, v70, v71, v72, v73, v74, v75, v76, v77, v78, v79, v80, v81, v82, v83, v84, v85, v86, v87, v88, v89, v90, v91, v92, v93, v94, v95, v96, v97, v98, v99, v100, v101, v102, v103, v104, v105, v106, v107, v108, v109, v110, v111, v112, v113, v114, v115, v116, v117, v118, v119, v120, v121, v122, v123, v124, v125], []⟩ w := by
  conv => arg 2; whnf
  have HHN := Go.Proofs.Ytbkgobdpgokbaaa.hid @hn
  obtain ⟨do_, slot, mm, add⟩ := d
  simp only at c0 c1 c2 c3 hos hom
  clear hn
  go_upto_region 15 with fail
  have hT2 : TwoE B (w.alloc (edeedO ⟨do_, slot, mm, add⟩)) g m al L L (fun k => k = w.heap.size) := hT.withX _
  have hd2 := heap_alloc_new w (edeedO ⟨do_, slot, mm, add⟩)
  have hk2 : Keep (fun q => B ≤ q) w0 (w.alloc (edeedO ⟨do_, slot, mm, add⟩)) := hkp.alloc _
  have hb2 : B ≤ (w.alloc (edeedO ⟨do_, slot, mm, add⟩)).heap.size := by simp; omega
  have hx : ∀ (gd : Nat) (wa wb : World), Keep (fun k => B ≤ k ∧ ¬ k = gd) wa wb → Keep (fun q => B ≤ q) w0 wa → Keep (fun q => B ≤ q) w0 wb := fun _ _ _ h1 h2 => h2.trans h1 (fun b hb e => e.1)
  have HO := Go.Proofs.Ytbkgobdpgokbaaa.hid hx
  generalize w.alloc (edeedO ⟨do_, slot, mm, add⟩) = w2 at *
  generalize hgd : w.heap.size = gd at *
  clear hT hkp c0 c1 c2 c3 hB hgd hx
  have c0 := cell_at hd2 0 (.int .i64 do_) rfl
  have c1 := cell_at hd2 1 (.int .i64 slot) rfl
  have c2 := cell_at hd2 2 (.int .i64 mm) rfl
  have c3 := cell_at hd2 3 (.bool add) rfl
  have HD2 := Go.Proofs.Ytbkgobdpgokbaaa.hid hd2
  have HK2 := Go.Proofs.Ytbkgobdpgokbaaa.hid hk2
  have HB2 := Go.Proofs.Ytbkgobdpgokbaaa.hid hb2
  have HT2 := Go.Proofs.Ytbkgobdpgokbaaa.hid hT2
  clear hd2 hk2 hb2 hT2
  go_upto_if 55 with fail
  go_cut [13] from 43 to 81 (fun s13 wx => AfterE B w0 al (k + 2) g m gd ⟨do_, slot, mm, add⟩ wx)
  case first =>
    by_cases h4 : do_ ≤ 4
    · have hch := HT2.out.ch1 slot mm hos hom add (by omega)
      obtain ⟨r, hr⟩ : ∃ r, r = chE al L slot mm add := ⟨_, rfl⟩
      rw [← hr] at hch
      have HR := Go.Proofs.Ytbkgobdpgokbaaa.hid hr
      clear hr
      go_wp2_with fail
      refine hch.mono ?_
      rintro e w3 ⟨rfl, hT3, k3⟩
      have hd3 := k3.heap HD2.out (fun q => q.2 rfl)
      have e1 := cell_at hd3 1 (.int .i64 slot) rfl
      have e2 := cell_at hd3 2 (.int .i64 mm) rfl
      have e3 := cell_at hd3 3 (.bool add) rfl
      have hrc := hT3.ch2 slot mm hos hom add (by omega)
      rw [← HR.out] at hrc
      have hcl := chL_lenP (al := al) (L := L) (s := slot) (m := mm) (add := add)
      have HCL := Go.Proofs.Ytbkgobdpgokbaaa.hid hcl
      have K3 := Go.Proofs.Ytbkgobdpgokbaaa.hid k3
      have HD3 := Go.Proofs.Ytbkgobdpgokbaaa.hid hd3
      clear hch hd3 k3 hT3 c0 c1 c2 c3 hcl
      go_wp2_with fail
      refine hrc.mono ?_
      rintro e w4 ⟨rfl, hT4, k4⟩
      have HA := Go.Proofs.Ytbkgobdpgokbaaa.hid (AfterE.mk (N := k + 2) (d := ⟨do_, slot, mm, add⟩) hT4 (by have := HCL.out; omega) (k4.heap HD3.out (fun q => q.2 rfl)) (HO.out _ _ _ k4 (HO.out _ _ _ K3.out HK2.out)) (by have := HB2.out; have := K3.out.size; have := k4.size; omega))
      clear hrc hT4 k4
      go_wp2_with fail
      go_meet
      exact HA.out
    · have hch := HT2.out.cut1 slot (by omega)
      go_wp2_with fail
      refine hch.mono ?_
      rintro e w3 ⟨rfl, hT3, k3⟩
      have hd3 := k3.heap HD2.out (fun q => q.2 rfl)
      have e1 := cell_at hd3 1 (.int .i64 slot) rfl
      have hrc := hT3.cut2 slot (by omega)
      have hcl := drop_le L (atP L slot L.length)
      have HCL := Go.Proofs.Ytbkgobdpgokbaaa.hid hcl
      have K3 := Go.Proofs.Ytbkgobdpgokbaaa.hid k3
      have HD3 := Go.Proofs.Ytbkgobdpgokbaaa.hid hd3
      clear hch hd3 k3 hT3 c0 c1 c2 c3 hcl
      go_wp2_with fail
      refine hrc.mono ?_
      rintro e w4 ⟨rfl, hT4, k4⟩
      have HA := Go.Proofs.Ytbkgobdpgokbaaa.hid (AfterE.mk (N := k + 2) (d := ⟨do_, slot, mm, add⟩) hT4 (by have := HCL.out; omega) (k4.heap HD3.out (fun q => q.2 rfl)) (HO.out _ _ _ k4 (HO.out _ _ _ K3.out HK2.out)) (by have := HB2.out; have := K3.out.size; have := k4.size; omega))
      clear hrc hT4 k4
      go_wp2_with fail
      go_meet
      exact HA.out
  case rest =>
    revert wc
    intro w4 hcut
    obtain ⟨L2, hT4, hl4, hd4, hk4, hb4⟩ := hcut
    clear c0 c1 c2 c3 HD2 HK2 HB2 HT2 HO hL
    obtain ⟨Am, cm, hcm, hlk⟩ := hT4.looks (by omega)
    obtain ⟨U, f, LE, SE, KU, RU, KA, RA⟩ := hlk.two
    obtain ⟨N, hN⟩ : ∃ N, N = L2.length := ⟨_, rfl⟩
    rw [← hN] at hcm LE SE
    have HC := Go.Proofs.Ytbkgobdpgokbaaa.hid (fun w' (hk : Keep (fun _ => False) w4 w') => (⟨hk.cell hcm id, hk.cell (cell_at hd4 1 (.int .i64 slot) rfl) id⟩ : w'.cell? ⟨m, 1, none⟩ = some (.slice Am N cm) ∧ w'.cell? ⟨gd, 1, none⟩ = some (.int .i64 slot)))
    have HEND := Go.Proofs.Ytbkgobdpgokbaaa.hid (fun (w' : World) (hk' : Keep (fun _ => False) w4 w') => (⟨(hT4.keepF hk').noX, hl4, hk4.trans hk' (fun b hb h => h.elim), by have := hk'.size; omega⟩ : (TwoE B w' g m al L2 L2 fun _ => False) ∧ L2.length ≤ k + 2 ∧ Keep (fun q => B ≤ q) w0 w' ∧ B ≤ w'.heap.size))
    have SI : ∀ w' v1 v2 (M : List Int) F1 F2, Keep (fun _ => False) w4 w' → Row F1 w' v1 M.length 1 (M.map I64) → Row F2 w' v2 M.length 1 (M.map I64) → Calls Try.prog 13 #[v1, v2] w' fun e w'' => e = .returned (.bool true) ∧ Keep (fun _ => False) w4 w'' := fun w' v1 v2 M F1 F2 hk r1 r2 => (sameInts_calls r1 r2).mono (fun e w'' ⟨h1, z, h2⟩ => ⟨by rw [h1, decide_eq_true rfl], by rw [h2]; exact hk.drewN z⟩)
    have kd : Keep (fun _ => False) w4 w4.drew := (Keep.refl _ w4).drew
    clear hlk hcm hd4 hk4 hT4 hN hl4 hb4
    go_wp2_with fail
    go_region_held3 (fun w' => w'.cell? ⟨m, 1, none⟩ = some (.slice Am N cm) ∧ w'.cell? ⟨gd, 1, none⟩ = some (.int .i64 slot)) (exact HC.out _ (by assumption)) (first
      | (go_at_call 15; with_reducible refine (LE _ (by assumption)).mono ?_; rintro e w5 ⟨A5, c5, rfl, hs5, k5⟩)
      | (go_at_call 22; with_reducible refine (SE _ _ _ (by assumption) hs5).mono ?_; rintro e w7 ⟨rfl, k7⟩)
      | (go_at_call 28; with_reducible refine (KU _ (by assumption)).mono ?_; rintro e w8 ⟨A8, c8, rfl, o8, q8, k8⟩)
      | (go_at_call 32; with_reducible refine (RU _ (by assumption)).mono ?_; rintro e w9 ⟨A9, c9, rfl, o9, q9, k9⟩)
      | (go_at_call 14; with_reducible refine (KA _ _ (by assumption)).mono ?_; rintro e w8 ⟨A8, c8, rfl, o8, q8, k8⟩)
      | (go_at_call 23; with_reducible refine (RA _ _ (by assumption)).mono ?_; rintro e w9 ⟨A9, c9, rfl, o9, q9, k9⟩)
      | (go_at_call 13; first | (with_reducible refine (SI _ _ _ _ _ _ (by assumption) (o8.keep q9 (fun _ _ => id)) o9).mono ?_; rintro e w10 ⟨rfl, k10⟩) | (with_reducible refine (SI _ _ _ _ _ _ (by assumption) o8 (o9.keep q8 (fun _ _ => id))).mono ?_; rintro e w10 ⟨rfl, k10⟩)))
    all_goals (
      clear LE SE KU RU KA RA
      go_wp2_with fail
      exact HHN.out L2 _ (HEND.out _ k10))
end Go.Proofs.Ytbkgobdpgokbaaa

/- wapentakelaw9.EntryOne: the walk. -/
import Derived.Test.YtdijafolldneeaaEntOneP
import Derived.Test.YtdijafolldneeaaEntRef3
import Derived.Test.YtdijafolldneeaaEntSame
import Derived.Deep.DeepCutAuto
import Derived.Deep.CutBlock
import Derived.Deep.CutRange
namespace Go.Proofs.Ytdijafolldneeaa
open Go.RowKit
theorem wpl_sliceHiG {P : Program} {ops : Array Oper} {rest : List Oper} {op : Oper} {a : Act} {w : World} {Q : Exit → Act → World → Prop} {ty : TypeId} {x y : Operand} {A : Option Addr} {n c j size : Nat} (hgw : Region.wanted op (yielded ops a.tmps) = true) (ho : op.op = .slice ty x none (some y) none) (ht : P.underlying ty = some (.slice (P.elem ty))) (hi : (P.info? (P.elem ty)).map (·.size) = some size)
    (hx : a.eval x = .slice A n c) (hy : a.eval y = .int .i64 j) (hj : j ≤ c) (h : wpList P ops Q rest (a.put op.dst (.slice A j c)) w) : wpList P ops Q (op :: rest) a w := by
  have hr : (Instr.sliceAt ty (.slice A n c) none (some (.int .i64 j)) none).run P w = .ok (.slice A j c) w := by
    rw [run_sliceAt_slice w ty _ _ _ _ ht, run_slice_h w ty A n c ht .i64 j (by omega) (by omega), size_of hi]
    have h0 : ∀ p : Addr, p.add 0 = p := fun p => by cases p; simp [Addr.add]
    cases A <;> simp [Result.andThen, sliced, h0]
  refine wpList_step fun K hK => ?_
  rw [if_pos hgw]
  unfold Oper.wp execOp
  simp only [ho, Option.map_none, Option.map_some, hx, hy, Sem.run_bind, Sem.run_pure, Result.andThen_ok, hr]
  exact hK _ _ h
set_option maxRecDepth 20000 in
set_option maxHeartbeats 16000000 in
theorem entryOne_calls {w : World} {v0 v1 v2 : Value} {r s : Req} {x : Verdict} (h0 : ReqIs w v0 r) (h1 : ReqIs w v1 s) (h2 : VdIs w v2 x) :
    Calls Try.prog 7 #[v0, v1, v2] w fun e w' => e = .returned (.bool true) ∧ Below w.heap.size w w' := by
  obtain ⟨u0, rfl, hs0⟩ := h0
  obtain ⟨u1, rfl, hs1⟩ := h1
  obtain ⟨u2, rfl, hs2, hok⟩ := h2
  obtain ⟨Av, cx, rfl⟩ := hs2.shape
  obtain ⟨nv, hnv⟩ : ∃ nv, nv = x.commits.length := ⟨_, rfl⟩
  rw [← hnv] at hs2 ⊢
  obtain ⟨A, c, rfl⟩ := hs0.shape
  obtain ⟨n, hn⟩ : ∃ n, n = r.changes.length := ⟨_, rfl⟩
  rw [← hn] at hs0 ⊢
  obtain ⟨B, d, rfl⟩ := hs1.shape
  obtain ⟨m, hm⟩ : ∃ m, m = s.changes.length := ⟨_, rfl⟩
  rw [← hm] at hs1 ⊢
  have HS0 := hid hs0; have HS1 := hid hs1; have HS2 := hid hs2; have HDA := hid (fun c (hc : c ∈ r.changes) => change_small hs0 hc); have HDB := hid (fun c (hc : c ∈ s.changes) => change_small hs1 hc)
  clear hs0 hs1 hs2 hn hm hok hnv
  go_enter Try.func7, Try.ntmps7
  go_wp2_with (first
    | (have _f := HB; refine wpl_boxB (v := .agg (verdictCs x (.slice Av nv cx)).toArray) rfl rfl rfl ?_; intro g3 w3 hg3 hb3 k3 s3; have K3 := hid k3; have HB3 := hid hb3; clear hg3 k3 s3 hb3 _f)
    | (have _f := HA; refine wpl_boxB (v := .agg (reqCs s (.slice B m d)).toArray) rfl rfl rfl ?_; intro g2 w2 hg2 hb2 k2 s2; have K2 := hid k2; have HB := hid hb2; clear hg2 k2 s2 hb2 _f)
    | (refine wpl_boxB (v := .agg (reqCs r (.slice A n c)).toArray) rfl rfl rfl ?_; intro g1 w1 hg1 hb1 k1 s1; have K1 := hid k1; have HA := hid hb1; clear hg1 k1 s1 hb1))
  refine (awake9_calls w3).mono ?_
  rintro e w4 ⟨rfl, k4⟩
  have hb1 := k4.heap (K3.out.heap (K2.out.heap HA.out id) id) id
  have hb2 := k4.heap (K3.out.heap HB.out id) id
  have hb3 := k4.heap HB3.out id
  have K4 := hid (((K1.out.trans K2.out (fun _ _ f => f)).trans K3.out (fun _ _ f => f)).trans k4 (fun _ _ f => f))
  have H1 := hid hb1; have H2 := hid hb2; have H3 := hid hb3
  clear k4 hb2 hb3 HA HB HB3
  obtain ⟨m1, hm1⟩ : ∃ b, b = smallB r := ⟨_, rfl⟩
  obtain ⟨m2, hm2⟩ : ∃ b, b = smallB s := ⟨_, rfl⟩
  obtain ⟨m3, hm3⟩ : ∃ b, b = smallV x := ⟨_, rfl⟩
  have S1 := hid (small_calls (r := r) (HS0.out.keep K4.out (fun _ _ => id)))
  rw [← hm1] at S1
  have S2 := hid (fun y (hk : Keep (fun _ => False) w y) => small_calls (r := s) (HS1.out.keep hk (fun _ _ => id)))
  rw [← hm2] at S2
  have S3 := hid (fun y (hk : Keep (fun _ => False) w y) => smallV_calls (x := x) (HS2.out.keep hk (fun _ _ => id)))
  rw [← hm3] at S3
  clear hm1 hm2 hm3
  go_wp2_with (first
    | (refine wpl_loadA (ty := 29) (o := 0) (n := 11) rfl rfl rfl hb1 (by kernel_rfl) (by kernel_rfl) (reqCs r (.slice A n c)) rfl rfl ?_))
  refine S1.out.mono ?_
  rintro e w5 ⟨rfl, k5⟩
  have hb2 := k5.heap H2.out id
  have K5 := hid (K4.out.trans k5 (fun _ _ f => f)); have H1 := hid (k5.heap H1.out id); have H3 := hid (k5.heap H3.out id); have H2 := hid hb2
  clear k5 hb1
  cases m1 with
  | false =>
    go_wp2_with fail
    go_ret
    exact ⟨rfl, K5.out.below (Nat.le_refl _) (fun _ _ f => f)⟩
  | true =>
  go_wp2_with (first
    | (refine wpl_loadG (ty := 29) rfl rfl rfl hb2 (by kernel_rfl) (by kernel_rfl) (reqCs s (.slice B m d)) rfl rfl ?_))
  refine (S2.out _ K5.out).mono ?_
  rintro e w6 ⟨rfl, k6⟩
  have hb3 := k6.heap H3.out id
  have K6 := hid (K5.out.trans k6 (fun _ _ f => f)); have H1 := hid (k6.heap H1.out id); have H2 := hid (k6.heap H2.out id); have H3 := hid hb3
  clear k6 hb2
  cases m2 with
  | false =>
    go_wp2_with fail
    go_ret
    exact ⟨rfl, K6.out.below (Nat.le_refl _) (fun _ _ f => f)⟩
  | true =>
  go_wp2_with (first
    | (refine wpl_loadG (ty := 43) rfl rfl rfl hb3 (by kernel_rfl) (by kernel_rfl) (verdictCs x (.slice Av nv cx)) rfl rfl ?_))
  refine (S3.out _ K6.out).mono ?_
  rintro e w7 ⟨rfl, k7⟩
  have hb3 := k7.heap H3.out id
  have K7 := hid (K6.out.trans k7 (fun _ _ f => f)); have H1 := hid (k7.heap H1.out id); have H2 := hid (k7.heap H2.out id); have H3 := hid hb3
  clear k7 S1 S2 S3
  cases m3 with
  | false =>
    go_wp2_with fail
    go_ret
    exact ⟨rfl, K7.out.below (Nat.le_refl _) (fun _ _ f => f)⟩
  | true =>
  have hb1 := H1.out
  have HNB3 := hid hb3
  clear hb3
  obtain ⟨f1, hf1⟩ : ∃ f : Int, f = if mayR r then 0 else 1 := ⟨_, rfl⟩
  obtain ⟨f2, hf2⟩ : ∃ f : Int, f = if mayR s then 0 else 1 := ⟨_, rfl⟩
  have HF1 := hid hf1; have HF2 := hid hf2
  clear hf1 hf2
  have e1 := enc_calls (r := r) (HS0.out.keep K7.out (fun _ _ => id)) (fun k hk => by have := K7.out.size; omega)
  unfold EncPost at e1
  rw [← HF1.out] at e1
  have E1 := hid e1
  clear e1
  go_wp2_with (first
    | (refine wpl_loadA (ty := 29) (o := 0) (n := 11) rfl rfl rfl hb1 (by kernel_rfl) (by kernel_rfl) (reqCs r (.slice A n c)) rfl rfl ?_))
  refine E1.out.mono ?_
  rintro e w8 ⟨v8, rfl, ho8, _, k8⟩
  have hb2 := k8.heap H2.out id
  have K8 := hid (K7.out.trans k8 (fun _ _ f => f)); have H1 := hid (k8.heap H1.out id); have H3 := hid (k8.heap H3.out id); have H2 := hid hb2
  obtain ⟨A8, c8, rfl⟩ := own_slice ho8
  have R8 := hid (Row.ofOwn ho8)
  clear k8 ho8 hb1 E1 HNB3
  have e1 := enc_calls (r := s) (HS1.out.keep K8.out (fun _ _ => id)) (fun k hk => by have := K8.out.size; omega)
  unfold EncPost at e1
  rw [← HF2.out] at e1
  have E1 := hid e1
  clear e1
  go_wp2_with (first
    | (refine wpl_loadA (ty := 29) (o := 0) (n := 11) rfl rfl rfl hb2 (by kernel_rfl) (by kernel_rfl) (reqCs s (.slice B m d)) rfl rfl ?_))
  refine E1.out.mono ?_
  rintro e w9 ⟨v9, rfl, ho9, _, k9⟩
  have K9 := hid (K8.out.trans k9 (fun _ _ f => f)); have H1 := hid (k9.heap H1.out id); have H2 := hid (k9.heap H2.out id); have H3 := hid (k9.heap H3.out id)
  obtain ⟨A9, c9, rfl⟩ := own_slice ho9
  have R9 := hid (Row.ofOwn ho9)
  have R8 := hid (R8.out.keep k9 (fun _ _ => id))
  clear k9 ho9 hb2 E1
  by_cases z1 : f1 = 0
  case' neg =>
    have hb : (f1 != 0) = true := by simpa using z1
    clear z1
    go_wp2_with fail
    go_ret
    exact ⟨rfl, K9.out.below (Nat.le_refl _) (fun _ _ f => f)⟩
  by_cases z2 : f2 = 0
  case' neg =>
    have hb : (f2 != 0) = true := by simpa using z2
    subst z1
    clear z2
    go_wp2_with fail
    go_ret
    exact ⟨rfl, K9.out.below (Nat.le_refl _) (fun _ _ f => f)⟩
  have hmr : mayR r := by
    by_cases h : mayR r
    · exact h
    · have := HF1.out; rw [if_neg h, z1] at this; omega
  have hms : mayR s := by
    by_cases h : mayR s
    · exact h
    · have := HF2.out; rw [if_neg h, z2] at this; omega
  clear HF1 HF2
  subst z1 z2
  have ea : encB r = encR r := if_pos hmr
  have eb : encB s = encR s := if_pos hms
  obtain ⟨la, hla⟩ : ∃ la, la = (encB r).length := ⟨_, rfl⟩
  obtain ⟨lb, hlb⟩ : ∃ lb, lb = (encB s).length := ⟨_, rfl⟩
  have q1 := encR_len hmr; have q2 := encR_len hms
  rw [← ea, ← hla] at q1; rw [← eb, ← hlb] at q2
  rw [← hla] at R8 ⊢; rw [← hlb] at R9 ⊢
  have HONE := hid (one_req hmr hms HDA.out HDB.out)
  rw [← ea, ← eb, ← hla, ← hlb] at HONE
  have HLA := hid hla; have HLB := hid hlb
  obtain ⟨dd, hdd⟩ : ∃ dd, dd = decide (r = s) := ⟨_, rfl⟩
  have HDD := hid hdd
  clear ea eb hla hlb hmr hms hdd
  go_upto_region 9 with fail
  go_cut [11] from 48 to 64 (fun sv wx => sv = .bool dd ∧ Keep (fun _ => False) w9 wx)
  case first =>
    by_cases hle : la ≤ lb
    · have hcap : lb ≤ c9 := by obtain ⟨A', c', he, _, hnc, _⟩ := R9.out; simp only [Value.slice.injEq] at he; omega
      have rt := R9.out.takeN (j := la) hle
      have hl : ((encB s).take la).length = la := by rw [List.length_take, ← HLB.out]; omega
      rw [Nat.mul_one, ← List.map_take] at rt
      have r8 := R8.out
      have sc := same_calls (w := w9) (a := encB r) (b := (encB s).take la) (by rw [← HLA.out]; exact r8) (by rw [hl]; exact rt)
      rw [show decide (encB r = (encB s).take la) = dd by rw [HDD.out]; exact decide_eq_decide.2 ⟨fun h => HONE.out.1 ⟨hle, h⟩, fun h => (HONE.out.2 h).2⟩] at sc
      have SC := hid sc
      clear rt hl r8 sc
      go_wp2_with (first
        | (refine wpl_sliceHiG (j := la) (size := 1) rfl rfl (by kernel_rfl) (by kernel_rfl) rfl (by simp) (by omega) ?_))
      refine SC.out.mono ?_
      rintro e w10 ⟨rfl, k10⟩
      clear SC
      go_wp2_with fail
      go_meet
      exact ⟨rfl, k10⟩
    · have hb : dd = false := by rw [HDD.out]; exact decide_eq_false (fun h => hle (HONE.out.2 h).1)
      subst hb
      go_wp2_with fail
      go_meet
      exact ⟨rfl, Keep.refl _ _⟩
  case rest =>
    obtain ⟨rfl, k10⟩ := hcut
    have hb3 := k10.heap H3.out id
    have K10 := hid (K9.out.trans k10 (fun _ _ f => f)); have H1 := hid (k10.heap H1.out id); have H2 := hid (k10.heap H2.out id); have H3 := hid hb3
    clear k10 q1 q2
    go_upto_region 13 with (first
      | (refine wpl_loadA (ty := 43) (o := 0) (n := 7) rfl rfl rfl hb3 (by kernel_rfl) (by kernel_rfl) (verdictCs x (.slice Av nv cx)) rfl rfl ?_)
      | (refine wpl_allocB (z := zVd) rfl rfl (by kernel_rfl) ?_; intro g7 w11 hg7 hb7 k11 s11; have HG7 := hid hg7; have K11 := hid k11; clear hg7 k11 s11)
      | (refine wpl_storeB (v := .agg (verdictCs x (.slice Av nv cx)).toArray) rfl rfl rfl rfl hb7 (by kernel_rfl) (Nat.le_refl 7) (by simp [Value.oneCell', verdictCs, Value.cells]) ?_; intro w12 hb12 k12 s12; rw [show spl (Value.agg (verdictCs vdZ (.slice none 0 0)).toArray).cells 0 (Value.agg (verdictCs x (.slice Av nv cx)).toArray).cells.toList = (verdictCs x (.slice Av nv cx)).toArray from spl_whole _ _ (Nat.le_refl 7)] at hb12; have K12 := hid (K11.out.trans k12 (fun b hb e => by have := HG7.out; omega)); have z0 := cell_at hb12 0 (.int .i64 x.code) rfl; have z2 := cell_at hb12 2 (.int .i64 x.rev) rfl; have zf := fun o => free_at hb12 o; have HB12 := hid hb12; clear k12 s12 hb7 hb12))
    have hbY : ((w12.setCell ⟨g7, 0, none⟩ (.int .i64 2)).setCell ⟨g7, 2, none⟩ (.int .i64 7)).heap[g7]? = some (.cells (verdictCs ⟨2, x.session, 7, x.path, x.digest, x.commits, x.member⟩ (.slice Av nv cx)).toArray 43) := by rw [heap_set (heap_set HB12.out 0 _)]; rfl
    have k13 : Keep (fun k => k = g7) w12 ((w12.setCell ⟨g7, 0, none⟩ (.int .i64 2)).setCell ⟨g7, 2, none⟩ (.int .i64 7)) := ((Keep.refl (fun k => k = g7) w12).setCell ⟨g7, 0, none⟩ _ (fun _ => rfl)).setCell ⟨g7, 2, none⟩ _ (fun _ => rfl)
    generalize (w12.setCell ⟨g7, 0, none⟩ (.int .i64 2)).setCell ⟨g7, 2, none⟩ (.int .i64 7) = w13 at hbY k13 ⊢
    have k1013 := K12.out.trans k13 (fun b hb e => by have := HG7.out; omega)
    have hb3 := k1013.heap H3.out id
    have K13 := hid (K10.out.trans k1013 (fun _ _ f => f)); have H1 := hid (k1013.heap H1.out id); have H2 := hid (k1013.heap H2.out id); have HX := hid hb3; have HY := hid hbY
    clear k13 k1013 hbY z0 z2 zf
    obtain ⟨fx, hfx⟩ : ∃ f : Int, f = if (vS x).f = 0 then 0 else 1 := ⟨_, rfl⟩
    obtain ⟨fy, hfy⟩ : ∃ f : Int, f = if (vS ⟨2, x.session, 7, x.path, x.digest, x.commits, x.member⟩).f = 0 then 0 else 1 := ⟨_, rfl⟩
    have HFX := hid hfx; have HFY := hid hfy
    clear hfx hfy
    have e1 := encV_calls (x := x) (HS2.out.keep K13.out (fun _ _ => id)) (fun k hk => by have := K13.out.size; omega)
    unfold EncVPost at e1
    rw [← HFX.out] at e1
    have E1 := hid e1
    clear e1
    go_wp2_with (first
      | (refine wpl_loadA (ty := 43) (o := 0) (n := 7) rfl rfl rfl hb3 (by kernel_rfl) (by kernel_rfl) (verdictCs x (.slice Av nv cx)) rfl rfl ?_))
    refine E1.out.mono ?_
    rintro e w14 ⟨v14, rfl, ho14, _, k14⟩
    have hbY := k14.heap HY.out id
    have K14 := hid (K13.out.trans k14 (fun _ _ f => f)); have H1 := hid (k14.heap H1.out id); have H2 := hid (k14.heap H2.out id); have HX := hid (k14.heap HX.out id); have HY := hid hbY
    obtain ⟨A14, c14, rfl⟩ := own_slice ho14
    have RX := hid (Row.ofOwn ho14)
    clear k14 ho14 hb3 E1
    have e1 := encV_calls (x := ⟨2, x.session, 7, x.path, x.digest, x.commits, x.member⟩) (u := .slice Av nv cx) (HS2.out.keep K14.out (fun _ _ => id)) (fun k hk => by have := K14.out.size; omega)
    unfold EncVPost at e1
    rw [← HFY.out] at e1
    have E1 := hid e1
    clear e1
    go_wp2_with (first
      | (refine wpl_loadA (ty := 43) (o := 0) (n := 7) rfl rfl rfl hbY (by kernel_rfl) (by kernel_rfl) (verdictCs ⟨2, x.session, 7, x.path, x.digest, x.commits, x.member⟩ (.slice Av nv cx)) rfl rfl ?_))
    refine E1.out.mono ?_
    rintro e w15 ⟨v15, rfl, ho15, _, k15⟩
    have hb1 := k15.heap H1.out id
    have hb2 := k15.heap H2.out id
    have K15 := hid (K14.out.trans k15 (fun _ _ f => f)); have HX := hid (k15.heap HX.out id); have HY := hid (k15.heap HY.out id)
    obtain ⟨A15, c15, rfl⟩ := own_slice ho15
    have RY := hid (Row.ofOwn ho15)
    have RX := hid (RX.out.keep k15 (fun _ _ => id))
    clear k15 ho15 hbY E1
    obtain ⟨lx, hlx⟩ : ∃ l, l = (vB x).length := ⟨_, rfl⟩
    obtain ⟨ly, hly⟩ : ∃ l, l = (vB ⟨2, x.session, 7, x.path, x.digest, x.commits, x.member⟩).length := ⟨_, rfl⟩
    rw [← hlx, ← hly]
    have HLX := hid hlx; have HLY := hid hly
    have sc := same9_calls (r := r) (s := s) (HS0.out.keep K15.out (fun _ _ => id)) (HS1.out.keep K15.out (fun _ _ => id))
    rw [← HDD.out] at sc
    have SC := hid sc
    have hbd : (dd != dd) = false := by cases dd <;> rfl
    clear sc hlx hly
    go_wp2_with (first
      | (refine wpl_loadA (ty := 29) (o := 0) (n := 11) rfl rfl rfl hb1 (by kernel_rfl) (by kernel_rfl) (reqCs r (.slice A n c)) rfl rfl ?_)
      | (refine wpl_loadA (ty := 29) (o := 0) (n := 11) rfl rfl rfl hb2 (by kernel_rfl) (by kernel_rfl) (reqCs s (.slice B m d)) rfl rfl ?_))
    refine SC.out.mono ?_
    rintro e w16 ⟨rfl, k16⟩
    have K16 := hid (K15.out.trans k16 (fun _ _ f => f)); have HX := hid (k16.heap HX.out id); have HY := hid (k16.heap HY.out id)
    have RX := hid (RX.out.keep k16 (fun _ _ => id)); have RY := hid (RY.out.keep k16 (fun _ _ => id))
    clear k16 hb1 hb2 SC
    by_cases z1 : fx = 0
    case' neg =>
      have hb : (fx != 0) = true := by simpa using z1
      clear z1
      go_wp2_with fail
      go_quiet (fail)
      go_wp2_with fail
      go_ret
      exact ⟨rfl, (K16.out.drewN _).below (Nat.le_refl _) (fun _ _ f => f)⟩
    by_cases z2 : fy = 0
    case' neg =>
      have hb : (fy != 0) = true := by simpa using z2
      subst z1
      clear z2
      go_wp2_with fail
      go_quiet (fail)
      go_wp2_with fail
      go_ret
      exact ⟨rfl, (K16.out.drewN _).below (Nat.le_refl _) (fun _ _ f => f)⟩
    have hx0 : (vS x).f = 0 := by
      by_cases h : (vS x).f = 0
      · exact h
      · have := HFX.out; rw [if_neg h, z1] at this; omega
    have hy0 : (vS ⟨2, x.session, 7, x.path, x.digest, x.commits, x.member⟩).f = 0 := by
      by_cases h : (vS ⟨2, x.session, 7, x.path, x.digest, x.commits, x.member⟩).f = 0
      · exact h
      · have := HFY.out; rw [if_neg h, z2] at this; omega
    have HOV := hid (one_verdict hx0 hy0)
    clear HFX HFY hx0 hy0
    subst z1 z2
    obtain ⟨dq, hdq⟩ : ∃ b, b = decide (x.code = 2 ∧ x.rev = 7) := ⟨_, rfl⟩
    have HDQ := hid hdq
    have HC := hid (fun y (hk : Keep (fun _ => False) w16 y) => (⟨hk.cell (cell_at HX.out 0 (.int .i64 x.code) rfl) id, hk.cell (cell_at HX.out 1 (.int .i64 x.session) rfl) id, hk.cell (cell_at HX.out 2 (.int .i64 x.rev) rfl) id, hk.cell (cell_at HX.out 3 (.string x.path) rfl) id, hk.cell (cell_at HX.out 4 (.int .u64 x.digest) rfl) id, hk.cell (cell_at HX.out 5 (.slice Av nv cx) rfl) id, hk.cell (cell_at HX.out 6 (.int .i64 x.member) rfl) id, hk.cell (cell_at HY.out 0 (.int .i64 2) rfl) id, hk.cell (cell_at HY.out 1 (.int .i64 x.session) rfl) id, hk.cell (cell_at HY.out 2 (.int .i64 7) rfl) id, hk.cell (cell_at HY.out 3 (.string x.path) rfl) id, hk.cell (cell_at HY.out 4 (.int .u64 x.digest) rfl) id, hk.cell (cell_at HY.out 5 (.slice Av nv cx) rfl) id, hk.cell (cell_at HY.out 6 (.int .i64 x.member) rfl) id⟩ : y.cell? ⟨g3, 0, none⟩ = some (.int .i64 x.code) ∧ y.cell? ⟨g3, 1, none⟩ = some (.int .i64 x.session) ∧ y.cell? ⟨g3, 2, none⟩ = some (.int .i64 x.rev) ∧ y.cell? ⟨g3, 3, none⟩ = some (.string x.path) ∧ y.cell? ⟨g3, 4, none⟩ = some (.int .u64 x.digest) ∧ y.cell? ⟨g3, 5, none⟩ = some (.slice Av nv cx) ∧ y.cell? ⟨g3, 6, none⟩ = some (.int .i64 x.member) ∧ y.cell? ⟨g7, 0, none⟩ = some (.int .i64 2) ∧ y.cell? ⟨g7, 1, none⟩ = some (.int .i64 x.session) ∧ y.cell? ⟨g7, 2, none⟩ = some (.int .i64 7) ∧ y.cell? ⟨g7, 3, none⟩ = some (.string x.path) ∧ y.cell? ⟨g7, 4, none⟩ = some (.int .u64 x.digest) ∧ y.cell? ⟨g7, 5, none⟩ = some (.slice Av nv cx) ∧ y.cell? ⟨g7, 6, none⟩ = some (.int .i64 x.member)))
    have C1 : ∀ y, Keep (fun _ => False) w16 y → Calls Try.prog 11 #[.slice A14 lx c14, .slice A15 ly c15] y fun e w' => e = .returned (.bool dq) ∧ Keep (fun _ => False) w16 w' := fun y hk => by
      rw [HLX.out, HLY.out, HDQ.out, ← decide_eq_decide.2 HOV.out]
      exact (same_calls (RX.out.keep hk (fun _ _ => id)) (RY.out.keep hk (fun _ _ => id))).mono (fun _ _ ⟨h1, h2⟩ => ⟨h1, hk.trans h2 (fun _ _ q => q)⟩)
    have C2 : ∀ y, Keep (fun _ => False) w16 y → Calls Try.prog 21 #[vdV x (.slice Av nv cx), .agg #[.int .i64 2, .int .i64 x.session, .int .i64 7, .string x.path, .int .u64 x.digest, .slice Av nv cx, .int .i64 x.member]] y fun e w' => e = .returned (.bool dq) ∧ Keep (fun _ => False) w16 w' := fun y hk => by
      rw [HDQ.out]
      exact (alike27_calls (x := x) ((HS2.out.keep K16.out (fun _ _ => id)).keep hk (fun _ _ => id)) ((HS2.out.keep K16.out (fun _ _ => id)).keep hk (fun _ _ => id))).mono (fun _ _ ⟨h1, h2⟩ => ⟨h1, hk.trans h2 (fun _ _ q => q)⟩)
    have kd : Keep (fun _ => False) w16 w16.drew := (Keep.refl _ w16).drew
    have hb := eqb dq
    clear hdq
    go_wp2_with fail
    go_region_held3 (fun y => y.cell? ⟨g3, 0, none⟩ = some (.int .i64 x.code) ∧ y.cell? ⟨g3, 1, none⟩ = some (.int .i64 x.session) ∧ y.cell? ⟨g3, 2, none⟩ = some (.int .i64 x.rev) ∧ y.cell? ⟨g3, 3, none⟩ = some (.string x.path) ∧ y.cell? ⟨g3, 4, none⟩ = some (.int .u64 x.digest) ∧ y.cell? ⟨g3, 5, none⟩ = some (.slice Av nv cx) ∧ y.cell? ⟨g3, 6, none⟩ = some (.int .i64 x.member) ∧ y.cell? ⟨g7, 0, none⟩ = some (.int .i64 2) ∧ y.cell? ⟨g7, 1, none⟩ = some (.int .i64 x.session) ∧ y.cell? ⟨g7, 2, none⟩ = some (.int .i64 7) ∧ y.cell? ⟨g7, 3, none⟩ = some (.string x.path) ∧ y.cell? ⟨g7, 4, none⟩ = some (.int .u64 x.digest) ∧ y.cell? ⟨g7, 5, none⟩ = some (.slice Av nv cx) ∧ y.cell? ⟨g7, 6, none⟩ = some (.int .i64 x.member)) (exact HC.out _ (by assumption)) (first
      | (go_at_call 11; with_reducible refine (C1 _ (by assumption)).mono ?_; rintro e w17 ⟨rfl, k17⟩)
      | (go_at_call 21; with_reducible refine (C2 _ (by assumption)).mono ?_; rintro e w18 ⟨rfl, k18⟩))
    all_goals
      go_wp2_with fail
      go_ret
      exact ⟨by simp, (K16.out.trans (by assumption) (fun _ _ q => q)).below (Nat.le_refl _) (fun _ _ f => f)⟩
end Go.Proofs.Ytdijafolldneeaa

/- wapentakelaw23.ClientWaits: the walk. -/
import Derived.Test.YtnekfonnceknoaaClW
namespace Go.Proofs.Ytnekfonnceknoaa
open Go.RowKit Go.Lib
set_option maxRecDepth 20000 in
set_option maxHeartbeats 16000000 in
theorem clientWaits_calls {w : World} (p0 : Int) (_hp0 : (Lit.int .i64 p0).wf = true) {A : Option Addr} {c : Nat} {l : List UInt8} (h1 : Row (fun b => b < w.heap.size) w (.slice A l.length c) l.length 1 (l.map U8)) (_hl : l.length ≤ 140737488351232) {v2 : Value} {m : Msg} (h2 : MsgIs w v2 m) :
    Calls Try.prog 5 #[.int .i64 p0, .slice A l.length c, v2] w fun e w' => e = .returned (.bool true) ∧ Below w.heap.size w w' := by
  obtain ⟨cs, rfl, hm⟩ := h2
  obtain ⟨n, hn⟩ : ∃ n, n = l.length := ⟨_, rfl⟩
  rw [← hn] at h1 ⊢
  have HM := hid hm; have HL := hid (MsgL.of hm); have H1 := hid h1; have HN := hid hn
  have E19 := hid (msg_get hm).2.2.2.2.2.2
  obtain ⟨q, hq⟩ : ∃ q, bits BinOp.and IntKind.i64 p0 31 = q := ⟨_, rfl⟩
  have hq0 : 0 ≤ q ∧ q ≤ 31 := by rw [← hq]; exact and31 p0
  have HQ0 := hid hq0
  have hwq : IntKind.i64.wrap (1 + q) = 1 + q := by simp [IntKind.wrap, IntKind.signed, IntKind.bits]; omega
  clear hm h1 hn _hl _hp0 hq0
  go_enter Try.func5, Try.ntmps5
  go_wp2_with (first | (refine wpl_boxB (v := .agg cs.toArray) rfl rfl rfl ?_; intro g5 w1 hg5 hb5 k1 s1; have HG5 := hid hg5; have HS1 := hid s1; replace hb5 : w1.heap[g5]? = some (.cells cs.toArray 37) := hb5; have HB5 := hid hb5; have K1 := hid k1; clear hg5 s1 k1 hb5))
  refine (awake23_calls w1).mono ?_
  rintro e w2 ⟨rfl, k2⟩
  have HB52 := hid (k2.heap HB5.out id)
  have hb52 := HB52.out
  have K2 := hid (K1.out.trans k2 (fun _ _ f => f))
  clear k2
  by_cases b0 : 200 < n
  · have d1 : decide (200 < n) = true := decide_eq_true b0
    have d1' : decide ((200 : Int) < (n : Int)) = true := decide_eq_true (by omega)
    go_wp2_with fail
    go_ret
    exact ⟨rfl, K2.out.below (Nat.le_refl _) (fun _ _ h => h)⟩
  have d1 : decide (200 < n) = false := decide_eq_false b0
  have d1' : decide ((200 : Int) < (n : Int)) = false := decide_eq_false (by omega)
  have hsmall := smallM_any (Rep.msg.keep HM.out K2.out (fun _ _ => id))
  obtain ⟨sb, hsb⟩ : ∃ sb, sb = smallM m := ⟨_, rfl⟩
  rw [← hsb] at hsmall
  have HSM := hid hsmall; have HSB := hid hsb
  clear hsmall hsb
  go_wp2_with (first
    | (refine wpl_loadW (ty := 37) (o := 0) (n := 27) rfl rfl rfl hb52 (by kernel_rfl) (by kernel_rfl) cs HL.out.take HL.out.len ?_))
  refine HSM.out.mono ?_
  rintro e w3 ⟨rfl, k3⟩
  have HB53 := hid (k3.heap HB52.out id)
  have K3 := hid (K2.out.trans k3 (fun _ _ f => f))
  clear k3 HSM hb52
  cases sb with
  | false =>
    go_wp2_with fail
    go_ret
    exact ⟨rfl, K3.out.below (Nat.le_refl _) (fun _ _ h => h)⟩
  | true =>
  have c19 := cell_at HB53.out 19 (.int .i64 m.number) (by simpa using E19.out)
  by_cases hm1 : m.number = 1
  · have e1 : (m.number == 1) = true := by simp [hm1]
    clear hm1
    go_wp2_with fail
    go_ret
    exact ⟨rfl, K3.out.below (Nat.le_refl _) (fun _ _ h => h)⟩
  have e1 : (m.number == 1) = false := by simp [hm1]
  have HM1 := hid hm1
  clear hm1
  go_wp2_with fail
  have hqq := HQ0.out
  refine (cnew_calls (w := w3) name120 (by omega) (by omega) (by omega)).mono ?_
  rintro e w4 ⟨g, rfl, hg, hgl, hm4, k4⟩
  have HST := hid (Wt.start (p := 1 + q) (by omega))
  have I0 := hid (newS_inv (id := 1) (name := xN) (rep := 3) (pat := 1 + q) (by omega) (by omega) (by omega))
  have HG := hid hg; have HGL := hid hgl; have K4 := hid (K3.out.trans k4 (fun _ _ f => f)); have HB54 := hid (k4.heap HB53.out id)
  have hask := ask_calls (F := fun _ => False) (r := hR) (v := nilV) hm4 I0.out (by omega) hR_ok (nilSl _ _ _) (fun _ f => f.elim) id (Nat.zero_le _)
  rw [HST.out.1] at hask
  have HASK := hid hask
  have HG5G := hid (show g5 < w.heap.size + 1 ∧ w.heap.size ≤ g5 ∧ g5 ≠ g by have := HG5.out; have := lt_heap HB53.out; exact ⟨by omega, by omega, by omega⟩)
  clear hg hgl hm4 k4 hask d1 d1' c19 e1 hqq
  go_wp2_with (first | (refine wpl_build (ty := 29) rfl rfl (reqCs hR nilV).toArray (by kernel_rfl) ?_))
  refine HASK.out.mono ?_
  rintro e w5 ⟨ms5, rfl, hms5, hc5, k5⟩
  have HC5 := hid hc5; have HB55 := hid (k5.heap HB54.out HG5G.out.2.2)
  have HGB := hid (show w.heap.size ≤ g by have := HG.out; have := K3.out.size; omega)
  have K5 := hid (show Keep (fun q => w.heap.size ≤ q) w w5 from (K4.out.mono (fun _ _ f => f.elim)).trans k5 (fun b _ e => by subst e; exact HGB.out))
  have HW5 := hid HST.out.2
  clear hms5 hc5 k5 HASK hwq
  go_wp2_with fail
  go_loopw [9, 10] (fun s9 s10 wr => ∃ (j : Nat) (s : CS), j ≤ n ∧ s10 = .int .i64 j ∧ s9 = .int .i64 s.waited ∧ Wt (1 + q) s ∧ CliAt (fun k => k = g) wr g s ∧ Keep (fun q => w.heap.size ≤ q) w wr ∧ wr.heap[g5]? = some (.cells cs.toArray 37)) (fun _ s10 _ => n - (intOf s10).toNat)
  case atStart => exact ⟨0, _, Nat.zero_le _, rfl, rfl, HW5.out, HC5.out, K5.out, HB55.out⟩
  case round =>
    obtain ⟨j, s, hj, rfl, rfl, hwt, hcl, hkr, hbr⟩ := hrel
    have HWT := hid hwt; have HCL := hid hcl; have HKR := hid hkr; have HBR := hid hbr
    have hi2 := hwt.inv.wait.1; have hi3 := hwt.inv.wait.2
    rw [hwt.pat] at hi3
    clear hwt hcl hkr
    by_cases hlt : j < n
    · obtain ⟨x, hx⟩ : ∃ x, l[j]? = some x := ⟨l[j]'(by rw [← HN.out]; exact hlt), List.getElem?_eq_getElem _⟩
      have hcap := H1.out.cap
      obtain ⟨bs, os, rfl, hFb, hcell⟩ := (H1.out.keep HKR.out (fun a b e => by omega)).at1 (show (l.map U8)[j]? = some (U8 x) by rw [List.getElem?_map, hx]; rfl)
      have hc1 : wr.cell? ⟨bs, os + j, none⟩ = some (.int .u8 x.toNat) := hcell
      obtain ⟨y, hy⟩ : ∃ y, bits BinOp.and IntKind.u8 (x.toNat : Int) 15 = y := ⟨_, rfl⟩
      have hy0 : 0 ≤ y ∧ y ≤ 15 := by rw [← hy]; exact and15 _
      have hy1 := hy0.1; have hy2 := hy0.2
      have hwy : IntKind.i64.wrap y = y := by simp [IntKind.wrap, IntKind.signed, IntKind.bits]; omega
      have hwa : IntKind.i64.wrap (s.waited + y) = s.waited + y := by have := HQ0.out; simp [IntKind.wrap, IntKind.signed, IntKind.bits]; omega
      obtain ⟨vw, va, vt, vk, hm6⟩ := HCL.out
      have hhd := handle_calls hm6 HWT.out.inv (by omega) (Rep.msg.keep HM.out HKR.out (fun b hb e => by omega)) (fun b hb => by have := HKR.out.size; omega) (smallM_vfew HSB.out.symm)
      rw [HWT.out.deaf HM1.out] at hhd
      have HHD := hid hhd
      have HGR := hid (hm6.hX g rfl)
      clear hcell hx hy0 hhd hm6 hFb
      go_wp2_with (first
        | (refine wpl_loadA (ty := 37) (o := 0) (n := 27) rfl rfl rfl hbr (by kernel_rfl) (by kernel_rfl) cs HL.out.take HL.out.len ?_))
      refine HHD.out.mono ?_
      rintro e w6 ⟨ds, rfl, hds, hc6, k6⟩
      have HL6 := hid (MsgL.of hds); have HC6 := hid hc6; have K6 := hid k6; have HB6 := hid (k6.heap HBR.out HG5G.out.2.2)
      clear hds hc6 k6 HHD hbr hc1 hy hwy
      go_upto_region 16 with (first
        | (refine wpl_allocB (ty := 37) rfl rfl (z := zM) (by kernel_rfl) ?_; intro g12 w7 hg12 hb12 k7 s7; have HG12 := hid hg12; have K7 := hid k7; have HLT7 := hid (lt_heap hb12); clear hg12 s7 k7)
        | (refine wpl_storeB (v := .agg ds.toArray) rfl rfl rfl rfl hb12 HL6.out.info HL6.out.fit HL6.out.oneA ?_; intro w8 hb8 k8 s8; have K8 := hid k8; clear hb8 s8 k8))
      have HC8 := hid (HC6.out.newbox K7.out HG12.out HLT7.out K8.out)
      have HNE := hid (show g12 ≠ g5 ∧ g12 ≠ g by have := HG12.out; have := lt_heap HB6.out; have := K6.out.size; have := HGR.out; exact ⟨by omega, by omega⟩)
      have HB8 := hid (K8.out.heap (K7.out.heap HB6.out id) (fun e => HNE.out.1 e.symm))
      have K68 := hid (show Keep (fun q => w.heap.size ≤ q) w w8 from (((HKR.out.trans K6.out (fun b _ e => by subst e; exact HGB.out)).trans K7.out (fun _ _ f => f.elim)).trans K8.out (fun b _ e => by have := HG12.out; have := lt_heap HB6.out; have := HG5G.out; omega)))
      obtain ⟨vw8, va8, vt8, vk8, hm8⟩ := HC8.out
      have htk := tick_calls (b := y) hm8 HWT.out.inv (by omega) ⟨by omega, by omega⟩
      have HGR8 := hid (hm8.hX g rfl)
      clear hb12 hm8
      by_cases p2 : y < 1 + q - s.waited
      · have ht := HWT.out.less hy1 p2
        rw [ht.1] at htk
        have HTK := hid htk; have HWN := hid ht.2
        have dd : decide (1 + q ≤ s.waited + y) = false := decide_eq_false (by omega)
        clear ht htk p2
        go_wp2_with fail
        refine HTK.out.mono ?_
        rintro e w9 ⟨es, rfl, hes, hc9, k9⟩
        have HL9 := hid (MsgL.of hes); have HC9 := hid hc9; have K9 := hid k9; have HB9 := hid (k9.heap HB8.out HG5G.out.2.2)
        clear hes hc9 k9 HTK
        go_wp2_with (first
          | (refine wpl_allocB (ty := 37) rfl rfl (z := zM) (by kernel_rfl) ?_; intro g14 w10 hg14 hb14 k10 s10; have HG14 := hid hg14; have K10 := hid k10; have HLT10 := hid (lt_heap hb14); clear hg14 s10 k10)
          | (refine wpl_storeB (v := .agg es.toArray) rfl rfl rfl rfl hb14 HL9.out.info HL9.out.fit HL9.out.oneA ?_; intro w11 hb11 k11 s11; have K11 := hid k11; clear hb11 s11 k11))
        have hne : g14 ≠ g5 := by have := HG14.out; have := lt_heap HB9.out; omega
        have hge : w.heap.size ≤ g14 := by have := HG14.out; have := lt_heap HB9.out; have := HG5G.out; omega
        refine ⟨⟨j + 1, _, by omega, by simp, rfl, HWN.out, HC9.out.newbox K10.out HG14.out HLT10.out K11.out, (((K68.out.trans K9.out (fun b _ e => by subst e; exact HGB.out)).trans K10.out (fun _ _ f => f.elim)).trans K11.out (fun b _ e => by subst e; exact hge)), K11.out.heap (K10.out.heap HB9.out id) (fun e => hne e.symm)⟩, by simp [intOf]; omega⟩
      · obtain ⟨s1, m1, ht1, ht2⟩ := HWT.out.again hy1 p2
        rw [ht1] at htk
        have HTK := hid htk; have HWN := hid ht2
        have dd : decide (1 + q ≤ s.waited + y) = true := decide_eq_true (by omega)
        clear ht1 ht2 htk p2
        go_wp2_with fail
        refine HTK.out.mono ?_
        rintro e w9 ⟨es, rfl, hes, hc9, k9⟩
        have HL9 := hid (MsgL.of hes); have HC9 := hid hc9; have K9 := hid k9; have HB9 := hid (k9.heap HB8.out HG5G.out.2.2)
        clear hes hc9 k9 HTK
        go_wp2_with (first
          | (refine wpl_allocB (ty := 37) rfl rfl (z := zM) (by kernel_rfl) ?_; intro g14 w10 hg14 hb14 k10 s10; have HG14 := hid hg14; have K10 := hid k10; have HLT10 := hid (lt_heap hb14); clear hg14 s10 k10)
          | (refine wpl_storeB (v := .agg es.toArray) rfl rfl rfl rfl hb14 HL9.out.info HL9.out.fit HL9.out.oneA ?_; intro w11 hb11 k11 s11; have K11 := hid k11; clear hb11 s11 k11))
        have hne : g14 ≠ g5 := by have := HG14.out; have := lt_heap HB9.out; omega
        have hge : w.heap.size ≤ g14 := by have := HG14.out; have := lt_heap HB9.out; have := HG5G.out; omega
        refine ⟨⟨j + 1, _, by omega, by simp, rfl, HWN.out, HC9.out.newbox K10.out HG14.out HLT10.out K11.out, (((K68.out.trans K9.out (fun b _ e => by subst e; exact HGB.out)).trans K10.out (fun _ _ f => f.elim)).trans K11.out (fun b _ e => by subst e; exact hge)), K11.out.heap (K10.out.heap HB9.out id) (fun e => hne e.symm)⟩, by simp [intOf]; omega⟩
    · have okv : ∀ a b c : Int, (0 ≤ a ∧ a ≤ 9) → (0 ≤ b ∧ b ≤ 9) → (0 ≤ c ∧ c ≤ 9) → (vd3 a b c).Ok := fun a b c h1 h2 h3 => vd3_ok (ok_small (by omega)) (ok_small (by omega)) (ok_small (by omega))
      have hrm : ∀ (w' : World) (n : Int) (v : Verdict), (0 ≤ n ∧ n ≤ 9) → v.Ok → v.commits = [] → Rep.msg.cells w' (fun _ => False) (repM 13 0 101 n 0 v) (msgCs (repM 13 0 101 n 0 v) nilV nilV nilV nilV) := fun w' n v h hv hc => repM_cells (ok_small (by omega)) (ok_small (by omega)) (ok_small (by omega)) (ok_small (by omega)) (ok_small (by omega)) hv hc
      obtain ⟨vw, va, vt, vk, hm6⟩ := HCL.out
      have h1 := handle_calls hm6 HWT.out.inv (by omega) (hrm _ 1 (vd3 1 3 0) (by omega) (okv 1 3 0 (by omega) (by omega) (by omega)) rfl) (fun _ f => f.elim) (vd3_few _ _ _)
      rw [HWT.out.tell1] at h1
      have i1 := HWT.out.inv.handle (msg_ok (hrm wr 1 (vd3 1 3 0) (by omega) (okv 1 3 0 (by omega) (by omega) (by omega)) rfl))
      rw [HWT.out.tell1] at i1
      have HH1 := hid h1; have I1 := hid i1; have HRM := hid hrm; have OKV := hid okv
      clear hm6 h1 i1 hrm okv hbr hi2 hi3
      go_wp2_with (first
        | (refine wpl_build (ty := 35) rfl rfl (verdictCs (vd3 1 3 0) nilV).toArray (by kernel_rfl) ?_)
        | (refine wpl_build (ty := 37) rfl rfl (msgCs (repM 13 0 101 1 0 (vd3 1 3 0)) nilV nilV nilV nilV).toArray (by kernel_rfl) ?_))
      refine HH1.out.mono ?_
      rintro e w6 ⟨ds, rfl, hds, ⟨vw6, va6, vt6, vk6, hm6⟩, k6⟩
      have h2 := handle_calls hm6 I1.out (by omega) (HRM.out _ 2 (vd3 8 0 0) (by omega) (OKV.out 8 0 0 (by omega) (by omega) (by omega)) rfl) (fun _ f => f.elim) (vd3_few _ _ _)
      rw [HWT.out.tell2] at h2
      have i2 := I1.out.handle (msg_ok (HRM.out w6 2 (vd3 8 0 0) (by omega) (OKV.out 8 0 0 (by omega) (by omega) (by omega)) rfl))
      rw [HWT.out.tell2] at i2
      have HH2 := hid h2; have I2 := hid i2; have K6 := hid k6
      clear hds hm6 k6 h2 i2 HH1
      go_wp2_with (first
        | (refine wpl_build (ty := 35) rfl rfl (verdictCs (vd3 8 0 0) nilV).toArray (by kernel_rfl) ?_)
        | (refine wpl_build (ty := 37) rfl rfl (msgCs (repM 13 0 101 2 0 (vd3 8 0 0)) nilV nilV nilV nilV).toArray (by kernel_rfl) ?_))
      refine HH2.out.mono ?_
      rintro e w7 ⟨ds7, rfl, hds7, ⟨vw7, va7, vt7, vk7, hm7⟩, k7⟩
      have h3 := tick_calls (b := 1048576) hm7 I2.out (by omega) ⟨by omega, by omega⟩
      rw [tick_told rfl] at h3
      have HH3 := hid h3; have K7 := hid k7
      clear hds7 hm7 k7 h3 HH2
      go_wp2_with fail
      refine HH3.out.mono ?_
      rintro e w8 ⟨ds8, rfl, hds8, hc8, k8⟩
      have HL8 := hid (MsgL.of hds8); have HC8 := hid hc8; have K8 := hid k8
      clear hds8 hc8 k8 HH3
      go_upto_region 25 with (first
        | (refine wpl_allocB (ty := 37) rfl rfl (z := zM) (by kernel_rfl) ?_; intro g14 w10 hg14 hb14 k10 s10; have HG14 := hid hg14; have K10 := hid k10; have HLT10 := hid (lt_heap hb14); clear hg14 s10 k10)
        | (refine wpl_storeB (v := .agg ds8.toArray) rfl rfl rfl rfl hb14 HL8.out.info HL8.out.fit HL8.out.oneA ?_; intro w11 hb11 k11 s11; have K11 := hid k11; clear hb11 s11 k11))
      obtain ⟨vw9, va9, vt9, vk9, hm9⟩ := HC8.out.newbox K10.out HG14.out HLT10.out K11.out
      have hbz := cbusy_calls hm9
      have HBZ := hid (hbz.mono (R' := fun e w' => e = .returned (.bool false) ∧ w11 = w') (fun e w' h => ⟨h.1, h.2⟩))
      clear hb14 hm9 hbz
      go_wp2_with fail
      refine HBZ.out.mono ?_
      rintro e w' ⟨rfl, rfl⟩
      have hge : w.heap.size ≤ g14 := by have := HG14.out; have := K8.out.size; have := K7.out.size; have := K6.out.size; have := HKR.out.size; omega
      have kk : Keep (fun q => w.heap.size ≤ q) w w11 := ((((HKR.out.trans K6.out (fun b _ e => by subst e; exact HGB.out)).trans K7.out (fun b _ e => by subst e; exact HGB.out)).trans K8.out (fun b _ e => by subst e; exact HGB.out)).trans K10.out (fun _ _ f => f.elim)).trans K11.out (fun b _ e => by subst e; exact hge)
      go_wp2_with fail
      go_ret
      exact ⟨rfl, kk.below (Nat.le_refl _) (fun b hb => by omega)⟩
end Go.Proofs.Ytnekfonnceknoaa

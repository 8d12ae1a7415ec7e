/- wapentakelaw17.LedgerPlays: the walk. -/
import Derived.Test.YtiomeoihekifeaaLedPl0
namespace Go.Proofs.Ytiomeoihekifeaa
open Go.RowKit
set_option maxRecDepth 20000 in
set_option maxHeartbeats 16000000 in
theorem ledgerPlays_calls {w : World} (next : Int) (hw : (Lit.int .i64 next).wf = true) {v : Value} {l : List LDeed} (hv : Sl .ldeed w (fun b => b < w.heap.size) v l) :
    Calls Try.prog 5 #[.int .i64 next, v] w fun e w' => e = .returned (.bool true) ∧ Below w.heap.size w w' := by
  have hroom := fun w' (hk : Keep (fun _ => False) w w') => room17_calls (hv.keep hk (fun _ _ => id))
  have hmax : l.length ≤ 9223372036854775807 := by obtain ⟨_, _, _, q1, q2, _⟩ := hv; unfold maxLen at q2; omega
  have hwf0 : (Lit.int .i64 (max next 0)).wf = true := by
    simp [Lit.wf, IntKind.min, IntKind.max, IntKind.signed, IntKind.bits] at hw
    simp [Lit.wf, IntKind.min, IntKind.max, IntKind.signed, IntKind.bits]; omega
  obtain ⟨A, c, rfl⟩ := hv.shape
  have HV := hid hv
  obtain ⟨n, hn⟩ : ∃ n, n = l.length := ⟨_, rfl⟩
  rw [← hn] at HV hmax hroom ⊢
  have HN := hid hn; have HWF0 := hid hwf0
  clear hv hn hwf0 hw
  go_enter Try.func5, Try.ntmps5
  go_wp2_with fail
  refine (awake17_calls w).mono ?_
  rintro e w1 ⟨rfl, k1⟩
  have hr := hroom w1 k1
  have K1 := hid k1
  clear k1 hroom
  obtain ⟨rm, hrm⟩ : ∃ rm, rm = roomL l := ⟨_, rfl⟩
  rw [← hrm] at hr
  have HRM := hid hrm
  clear hrm
  go_wp2_with fail
  refine hr.mono ?_
  rintro e w' ⟨rfl, rfl⟩
  clear hr
  cases rm with
  | false =>
    go_wp2_with fail
    go_ret
    exact ⟨rfl, K1.out.below (Nat.le_refl _) (fun _ _ f => f)⟩
  | true =>
    have h150 : n ≤ 150 := by
      have := HRM.out.symm
      simp only [roomL, Bool.and_eq_true, decide_eq_true_iff] at this
      rw [HN.out]; exact this.1
    go_wp2_with fail
    refine (newAny_calls next).mono ?_
    rintro e w2 ⟨g, rfl, hL, k2⟩
    have hs2 := k2.size
    have HL := hid hL; have K2 := hid k2
    clear hL k2
    go_wp2_with fail
    refine (rnewAny_calls next).mono ?_
    rintro e w3 ⟨m, rfl, hR, k3⟩
    have K3 := hid (((K1.out.trans K2.out (fun _ _ f => f)).trans k3 (fun _ _ f => f)).mono (T := fun q => w.heap.size ≤ q) (fun _ _ f => f.elim))
    have hw1 := K1.out.size
    obtain ⟨B, hB⟩ : ∃ B, B = w1.heap.size := ⟨_, rfl⟩
    have HT : Hid (TwoL B w3 g m ⟨max next 0, max next 0, []⟩ ⟨max next 0, max next 0, []⟩ (fun _ => False)) := hid ⟨NewIn w1 w2, NewIn w2 w3, HL.out.keep k3 (fun _ _ => id), hR,
      fun k q => ⟨by have := q.1; omega, by have := q.2; have := k3.size; omega, fun e => by have := e.1; have := q.2; omega, id⟩, fun k q => ⟨by have := q.1; omega, q.2, id⟩⟩
    have HB3 := hid (show B ≤ w3.heap.size by have := k3.size; omega)
    have HWB := hid (show w.heap.size ≤ B by omega)
    clear hB k3 hR hw1 hs2 HL K2
    go_wp2_with fail
    go_loopw [7] (fun i wr => ∃ (k : Nat) (s t : LS), k ≤ n ∧ i = .int .i64 k ∧ TwoL B wr g m s t (fun _ => False) ∧ PSim s t k ∧ Keep (fun q => w.heap.size ≤ q) w wr ∧ B ≤ wr.heap.size) (fun i _ => n - (intOf i).toNat)
    case atStart => exact ⟨0, _, _, Nat.zero_le _, rfl, HT.out, PSim.new _ (by omega) HWF0.out, K3.out, HB3.out⟩
    case round =>
      obtain ⟨k, s, t, hk, rfl, hT, hP, hkp, hbr⟩ := hrel
      by_cases hlt : k < n
      · obtain ⟨x, hx⟩ : ∃ x, l[k]? = some x := ⟨l[k]'(by rw [← HN.out]; exact hlt), by simp [show k < l.length by rw [← HN.out]; exact hlt]⟩
        have hvk := HV.out.keep hkp (fun q hq e => by omega)
        obtain ⟨A', c', b, off, cs, he, rfl, hcs, hcell⟩ := elem_cells7 hvk HN.out hx
        simp only [Value.slice.injEq, true_and] at he
        obtain ⟨rfl, rfl⟩ := he
        obtain ⟨xd, xs, xv⟩ := x
        obtain ⟨vc, rfl, hdo, hslot, hvc, hrok⟩ := ldeed_cells2 hcs
        obtain ⟨Ac, cc, rfl⟩ := hvc.shape
        simp only at hdo hslot hvc hrok
        have hsz : Rep.ldeed.size = 13 := rfl
        rw [hsz] at hcell
        have hr : wr.rangeAt b (off + k * 13) (dedCs ⟨xd, xs, xv⟩ (.slice Ac xv.changes.length cc)) := fun j u hu => hcell j u hu
        obtain ⟨dM, hu, hd⟩ : ∃ d, Try.prog.underlying 45 = some d ∧ d.isRow = true := ⟨_, Try.underlying45, rfl⟩
        have hi : (Try.prog.info? 45).map (·.size) = some 13 := by kernel_rfl
        have h1c : ∀ u ∈ (Value.agg (dedCs ⟨xd, xs, xv⟩ (.slice Ac xv.changes.length cc)).toArray).cells.toList, u.oneCell' = true := by
          intro u hu
          have e : (Value.agg (dedCs ⟨xd, xs, xv⟩ (.slice Ac xv.changes.length cc)).toArray).cells.toList = dedCs ⟨xd, xs, xv⟩ (.slice Ac xv.changes.length cc) := rfl
          rw [e] at hu
          simp only [dedCs, reqCs, List.mem_cons, List.not_mem_nil, or_false] at hu
          rcases hu with rfl | rfl | rfl | rfl | rfl | rfl | rfl | rfl | rfl | rfl | rfl | rfl | rfl <;> rfl
        have hspl : spl zDeed.cells 0 (Value.agg (dedCs ⟨xd, xs, xv⟩ (.slice Ac xv.changes.length cc)).toArray).cells.toList = (dedCs ⟨xd, xs, xv⟩ (.slice Ac xv.changes.length cc)).toArray := spl_whole _ _ (Nat.le_refl 13)
        have hlen : xv.changes.length ≤ 30 := by
          have h1 := HRM.out.symm
          simp only [roomL, Bool.and_eq_true, List.all_eq_true, decide_eq_true_iff] at h1
          exact h1.2 _ (List.mem_of_getElem? hx)
        obtain ⟨nv, hnv⟩ : ∃ nv, nv = xv.changes.length := ⟨_, rfl⟩
        rw [← hnv] at hvc hr h1c hspl hlen
        have HR := hid hr; have HU := hid hu; have HD := hid hd; have HI := hid hi; have H1C := hid h1c; have HSP := hid hspl
        have HVC := hid hvc; have HT := hid hT; have HP := hid hP; have HKP := hid hkp; have HSL := hid hslot; have HRO := hid hrok; have HNV := hid hnv
        clear hvk hcs hcell hsz hr hu hd hi h1c hspl hvc hT hP hkp hdo hslot hx hrok hnv
        go_upto_block 2 with (first
          | (refine wpList_load_mid rfl _ _ rfl b (off + k * 13) rfl (dedCs ⟨xd, xs, xv⟩ (.slice Ac nv cc)) dM HR.out HU.out HD.out HI.out ?_)
          | (refine wpl_allocB (z := zDeed) rfl rfl (by kernel_rfl) ?_; intro gd w5 hg5 hb5 k5 s5; have HG5 := hid hg5; have K5 := hid k5; clear hg5 k5 s5)
          | (refine wpl_storeB (v := .agg (dedCs ⟨xd, xs, xv⟩ (.slice Ac nv cc)).toArray) rfl rfl rfl rfl hb5 HI.out (Nat.le_refl 13) H1C.out ?_; intro w6 hb6 k6 s6; rw [HSP.out] at hb6; have K6 := hid k6; clear k6 hb5 s6))
        have k6 : Keep (fun _ => False) wr w6 := K5.out.trans K6.out (fun b hb e => by have := HG5.out; omega)
        have hT6 : TwoL B w6 g m s t (fun q => q = gd) := HT.out.withE k6 (fun q e => by have := HG5.out; omega)
        have hb6' : B ≤ w6.heap.size := by have := k6.size; omega
        have hgd6 : ∀ q, q = gd → q < w6.heap.size := fun q e => by subst e; exact lt_heap hb6
        have HT6 := hid hT6; have HB6 := hid hb6; have HBL := hid hb6'; have HGD := hid hgd6; have K06 := hid k6
        have HV6 := hid (HVC.out.keep k6 (fun _ _ => id))
        clear hT6 hb6 hb6' hgd6 k6 HVC HR HT
        go_cut [9, 10, 11] from 41 to 94 (fun s9 s10 s11 wx => AfterP B w6 g m gd (opS ⟨xd, xs, xv⟩ s) (opR ⟨xd, xs, xv⟩ t) s9 wx)
        case first =>
          have hb6 := HB6.out
          have d0 := cell_at hb6 0 (.int .i64 xd) rfl
          have d1 := cell_at hb6 1 (.int .i64 xs) rfl
          by_cases h4 : xd ≤ 4
          · have HO1 := hid (show opS ⟨xd, xs, xv⟩ s = (learnS s xs xv).2 by rw [opS, if_pos h4])
            have HO2 := hid (show opR ⟨xd, xs, xv⟩ t = (rlearnS t xs xv).2 by rw [opR, if_pos h4])
            have hle := tl_learn HT6.out HBL.out HGD.out HSL.out HV6.out (by have := HNV.out; omega)
            have hLE := HP.out.learn xs xv
            go_wp2_with (first
              | (refine wpl_loadA (ty := 30) (o := 2) (n := 11) rfl rfl rfl hb6 (by kernel_rfl) (by kernel_rfl) (reqCs xv (.slice Ac nv cc)) rfl rfl ?_))
            refine hle.mono ?_
            rintro e w7 ⟨rfl, hT7, k7⟩
            have hb7 := k7.heap hb6 (fun q => q.2 rfl)
            have e0 := cell_at hb7 0 (.int .i64 xd) rfl
            have e1 := cell_at hb7 1 (.int .i64 xs) rfl
            have hle2 := tr_learn hT7 (by have := k7.size; have := HBL.out; omega) (fun q e => by have := HGD.out q e; have := k7.size; omega) HSL.out (HV6.out.keep k7 (fun q hq e => by have := HWB.out; omega)) HRO.out (by have := HNV.out; omega) (by have := HP.out.len; omega)
            rw [hLE.1] at hle2
            have K7 := hid k7; have HLE2 := hid hle2
            generalize (learnS s xs xv).1 = a at *
            clear hle hT7 k7 hle2 hLE d0 d1 hb6
            go_wp2_with (first
              | (refine wpl_loadA (ty := 30) (o := 2) (n := 11) rfl rfl rfl hb7 (by kernel_rfl) (by kernel_rfl) (reqCs xv (.slice Ac nv cc)) rfl rfl ?_))
            refine HLE2.out.mono ?_
            rintro e w8 ⟨rfl, hT8, k8⟩
            have HT8 := hid hT8; have K8 := hid (K7.out.trans k8 (fun _ _ q => q))
            clear hT8 k8 hb7
            go_wp2_with fail
            go_meet
            rw [HO1.out, HO2.out]
            exact ⟨by simp, HT8.out, K8.out⟩
          by_cases h7 : xd ≤ 7
          · have c0 := HT6.out.cells.1
            have heq := HP.out.eqn
            rw [heq] at c0
            by_cases hnx : s.next < 1099511627776
            · have HO1 := hid (show opS ⟨xd, xs, xv⟩ s = stepS s by rw [opS, if_neg h4, if_pos ⟨h7, hnx⟩])
              have HO2 := hid (show opR ⟨xd, xs, xv⟩ t = stepS t by rw [opR, if_neg h4, if_pos ⟨h7, by rw [heq]; exact hnx⟩])
              have hn0 : 0 ≤ s.next := by have := HP.out.inv.base; have := HP.out.inv.le; omega
              have hst := tl_step HT6.out HBL.out HGD.out HP.out.inv.wf (by simp [Lit.wf, IntKind.min, IntKind.max, IntKind.signed, IntKind.bits]; omega)
              have HST := hid hst
              have HEQ := hid heq; have HN0 := hid hn0; have HNX := hid hnx
              clear hst heq hn0
              go_wp2_with fail
              refine HST.out.mono ?_
              rintro e w7 ⟨rfl, hT7, k7⟩
              have hst2 := tr_step hT7 (by have := k7.size; have := HBL.out; omega) (fun q e => by have := HGD.out q e; have := k7.size; omega) (by rw [HEQ.out]; exact HN0.out) (by rw [HEQ.out]; exact HNX.out)
              rw [HP.out.lookE, HEQ.out] at hst2
              have K7 := hid k7; have HST2 := hid hst2
              generalize (look s.l s.next).isSome = ob at *
              clear hT7 k7 hst2 c0 d0 d1 hb6
              go_wp2_with fail
              refine HST2.out.mono ?_
              rintro e w8 ⟨rfl, hT8, k8⟩
              have HT8 := hid hT8; have K8 := hid (K7.out.trans k8 (fun _ _ q => q))
              clear hT8 k8
              go_wp2_with fail
              go_meet
              rw [HO1.out, HO2.out]
              exact ⟨by simp, HT8.out, K8.out⟩
            · have HO1 := hid (show opS ⟨xd, xs, xv⟩ s = s by rw [opS, if_neg h4, if_neg (fun q => hnx q.2), if_neg (by simp only; omega), if_neg (by simp only; omega)])
              have HO2 := hid (show opR ⟨xd, xs, xv⟩ t = t by rw [opR, if_neg h4, if_neg (fun q => hnx (by rw [← heq]; exact q.2)), if_neg (by simp only; omega), if_neg (by simp only; omega)])
              go_wp2_with fail
              go_meet
              rw [HO1.out, HO2.out]
              exact ⟨rfl, HT6.out, Keep.refl _ _⟩
          by_cases h8 : xd = 8
          · have HO1 := hid (show opS ⟨xd, xs, xv⟩ s = cutS s xs by rw [opS, if_neg h4, if_neg (fun q => h7 q.1), if_pos h8])
            have HO2 := hid (show opR ⟨xd, xs, xv⟩ t = rcutS t xs by rw [opR, if_neg h4, if_neg (fun q => h7 q.1), if_pos h8])
            have hst := tl_cut HT6.out HBL.out HGD.out xs
            have HST := hid hst
            have hbe : (xd == 8) = true := by simp [h8]
            clear hst h8
            go_wp2_with fail
            refine HST.out.mono ?_
            rintro e w7 ⟨rfl, hT7, k7⟩
            have hb7 := k7.heap hb6 (fun q => q.2 rfl)
            have e1 := cell_at hb7 1 (.int .i64 xs) rfl
            have hst2 := tr_cut hT7 (by have := k7.size; have := HBL.out; omega) (fun q e => by have := HGD.out q e; have := k7.size; omega) xs (by have := HP.out.len; omega)
            have K7 := hid k7; have HST2 := hid hst2
            clear hT7 k7 hst2 d0 d1 hb6 hb7
            go_wp2_with fail
            refine HST2.out.mono ?_
            rintro e w8 ⟨rfl, hT8, k8⟩
            have HT8 := hid hT8; have K8 := hid (K7.out.trans k8 (fun _ _ q => q))
            clear hT8 k8
            go_wp2_with fail
            go_meet
            rw [HO1.out, HO2.out]
            exact ⟨rfl, HT8.out, K8.out⟩
          · have HO1 := hid (show opS ⟨xd, xs, xv⟩ s = jumpS s xs by rw [opS, if_neg h4, if_neg (fun q => h7 q.1), if_neg h8, if_pos (by simp only; omega)])
            have HO2 := hid (show opR ⟨xd, xs, xv⟩ t = jumpS t xs by rw [opR, if_neg h4, if_neg (fun q => h7 q.1), if_neg h8, if_pos (by simp only; omega)])
            have hst := tl_jump HT6.out HBL.out HGD.out xs
            have HST := hid hst
            clear hst
            go_wp2_with fail
            refine HST.out.mono ?_
            rintro e w7 ⟨rfl, hT7, k7⟩
            have hb7 := k7.heap hb6 (fun q => q.2 rfl)
            have e1 := cell_at hb7 1 (.int .i64 xs) rfl
            have hst2 := tr_jump hT7 (by have := k7.size; have := HBL.out; omega) (fun q e => by have := HGD.out q e; have := k7.size; omega) xs (by have := HP.out.len; omega)
            have K7 := hid k7; have HST2 := hid hst2
            clear hT7 k7 hst2 d0 d1 hb6 hb7
            go_wp2_with fail
            refine HST2.out.mono ?_
            rintro e w8 ⟨rfl, hT8, k8⟩
            have HT8 := hid hT8; have K8 := hid (K7.out.trans k8 (fun _ _ q => q))
            clear hT8 k8
            go_wp2_with fail
            go_meet
            rw [HO1.out, HO2.out]
            exact ⟨rfl, HT8.out, K8.out⟩
        case rest =>
          revert wc
          intro w8 hcut
          obtain ⟨rfl, hT8, k8⟩ := hcut
          have hP8 : PSim (opS ⟨xd, xs, xv⟩ s) (opR ⟨xd, xs, xv⟩ t) (k + 1) := HP.out.op ⟨xd, xs, xv⟩ HSL.out.wf
          generalize opS ⟨xd, xs, xv⟩ s = s1 at *
          generalize opR ⟨xd, xs, xv⟩ t = t1 at *
          have hb8 := k8.heap HB6.out (fun q => q.2 rfl)
          have HB8 := hid hb8
          have KW8 := hid ((HKP.out.trans K06.out (fun _ _ f => f.elim)).trans k8 (fun b hb q => by have := HWB.out; omega) : Keep (fun q => w.heap.size ≤ q) w w8)
          have HBW := hid (show B ≤ w8.heap.size by have := HBL.out; have := k8.size; omega)
          have HT8 := hid hT8.noE; have HP8 := hid hP8
          have hl1 := hP8.lookE
          have heqn := hP8.eqn
          have heqb := hP8.eqb
          have hln := hP8.keys
          have HLN := hid hln
          have hlk : ∀ w' (h : Keep (fun _ => False) w8 w'), TwoL B w' g m s1 t1 (fun _ => False) := fun w' h => HT8.out.keepF h
          have HLK := hid hlk
          have HWN := hid HP8.out.inv.wf
          have HEQN := hid heqn; have HEQB := hid heqb; have HL1 := hid hl1
          clear hT8 k8 hP8 hb8 hlk hln heqn heqb hl1 HP HT6 HB6 HBL HGD K06 HKP HV6
          have d1 := cell_at HB8.out 1 (.int .i64 xs) rfl
          go_wp2_with fail
          refine (tl_get HT8.out HSL.out).mono ?_
          rintro e w9 ⟨v9, rfl, hs9, k9⟩
          obtain ⟨rA, hrA⟩ : ∃ rA, rA = (look s1.l xs).getD reqZero := ⟨_, rfl⟩
          obtain ⟨oA, hoA⟩ : ∃ oA, oA = (look s1.l xs).isSome := ⟨_, rfl⟩
          rw [← hrA] at hs9 ⊢
          rw [← hoA]
          obtain ⟨A9, c9, rfl⟩ := hs9.shape
          have HRA := hid hrA; have HOA := hid hoA; have HS9 := hid hs9; have K9 := hid k9
          clear hrA hoA hs9 k9
          go_wp2_with (first
            | (refine wpl_allocB (z := .agg (reqCs reqZ' (.slice none 0 0)).toArray) rfl rfl (by kernel_rfl) ?_; intro g12 w10 hg10 hb10 k10 s10; have HG12 := hid hg10; have K10 := hid k10; clear hg10 k10 s10)
            | (refine wpl_storeB (v := .agg (reqCs rA (.slice A9 rA.changes.length c9)).toArray) rfl rfl rfl rfl hb10 (by kernel_rfl) (Nat.le_refl 11) (by simp [Value.oneCell', reqCs, Value.cells]) ?_; intro w11 hb11 k11 s11; rw [show spl (Value.agg (reqCs reqZ' (.slice none 0 0)).toArray).cells 0 (Value.agg (reqCs rA (.slice A9 rA.changes.length c9)).toArray).cells.toList = (reqCs rA (.slice A9 rA.changes.length c9)).toArray from spl_whole _ _ (Nat.le_refl 11)] at hb11; have k911 : Keep (fun _ => False) w9 w11 := K10.out.trans k11 (fun b hb e => by have := HG12.out; omega); have K11 := hid (K9.out.trans k911 (fun _ _ q => q)); have HB11 := hid hb11; have S11 := hid (HS9.out.keep k911 (fun _ _ => id)); have d111 := K11.out.cell d1 id; clear k11 s11 k911 hb11 hb10))
          have d1 := d111
          have HT11 := hid (HLK.out _ K11.out)
          clear d111 HT8 K9 HS9
          go_wp2_with fail
          refine (tr_get HT11.out xs).mono ?_
          rintro e w12 ⟨v12, rfl, hs12, k12⟩
          rw [HL1.out, ← HRA.out] at hs12
          rw [HL1.out, ← HRA.out, ← HOA.out]
          obtain ⟨A12, c12, rfl⟩ := hs12.shape
          have HS12 := hid hs12; have K12 := hid k12
          clear hs12 k12
          go_wp2_with (first
            | (refine wpl_allocB (z := .agg (reqCs reqZ' (.slice none 0 0)).toArray) rfl rfl (by kernel_rfl) ?_; intro g14 w13 hg13 hb13 k13 s13; have HG14 := hid hg13; have K13 := hid k13; clear hg13 k13 s13)
            | (refine wpl_storeB (v := .agg (reqCs rA (.slice A12 rA.changes.length c12)).toArray) rfl rfl rfl rfl hb13 (by kernel_rfl) (Nat.le_refl 11) (by simp [Value.oneCell', reqCs, Value.cells]) ?_; intro w14 hb14 k14 s14; rw [show spl (Value.agg (reqCs reqZ' (.slice none 0 0)).toArray).cells 0 (Value.agg (reqCs rA (.slice A12 rA.changes.length c12)).toArray).cells.toList = (reqCs rA (.slice A12 rA.changes.length c12)).toArray from spl_whole _ _ (Nat.le_refl 11)] at hb14; have k1214 : Keep (fun _ => False) w12 w14 := K13.out.trans k14 (fun b hb e => by have := HG14.out; omega); have k1114 := K12.out.trans k1214 (fun _ _ q => q); have K14 := hid (K11.out.trans k1114 (fun _ _ q => q)); have HB14 := hid hb14; have S14 := hid (HS12.out.keep k1214 (fun _ _ => id)); have S11b := hid (S11.out.keep k1114 (fun _ _ => id)); have HB11b := hid (k1114.heap HB11.out id); clear k14 s14 k1214 k1114 hb14 hb13))
          have HT14 := hid (HLK.out _ K14.out)
          clear HT11 K12 HS12 d1 K11 S11 HB11
          refine (tl_ready HT14.out HWN.out).mono ?_
          rintro e w15 ⟨v15, rfl, hs15, k15⟩
          obtain ⟨rB, hrB⟩ : ∃ rB, rB = (look s1.l s1.next).getD reqZero := ⟨_, rfl⟩
          obtain ⟨oB, hoB⟩ : ∃ oB, oB = (look s1.l s1.next).isSome := ⟨_, rfl⟩
          rw [← hrB] at hs15 ⊢
          rw [← hoB]
          obtain ⟨A15, c15, rfl⟩ := hs15.shape
          have HRB := hid hrB; have HOB := hid hoB; have HS15 := hid hs15; have K15 := hid k15
          clear hrB hoB hs15 k15
          go_wp2_with (first
            | (refine wpl_allocB (z := .agg (reqCs reqZ' (.slice none 0 0)).toArray) rfl rfl (by kernel_rfl) ?_; intro g16 w16 hg16 hb16 k16 s16; have HG16 := hid hg16; have K16 := hid k16; clear hg16 k16 s16)
            | (refine wpl_storeB (v := .agg (reqCs rB (.slice A15 rB.changes.length c15)).toArray) rfl rfl rfl rfl hb16 (by kernel_rfl) (Nat.le_refl 11) (by simp [Value.oneCell', reqCs, Value.cells]) ?_; intro w17 hb17 k17 s17; rw [show spl (Value.agg (reqCs reqZ' (.slice none 0 0)).toArray).cells 0 (Value.agg (reqCs rB (.slice A15 rB.changes.length c15)).toArray).cells.toList = (reqCs rB (.slice A15 rB.changes.length c15)).toArray from spl_whole _ _ (Nat.le_refl 11)] at hb17; have k1517 : Keep (fun _ => False) w15 w17 := K16.out.trans k17 (fun b hb e => by have := HG16.out; omega); have k1417 := K15.out.trans k1517 (fun _ _ q => q); have K17 := hid (K14.out.trans k1417 (fun _ _ q => q)); have HB17 := hid hb17; have S17 := hid (HS15.out.keep k1517 (fun _ _ => id)); have S14b := hid (S14.out.keep k1417 (fun _ _ => id)); have S11c := hid (S11b.out.keep k1417 (fun _ _ => id)); have HB14b := hid (k1417.heap HB14.out id); have HB11c := hid (k1417.heap HB11b.out id); have ct := (HLK.out _ K17.out).cells.1; rw [HEQN.out] at ct; clear k17 s17 k1517 k1417 hb17 hb16))
          have HT17 := hid (HLK.out _ K17.out)
          clear HT14 K15 HS15 K14 S14 HB14 S11b HB11b
          refine (tr_get HT17.out s1.next).mono ?_
          rintro e w18 ⟨v18, rfl, hs18, k18⟩
          rw [HL1.out, ← HRB.out] at hs18
          rw [HL1.out, ← HRB.out, ← HOB.out]
          obtain ⟨A18, c18, rfl⟩ := hs18.shape
          have HS18 := hid hs18; have K18 := hid k18
          clear hs18 k18 ct
          go_wp2_with (first
            | (refine wpl_allocB (z := .agg (reqCs reqZ' (.slice none 0 0)).toArray) rfl rfl (by kernel_rfl) ?_; intro g18 w19 hg19 hb19 k19 s19; have HG18 := hid hg19; have K19 := hid k19; clear hg19 k19 s19)
            | (refine wpl_storeB (v := .agg (reqCs rB (.slice A18 rB.changes.length c18)).toArray) rfl rfl rfl rfl hb19 (by kernel_rfl) (Nat.le_refl 11) (by simp [Value.oneCell', reqCs, Value.cells]) ?_; intro w20 hb20 k20 s20; rw [show spl (Value.agg (reqCs reqZ' (.slice none 0 0)).toArray).cells 0 (Value.agg (reqCs rB (.slice A18 rB.changes.length c18)).toArray).cells.toList = (reqCs rB (.slice A18 rB.changes.length c18)).toArray from spl_whole _ _ (Nat.le_refl 11)] at hb20; have k1820 : Keep (fun _ => False) w18 w20 := K19.out.trans k20 (fun b hb e => by have := HG18.out; omega); have k1720 := K18.out.trans k1820 (fun _ _ q => q); have K20 := hid (K17.out.trans k1720 (fun _ _ q => q)); have HB20 := hid hb20; have S20 := hid (HS18.out.keep k1820 (fun _ _ => id)); have S17b := hid (S17.out.keep k1720 (fun _ _ => id)); have S14c := hid (S14b.out.keep k1720 (fun _ _ => id)); have S11d := hid (S11c.out.keep k1720 (fun _ _ => id)); have HB17b := hid (k1720.heap HB17.out id); have HB14c := hid (k1720.heap HB14b.out id); have HB11d := hid (k1720.heap HB11c.out id); clear k20 s20 k1820 k1720 hb20 hb19))
          clear HT17 K18 HS18 K17 S17 HB17 S14b HB14b S11c HB11c
          have hT20 := HLK.out _ K20.out
          have SM1 : ∀ x, Keep (fun _ => False) w20 x → Calls Try.prog 31 #[reqV rA (.slice A9 rA.changes.length c9), reqV rA (.slice A12 rA.changes.length c12)] x fun e w' => e = .returned (.bool true) ∧ Keep (fun _ => False) w20 w' := fun x hx => (same9_calls (r := rA) (s := rA) (S11d.out.keep hx (fun _ _ => id)) (S14c.out.keep hx (fun _ _ => id))).mono (fun _ _ ⟨h1, h2⟩ => ⟨by rw [h1, decide_eq_true rfl], hx.trans h2 (fun _ _ q => q)⟩)
          have SM2 : ∀ x, Keep (fun _ => False) w20 x → Calls Try.prog 31 #[reqV rB (.slice A15 rB.changes.length c15), reqV rB (.slice A18 rB.changes.length c18)] x fun e w' => e = .returned (.bool true) ∧ Keep (fun _ => False) w20 w' := fun x hx => (same9_calls (r := rB) (s := rB) (S17b.out.keep hx (fun _ _ => id)) (S20.out.keep hx (fun _ _ => id))).mono (fun _ _ ⟨h1, h2⟩ => ⟨by rw [h1, decide_eq_true rfl], hx.trans h2 (fun _ _ q => q)⟩)
          have NX : ∀ x, Keep (fun _ => False) w20 x → Calls Try.prog 18 #[.pointer (some ⟨g, 0, none⟩)] x fun e w' => e = .returned (.int .i64 s1.next) ∧ Keep (fun _ => False) w20 w' := fun x hx => by
            obtain ⟨F, _, h1, _⟩ := hT20.keepF hx
            exact (next_calls h1).mono (fun _ _ ⟨h1, h2⟩ => ⟨h1, by rw [← h2]; exact hx⟩)
          have BX : ∀ x, Keep (fun _ => False) w20 x → Calls Try.prog 32 #[.pointer (some ⟨g, 0, none⟩)] x fun e w' => e = .returned (.int .i64 s1.base) ∧ Keep (fun _ => False) w20 w' := fun x hx => by
            obtain ⟨F, _, h1, _⟩ := hT20.keepF hx
            exact (base_calls h1).mono (fun _ _ ⟨h1, h2⟩ => ⟨h1, by rw [← h2]; exact hx⟩)
          have hlt1 : t1.l.length ≤ 100000 := by have := HP8.out.len; omega
          have hls1 : s1.l.length ≤ 100000 := by have := HP8.out.inv.small; omega
          obtain ⟨LK, hLK⟩ : ∃ LK, LK = t1.l.map Prod.fst := ⟨_, rfl⟩
          have hLS : keysS s1.l = LK := by rw [hLK]; exact HLN.out
          have KN1 : ∀ x, Keep (fun _ => False) w20 x → Calls Try.prog 21 #[.pointer (some ⟨g, 0, none⟩)] x fun e w' => ∃ A c, e = .returned (.slice A LK.length c) ∧ Row (fun b => b < w'.heap.size) w' (.slice A LK.length c) LK.length 1 (LK.map I64) ∧ Keep (fun _ => False) x w' ∧ Keep (fun _ => False) w20 w' := fun x hx => by
            obtain ⟨F, _, h1, _⟩ := hT20.keepF hx
            refine (known_calls h1 hls1).mono ?_
            rintro e w' ⟨v, rfl, hr, hk⟩
            rw [hLS] at hr
            obtain ⟨A, c, rfl⟩ := hr.shape
            exact ⟨A, c, rfl, hr.mono (fun b hb => hb.2), hk, hx.trans hk (fun _ _ q => q)⟩
          have KN2 : ∀ x, Keep (fun _ => False) w20 x → Calls Try.prog 33 #[.pointer (some ⟨m, 0, none⟩)] x fun e w' => ∃ A c, e = .returned (.slice A LK.length c) ∧ Row (fun b => b < w'.heap.size) w' (.slice A LK.length c) LK.length 1 (LK.map I64) ∧ Keep (fun _ => False) x w' ∧ Keep (fun _ => False) w20 w' := fun x hx => by
            obtain ⟨_, F, _, h1, _⟩ := hT20.keepF hx
            refine (rknown_calls h1 hlt1).mono ?_
            rintro e w' ⟨v, rfl, hr, hk⟩
            rw [← hLK] at hr
            obtain ⟨A, c, rfl⟩ := hr.shape
            exact ⟨A, c, rfl, hr.mono (fun b hb => hb.2), hk, hx.trans hk (fun _ _ q => q)⟩
          have SI : ∀ x v1 v2 F1 F2, Keep (fun _ => False) w20 x → Row F1 x v1 LK.length 1 (LK.map I64) → Row F2 x v2 LK.length 1 (LK.map I64) → Calls Try.prog 20 #[v1, v2] x fun e w' => e = .returned (.bool true) ∧ Keep (fun _ => False) w20 w' := fun x v1 v2 F1 F2 hx r1 r2 => (sameInts_calls r1 r2).mono (fun e w'' ⟨h1, z, h2⟩ => ⟨by rw [h1, decide_eq_true rfl], by rw [h2]; exact hx.drewN z⟩)
          have cs1 := hT20.cells
          rw [HEQN.out, HEQB.out] at cs1
          have HS := hid (fun x (hx : Keep (fun _ => False) w20 x) => (⟨hx.cell (cell_at HB11d.out 0 (.int .i64 rA.kind) rfl) id, hx.cell (cell_at HB11d.out 1 (.string rA.name) rfl) id, hx.cell (cell_at HB11d.out 2 (.int .i64 rA.session) rfl) id, hx.cell (cell_at HB11d.out 3 (.int .i64 rA.seq) rfl) id, hx.cell (cell_at HB11d.out 4 (.int .i64 rA.base) rfl) id, hx.cell (cell_at HB11d.out 5 (.string rA.ref) rfl) id, hx.cell (cell_at HB11d.out 6 (.slice A9 rA.changes.length c9) rfl) id, hx.cell (cell_at HB11d.out 7 (.string rA.path) rfl) id, hx.cell (cell_at HB11d.out 8 (.int .i64 rA.from') rfl) id, hx.cell (cell_at HB11d.out 9 (.int .i64 rA.many) rfl) id, hx.cell (cell_at HB11d.out 10 (.int .i64 rA.member) rfl) id, hx.cell (cell_at HB14c.out 0 (.int .i64 rA.kind) rfl) id, hx.cell (cell_at HB14c.out 1 (.string rA.name) rfl) id, hx.cell (cell_at HB14c.out 2 (.int .i64 rA.session) rfl) id, hx.cell (cell_at HB14c.out 3 (.int .i64 rA.seq) rfl) id, hx.cell (cell_at HB14c.out 4 (.int .i64 rA.base) rfl) id, hx.cell (cell_at HB14c.out 5 (.string rA.ref) rfl) id, hx.cell (cell_at HB14c.out 6 (.slice A12 rA.changes.length c12) rfl) id, hx.cell (cell_at HB14c.out 7 (.string rA.path) rfl) id, hx.cell (cell_at HB14c.out 8 (.int .i64 rA.from') rfl) id, hx.cell (cell_at HB14c.out 9 (.int .i64 rA.many) rfl) id, hx.cell (cell_at HB14c.out 10 (.int .i64 rA.member) rfl) id, hx.cell (cell_at HB17b.out 0 (.int .i64 rB.kind) rfl) id, hx.cell (cell_at HB17b.out 1 (.string rB.name) rfl) id, hx.cell (cell_at HB17b.out 2 (.int .i64 rB.session) rfl) id, hx.cell (cell_at HB17b.out 3 (.int .i64 rB.seq) rfl) id, hx.cell (cell_at HB17b.out 4 (.int .i64 rB.base) rfl) id, hx.cell (cell_at HB17b.out 5 (.string rB.ref) rfl) id, hx.cell (cell_at HB17b.out 6 (.slice A15 rB.changes.length c15) rfl) id, hx.cell (cell_at HB17b.out 7 (.string rB.path) rfl) id, hx.cell (cell_at HB17b.out 8 (.int .i64 rB.from') rfl) id, hx.cell (cell_at HB17b.out 9 (.int .i64 rB.many) rfl) id, hx.cell (cell_at HB17b.out 10 (.int .i64 rB.member) rfl) id, hx.cell (cell_at HB20.out 0 (.int .i64 rB.kind) rfl) id, hx.cell (cell_at HB20.out 1 (.string rB.name) rfl) id, hx.cell (cell_at HB20.out 2 (.int .i64 rB.session) rfl) id, hx.cell (cell_at HB20.out 3 (.int .i64 rB.seq) rfl) id, hx.cell (cell_at HB20.out 4 (.int .i64 rB.base) rfl) id, hx.cell (cell_at HB20.out 5 (.string rB.ref) rfl) id, hx.cell (cell_at HB20.out 6 (.slice A18 rB.changes.length c18) rfl) id, hx.cell (cell_at HB20.out 7 (.string rB.path) rfl) id, hx.cell (cell_at HB20.out 8 (.int .i64 rB.from') rfl) id, hx.cell (cell_at HB20.out 9 (.int .i64 rB.many) rfl) id, hx.cell (cell_at HB20.out 10 (.int .i64 rB.member) rfl) id, hx.cell cs1.1 id, hx.cell cs1.2 id⟩ : x.cell? ⟨g12, 0, none⟩ = some (.int .i64 rA.kind) ∧ x.cell? ⟨g12, 1, none⟩ = some (.string rA.name) ∧ x.cell? ⟨g12, 2, none⟩ = some (.int .i64 rA.session) ∧ x.cell? ⟨g12, 3, none⟩ = some (.int .i64 rA.seq) ∧ x.cell? ⟨g12, 4, none⟩ = some (.int .i64 rA.base) ∧ x.cell? ⟨g12, 5, none⟩ = some (.string rA.ref) ∧ x.cell? ⟨g12, 6, none⟩ = some (.slice A9 rA.changes.length c9) ∧ x.cell? ⟨g12, 7, none⟩ = some (.string rA.path) ∧ x.cell? ⟨g12, 8, none⟩ = some (.int .i64 rA.from') ∧ x.cell? ⟨g12, 9, none⟩ = some (.int .i64 rA.many) ∧ x.cell? ⟨g12, 10, none⟩ = some (.int .i64 rA.member) ∧ x.cell? ⟨g14, 0, none⟩ = some (.int .i64 rA.kind) ∧ x.cell? ⟨g14, 1, none⟩ = some (.string rA.name) ∧ x.cell? ⟨g14, 2, none⟩ = some (.int .i64 rA.session) ∧ x.cell? ⟨g14, 3, none⟩ = some (.int .i64 rA.seq) ∧ x.cell? ⟨g14, 4, none⟩ = some (.int .i64 rA.base) ∧ x.cell? ⟨g14, 5, none⟩ = some (.string rA.ref) ∧ x.cell? ⟨g14, 6, none⟩ = some (.slice A12 rA.changes.length c12) ∧ x.cell? ⟨g14, 7, none⟩ = some (.string rA.path) ∧ x.cell? ⟨g14, 8, none⟩ = some (.int .i64 rA.from') ∧ x.cell? ⟨g14, 9, none⟩ = some (.int .i64 rA.many) ∧ x.cell? ⟨g14, 10, none⟩ = some (.int .i64 rA.member) ∧ x.cell? ⟨g16, 0, none⟩ = some (.int .i64 rB.kind) ∧ x.cell? ⟨g16, 1, none⟩ = some (.string rB.name) ∧ x.cell? ⟨g16, 2, none⟩ = some (.int .i64 rB.session) ∧ x.cell? ⟨g16, 3, none⟩ = some (.int .i64 rB.seq) ∧ x.cell? ⟨g16, 4, none⟩ = some (.int .i64 rB.base) ∧ x.cell? ⟨g16, 5, none⟩ = some (.string rB.ref) ∧ x.cell? ⟨g16, 6, none⟩ = some (.slice A15 rB.changes.length c15) ∧ x.cell? ⟨g16, 7, none⟩ = some (.string rB.path) ∧ x.cell? ⟨g16, 8, none⟩ = some (.int .i64 rB.from') ∧ x.cell? ⟨g16, 9, none⟩ = some (.int .i64 rB.many) ∧ x.cell? ⟨g16, 10, none⟩ = some (.int .i64 rB.member) ∧ x.cell? ⟨g18, 0, none⟩ = some (.int .i64 rB.kind) ∧ x.cell? ⟨g18, 1, none⟩ = some (.string rB.name) ∧ x.cell? ⟨g18, 2, none⟩ = some (.int .i64 rB.session) ∧ x.cell? ⟨g18, 3, none⟩ = some (.int .i64 rB.seq) ∧ x.cell? ⟨g18, 4, none⟩ = some (.int .i64 rB.base) ∧ x.cell? ⟨g18, 5, none⟩ = some (.string rB.ref) ∧ x.cell? ⟨g18, 6, none⟩ = some (.slice A18 rB.changes.length c18) ∧ x.cell? ⟨g18, 7, none⟩ = some (.string rB.path) ∧ x.cell? ⟨g18, 8, none⟩ = some (.int .i64 rB.from') ∧ x.cell? ⟨g18, 9, none⟩ = some (.int .i64 rB.many) ∧ x.cell? ⟨g18, 10, none⟩ = some (.int .i64 rB.member) ∧ x.cell? ⟨m, 0, none⟩ = some (.int .i64 s1.next) ∧ x.cell? ⟨m, 1, none⟩ = some (.int .i64 s1.base)))
          have kd : Keep (fun _ => False) w20 w20.drew := (Keep.refl _ w20).drew
          have HEND := hid (fun x (hx : Keep (fun _ => False) w20 x) => (⟨k + 1, s1, t1, by omega, by simp, hT20.keepF hx, HP8.out, KW8.out.trans (K20.out.trans hx (fun _ _ q => q)) (fun _ _ q => q.elim), by have := K20.out.size; have := hx.size; have := HBW.out; omega⟩ : ∃ (k' : Nat) (s t : LS), k' ≤ n ∧ Value.int .i64 ((k : Int) + 1) = .int .i64 k' ∧ TwoL B x g m s t (fun _ => False) ∧ PSim s t k' ∧ Keep (fun q => w.heap.size ≤ q) w x ∧ B ≤ x.heap.size))
          have hqA : (oA != oA) = false := by simp
          have hqB : (oB != oB) = false := by simp
          have hqn : (s1.next != s1.next) = false := by simp
          have hqb : (s1.base != s1.base) = false := by simp
          clear hT20 cs1 hLK hLS hlt1 hls1
          go_region_held3 (fun x => x.cell? ⟨g12, 0, none⟩ = some (.int .i64 rA.kind) ∧ x.cell? ⟨g12, 1, none⟩ = some (.string rA.name) ∧ x.cell? ⟨g12, 2, none⟩ = some (.int .i64 rA.session) ∧ x.cell? ⟨g12, 3, none⟩ = some (.int .i64 rA.seq) ∧ x.cell? ⟨g12, 4, none⟩ = some (.int .i64 rA.base) ∧ x.cell? ⟨g12, 5, none⟩ = some (.string rA.ref) ∧ x.cell? ⟨g12, 6, none⟩ = some (.slice A9 rA.changes.length c9) ∧ x.cell? ⟨g12, 7, none⟩ = some (.string rA.path) ∧ x.cell? ⟨g12, 8, none⟩ = some (.int .i64 rA.from') ∧ x.cell? ⟨g12, 9, none⟩ = some (.int .i64 rA.many) ∧ x.cell? ⟨g12, 10, none⟩ = some (.int .i64 rA.member) ∧ x.cell? ⟨g14, 0, none⟩ = some (.int .i64 rA.kind) ∧ x.cell? ⟨g14, 1, none⟩ = some (.string rA.name) ∧ x.cell? ⟨g14, 2, none⟩ = some (.int .i64 rA.session) ∧ x.cell? ⟨g14, 3, none⟩ = some (.int .i64 rA.seq) ∧ x.cell? ⟨g14, 4, none⟩ = some (.int .i64 rA.base) ∧ x.cell? ⟨g14, 5, none⟩ = some (.string rA.ref) ∧ x.cell? ⟨g14, 6, none⟩ = some (.slice A12 rA.changes.length c12) ∧ x.cell? ⟨g14, 7, none⟩ = some (.string rA.path) ∧ x.cell? ⟨g14, 8, none⟩ = some (.int .i64 rA.from') ∧ x.cell? ⟨g14, 9, none⟩ = some (.int .i64 rA.many) ∧ x.cell? ⟨g14, 10, none⟩ = some (.int .i64 rA.member) ∧ x.cell? ⟨g16, 0, none⟩ = some (.int .i64 rB.kind) ∧ x.cell? ⟨g16, 1, none⟩ = some (.string rB.name) ∧ x.cell? ⟨g16, 2, none⟩ = some (.int .i64 rB.session) ∧ x.cell? ⟨g16, 3, none⟩ = some (.int .i64 rB.seq) ∧ x.cell? ⟨g16, 4, none⟩ = some (.int .i64 rB.base) ∧ x.cell? ⟨g16, 5, none⟩ = some (.string rB.ref) ∧ x.cell? ⟨g16, 6, none⟩ = some (.slice A15 rB.changes.length c15) ∧ x.cell? ⟨g16, 7, none⟩ = some (.string rB.path) ∧ x.cell? ⟨g16, 8, none⟩ = some (.int .i64 rB.from') ∧ x.cell? ⟨g16, 9, none⟩ = some (.int .i64 rB.many) ∧ x.cell? ⟨g16, 10, none⟩ = some (.int .i64 rB.member) ∧ x.cell? ⟨g18, 0, none⟩ = some (.int .i64 rB.kind) ∧ x.cell? ⟨g18, 1, none⟩ = some (.string rB.name) ∧ x.cell? ⟨g18, 2, none⟩ = some (.int .i64 rB.session) ∧ x.cell? ⟨g18, 3, none⟩ = some (.int .i64 rB.seq) ∧ x.cell? ⟨g18, 4, none⟩ = some (.int .i64 rB.base) ∧ x.cell? ⟨g18, 5, none⟩ = some (.string rB.ref) ∧ x.cell? ⟨g18, 6, none⟩ = some (.slice A18 rB.changes.length c18) ∧ x.cell? ⟨g18, 7, none⟩ = some (.string rB.path) ∧ x.cell? ⟨g18, 8, none⟩ = some (.int .i64 rB.from') ∧ x.cell? ⟨g18, 9, none⟩ = some (.int .i64 rB.many) ∧ x.cell? ⟨g18, 10, none⟩ = some (.int .i64 rB.member) ∧ x.cell? ⟨m, 0, none⟩ = some (.int .i64 s1.next) ∧ x.cell? ⟨m, 1, none⟩ = some (.int .i64 s1.base)) (exact HS.out _ (by assumption)) (first
            | (go_at_call 31; first | (with_reducible refine (SM1 _ (by assumption)).mono ?_; rintro e w21 ⟨rfl, k21⟩) | (with_reducible refine (SM2 _ (by assumption)).mono ?_; rintro e w22 ⟨rfl, k22⟩))
            | (go_at_call 18; with_reducible refine (NX _ (by assumption)).mono ?_; rintro e w23 ⟨rfl, k23⟩)
            | (go_at_call 32; with_reducible refine (BX _ (by assumption)).mono ?_; rintro e w24 ⟨rfl, k24⟩)
            | (go_at_call 21; with_reducible refine (KN1 _ (by assumption)).mono ?_; rintro e w25 ⟨A25, c25, rfl, o25, q25, k25⟩)
            | (go_at_call 33; with_reducible refine (KN2 _ (by assumption)).mono ?_; rintro e w26 ⟨A26, c26, rfl, o26, q26, k26⟩)
            | (go_at_call 20; first | (with_reducible refine (SI _ _ _ _ _ (by assumption) (o25.keep q26 (fun _ _ => id)) o26).mono ?_; rintro e w27 ⟨rfl, k27⟩) | (with_reducible refine (SI _ _ _ _ _ (by assumption) o25 (o26.keep q25 (fun _ _ => id))).mono ?_; rintro e w27 ⟨rfl, k27⟩)))
          all_goals (
            clear SM1 SM2 NX BX KN1 KN2 SI
            go_wp2_with fail
            exact ⟨HEND.out _ k27, by simp [intOf]; omega⟩)
      · have HKP := hid hkp
        clear hT hP hkp
        go_wp2_with fail
        go_ret
        exact ⟨rfl, HKP.out.below (Nat.le_refl _) (fun b hb h => by omega)⟩
end Go.Proofs.Ytiomeoihekifeaa

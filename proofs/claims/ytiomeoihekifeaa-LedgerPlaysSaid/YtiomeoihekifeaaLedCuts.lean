/- wapentakelaw17.LedgerCuts: the walk. -/
import Derived.Test.YtiomeoihekifeaaLedCutsP
import Derived.Test.YtiomeoihekifeaaHas
import Derived.Deep.DeepCutAuto
import Derived.Deep.CutBlock
import Derived.Deep.CutRange
namespace Go.Proofs.Ytiomeoihekifeaa
open Go.RowKit
abbrev dedCs (d : LDeed) (v : Value) : List Value := .int .i64 d.do_ :: .int .i64 d.slot :: reqCs d.v v
abbrev zDeed : Value := .agg (dedCs ⟨0, 0, reqZero⟩ (.slice none 0 0)).toArray
theorem quietS {P : Program} {f : FuncId} {args : Array Value} {w : World} {n : Nat} {v : Value}
    (h : Calls P f args (w.drewN n) fun e w' => e = .returned v ∧ w.drewN n = w') : Calls P f args (w.drewN n) fun e w'' => e = .returned v ∧ ∃ m, w'' = w.drewN m :=
  h.mono fun _ _ ⟨he, hm⟩ => ⟨he, n, hm.symm⟩
/-- Behind the deed. -/
def AfterC (B : Nat) (F : Nat → Prop) (w0 : World) (g : Nat) (s : LS) (wx : World) : Prop := LedN B wx g s ∧ Keep F w0 wx
section
variable {B g : Nat} {F : Nat → Prop} {w w' : World} {s t : LS}
theorem AfterC.of (hF : ∀ k, F k → B ≤ k ∧ k < w.heap.size) (hl : LedAt F w' g t) (hk : Keep F w w') : AfterC B F w g t w' :=
  ⟨⟨F, hl, fun k q => ⟨(hF k q).1, by have := (hF k q).2; have := hk.size; omega⟩⟩, hk⟩
theorem AfterC.learn (hF : ∀ k, F k → B ≤ k ∧ k < w.heap.size) (h1 : LedAt F w g s) {k : Int} {r : Req} (hl : LedAt (Grow F w w') w' g (learnS s k r).2) (hkp : Keep F w w') : AfterC B F w g (learnS s k r).2 w' := by
  have hs := hkp.size
  refine ⟨⟨_, hl, ?_⟩, hkp⟩
  rintro k (q | ⟨a, b⟩)
  · have := hF k q; omega
  · exact ⟨by obtain ⟨_, _, _, hg, _⟩ := h1; have := hF g hg; omega, b⟩
end
set_option maxRecDepth 20000 in
set_option maxHeartbeats 8000000 in
theorem ledgerCuts_calls {w : World} {v : Value} {l : List LDeed} (hv : Sl .ldeed w (fun b => b < w.heap.size) v l) :
    Calls Try.prog 6 #[v] w fun e w' => e = .returned (.bool true) ∧ Below w.heap.size w w' := by
  have hroom := fun w' (hk : Keep (fun _ => False) w w') => room17_calls (hv.keep hk (fun _ _ => id))
  have hmax : l.length ≤ 9223372036854775807 := by obtain ⟨_, _, _, q1, q2, _⟩ := hv; unfold maxLen at q2; omega
  obtain ⟨A, c, rfl⟩ := hv.shape
  have HV := hid hv
  obtain ⟨n, hn⟩ : ∃ n, n = l.length := ⟨_, rfl⟩
  rw [← hn] at HV hmax hroom ⊢
  have HN := hid hn
  clear hv hn
  go_enter Try.func6, Try.ntmps6
  go_wp2_with fail
  refine (awake17_calls w).mono ?_
  rintro e w1 ⟨rfl, k1⟩
  have hr := hroom w1 k1
  have K1 := hid k1
  clear k1 hroom
  obtain ⟨rm, hrm⟩ : ∃ rm, rm = roomL l := ⟨_, rfl⟩
  rw [← hrm] at hr
  have HRM := hid hrm
  clear hrm
  go_wp2_with fail
  refine hr.mono ?_
  rintro e w' ⟨rfl, rfl⟩
  clear hr
  cases rm with
  | false =>
    go_wp2_with fail
    go_ret
    exact ⟨rfl, K1.out.below (Nat.le_refl _) (fun _ _ f => f)⟩
  | true =>
    have h150 : n ≤ 150 := by
      have := HRM.out.symm
      simp only [roomL, Bool.and_eq_true, decide_eq_true_iff] at this
      rw [HN.out]; exact this.1
    go_wp2_with fail
    refine (newN_calls 0 (by decide)).mono ?_
    rintro e w2 ⟨g, rfl, hL, k2⟩
    have K2 := hid ((K1.out.trans k2 (fun _ _ f => f)).mono (T := fun q => w.heap.size ≤ q) (fun _ _ f => f.elim))
    have hw1 := K1.out.size
    obtain ⟨B, hB⟩ : ∃ B, B = w1.heap.size := ⟨_, rfl⟩
    rw [← hB] at hL hw1
    have HL := hid hL
    clear hL hB k2
    go_wp2_with fail
    go_loopw [4] (fun i wr => ∃ (k : Nat) (s : LS), k ≤ n ∧ i = .int .i64 k ∧ LedN B wr g s ∧ LInv s k ∧ Keep (fun q => w.heap.size ≤ q) w wr) (fun i _ => n - (intOf i).toNat)
    case atStart => exact ⟨0, _, Nat.zero_le _, rfl, HL.out, ⟨Int.le_refl _, Int.le_refl _, by decide, by simp, by simp⟩, K2.out⟩
    case round =>
      obtain ⟨k, s, hk, rfl, hL, hinv, hkp⟩ := hrel
      by_cases hlt : k < n
      · obtain ⟨x, hx⟩ : ∃ x, l[k]? = some x := ⟨l[k]'(by rw [← HN.out]; exact hlt), by simp [show k < l.length by rw [← HN.out]; exact hlt]⟩
        have hvk := HV.out.keep hkp (fun q hq e => by omega)
        obtain ⟨A', c', b, off, cs, he, rfl, hcs, hcell⟩ := elem_cells7 hvk HN.out hx
        simp only [Value.slice.injEq, true_and] at he
        obtain ⟨rfl, rfl⟩ := he
        obtain ⟨vc, rfl, hdo, hslot, hvc⟩ := ldeed_cells hcs
        obtain ⟨Ac, cc, rfl⟩ := hvc.shape
        have hsz : Rep.ldeed.size = 13 := rfl
        rw [hsz] at hcell
        have hr : wr.rangeAt b (off + k * 13) (dedCs x (.slice Ac x.v.changes.length cc)) := fun j u hu => hcell j u hu
        obtain ⟨dM, hu, hd⟩ : ∃ d, Try.prog.underlying 45 = some d ∧ d.isRow = true := ⟨_, Try.underlying45, rfl⟩
        have hi : (Try.prog.info? 45).map (·.size) = some 13 := by kernel_rfl
        have h1c : ∀ u ∈ (Value.agg (dedCs x (.slice Ac x.v.changes.length cc)).toArray).cells.toList, u.oneCell' = true := by
          intro u hu
          have e : (Value.agg (dedCs x (.slice Ac x.v.changes.length cc)).toArray).cells.toList = dedCs x (.slice Ac x.v.changes.length cc) := rfl
          rw [e] at hu
          simp only [dedCs, reqCs, List.mem_cons, List.not_mem_nil, or_false] at hu
          rcases hu with rfl | rfl | rfl | rfl | rfl | rfl | rfl | rfl | rfl | rfl | rfl | rfl | rfl <;> rfl
        have hspl : spl zDeed.cells 0 (Value.agg (dedCs x (.slice Ac x.v.changes.length cc)).toArray).cells.toList = (dedCs x (.slice Ac x.v.changes.length cc)).toArray := spl_whole _ _ (Nat.le_refl 13)
        obtain ⟨F, hA, hF⟩ := hL
        have HX := hid hx; have HR := hid hr; have HU := hid hu; have HD := hid hd; have HI := hid hi; have H1C := hid h1c; have HSP := hid hspl
        have HVC := hid hvc; have HA := hid hA; have HF := hid hF; have HINV := hid hinv; have HKP := hid hkp; have HSL := hid hslot
        clear hvk hcs hcell hsz hr hu hd hi h1c hspl hvc hA hF hinv hkp hdo hslot hx
        go_wp2_with (first
          | (refine wpList_load_mid rfl _ _ rfl b (off + k * 13) rfl (dedCs x (.slice Ac x.v.changes.length cc)) dM HR.out HU.out HD.out HI.out ?_)
          | (refine wpl_allocB (z := zDeed) rfl rfl (by kernel_rfl) ?_; intro g5 w5 hg5 hb5 k5 s5; have HG5 := hid hg5; have K5 := hid k5; clear hg5 k5)
          | (refine wpl_storeB (v := .agg (dedCs x (.slice Ac x.v.changes.length cc)).toArray) rfl rfl rfl rfl hb5 HI.out (Nat.le_refl 13) H1C.out ?_; intro w6 hb6 k6 s6; rw [HSP.out] at hb6; have K6 := hid k6; clear k6 hb5))
        have k6 : Keep (fun _ => False) wr w6 := K5.out.trans K6.out (fun b hb e => by have := HG5.out; omega)
        have HA6 := hid (HA.out.keep k6 (fun _ _ => id))
        have K06 := hid k6
        have d0 := cell_at hb6 0 (.int .i64 x.do_) rfl
        have HB6 := hid hb6
        clear k6 hb6 s5 s6
        refine (base_calls HA6.out).mono ?_
        rintro e w' ⟨rfl, rfl⟩
        go_wp2_with fail
        refine (next_calls HA6.out).mono ?_
        rintro e w' ⟨rfl, rfl⟩
        go_wp2_with fail
        refine (known_calls HA6.out (by have := HINV.out.small; omega)).mono ?_
        rintro e w7 ⟨vK, rfl, hrowK, k7⟩
        have HA7 := hid (HA6.out.keep k7 (fun _ _ => id))
        have hb7 := k7.heap HB6.out id
        have d0 := cell_at hb7 0 (.int .i64 x.do_) rfl
        have d1 := cell_at hb7 1 (.int .i64 x.slot) rfl
        have HB7 := hid hb7; have K7 := hid k7; have HRK := hid hrowK
        clear hb7 k7 hrowK
        go_upto_block 2 with fail
        go_cut [] from 35 to 71 (fun wx => AfterC B F w7 g (opS x s) wx)
        case first =>
          have hF7 : ∀ k, F k → B ≤ k ∧ k < w7.heap.size := fun q hq => ⟨(HF.out q hq).1, by have := (HF.out q hq).2; have := K06.out.size; have := K7.out.size; omega⟩
          have HF7 := hid hF7
          clear hF7
          by_cases h4 : x.do_ ≤ 4
          · have HOP := hid (show opS x s = (learnS s x.slot x.v).2 by rw [opS, if_pos h4])
            have hlen : x.v.changes.length ≤ 30 := by
              have h1 := HRM.out.symm
              simp only [roomL, Bool.and_eq_true, List.all_eq_true, decide_eq_true_iff] at h1
              exact h1.2 x (List.mem_of_getElem? HX.out)
            have hle := learn_calls HA7.out x.slot HSL.out.wf ((HVC.out.keep K06.out (fun _ _ => id)).keep K7.out (fun _ _ => id)) (by omega) (fun k q => (HF7.out k q).2)
            have hb7 := HB7.out
            have HLE := hid hle
            clear hle hlen
            go_wp2_with (first
              | (refine wpl_loadA (ty := 30) (o := 2) (n := 11) rfl rfl rfl hb7 (by kernel_rfl) (by kernel_rfl) (reqCs x.v (.slice Ac x.v.changes.length cc)) rfl rfl ?_))
            refine HLE.out.mono ?_
            rintro e w8 ⟨rfl, hl8, k8⟩
            have HAF := hid (AfterC.learn HF7.out HA7.out hl8 k8)
            clear hl8 k8 hb7
            go_wp2_with fail
            go_meet
            rw [HOP.out]
            exact HAF.out
          by_cases h7 : x.do_ ≤ 7
          · by_cases hnx : s.next < 1099511627776
            · have HOP := hid (show opS x s = stepS s by rw [opS, if_neg h4, if_pos ⟨h7, hnx⟩])
              have hst := step_calls HA7.out HINV.out.wf (by
                have h1 := HINV.out.base
                have h2 := HINV.out.le
                simp [Lit.wf, IntKind.min, IntKind.max, IntKind.signed, IntKind.bits]; omega)
              have HST := hid hst
              clear hst
              go_wp2_with fail
              refine HST.out.mono ?_
              rintro e w8 ⟨rfl, hl8, k8⟩
              have HAF := hid (AfterC.of HF7.out hl8 (k8.mono (fun q _ e => by have e : q = g := e; subst e; obtain ⟨_, _, _, hg, _⟩ := HA7.out; exact hg)))
              clear hl8 k8
              go_wp2_with fail
              go_meet
              rw [HOP.out]
              exact HAF.out
            · have HOP := hid (show opS x s = s by rw [opS, if_neg h4, if_neg (fun q => hnx q.2), if_neg (by omega), if_neg (by omega)])
              have h8 : ¬ x.do_ = 8 := by omega
              have h9 : ¬ 8 < x.do_ := by omega
              go_wp2_with fail
              go_meet
              rw [HOP.out]
              exact AfterC.of HF7.out HA7.out (Keep.refl _ _)
          by_cases h8 : x.do_ = 8
          · have HOP := hid (show opS x s = cutS s x.slot by rw [opS, if_neg h4, if_neg (fun q => h7 q.1), if_pos h8])
            have HCU := hid (cut_calls HA7.out (fun k q => (HF7.out k q).2) x.slot)
            go_wp2_with fail
            refine HCU.out.mono ?_
            rintro e w8 ⟨rfl, hl8, k8⟩
            have HAF := hid (AfterC.of HF7.out hl8 k8)
            clear hl8 k8
            go_wp2_with fail
            go_meet
            rw [HOP.out]
            exact HAF.out
          · have h9 : 8 < x.do_ := by omega
            have HOP := hid (show opS x s = jumpS s x.slot by rw [opS, if_neg h4, if_neg (fun q => h7 q.1), if_neg h8, if_pos h9])
            have HJU := hid (jump_calls HA7.out (fun k q => (HF7.out k q).2) x.slot)
            go_wp2_with fail
            refine HJU.out.mono ?_
            rintro e w8 ⟨rfl, hl8, k8⟩
            have HAF := hid (AfterC.of HF7.out hl8 k8)
            clear hl8 k8
            go_wp2_with fail
            go_meet
            rw [HOP.out]
            exact HAF.out
        case rest =>
          revert wc
          intro w8 hcut
          obtain ⟨hL8, k8⟩ := hcut
          obtain ⟨hI, hS, hN8⟩ := HINV.out.op x HSL.out.wf
          generalize opS x s = t at *
          have hb8 := k8.heap HB7.out (fun q => by have := (HF.out _ q).2; have := HG5.out; omega)
          have d0 := cell_at hb8 0 (.int .i64 x.do_) rfl
          obtain ⟨F8, hA8, hF8⟩ := hL8
          have q1 : ¬ t.base < s.base := by have := hS.base; omega
          have q2 : ¬ t.next < s.next := by have := hS.next; omega
          have q3 : ¬ t.next < t.base := by have := hI.le; omega
          have q4 : x.do_ = 8 → (t.next != s.next) = false := fun e => by rw [hN8 e]; simp
          have HA8 := hid hA8; have HF8 := hid hF8; have HI8 := hid hI; have HS8 := hid hS; have K8 := hid k8; have HB8 := hid hb8
          have kc8 := hid ((HKP.out.trans (K06.out.trans K7.out (fun _ _ f => f)) (fun _ _ f => f.elim)).trans k8 (fun b hb q => by have := (HF.out b q).1; omega) : Keep (fun q => w.heap.size ≤ q) w w8)
          have hrK := (HRK.out).keep k8 (fun b hb q => by have := (HF.out b q).2; have := K06.out.size; omega)
          have HRK8 := hid hrK
          have hkn := hid (known_calls HA8.out (by have := hI.small; omega))
          clear hA8 hF8 hI hS hN8 k8 hb8 hrK HB7 HA7 K7 HA6 HB6 HRK HVC
          have hif : (fun wx : World => True) w8 := trivial
          clear hif
          by_cases hd8 : x.do_ = 8
          case pos =>
            have q5 := q4 hd8
            clear q4
            go_wp2_with fail
            refine (base_calls HA8.out).mono ?_
            rintro e w' ⟨rfl, rfl⟩
            go_wp2_with fail
            refine (next_calls HA8.out).mono ?_
            rintro e w' ⟨rfl, rfl⟩
            go_wp2_with fail
            refine (base_calls HA8.out).mono ?_
            rintro e w' ⟨rfl, rfl⟩
            go_wp2_with fail
            refine (next_calls HA8.out).mono ?_
            rintro e w' ⟨rfl, rfl⟩
            go_wp2_with fail
            refine (next_calls HA8.out).mono ?_
            rintro e w' ⟨rfl, rfl⟩
            go_wp2_with fail
            refine hkn.out.mono ?_
            rintro e w9 ⟨vN, rfl, hrN, k9⟩
            have HA9 := hid (HA8.out.keep k9 (fun _ _ => id))
            have hrK9 := HRK8.out.keep k9 (fun _ _ => id)
            have KC9 := hid (kc8.out.trans k9 (fun _ _ f => f.elim))
            have hs9 := k9.size
            have hmK : (keysS s.l).length ≤ 1000 := by rw [keysS_length]; have := HINV.out.small; omega
            have hmN : (keysS t.l).length ≤ 1000 := by rw [keysS_length]; have := HI8.out.small; omega
            have hhas := fun y (hy : y ∈ keysS s.l) => HS8.out.has hy
            have hfst := fun y (hy : y ∈ keysS t.l) => HI8.out.first hy
            obtain ⟨AK, cK, rfl, hcK⟩ := Row.int' (l := keysS s.l) hrK9
            obtain ⟨AN, cN, rfl, hcN⟩ := Row.int' (l := keysS t.l) hrN
            have hsN := fun w' (hk : Keep (fun _ => False) w9 w') y => has_calls (l := keysS t.l) (hrN.keep hk (fun _ _ => id)) y
            generalize keysS s.l = LK at *
            generalize keysS t.l = LN at *
            have HCK := hid hcK; have HCN := hid hcN; have HHAS := hid hhas; have HFST := hid hfst; have HSN := hid hsN
            clear hrK9 hrN k9 hcK hcN hhas hfst hsN HRK8 hkn
            go_wp2_with fail
            go_loopw [10] (fun i wq => ∃ j z : Nat, j ≤ LK.length ∧ i = .int .i64 j ∧ wq = w9.drewN z) (fun i _ => LK.length - (intOf i).toNat)
            case atStart => exact ⟨0, 0, Nat.zero_le _, rfl, rfl⟩
            case round =>
              obtain ⟨j, z, hj, rfl, hw⟩ := hrel
              have hkm : Keep (fun _ => False) w9 wr := by rw [hw]; exact (Keep.refl _ w9).drewN z
              have HW := hid hw; have HKM := hid hkm
              clear hw hkm
              have S2 := fun z' => base_calls (HA9.out.keep (HKM.out.drewN z') (fun _ _ => id))
              by_cases hjl : j < LK.length
              · obtain ⟨bK, offK, rfl, _, hcc⟩ := HCK.out (by omega)
                have dK := HKM.out.cell (hcc j hjl) id
                obtain ⟨y, hy⟩ : ∃ y, y = LK.getD j 0 := ⟨_, rfl⟩
                rw [← hy] at dK
                have hmem : y ∈ LK := by rw [hy]; simp [hjl]
                have hh := HHAS.out y hmem
                have S1 := fun z' => HSN.out _ (HKM.out.drewN z') y
                clear hcc hy hmem
                by_cases hty : t.base ≤ y
                · rw [hh, decide_eq_true hty] at S1
                  clear hh
                  go_wp2_with fail
                  go_quiet (first | with_reducible exact quietS (S1 _) | exact quietS (S2 _))
                  go_wp2_with fail
                  exact ⟨⟨j + 1, _, by omega, by simp, by rw [HW.out]; exact World.drewN_drewN _ _ _⟩, by simp [intOf]; omega⟩
                · rw [hh, decide_eq_false hty] at S1
                  clear hh
                  go_wp2_with fail
                  go_quiet (first | with_reducible exact quietS (S1 _) | exact quietS (S2 _))
                  go_wp2_with fail
                  exact ⟨⟨j + 1, _, by omega, by simp, by rw [HW.out]; exact World.drewN_drewN _ _ _⟩, by simp [intOf]; omega⟩
              · by_cases h0 : 0 < LN.length
                · obtain ⟨bN, offN, rfl, _, hcc⟩ := HCN.out (by omega)
                  have dN := HKM.out.cell (hcc 0 h0) id
                  obtain ⟨y, hy⟩ : ∃ y, y = LN.getD 0 0 := ⟨_, rfl⟩
                  rw [← hy] at dN
                  have hyb : t.base ≤ y := HFST.out y (by rw [hy]; simp [h0])
                  have hyn : decide (y < t.base) = false := decide_eq_false (by omega)
                  have h0d : decide ((0 : Int) < (LN.length : Int)) = true := decide_eq_true (by omega)
                  simp only [Nat.add_zero] at dN
                  clear hcc hy hyb
                  go_wp2_with fail
                  go_quiet (exact quietS (S2 _))
                  go_wp2_with fail
                  refine ⟨⟨k + 1, t, by omega, by simp, ⟨F8, HA9.out.keep (HKM.out.drewN _) (fun _ _ => id), fun q hq => ⟨(HF8.out q hq).1, by have := (HF8.out q hq).2; have := (HKM.out.drewN 0).size; have := HKM.out.size; simp; omega⟩⟩, HI8.out, KC9.out.trans (HKM.out.drewN _) (fun _ _ f => f.elim)⟩, by simp [intOf]; omega⟩
                · have h0d : decide ((0 : Int) < (LN.length : Int)) = false := decide_eq_false (by omega)
                  go_wp2_with fail
                  go_quiet (exact quietS (S2 _))
                  go_wp2_with fail
                  refine ⟨⟨k + 1, t, by omega, by simp, ⟨F8, HA9.out.keep (HKM.out.drewN _) (fun _ _ => id), fun q hq => ⟨(HF8.out q hq).1, by have := (HF8.out q hq).2; have := (HKM.out.drewN 0).size; have := HKM.out.size; simp; omega⟩⟩, HI8.out, KC9.out.trans (HKM.out.drewN _) (fun _ _ f => f.elim)⟩, by simp [intOf]; omega⟩
          case neg =>
            clear q4
            go_wp2_with fail
            refine (base_calls HA8.out).mono ?_
            rintro e w' ⟨rfl, rfl⟩
            go_wp2_with fail
            refine (next_calls HA8.out).mono ?_
            rintro e w' ⟨rfl, rfl⟩
            go_wp2_with fail
            refine (base_calls HA8.out).mono ?_
            rintro e w' ⟨rfl, rfl⟩
            go_wp2_with fail
            refine (next_calls HA8.out).mono ?_
            rintro e w' ⟨rfl, rfl⟩
            go_wp2_with fail
            refine hkn.out.mono ?_
            rintro e w9 ⟨vN, rfl, hrN, k9⟩
            have HA9 := hid (HA8.out.keep k9 (fun _ _ => id))
            have hrK9 := HRK8.out.keep k9 (fun _ _ => id)
            have KC9 := hid (kc8.out.trans k9 (fun _ _ f => f.elim))
            have hs9 := k9.size
            have hmK : (keysS s.l).length ≤ 1000 := by rw [keysS_length]; have := HINV.out.small; omega
            have hmN : (keysS t.l).length ≤ 1000 := by rw [keysS_length]; have := HI8.out.small; omega
            have hhas := fun y (hy : y ∈ keysS s.l) => HS8.out.has hy
            have hfst := fun y (hy : y ∈ keysS t.l) => HI8.out.first hy
            obtain ⟨AK, cK, rfl, hcK⟩ := Row.int' (l := keysS s.l) hrK9
            obtain ⟨AN, cN, rfl, hcN⟩ := Row.int' (l := keysS t.l) hrN
            have hsN := fun w' (hk : Keep (fun _ => False) w9 w') y => has_calls (l := keysS t.l) (hrN.keep hk (fun _ _ => id)) y
            generalize keysS s.l = LK at *
            generalize keysS t.l = LN at *
            have HCK := hid hcK; have HCN := hid hcN; have HHAS := hid hhas; have HFST := hid hfst; have HSN := hid hsN
            clear hrK9 hrN k9 hcK hcN hhas hfst hsN HRK8 hkn
            go_wp2_with fail
            go_loopw [10] (fun i wq => ∃ j z : Nat, j ≤ LK.length ∧ i = .int .i64 j ∧ wq = w9.drewN z) (fun i _ => LK.length - (intOf i).toNat)
            case atStart => exact ⟨0, 0, Nat.zero_le _, rfl, rfl⟩
            case round =>
              obtain ⟨j, z, hj, rfl, hw⟩ := hrel
              have hkm : Keep (fun _ => False) w9 wr := by rw [hw]; exact (Keep.refl _ w9).drewN z
              have HW := hid hw; have HKM := hid hkm
              clear hw hkm
              have S2 := fun z' => base_calls (HA9.out.keep (HKM.out.drewN z') (fun _ _ => id))
              by_cases hjl : j < LK.length
              · obtain ⟨bK, offK, rfl, _, hcc⟩ := HCK.out (by omega)
                have dK := HKM.out.cell (hcc j hjl) id
                obtain ⟨y, hy⟩ : ∃ y, y = LK.getD j 0 := ⟨_, rfl⟩
                rw [← hy] at dK
                have hmem : y ∈ LK := by rw [hy]; simp [hjl]
                have hh := HHAS.out y hmem
                have S1 := fun z' => HSN.out _ (HKM.out.drewN z') y
                clear hcc hy hmem
                by_cases hty : t.base ≤ y
                · rw [hh, decide_eq_true hty] at S1
                  clear hh
                  go_wp2_with fail
                  go_quiet (first | with_reducible exact quietS (S1 _) | exact quietS (S2 _))
                  go_wp2_with fail
                  exact ⟨⟨j + 1, _, by omega, by simp, by rw [HW.out]; exact World.drewN_drewN _ _ _⟩, by simp [intOf]; omega⟩
                · rw [hh, decide_eq_false hty] at S1
                  clear hh
                  go_wp2_with fail
                  go_quiet (first | with_reducible exact quietS (S1 _) | exact quietS (S2 _))
                  go_wp2_with fail
                  exact ⟨⟨j + 1, _, by omega, by simp, by rw [HW.out]; exact World.drewN_drewN _ _ _⟩, by simp [intOf]; omega⟩
              · by_cases h0 : 0 < LN.length
                · obtain ⟨bN, offN, rfl, _, hcc⟩ := HCN.out (by omega)
                  have dN := HKM.out.cell (hcc 0 h0) id
                  obtain ⟨y, hy⟩ : ∃ y, y = LN.getD 0 0 := ⟨_, rfl⟩
                  rw [← hy] at dN
                  have hyb : t.base ≤ y := HFST.out y (by rw [hy]; simp [h0])
                  have hyn : decide (y < t.base) = false := decide_eq_false (by omega)
                  have h0d : decide ((0 : Int) < (LN.length : Int)) = true := decide_eq_true (by omega)
                  simp only [Nat.add_zero] at dN
                  clear hcc hy hyb
                  go_wp2_with fail
                  go_quiet (exact quietS (S2 _))
                  go_wp2_with fail
                  refine ⟨⟨k + 1, t, by omega, by simp, ⟨F8, HA9.out.keep (HKM.out.drewN _) (fun _ _ => id), fun q hq => ⟨(HF8.out q hq).1, by have := (HF8.out q hq).2; have := (HKM.out.drewN 0).size; have := HKM.out.size; simp; omega⟩⟩, HI8.out, KC9.out.trans (HKM.out.drewN _) (fun _ _ f => f.elim)⟩, by simp [intOf]; omega⟩
                · have h0d : decide ((0 : Int) < (LN.length : Int)) = false := decide_eq_false (by omega)
                  go_wp2_with fail
                  go_quiet (exact quietS (S2 _))
                  go_wp2_with fail
                  refine ⟨⟨k + 1, t, by omega, by simp, ⟨F8, HA9.out.keep (HKM.out.drewN _) (fun _ _ => id), fun q hq => ⟨(HF8.out q hq).1, by have := (HF8.out q hq).2; have := (HKM.out.drewN 0).size; have := HKM.out.size; simp; omega⟩⟩, HI8.out, KC9.out.trans (HKM.out.drewN _) (fun _ _ f => f.elim)⟩, by simp [intOf]; omega⟩
      · have HKP := hid hkp
        clear hL hinv hkp
        go_wp2_with fail
        go_ret
        exact ⟨rfl, HKP.out.below (Nat.le_refl _) (fun b hb h => by omega)⟩
end Go.Proofs.Ytiomeoihekifeaa

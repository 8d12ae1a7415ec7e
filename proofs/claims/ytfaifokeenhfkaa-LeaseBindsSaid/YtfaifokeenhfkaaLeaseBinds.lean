/- wapentakelaw18.LeaseBinds: the walk. (Printed by wip/gen/leasebinds.py.) -/
import Derived.Test.YtfaifokeenhfkaaLeaseB
namespace Go.Proofs.Ytfaifokeenhfkaa
open Go.RowKit
/-- What is so ahead of each round. -/
def BRel (B M g1 g2 : Nat) (w1 : World) (L N D : Int) (n : Nat) (ld fo we bo i : Value) (wr : World) : Prop :=
  ∃ (k : Nat) (a : Int) (b : Bool) (T : Int), k ≤ n ∧ i = .int .i64 k ∧ 0 ≤ a ∧ a ≤ 15 * k ∧ ld = .int .i64 (100 + a) ∧ we = .int .i64 (wentI N D a) ∧ fo = .int .i64 (7 + wentI N D a) ∧ bo = .bool b ∧
    LeAt (fun k => B ≤ k ∧ k < M) wr g1 (xS L N D b) ∧ LeAt (fun k => M ≤ k) wr g2 (if b then yS L N D T else s0 L N D) ∧ 7 + L ≤ T ∧ Keep (fun k => B ≤ k) w1 wr
/-- The end of a round in which it is bound. -/
theorem BRel.next {B M g1 g2 : Nat} {w1 wr : World} {L N D : Int} {n k : Nat} {a T : Int} (hk : k + 1 ≤ n) (h0 : 0 ≤ a) (h1 : a ≤ 15 * (k + 1)) (hT : 7 + L ≤ T) {ld2 we2 fo2 : Int} (e1 : ld2 = 100 + a) (e2 : we2 = wentI N D a) (e3 : fo2 = 7 + wentI N D a)
    (hx : LeAt (fun k => B ≤ k ∧ k < M) wr g1 (gS L N D)) (hy : LeAt (fun k => M ≤ k) wr g2 (yS L N D T)) (hkp : Keep (fun k => B ≤ k) w1 wr) :
    BRel B M g1 g2 w1 L N D n (.int .i64 ld2) (.int .i64 fo2) (.int .i64 we2) (.bool true) (.int .i64 (k + 1)) wr :=
  ⟨k + 1, a, true, T, hk, by simp, h0, by omega, by rw [e1], by rw [e2], by rw [e3], rfl, hx, hy, hT, hkp⟩
theorem BRel.wait {B M g1 g2 : Nat} {w1 wr : World} {L N D : Int} {n k : Nat} {a : Int} (hk : k + 1 ≤ n) (h0 : 0 ≤ a) (h1 : a ≤ 15 * (k + 1)) {ld2 we2 fo2 : Int} (e1 : ld2 = 100 + a) (e2 : we2 = wentI N D a) (e3 : fo2 = 7 + wentI N D a)
    (hx : LeAt (fun k => B ≤ k ∧ k < M) wr g1 (s0 L N D)) (hy : LeAt (fun k => M ≤ k) wr g2 (s0 L N D)) (hkp : Keep (fun k => B ≤ k) w1 wr) :
    BRel B M g1 g2 w1 L N D n (.int .i64 ld2) (.int .i64 fo2) (.int .i64 we2) (.bool false) (.int .i64 (k + 1)) wr :=
  ⟨k + 1, a, false, 7 + L, hk, by simp, h0, by omega, by rw [e1], by rw [e2], by rw [e3], rfl, hx, hy, Int.le_refl _, hkp⟩
set_option maxRecDepth 20000 in
set_option maxHeartbeats 4000000 in
theorem leaseBinds_calls {w : World} {v u : Value} {t : Int × Int × Int} {l : List UInt8} (ht : TermsIs v t) (late : Int) (_hwl : (Lit.int .i64 late).wf = true) (hu : Row (fun k => k < w.heap.size) w u l.length 1 (l.map U8)) (_hlen : l.length ≤ 140737488351232) :
    Calls Try.prog 3 #[v, .int .i64 late, u] w fun e w' => e = .returned (.bool true) ∧ Below w.heap.size w w' := by
  obtain ⟨L, N, D⟩ := t
  obtain ⟨hv, hoL, hoN, hoD⟩ := ht
  simp only at hv hoL hoN hoD
  subst hv
  have hrow0 : ∃ A c, u = .slice A l.length c ∧ (0 < l.length → ∃ b off, A = some ⟨b, off, none⟩ ∧ b < w.heap.size ∧ ∀ j, j < l.length → w.cell? ⟨b, off + j, none⟩ = some (.int .u8 (l.getD j 0).toNat)) := by
    obtain ⟨A, c, rfl, hl, hn, hc, h0 | ⟨b, off, rfl, hF, hb, hcell⟩⟩ := hu
    · exact ⟨_, _, rfl, fun h => by omega⟩
    · exact ⟨_, _, rfl, fun _ => ⟨b, off, rfl, hb, fun j hj => hcell j _ (by simp [hj, U8])⟩⟩
  obtain ⟨A, c, rfl, hcell⟩ := hrow0
  obtain ⟨n, hn⟩ : ∃ n, n = l.length := ⟨_, rfl⟩
  rw [← hn] at hcell _hlen ⊢
  have HC := hid hcell
  clear hcell hn hu
  obtain ⟨lt, hlt1, hlt2⟩ := and1023 late
  by_cases hok : newOk L N D
  case neg =>
    go_enter Try.func3, Try.ntmps3
    go_wp2_with (first | (refine wpl_boxB (v := .agg #[.int .i64 L, .int .i64 N, .int .i64 D]) rfl rfl rfl ?_; intro b0 w1 hg0 hb0' k1 s1; have HG0 := hid hg0; clear hg0))
    have B0 : w.heap.size ≤ b0 := Nat.le_of_eq HG0.out.symm
    have HB0 := hid hb0'
    have K1 := hid k1
    clear hb0' k1
    refine (awake18_calls w1).mono ?_
    rintro e w2 ⟨rfl, k2⟩
    have c0 := cell_at (k2.heap HB0.out id) 0 (.int .i64 L) rfl
    have c1 := cell_at (k2.heap HB0.out id) 1 (.int .i64 N) rfl
    have c2 := cell_at (k2.heap HB0.out id) 2 (.int .i64 D) rfl
    have K2 := hid k2
    clear k2
    go_wp2_with fail
    refine (new_bad hok).mono ?_
    rintro e w' ⟨rfl, rfl⟩
    go_wp2_with fail
    refine (new_bad hok).mono ?_
    rintro e w' ⟨rfl, rfl⟩
    go_wp2_with fail
    go_ret
    exact ⟨rfl, (K1.out.trans K2.out (fun _ _ h => h)).below (Nat.le_refl _) (fun _ _ h => h)⟩
  have HOK := hid hok
  clear hok
  go_enter Try.func3, Try.ntmps3
  go_wp2_with (first | (refine wpl_boxB (v := .agg #[.int .i64 L, .int .i64 N, .int .i64 D]) rfl rfl rfl ?_; intro b0 w1 hg0 hb0' k1 s1; have HG0 := hid hg0; clear hg0))
  have B0 : w.heap.size ≤ b0 := Nat.le_of_eq HG0.out.symm
  have HB0 := hid hb0'
  have K1 := hid k1
  clear hb0' k1
  refine (awake18_calls w1).mono ?_
  rintro e w2 ⟨rfl, k2⟩
  have c0 := cell_at (k2.heap HB0.out id) 0 (.int .i64 L) rfl
  have c1 := cell_at (k2.heap HB0.out id) 1 (.int .i64 N) rfl
  have c2 := cell_at (k2.heap HB0.out id) 2 (.int .i64 D) rfl
  have K2 := hid k2
  clear k2
  go_wp2_with fail
  refine (mk_calls (B := w1.heap.size) K2.out.size HOK.out).mono ?_
  rintro e w3 ⟨g1, rfl, hl1, k3⟩
  have hB3 : w1.heap.size ≤ w3.heap.size := Nat.le_trans K2.out.size k3.size
  have hl1' : LeAt (fun k => w1.heap.size ≤ k ∧ k < w3.heap.size) w3 g1 (s0 L N D) := by
    obtain ⟨m, q1, q2, q3, q4, q5, q6⟩ := hl1
    exact ⟨m, q1, q2, ⟨q3, lt_heap q1⟩, ⟨q4, q2.lt⟩, q5, q6⟩
  have HL1 := hid hl1'
  have K3 := hid (K2.out.trans k3 (fun _ _ h => h))
  have d0 := k3.cell c0 id
  have d1 := k3.cell c1 id
  have d2 := k3.cell c2 id
  clear hl1 hl1' k3 c0 c1 c2
  go_wp2_with fail
  refine (mk_calls (B := w3.heap.size) (Nat.le_refl _) HOK.out).mono ?_
  rintro e w4 ⟨g2, rfl, hl2, k4⟩
  have HX4 := hid (HL1.out.keepF k4)
  have HY4 := hid hl2
  have K4 := hid (K3.out.trans k4 (fun _ _ h => h))
  clear hl2 k4 d0 d1 d2
  by_cases h200 : 200 < n
  · go_wp2_with fail
    go_ret
    exact ⟨rfl, (K1.out.trans K4.out (fun _ _ h => h)).below (Nat.le_refl _) (fun _ _ h => h)⟩
  have hM : w1.heap.size ≤ w3.heap.size := hB3
  obtain ⟨M, hMe⟩ : ∃ M, M = w3.heap.size := ⟨_, rfl⟩
  rw [← hMe] at HX4 HY4 hM
  obtain ⟨B, hBe⟩ : ∃ B, B = w1.heap.size := ⟨_, rfl⟩
  rw [← hBe] at HX4 hM
  have hbB : b0 < B := by omega
  have hb0 : ¬ B ≤ b0 := fun h => by omega
  have HC0 := hid (cell_at HB0.out 0 (.int .i64 L) rfl)
  have HC1 := hid (cell_at HB0.out 1 (.int .i64 N) rfl)
  have HC2 := hid (cell_at HB0.out 2 (.int .i64 D) rfl)
  clear hMe hBe hB3
  go_wp2_with fail
  go_loopw [11, 12, 13, 14, 16] (fun ld fo we bo i wr => BRel B M g1 g2 w1 L N D n ld fo we bo i wr) (fun _ _ _ _ i _ => n - (intOf i).toNat)
  case atStart => exact ⟨0, 0, false, 7 + L, Nat.zero_le _, rfl, by omega, by omega, by simp, by simp [wentI], by simp [wentI], rfl, HX4.out, HY4.out, Int.le_refl _, K4.out.mono (fun _ _ h => h.elim)⟩
  case round =>
    obtain ⟨k, a, b, T, hk, rfl, ha0, ha1, rfl, rfl, rfl, rfl, hx, hy, hT, hkw⟩ := hrel
    by_cases hlt : k < n
    case neg =>
      go_wp2_with fail
      go_ret
      exact ⟨rfl, ((K1.out.mono (T := fun k => B ≤ k) (fun _ _ h => h.elim)).trans hkw (fun _ _ h => h)).below (by omega) (fun _ _ h => by omega)⟩
    obtain ⟨bq, off, rfl, hbq, hcc⟩ := HC.out (by omega)
    have hcx0 := K1.out.cell (hcc k hlt) id
    have hrow : ¬ B ≤ bq := fun h => by omega
    obtain ⟨xn, hxn⟩ : ∃ xn, xn = (l.getD k 0).toNat := ⟨_, rfl⟩
    rw [← hxn] at hcx0
    have HCX := hid hcx0
    obtain ⟨sv, hsv, hbits⟩ := and15 xn
    clear hcc hcx0 hxn
    have hok := HOK.out
    obtain ⟨o1, o2, o3, o4, o5, o6⟩ := hok
    have hb1 := went_bound (a := a) o3 o4 o5 ha0 (by omega)
    have hb2 := went_bound (a := a + sv) o3 o4 o5 (by omega) (by omega)
    obtain ⟨ld, hld⟩ : ∃ ld, ld = 100 + a := ⟨_, rfl⟩
    obtain ⟨we, hwe⟩ : ∃ we, we = wentI N D a := ⟨_, rfl⟩
    obtain ⟨fo, hfo⟩ : ∃ fo, fo = 7 + wentI N D a := ⟨_, rfl⟩
    obtain ⟨a2, ha2⟩ : ∃ a2, a2 = a + sv := ⟨_, rfl⟩
    obtain ⟨ld2, hld2⟩ : ∃ ld2, ld2 = 100 + a2 := ⟨_, rfl⟩
    obtain ⟨p2, hp2⟩ : ∃ p2, p2 = a2 * N := ⟨_, rfl⟩
    obtain ⟨W2, hW2⟩ : ∃ W2, W2 = wentI N D a2 := ⟨_, rfl⟩
    obtain ⟨m2, hm2⟩ : ∃ m2, m2 = W2 - we := ⟨_, rfl⟩
    obtain ⟨fo2, hfo2⟩ : ∃ fo2, fo2 = 7 + W2 := ⟨_, rfl⟩
    rw [← ha2] at hb2
    rw [← hld, ← hfo, ← hwe]
    have HON := hid (⟨by omega, by omega⟩ : okI ld)
    have HON2 := hid (⟨by omega, by omega⟩ : okI ld2)
    have HT : Hid (0 ≤ fo ∧ fo ≤ 1099511627776) := hid ⟨by omega, by omega⟩
    have HFR : Hid (∀ T, 7 + L ≤ T → (100 ≤ ld ∧ ld - 100 < L * D / N) → fo < T) := hid (fun T hT h => by
      have := went_lt (L := L) (N := N) (D := D) (a := a) o1 o3 o5 o6 ha0 (by have := h.2; omega)
      omega)
    have HFR2 : Hid (∀ T, 7 + L ≤ T → (100 ≤ ld2 ∧ ld2 - 100 < L * D / N) → fo2 < T) := hid (fun T hT h => by
      have := went_lt (L := L) (N := N) (D := D) (a := a2) o1 o3 o5 o6 (by omega) (by have := h.2; omega)
      omega)
    have HNX : Hid (∀ T, 7 + L ≤ T → ∀ wr, LeAt (fun k => B ≤ k ∧ k < M) wr g1 (gS L N D) → LeAt (fun k => M ≤ k) wr g2 (yS L N D T) → Keep (fun k => B ≤ k) w1 wr → BRel B M g1 g2 w1 L N D n (.int .i64 ld2) (.int .i64 fo2) (.int .i64 W2) (.bool true) (.int .i64 (k + 1)) wr) :=
      hid (fun T hT wr hx hy hkp => BRel.next (a := a2) (by omega) (by omega) (by omega) hT hld2 hW2 (by omega) hx hy hkp)
    have HWT : Hid (∀ wr, LeAt (fun k => B ≤ k ∧ k < M) wr g1 (s0 L N D) → LeAt (fun k => M ≤ k) wr g2 (s0 L N D) → Keep (fun k => B ≤ k) w1 wr → BRel B M g1 g2 w1 L N D n (.int .i64 ld2) (.int .i64 fo2) (.int .i64 W2) (.bool false) (.int .i64 (k + 1)) wr) :=
      hid (fun wr hx hy hkp => BRel.wait (a := a2) (by omega) (by omega) (by omega) hld2 hW2 (by omega) hx hy hkp)
    have HO1 := hid o1
    have hfo7 : 7 ≤ fo := by have := hb1; omega
    have e0 : wrap64 (ld - 100) = a := by unfold wrap64; omega
    have e1 : wrap64 (ld + sv) = ld2 := by unfold wrap64; omega
    have e2 : wrap64 (ld2 - 100) = a2 := by unfold wrap64; omega
    have e3 : wrap64 (a2 * N) = p2 := by have := hb2; unfold wrap64; omega
    have f4 : (D == 0) = false := by simp; omega
    have e5 : wrap64 (p2.tdiv D) = W2 := by
      rw [Int.tdiv_eq_ediv_of_nonneg (by rw [hp2]; exact hb2.1), hW2, hp2]
      have := hb2.2.2
      unfold wentI at this ⊢
      unfold wrap64; omega
    have e6 : wrap64 (W2 - we) = m2 := by have := hb1; have := hb2; unfold wrap64; omega
    have e7 : wrap64 (we + m2) = W2 := by have := hb1; have := hb2; unfold wrap64; omega
    have e8 : wrap64 (fo + m2) = fo2 := by have := hb1; have := hb2; unfold wrap64; omega
    have e9 : wrap64 (sv : Int) = sv := by unfold wrap64; omega
    have E0 := hid e0
    have E1 := hid e1
    have E2 := hid e2
    have E3 := hid e3
    have E5 := hid e5
    have E6 := hid e6
    have E7 := hid e7
    have E8 := hid e8
    have E9 := hid e9
    have f4' : ¬ D = 0 := by omega
    clear e0 e1 e2 e3 e5 e6 e7 e8 e9
    clear hb1 hb2 hld hwe hfo ha2 hld2 hp2 hW2 hm2 hfo2 o1 o2 o3 o4 o5 o6 ha1
    cases b
    case true =>
      simp only [if_true] at hy
      have HFREE := hid (HFR.out T hT)
      have HFREE2 := hid (HFR2.out T hT)
      have HEND := hid (HNX.out T hT)
      have hgv := give_calls hx 0 100 (by decide)
      rw [x_give] at hgv
      obtain ⟨gb, hgb⟩ : ∃ gb, gb = giveB (xS L N D true) 0 100 := ⟨_, rfl⟩
      rw [← hgb] at hgv
      have hyA := hy
      have hkA := hkw
      clear hgb hx hy hkw hT HFR HFR2 HNX HWT ha0 hfo7
      go_wp2_with fail
      refine hgv.mono ?_
      rintro e w6 ⟨rfl, hx6, k6⟩
      have hy6 := hyA.keep k6 (fun k h1 h2 => by have := h2.2; omega)
      have hk6 := hkA.trans k6 (fun _ _ h => h.1)
      have hh := holds_one hx6 HON.out (x := 0) 3
      rw [g_holds] at hh
      have HX6 := hid hx6; have HY6 := hid hy6; have HK6 := hid hk6
      clear hgv hx6 hy6 hk6 k6 hyA hkA
      by_cases hfr : 100 ≤ ld ∧ ld - 100 < L * D / N
      · rw [decide_eq_true hfr] at hh
        have HF := hid hfr
        clear hfr
        go_wp2_with fail
        refine hh.mono ?_
        rintro e w7 ⟨rfl, k7⟩
        have hx7 := HX6.out.keepF k7
        have hy7 := HY6.out.keepF k7
        have hk7 := HK6.out.trans k7 (fun _ _ h => h.elim)
        have hf := free_calls hy7 32 fo
        rw [y_free (HFREE.out HF.out)] at hf
        have HX7 := hid hx7; have HY7 := hid hy7; have HK7 := hid hk7
        clear hh hx7 hy7 hk7 k7
        go_wp2_with fail
        refine hf.mono ?_
        rintro e w' ⟨rfl, rfl⟩
        clear hf
        have c1 := HK7.out.cell HC1.out hb0
        have c2 := HK7.out.cell HC2.out hb0
        have cx := HK7.out.cell HCX.out hrow
        have hh2 := holds_one HX7.out HON2.out (x := 0) 3
        rw [g_holds] at hh2
        by_cases hfr2 : 100 ≤ ld2 ∧ ld2 - 100 < L * D / N
        · rw [decide_eq_true hfr2] at hh2
          have HF2 := hid hfr2
          clear hfr2
          go_wp2_with fail
          simp only [E1.out, E2.out, E3.out, E5.out, E6.out, E7.out, E8.out]
          refine hh2.mono ?_
          rintro e w8 ⟨rfl, k8⟩
          have hx8 := HX7.out.keepF k8
          have hy8 := HY7.out.keepF k8
          have hk8 := HK7.out.trans k8 (fun _ _ h => h.elim)
          have hf := free_calls hy8 32 fo2
          rw [y_free (HFREE2.out HF2.out)] at hf
          have HX8 := hid hx8; have HY8 := hid hy8; have HK8 := hid hk8
          clear hh2 hx8 hy8 hk8 k8 c1 c2 cx
          go_wp2_with fail
          refine hf.mono ?_
          rintro e w' ⟨rfl, rfl⟩
          go_wp2_with fail
          exact ⟨HEND.out _ HX8.out HY8.out HK8.out, by simp [intOf]; omega⟩
        · rw [decide_eq_false hfr2] at hh2
          clear hfr2
          go_wp2_with fail
          simp only [E1.out, E2.out, E3.out, E5.out, E6.out, E7.out, E8.out]
          refine hh2.mono ?_
          rintro e w8 ⟨rfl, k8⟩
          have hx8 := HX7.out.keepF k8
          have hy8 := HY7.out.keepF k8
          have hk8 := HK7.out.trans k8 (fun _ _ h => h.elim)
          have HX8 := hid hx8; have HY8 := hid hy8; have HK8 := hid hk8
          clear hh2 hx8 hy8 hk8 k8 c1 c2 cx
          go_wp2_with fail
          exact ⟨HEND.out _ HX8.out HY8.out HK8.out, by simp [intOf]; omega⟩
      · rw [decide_eq_false hfr] at hh
        clear hfr
        go_wp2_with fail
        refine hh.mono ?_
        rintro e w7 ⟨rfl, k7⟩
        have hx7 := HX6.out.keepF k7
        have hy7 := HY6.out.keepF k7
        have hk7 := HK6.out.trans k7 (fun _ _ h => h.elim)
        have HX7 := hid hx7; have HY7 := hid hy7; have HK7 := hid hk7
        clear hh hx7 hy7 hk7 k7
        have c1 := HK7.out.cell HC1.out hb0
        have c2 := HK7.out.cell HC2.out hb0
        have cx := HK7.out.cell HCX.out hrow
        have hh2 := holds_one HX7.out HON2.out (x := 0) 3
        rw [g_holds] at hh2
        by_cases hfr2 : 100 ≤ ld2 ∧ ld2 - 100 < L * D / N
        · rw [decide_eq_true hfr2] at hh2
          have HF2 := hid hfr2
          clear hfr2
          go_wp2_with fail
          simp only [E1.out, E2.out, E3.out, E5.out, E6.out, E7.out, E8.out]
          refine hh2.mono ?_
          rintro e w8 ⟨rfl, k8⟩
          have hx8 := HX7.out.keepF k8
          have hy8 := HY7.out.keepF k8
          have hk8 := HK7.out.trans k8 (fun _ _ h => h.elim)
          have hf := free_calls hy8 32 fo2
          rw [y_free (HFREE2.out HF2.out)] at hf
          have HX8 := hid hx8; have HY8 := hid hy8; have HK8 := hid hk8
          clear hh2 hx8 hy8 hk8 k8 c1 c2 cx
          go_wp2_with fail
          refine hf.mono ?_
          rintro e w' ⟨rfl, rfl⟩
          go_wp2_with fail
          exact ⟨HEND.out _ HX8.out HY8.out HK8.out, by simp [intOf]; omega⟩
        · rw [decide_eq_false hfr2] at hh2
          clear hfr2
          go_wp2_with fail
          simp only [E1.out, E2.out, E3.out, E5.out, E6.out, E7.out, E8.out]
          refine hh2.mono ?_
          rintro e w8 ⟨rfl, k8⟩
          have hx8 := HX7.out.keepF k8
          have hy8 := HY7.out.keepF k8
          have hk8 := HK7.out.trans k8 (fun _ _ h => h.elim)
          have HX8 := hid hx8; have HY8 := hid hy8; have HK8 := hid hk8
          clear hh2 hx8 hy8 hk8 k8 c1 c2 cx
          go_wp2_with fail
          exact ⟨HEND.out _ HX8.out HY8.out HK8.out, by simp [intOf]; omega⟩
    case false =>
      simp only [Bool.false_eq_true, if_false] at hy
      by_cases hla : a < lt
      case pos =>
        have hcmp : wrap64 (ld - 100) < (lt : Int) := by rw [E0.out]; exact hla
        have c1 := hkw.cell HC1.out hb0
        have c2 := hkw.cell HC2.out hb0
        have cx := hkw.cell HCX.out hrow
        have HX := hid hx; have HY := hid hy; have HK := hid hkw
        clear hx hy hkw HFR HFR2 HNX hT ha0 hfo7
        go_wp2_with fail
        simp only [E1.out, E2.out, E3.out, E5.out, E6.out, E7.out, E8.out]
        exact ⟨HWT.out _ HX.out HY.out HK.out, by simp [intOf]; omega⟩
      have hcmp : (lt : Int) ≤ wrap64 (ld - 100) := by rw [E0.out]; omega
      have hbd := bind_calls hy 16 fo
      rw [y_bind HT.out HO1.out] at hbd
      have HX := hid hx; have HY := hid hy; have HK := hid hkw
      have hT' : 7 + L ≤ fo + L := by omega
      have hg2 : M ≤ g2 := by obtain ⟨m, q1, q2, q3, q4⟩ := hy; exact q3
      clear hx hy hkw ha0 hfo7
      go_wp2_with fail
      refine hbd.mono ?_
      rintro e w5 ⟨rfl, hyA, k5⟩
      have hx5 := HX.out.keep k5 (fun k h1 h2 => by have := h1.2; omega)
      have hkA := HK.out.trans k5 (fun _ _ h => by omega)
      have HFREE := hid (HFR.out (fo + L) hT')
      have HFREE2 := hid (HFR2.out (fo + L) hT')
      have HEND := hid (HNX.out (fo + L) hT')
      have hgv := give_calls hx5 0 100 (by decide)
      rw [x_give] at hgv
      obtain ⟨gb, hgb⟩ : ∃ gb, gb = giveB (xS L N D false) 0 100 := ⟨_, rfl⟩
      rw [← hgb] at hgv
      clear hgb hx5 k5 hbd hT hT' HFR HFR2 HNX HWT
      go_wp2_with fail
      refine hgv.mono ?_
      rintro e w6 ⟨rfl, hx6, k6⟩
      have hy6 := hyA.keep k6 (fun k h1 h2 => by have := h2.2; omega)
      have hk6 := hkA.trans k6 (fun _ _ h => h.1)
      have hh := holds_one hx6 HON.out (x := 0) 3
      rw [g_holds] at hh
      have HX6 := hid hx6; have HY6 := hid hy6; have HK6 := hid hk6
      clear hgv hx6 hy6 hk6 k6 hyA hkA
      by_cases hfr : 100 ≤ ld ∧ ld - 100 < L * D / N
      · rw [decide_eq_true hfr] at hh
        have HF := hid hfr
        clear hfr
        go_wp2_with fail
        refine hh.mono ?_
        rintro e w7 ⟨rfl, k7⟩
        have hx7 := HX6.out.keepF k7
        have hy7 := HY6.out.keepF k7
        have hk7 := HK6.out.trans k7 (fun _ _ h => h.elim)
        have hf := free_calls hy7 32 fo
        rw [y_free (HFREE.out HF.out)] at hf
        have HX7 := hid hx7; have HY7 := hid hy7; have HK7 := hid hk7
        clear hh hx7 hy7 hk7 k7
        go_wp2_with fail
        refine hf.mono ?_
        rintro e w' ⟨rfl, rfl⟩
        clear hf
        have c1 := HK7.out.cell HC1.out hb0
        have c2 := HK7.out.cell HC2.out hb0
        have cx := HK7.out.cell HCX.out hrow
        have hh2 := holds_one HX7.out HON2.out (x := 0) 3
        rw [g_holds] at hh2
        by_cases hfr2 : 100 ≤ ld2 ∧ ld2 - 100 < L * D / N
        · rw [decide_eq_true hfr2] at hh2
          have HF2 := hid hfr2
          clear hfr2
          go_wp2_with fail
          simp only [E1.out, E2.out, E3.out, E5.out, E6.out, E7.out, E8.out]
          refine hh2.mono ?_
          rintro e w8 ⟨rfl, k8⟩
          have hx8 := HX7.out.keepF k8
          have hy8 := HY7.out.keepF k8
          have hk8 := HK7.out.trans k8 (fun _ _ h => h.elim)
          have hf := free_calls hy8 32 fo2
          rw [y_free (HFREE2.out HF2.out)] at hf
          have HX8 := hid hx8; have HY8 := hid hy8; have HK8 := hid hk8
          clear hh2 hx8 hy8 hk8 k8 c1 c2 cx
          go_wp2_with fail
          refine hf.mono ?_
          rintro e w' ⟨rfl, rfl⟩
          go_wp2_with fail
          exact ⟨HEND.out _ HX8.out HY8.out HK8.out, by simp [intOf]; omega⟩
        · rw [decide_eq_false hfr2] at hh2
          clear hfr2
          go_wp2_with fail
          simp only [E1.out, E2.out, E3.out, E5.out, E6.out, E7.out, E8.out]
          refine hh2.mono ?_
          rintro e w8 ⟨rfl, k8⟩
          have hx8 := HX7.out.keepF k8
          have hy8 := HY7.out.keepF k8
          have hk8 := HK7.out.trans k8 (fun _ _ h => h.elim)
          have HX8 := hid hx8; have HY8 := hid hy8; have HK8 := hid hk8
          clear hh2 hx8 hy8 hk8 k8 c1 c2 cx
          go_wp2_with fail
          exact ⟨HEND.out _ HX8.out HY8.out HK8.out, by simp [intOf]; omega⟩
      · rw [decide_eq_false hfr] at hh
        clear hfr
        go_wp2_with fail
        refine hh.mono ?_
        rintro e w7 ⟨rfl, k7⟩
        have hx7 := HX6.out.keepF k7
        have hy7 := HY6.out.keepF k7
        have hk7 := HK6.out.trans k7 (fun _ _ h => h.elim)
        have HX7 := hid hx7; have HY7 := hid hy7; have HK7 := hid hk7
        clear hh hx7 hy7 hk7 k7
        have c1 := HK7.out.cell HC1.out hb0
        have c2 := HK7.out.cell HC2.out hb0
        have cx := HK7.out.cell HCX.out hrow
        have hh2 := holds_one HX7.out HON2.out (x := 0) 3
        rw [g_holds] at hh2
        by_cases hfr2 : 100 ≤ ld2 ∧ ld2 - 100 < L * D / N
        · rw [decide_eq_true hfr2] at hh2
          have HF2 := hid hfr2
          clear hfr2
          go_wp2_with fail
          simp only [E1.out, E2.out, E3.out, E5.out, E6.out, E7.out, E8.out]
          refine hh2.mono ?_
          rintro e w8 ⟨rfl, k8⟩
          have hx8 := HX7.out.keepF k8
          have hy8 := HY7.out.keepF k8
          have hk8 := HK7.out.trans k8 (fun _ _ h => h.elim)
          have hf := free_calls hy8 32 fo2
          rw [y_free (HFREE2.out HF2.out)] at hf
          have HX8 := hid hx8; have HY8 := hid hy8; have HK8 := hid hk8
          clear hh2 hx8 hy8 hk8 k8 c1 c2 cx
          go_wp2_with fail
          refine hf.mono ?_
          rintro e w' ⟨rfl, rfl⟩
          go_wp2_with fail
          exact ⟨HEND.out _ HX8.out HY8.out HK8.out, by simp [intOf]; omega⟩
        · rw [decide_eq_false hfr2] at hh2
          clear hfr2
          go_wp2_with fail
          simp only [E1.out, E2.out, E3.out, E5.out, E6.out, E7.out, E8.out]
          refine hh2.mono ?_
          rintro e w8 ⟨rfl, k8⟩
          have hx8 := HX7.out.keepF k8
          have hy8 := HY7.out.keepF k8
          have hk8 := HK7.out.trans k8 (fun _ _ h => h.elim)
          have HX8 := hid hx8; have HY8 := hid hy8; have HK8 := hid hk8
          clear hh2 hx8 hy8 hk8 k8 c1 c2 cx
          go_wp2_with fail
          exact ⟨HEND.out _ HX8.out HY8.out HK8.out, by simp [intOf]; omega⟩
end Go.Proofs.Ytfaifokeenhfkaa

/- wapentakelaw16.TallyChosen. -/
import Derived.Test.YthlgnilgjeebaaaTalA
import Derived.Test.YthlgnilgjeebaaaTalHP
namespace Go.Proofs.Ythlgnilgjeebaaa
open Go.RowKit Go.MapKept
theorem Row.lt' {F : Nat → Prop} {w : World} {v : Value} {n size : Nat} {cs : List Value} (h : Row F w v n size cs) : Row (fun q => F q ∧ q < w.heap.size) w v n size cs := by
  obtain ⟨A', c', he, q1, q2, q3, q4⟩ := h
  exact ⟨A', c', he, q1, q2, q3, q4.imp _root_.id (fun ⟨b, off, h1, h2, h3, h4⟩ => ⟨b, off, h1, ⟨h2, h3⟩, h3, h4⟩)⟩
section
variable {F G H : Nat → Prop} {w : World} {v0 v1 v2 : Value} {M I L : List Int}
set_option maxRecDepth 20000 in
set_option maxHeartbeats 8000000 in
theorem tallyChosen_row (hM : Row F w v0 M.length 1 (M.map I64)) (_ : ∀ n ∈ M, (Lit.int .i64 n).wf = true) (hI : Row G w v1 I.length 1 (I.map I64)) (_ : ∀ n ∈ I, (Lit.int .i64 n).wf = true) (hL : Row H w v2 L.length 1 (L.map I64)) (_ : ∀ n ∈ L, (Lit.int .i64 n).wf = true) :
    Calls Try.prog 4 #[v0, v1, v2] w fun e w' => e = .returned (.bool true) ∧ Below w.heap.size w w' := by
  obtain ⟨A0, c0, rfl⟩ := hM.shape
  obtain ⟨A1, c1, rfl⟩ := hI.shape
  obtain ⟨A2, c2, rfl, hcell⟩ := hL.int'
  have hmax : M.length ≤ 9223372036854775807 := by have := hM.cap; unfold maxLen at this; omega
  have hmax1 : I.length ≤ 9223372036854775807 := by have := hI.cap; unfold maxLen at this; omega
  have hmax2 : L.length ≤ 9223372036854775807 := by have := hL.cap; unfold maxLen at this; omega
  have HM := hid hM.lt'; have HI := hid hI.lt'; have HC := hid hcell
  obtain ⟨m, hm⟩ : ∃ m, m = M.length := ⟨_, rfl⟩
  obtain ⟨ni, hni⟩ : ∃ m, m = I.length := ⟨_, rfl⟩
  obtain ⟨n, hn⟩ : ∃ n, n = L.length := ⟨_, rfl⟩
  rw [← hm] at hmax
  rw [← hni] at hmax1
  rw [← hn] at hmax2
  rw [← hm, ← hn, ← hni]
  have HMM := hid hm; have HN := hid hn; have HNI := hid hni
  clear hM hL hI hcell hm hn hni
  have hmr : ∀ W, Keep (fun q => w.heap.size ≤ q) w W → Row (fun q => F q ∧ q < w.heap.size) W (.slice A0 m c0) M.length 1 (M.map I64) := fun W hW => by
    rw [HMM.out]
    exact HM.out.keep hW (fun b hb q => by omega)
  have hir : ∀ W, Keep (fun q => w.heap.size ≤ q) w W → Row (fun q => G q ∧ q < w.heap.size) W (.slice A1 ni c1) I.length 1 (I.map I64) := fun W hW => by
    rw [HNI.out]
    exact HI.out.keep hW (fun b hb q => by omega)
  have HMR := hid hmr; have HIR := hid hir
  clear hmr hir
  go_enter Try.func4, Try.ntmps4
  go_wp2_with fail
  refine (awake16_calls w).mono ?_
  rintro e w0 ⟨rfl, k0⟩
  have K0 := hid (k0.mono (T := fun q => w.heap.size ≤ q) (fun _ _ f => f.elim))
  clear k0
  have hmle : m ≤ 1000000 ∨ 1000000 < m := by omega
  go_wp2_with fail
  refine (may_calls (HMR.out _ K0.out)).mono ?_
  rintro e w1 ⟨bm, rfl, hgood, k1⟩
  have K1 := hid (K0.out.trans k1 (fun _ _ f => f.elim))
  clear k1 hmle
  cases bm
  case false =>
    go_wp2_with fail
    go_ret
    exact ⟨rfl, K1.out.below (Nat.le_refl _) (fun b hb q => by omega)⟩
  have hm15 : m ≤ 15 := by have := (hgood rfl).2.1; have := HMM.out; omega
  clear hgood
  by_cases hi1 : 100 < ni
  case pos =>
    go_wp2_with fail
    go_ret
    exact ⟨rfl, K1.out.below (Nat.le_refl _) (fun b hb q => by omega)⟩
  by_cases hn1 : 100 < n
  case pos =>
    go_wp2_with fail
    go_ret
    exact ⟨rfl, K1.out.below (Nat.le_refl _) (fun b hb q => by omega)⟩
  go_wp2_with fail
  refine (rmost_calls (HMR.out _ K1.out) (by have := HMM.out; omega) (HIR.out _ K1.out)).mono ?_
  rintro e w2 ⟨rfl, k2⟩
  rw [mostB_ref]
  have K2 := hid (K1.out.trans k2 (fun _ _ f => f.elim))
  clear k2
  cases hmost : mostB M I
  case false =>
    clear hmost
    go_wp2_with fail
    go_ret
    exact ⟨rfl, K2.out.below (Nat.le_refl _) (fun b hb q => by omega)⟩
  have HMOST := hid hmost
  clear hmost
  go_wp2_with fail
  refine (newN_calls 99 0).mono ?_
  rintro e w3 ⟨g, rfl, ht3, k3⟩
  have HT3 := hid ht3; have HB := hid K2.out.size
  have K3 := hid (K2.out.trans k3 (fun _ _ f => f.elim))
  clear ht3 k3
  go_wp2_with fail
  go_loopw [8] (fun i wr => ∃ k : Nat, k ≤ n ∧ i = .int .i64 k ∧ TalN w2.heap.size wr g (hS I L k) ∧ Keep (fun q => w.heap.size ≤ q) w wr) (fun i _ => n - (intOf i).toNat)
  case atStart => exact ⟨0, Nat.zero_le _, rfl, HT3.out, K3.out⟩
  case round =>
    obtain ⟨k, hk, rfl, ht, hkp⟩ := hrel
    by_cases hlt : k < n
    · obtain ⟨b, off, rfl, _, hc⟩ := HC.out (by have := HN.out; omega)
      have h9 := hc k (by rw [← HN.out]; exact hlt)
      have h8 : b < w.heap.size := World.block_lt_of_cell? _ _ h9
      have hcell := hkp.cell h9 (fun q => by have q : w.heap.size ≤ b := q; omega)
      have hnx : hS I L (k + 1) = promS (hS I L k) (L.getD k 0) 0 [chV I (L.getD k 0) k] := rfl
      generalize L.getD k 0 = x at *
      have HNX := hid hnx; have HT := hid ht; have HKP := hid hkp
      clear hc h9 h8 hnx ht hkp
      go_wp2_with fail
      refine (x_calls 5).mono ?_
      rintro e w4 ⟨rfl, k4⟩
      have K4 := hid k4
      clear k4
      go_wp2_with (first
        | (refine wpl_build rfl rfl (cells := (voteCs (vX 3 5 5) (.slice none 0 0)).toArray) (by kernel_rfl) ?_)
        | (refine wpl_allocB rfl rfl (z := .agg (voteCs votZ (.slice none 0 0)).toArray) (by kernel_rfl) ?_; intro g5 w5 hg5 hb5 k5 s5; have HG5 := hid hg5; have K5 := hid k5; have HS5 := hid s5; clear hg5 s5 k5)
        | (refine wpl_storeB (v := .agg (voteCs (vX 3 5 5) (.slice none 0 0)).toArray) rfl rfl rfl rfl hb5 (by kernel_rfl) (by simp [reqCs, voteCs, Value.cells]) (by simp [reqCs, voteCs, Value.oneCell', Value.cells]) ?_; intro w6 hb6 k6 s6; have HS6 := hid s6; have K6 := hid ((K4.out.trans K5.out (fun _ _ q => q)).trans k6 (fun q hq e => by have := HG5.out; have := K4.out.size; omega)); clear s6 k6; replace hb6 : w6.heap[g5]? = some (.cells (voteCs (vX 3 5 5) (.slice none 0 0)).toArray 36) := hb6))
      have hkw6 : Keep (fun q => w.heap.size ≤ q) w w6 := HKP.out.trans K6.out (fun _ _ f => f.elim)
      have hh := has_calls (HIR.out _ hkw6) x
      have HKW6 := hid hkw6
      clear hkw6 hcell hb5
      refine hh.mono ?_
      rintro e w' ⟨rfl, rfl⟩
      clear hh
      by_cases hxi : x ∈ I
      · have hcv : chV I x k = vX 3 (chB k) 7 := by rw [chV, if_pos hxi]
        have HCV := hid hcv
        rw [decide_eq_true hxi]
        clear hcv hxi
        have e1 : Int.tmod (k : Int) 2 = ((k % 2 : Nat) : Int) := by rw [Int.tmod_eq_emod_of_nonneg (by omega)]; omega
        have e2 : IntKind.i64.wrap (7 + ((k % 2 : Nat) : Int)) = chB k := by rw [IntKind.wrap_i64]; unfold chB; omega
        go_wp2_with fail
        refine (x_calls 7).mono ?_
        rintro e w7 ⟨rfl, k7⟩
        have hb7 := k7.heap hb6 _root_.id
        have K7 := hid k7
        clear k7
        clear e1 e2
        go_wp2_with (first
          | (refine wpl_build rfl rfl (cells := (voteCs (vX 3 (chB k) 7) (.slice none 0 0)).toArray) (by kernel_rfl) ?_)
          | (refine wpl_storeB (v := .agg (voteCs (vX 3 (chB k) 7) (.slice none 0 0)).toArray) rfl rfl rfl rfl hb7 (by kernel_rfl) (by simp [reqCs, voteCs, Value.cells]) (by simp [reqCs, voteCs, Value.oneCell', Value.cells]) ?_; intro w8 hb8 k8 s8; have K8 := hid ((K6.out.trans K7.out (fun _ _ q => q)).trans k8 (fun q hq e => by have := HG5.out; have := K4.out.size; omega)); clear s8 k8; replace hb8 : w8.heap[g5]? = some (.cells (voteCs (vX 3 (chB k) 7) (.slice none 0 0)).toArray 36) := hb8)
          | (refine wpl_loadA rfl rfl rfl hb8 (by kernel_rfl) (by kernel_rfl) (voteCs (vX 3 (chB k) 7) (.slice none 0 0)) rfl rfl ?_)
          | (refine wpl_sliceOne (v := .agg (voteCs (vX 3 (chB k) 7) (.slice none 0 0)).toArray) (z := .agg (voteCs ⟨0, 0, reqZ'⟩ (.slice none 0 0)).toArray) rfl rfl Try.underlying28 (n := 13) (by kernel_rfl) (by decide) (by decide) rfl (by simp [Value.cells, voteCs, reqCs]) ?_; intro g9 w9 hg9 hb9 k9 s9; have HG9 := hid hg9; have K9 := hid k9; have HS9 := hid s9; clear hg9 s9 k9))
        have k09 : Keep (fun _ => False) wr w9 := K8.out.trans K9.out (fun _ _ q => q)
        refine (promN_calls HT.out k09 x 0 (G := fun q => q = g9) (l := [vX 3 (chB k) 7]) (sl_vote1 hb9 nilSl (vX_ok (okI_c (by decide) (by decide)) (by unfold chB; exact okI_c (by omega) (by omega)) (okI_c (by decide) (by decide))) rfl) (fun q hq => by have := HG9.out; have := HS9.out; have := K8.out.size; omega) (by simp)).mono ?_
        rintro e w10 ⟨rfl, ht10, k10⟩
        rw [← HCV.out, ← HNX.out] at ht10
        have HT10 := hid ht10
        have K10 := hid ((HKP.out.trans k09 (fun _ _ f => f.elim)).trans k10 (fun b hb e => by have := HB.out; omega))
        clear ht10 k10 k09 hb9
        generalize promB (hS I L k) x = pb
        go_wp2_with fail
        exact ⟨⟨k + 1, by omega, by simp, HT10.out, K10.out⟩, by simp [intOf]; omega⟩
      · have hcv : chV I x k = vX 3 5 5 := by rw [chV, if_neg hxi]
        have HCV := hid hcv
        rw [decide_eq_false hxi]
        clear hcv hxi
        go_wp2_with (first
          | (refine wpl_loadA rfl rfl rfl hb6 (by kernel_rfl) (by kernel_rfl) (voteCs (vX 3 5 5) (.slice none 0 0)) rfl rfl ?_)
          | (refine wpl_sliceOne (v := .agg (voteCs (vX 3 5 5) (.slice none 0 0)).toArray) (z := .agg (voteCs ⟨0, 0, reqZ'⟩ (.slice none 0 0)).toArray) rfl rfl Try.underlying28 (n := 13) (by kernel_rfl) (by decide) (by decide) rfl (by simp [Value.cells, voteCs, reqCs]) ?_; intro g9 w9 hg9 hb9 k9 s9; have HG9 := hid hg9; have K9 := hid k9; have HS9 := hid s9; clear hg9 s9 k9))
        have k09 : Keep (fun _ => False) wr w9 := K6.out.trans K9.out (fun _ _ q => q)
        refine (promN_calls HT.out k09 x 0 (G := fun q => q = g9) (l := [vX 3 5 5]) (sl_vote1 hb9 nilSl (vX_ok (okI_c (by decide) (by decide)) (okI_c (by decide) (by decide)) (okI_c (by decide) (by decide))) rfl) (fun q hq => by have := HG9.out; have := HS9.out; have := K6.out.size; omega) (by simp)).mono ?_
        rintro e w10 ⟨rfl, ht10, k10⟩
        rw [← HCV.out, ← HNX.out] at ht10
        have HT10 := hid ht10
        have K10 := hid ((HKP.out.trans k09 (fun _ _ f => f.elim)).trans k10 (fun b hb e => by have := HB.out; omega))
        clear ht10 k10 k09 hb9
        generalize promB (hS I L k) x = pb
        go_wp2_with fail
        exact ⟨⟨k + 1, by omega, by simp, HT10.out, K10.out⟩, by simp [intOf]; omega⟩
    · obtain rfl : k = n := by omega
      obtain ⟨hin, hti⟩ := hS_inv I L k
      have hch := fun h => hin.chosen (M := M) h HMOST.out
      have HT := hid ht; have HKP := hid hkp; have HCH := hid hch; have HTI := hid hti
      clear ht hkp hch hti hin
      go_wp2_with fail
      refine (readyN_calls HT.out (by have := HTI.out.pr; omega) 0 (HMR.out _ HKP.out) (by have := HMM.out; omega)).mono ?_
      rintro e w4 ⟨rfl, ht4, k4⟩
      have HT4 := hid ht4; have K4 := hid (HKP.out.trans k4 (fun _ _ f => f.elim))
      clear ht4 k4
      cases hrd : readyB (hS I L k) 0 M
      case false =>
        clear hrd
        go_wp2_with fail
        go_ret
        exact ⟨rfl, K4.out.below (Nat.le_refl _) (fun b hb q => by omega)⟩
      obtain ⟨hv1, hv2⟩ := HCH.out hrd
      have HV1 := hid hv1; have HV2 := hid hv2
      clear hrd hv1 hv2
      go_wp2_with fail
      refine (valN_calls HT4.out 3 (by decide)).mono ?_
      rintro e w5 ⟨⟨A5, c5, rfl, _, _, k5⟩, _⟩
      rw [HV1.out, HV2.out]
      have K5 := hid (K4.out.trans k5 (fun _ _ f => f.elim))
      clear k5
      go_wp2_with (first
        | (refine wpl_allocB rfl rfl (z := .agg (reqCs reqZ' (.slice none 0 0)).toArray) (by kernel_rfl) ?_; intro g10 w10 hg10 hb10 k10 s10; have HG10 := hid hg10; have K10 := hid k10; clear hg10 s10 k10)
        | (refine wpl_storeB (v := .agg (reqCs (reqX 7) (.slice A5 0 c5)).toArray) rfl rfl rfl rfl hb10 (by kernel_rfl) (by simp [reqCs, Value.cells]) (by simp [reqCs, Value.oneCell', Value.cells]) ?_; intro w11 hb11 k11 s11; have K11 := hid ((K5.out.trans K10.out (fun _ _ f => f.elim)).trans k11 (fun b hb e => by have := HG10.out; have := K5.out.size; omega)); replace hb11 : w11.heap[g10]? = some (.cells (reqCs (reqX 7) (.slice A5 0 c5)).toArray 34) := hb11; have q2 := cell_at hb11 2 (.int .i64 7) rfl; clear s11 k11))
      go_ret
      exact ⟨rfl, K11.out.below (Nat.le_refl _) (fun b hb q => by omega)⟩
end
end Go.Proofs.Ythlgnilgjeebaaa

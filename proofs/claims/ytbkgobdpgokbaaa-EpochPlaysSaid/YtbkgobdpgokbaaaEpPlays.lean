/- wapentakelaw7.EpochPlays: the walk. -/
import Derived.Test.YtbkgobdpgokbaaaEpPlays0
namespace Go.Proofs.Ytbkgobdpgokbaaa
open Go.RowKit
set_option maxRecDepth 20000 in
set_option maxHeartbeats 4000000 in
theorem epochPlays_calls {w : World} {v0 v2 : Value} {M : List Int} {l : List EDeed} (h0 : Row (fun k => k < w.heap.size) w v0 M.length 1 (M.map I64)) (hw0 : ∀ n ∈ M, (Lit.int .i64 n).wf = true) (al : Int) (_hal : (Lit.int .i64 al).wf = true) (h2 : Sl Rep.edeed w (fun k => k < w.heap.size) v2 l) :
    Calls Try.prog 9 #[v0, .int .i64 al, v2] w fun e w' => e = .returned (.bool true) ∧ Below w.heap.size w w' := by
  have hmax : l.length ≤ 9223372036854775807 := by obtain ⟨_, _, _, q1, q2, _⟩ := h2; unfold maxLen at q2; omega
  have hmaxM : M.length ≤ 9223372036854775807 := by obtain ⟨_, _, _, _, q1, q2, _⟩ := h0; unfold maxLen at q2; omega
  have H0 := hid h0
  have H2 := hid h2
  obtain ⟨A0, c0, rfl⟩ := h0.shape
  obtain ⟨A2, c2, rfl⟩ := h2.shape
  obtain ⟨n, hn⟩ : ∃ n, n = l.length := ⟨_, rfl⟩
  obtain ⟨nM, hnM⟩ : ∃ nM, nM = M.length := ⟨_, rfl⟩
  rw [← hn] at hmax H2 ⊢
  rw [← hnM] at hmaxM H0 ⊢
  have HN := hid hn
  have HNM := hid hnM
  have HOK := hid (fun y hy => okI.of (hw0 y hy))
  clear h0 h2 hn hnM hw0
  go_enter Try.func9, Try.ntmps9
  go_wp2_with fail
  refine (awake7_calls w).mono ?_
  rintro e w0 ⟨rfl, k0⟩
  have K0 := hid k0
  have hr0 := H0.out.keep k0 (fun _ _ => id)
  rw [HNM.out] at hr0
  have HR0 := hid hr0
  clear k0 hr0
  by_cases hM : 100 < nM
  · go_wp2_with fail
    go_ret
    exact ⟨rfl, K0.out.below (Nat.le_refl _) (fun _ _ h => h)⟩
  by_cases hL : 200 < n
  · go_wp2_with fail
    go_ret
    exact ⟨rfl, K0.out.below (Nat.le_refl _) (fun _ _ h => h)⟩
  cases hne : newE M al with
  | false =>
    have hnb := enew_bad HR0.out hne
    have hrb := renew_calls (al := al) HR0.out (fun k hk => by have := K0.out.size; omega) HOK.out
    rw [← HNM.out] at hnb hrb
    have HNE := hid hne
    clear hne
    go_wp2_with fail
    refine hnb.mono ?_
    rintro e w' ⟨rfl, rfl⟩
    clear hnb
    go_wp2_with fail
    refine hrb.mono ?_
    rintro e w' ⟨k1, hc⟩
    rcases hc with ⟨hz, _⟩ | ⟨_, rfl⟩
    · rw [HNE.out] at hz; cases hz
    have K1 := hid (K0.out.trans k1 (fun _ _ h => h))
    clear hrb k1
    go_wp2_with fail
    go_ret
    exact ⟨rfl, K1.out.below (Nat.le_refl _) (fun _ _ h => h)⟩
  | true =>
    have hnew := enew_calls (B := w0.heap.size) (Nat.le_refl _) HR0.out HOK.out hne
    rw [← HNM.out] at hnew
    have HNE := hid hne
    clear hne
    go_wp2_with fail
    refine hnew.mono ?_
    rintro e w1 ⟨g, rfl, hE, k1⟩
    have hrn := renew_calls (al := al) (HR0.out.keep k1 (fun _ _ => id)) (fun k hk => by have := K0.out.size; have := k1.size; omega) HOK.out
    rw [← HNM.out] at hrn
    have HE := hid hE
    have K1 := hid k1
    clear hnew hE k1
    go_wp2_with fail
    refine hrn.mono ?_
    rintro e w2 ⟨k2, hc⟩
    rcases hc with ⟨_, m, rfl, hM2⟩ | ⟨hz, _⟩
    case inr => rw [HNE.out] at hz; cases hz
    have hT : TwoE w.heap.size w2 g m al [(0, M)] [(0, M)] (fun _ => False) := by
      have z0 := K0.out.size
      have z1 := K1.out.size
      have z2 := k2.size
      have hE1 : EpAt (fun k => w0.heap.size ≤ k ∧ k < w1.heap.size) w1 g al [(0, M)] := by
        obtain ⟨v, G, h1, ⟨cs, q1, q2, q3⟩, h3, h4, h5⟩ := HE.out
        exact ⟨v, G, h1, ⟨cs, q1, q2, fun b hb => ⟨⟨⟨(q3 b hb).1.1, own_lt' q1 b hb⟩, (q3 b hb).1.2⟩, (q3 b hb).2⟩⟩, fun b hb => ⟨⟨(h3 b hb).1, (h3 b hb).2.2⟩, (h3 b hb).2⟩, ⟨h4, lt_heap h1⟩, h5⟩
      exact ⟨_, _, hE1.keepF k2, hM2, fun k a b => by have := a.2; have := b.1; omega, fun k hk => ⟨by have := hk.1; omega, by have := hk.2; omega, id⟩, fun k hk => ⟨by have := hk.1; omega, hk.2, id⟩, fun _ h => h.elim⟩
    have HT := hid hT
    have K2 := hid ((K0.out.trans K1.out (fun _ _ h => h)).trans k2 (fun _ _ h => h))
    clear hrn hT hM2 k2
    go_wp2_with fail
    go_loopw [11] (fun i wr => ∃ (k : Nat) (L : List Ep), k ≤ n ∧ i = .int .i64 k ∧ TwoE w.heap.size wr g m al L L (fun _ => False) ∧ L.length ≤ k + 1 ∧ Keep (fun q => w.heap.size ≤ q) w wr ∧ w.heap.size ≤ wr.heap.size) (fun i _ => n - (intOf i).toNat)
    case atStart => exact ⟨0, _, Nat.zero_le _, rfl, HT.out, by simp, K2.out.mono (fun _ _ h => h.elim), K2.out.size⟩
    case round =>
      obtain ⟨k, L, hk, rfl, hT, hLn, hkp, hsz⟩ := hrel
      by_cases hlt : k < n
      · have HS := hid (H2.out.keep hkp (fun a b c => by omega))
        obtain ⟨d, hd⟩ : ∃ d, l[k]? = some d := by
          have : k < l.length := by rw [← HN.out]; exact hlt
          exact ⟨l[k], by simp [this]⟩
        obtain ⟨bl, ol, rfl, hbl, cs, hcs, hcell⟩ := HS.out.elem hd
        obtain ⟨rfl, g1, g2, g3⟩ := edeed_cells hcs
        have hsize : Rep.edeed.size = 4 := rfl
        rw [hsize] at hcell
        refine eplays0 (w0 := w) (B := w.heap.size) (d := d) hlt (by omega) hsz hT hLn hkp (by have := hcell 0 _ rfl; simpa using this) (hcell 1 _ rfl) (hcell 2 _ rfl) (hcell 3 _ rfl) g2 g3 ?_
        rintro L' w' ⟨q1, q2, q3, q4⟩
        intros
        go_wp2_with fail
        exact ⟨⟨k + 1, L', by omega, by simp, q1, by omega, q3, q4⟩, by simp [intOf]; omega⟩
      · go_wp2_with fail
        go_ret
        exact ⟨rfl, hkp.below (Nat.le_refl _) (fun b hb => by omega)⟩
end Go.Proofs.Ytbkgobdpgokbaaa

/- wapentakelaw18.LeasePlays: the walk. -/
import Derived.Test.YtfaifokeenhfkaaPlays0
namespace Go.Proofs.Ytfaifokeenhfkaa
open Go.RowKit
theorem newOk_dec (a b c : Int) : newOk a b c ∨ ¬ newOk a b c := Classical.em _
set_option maxRecDepth 20000 in
set_option maxHeartbeats 4000000 in
theorem leasePlays_calls {w : World} {v0 v1 v2 : Value} {t : Int × Int × Int} {M : List Int} {l : List Deed} (h0 : TermsIs v0 t) (h1 : Row (fun k => k < w.heap.size) w v1 M.length 1 (M.map I64)) (_hw1 : ∀ n ∈ M, (Lit.int .i64 n).wf = true) (h2 : Sl Rep.deed w (fun k => k < w.heap.size) v2 l) :
    Calls Try.prog 6 #[v0, v1, v2] w fun e w' => e = .returned (.bool true) ∧ Below w.heap.size w w' := by
  obtain ⟨rfl, ho1, ho2, ho3⟩ := h0
  obtain ⟨len, num, den⟩ := t
  simp only at ho1 ho2 ho3 ⊢
  have hmax : l.length ≤ 9223372036854775807 := by obtain ⟨_, _, _, q1, q2, _⟩ := h2; unfold maxLen at q2; omega
  have hmaxM : M.length ≤ 9223372036854775807 := by obtain ⟨_, _, _, _, q1, q2, _⟩ := h1; unfold maxLen at q2; omega
  have H1 := hid h1
  have H2 := hid h2
  obtain ⟨A1, c1, rfl⟩ := h1.shape
  obtain ⟨A2, c2, rfl⟩ := h2.shape
  obtain ⟨n, hn⟩ : ∃ n, n = l.length := ⟨_, rfl⟩
  obtain ⟨nM, hnM⟩ : ∃ nM, nM = M.length := ⟨_, rfl⟩
  rw [← hn] at hmax H2 ⊢
  rw [← hnM] at hmaxM H1 ⊢
  have HN := hid hn
  have HNM := hid hnM
  clear h1 h2 hn hnM _hw1
  go_enter Try.func6, Try.ntmps6
  go_wp2_with fail
  have ka := (Keep.refl (fun _ => False) w).alloc (.cells #[.int .i64 len, .int .i64 num, .int .i64 den] 23)
  have hd0 := heap_alloc_new w (.cells #[.int .i64 len, .int .i64 num, .int .i64 den] 23)
  generalize w.alloc (.cells #[.int .i64 len, .int .i64 num, .int .i64 den] 23) = wa at *
  generalize w.heap.size = tb at hd0 ⊢
  refine (awake18_calls wa).mono ?_
  rintro e w0 ⟨rfl, k0⟩
  have hd1 := k0.heap hd0 id
  have e0 := cell_at hd1 0 (.int .i64 len) rfl
  have e1 := cell_at hd1 1 (.int .i64 num) rfl
  have e2 := cell_at hd1 2 (.int .i64 den) rfl
  have K0 := hid (ka.trans k0 (fun _ _ h => h))
  have HD1 := hid hd1
  clear k0 ka hd0 hd1
  by_cases hM : 100 < nM
  · go_wp2_with fail
    go_ret
    exact ⟨rfl, K0.out.below (Nat.le_refl _) (fun _ _ h => h)⟩
  by_cases hL : 200 < n
  · go_wp2_with fail
    go_ret
    exact ⟨rfl, K0.out.below (Nat.le_refl _) (fun _ _ h => h)⟩
  rcases newOk_dec len num den with hok | hbad
  case inr =>
    have hnb := new_bad (w := w0) hbad
    have hrb := rnew_bad (w := w0) hbad
    clear hbad
    go_wp2_with fail
    refine hnb.mono ?_
    rintro e w' ⟨rfl, rfl⟩
    go_wp2_with fail
    refine hrb.mono ?_
    rintro e w' ⟨rfl, rfl⟩
    go_wp2_with fail
    go_ret
    exact ⟨rfl, K0.out.below (Nat.le_refl _) (fun _ _ h => h)⟩
  have hnew := new_calls (w := w0) hok
  have HOK := hid hok
  clear hok
  go_wp2_with fail
  refine hnew.mono ?_
  rintro e w1 ⟨x, rfl, hx, k1⟩
  have hd2 := k1.heap HD1.out id
  have f0 := cell_at hd2 0 (.int .i64 len) rfl
  have f1 := cell_at hd2 1 (.int .i64 num) rfl
  have f2 := cell_at hd2 2 (.int .i64 den) rfl
  have hrn := rnew_calls (w := w1) (B := w1.heap.size) (Nat.le_refl _) HOK.out
  have HX := hid hx
  have K1 := hid k1
  have hw0 := K0.out.size
  clear e0 e1 e2 hd2 hx k1 hnew HD1
  go_wp2_with fail
  refine hrn.mono ?_
  rintro e w2 ⟨m, rfl, hm, k2⟩
  have hTL : TwoL w.heap.size w2 x (s0 len num den) m (s0 len num den) (fun _ => False) := by
    have z1 := K1.out.size
    have z2 := k2.size
    refine ⟨NewIn w0 w1, fun k => w1.heap.size ≤ k ∧ k < w2.heap.size, HX.out.keep k2 (fun _ _ => id), ?_, fun k a b => by have := a.2; have := b.1; omega, fun k hk => ⟨by have := hk.1; omega, by have := hk.2; omega⟩, fun k hk => ⟨by have := hk.1; omega, hk.2⟩, fun _ h => h.elim, fun _ h => h.elim⟩
    obtain ⟨v, q1, q2, q3, q4, q5⟩ := hm
    exact ⟨v, q1, q2, ⟨q3, lt_heap q1⟩, fun b hb => ⟨⟨(q4 b hb).1, own_lt' q2 b hb⟩, (q4 b hb).2⟩, q5⟩
  have HTL := hid hTL
  have K2 := hid ((K0.out.trans K1.out (fun _ _ h => h)).trans k2 (fun _ _ h => h))
  clear hrn hTL hm k2 f0 f1 f2 hw0
  go_wp2_with fail
  go_loopw [11] (fun i wr => ∃ (k : Nat) (s : LeS), k ≤ n ∧ i = .int .i64 k ∧ TwoL w.heap.size wr x s m s (fun _ => False) ∧ Keep (fun q => w.heap.size ≤ q) w wr ∧ w.heap.size ≤ wr.heap.size) (fun i _ => n - (intOf i).toNat)
  case atStart => exact ⟨0, _, Nat.zero_le _, rfl, HTL.out, K2.out.mono (fun _ _ h => h.elim), K2.out.size⟩
  case round =>
    obtain ⟨k, s, hk, rfl, hT, hkp, hsz⟩ := hrel
    by_cases hlt : k < n
    · have HS := hid (H2.out.keep hkp (fun a b c => by omega))
      obtain ⟨d, hd⟩ : ∃ d, l[k]? = some d := by
        have : k < l.length := by rw [← HN.out]; exact hlt
        exact ⟨l[k], by simp [this]⟩
      obtain ⟨bl, ol, rfl, hbl, cs, hcs, hcell⟩ := HS.out.elem hd
      obtain ⟨rfl, g1, g2, g3⟩ := deed_cells hcs
      have hsize : Rep.deed.size = 4 := rfl
      rw [hsize] at hcell
      refine plays0 (M := M) (G := fun k => k < w.heap.size) (w0 := w) (B := w.heap.size) (d := d) hlt (by omega) hsz ((H1.out.keep hkp (fun a b c => by omega)) |> fun h => by rw [HNM.out] at h ⊢; exact h) (by rw [← HNM.out]; omega) hT hkp (by have := hcell 0 _ rfl; simpa using this) (hcell 1 _ rfl) (hcell 2 _ rfl) (hcell 3 _ rfl) g1 g2 g3 (fun _ h => h) ?_
      rintro s' w' ⟨q1, q2, q3⟩
      intros
      go_wp2_with fail
      exact ⟨⟨k + 1, s', by omega, by simp, q1, q2, q3⟩, by simp [intOf]; omega⟩
    · go_wp2_with fail
      go_ret
      exact ⟨rfl, hkp.below (Nat.le_refl _) (fun b hb => by omega)⟩
end Go.Proofs.Ytfaifokeenhfkaa

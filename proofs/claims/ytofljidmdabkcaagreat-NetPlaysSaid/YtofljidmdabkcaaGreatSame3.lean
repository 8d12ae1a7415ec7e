/- wapentakeref3.Same: are two lists of changes the same? -/
import Derived.Test.YtofljidmdabkcaaGreatMt
namespace Go.Proofs.YtofljidmdabkcaaGreat
open Go.RowKit
variable {w : World}
set_option maxRecDepth 20000 in
set_option maxHeartbeats 800000 in
theorem same3_calls {F G : Nat → Prop} {v u : Value} {a b : List Change} (hv : Sl .change w F v a) (hu : Sl .change w G u b) :
    Calls Tryz.prog 53 #[v, u] w fun e w' => e = .returned (.bool (decide (a = b))) ∧ ∃ n, w' = w.drewN n := by
  obtain ⟨A, c, rfl⟩ := hv.shape
  obtain ⟨B, d, rfl⟩ := hu.shape
  have HV := hid hv
  have HU := hid hu
  obtain ⟨n, hn⟩ : ∃ n, n = a.length := ⟨_, rfl⟩
  obtain ⟨m, hm⟩ : ∃ m, m = b.length := ⟨_, rfl⟩
  have hmax : n ≤ 9223372036854775807 := by obtain ⟨_, _, _, h1, h2, _⟩ := hv; unfold maxLen at h2; omega
  rw [← hn, ← hm]
  have HN := hid hn
  have HM := hid hm
  clear hv hu hn hm
  by_cases hnm : n = m
  · have hb0 : ((n : Int) != m) = false := by simp [hnm]
    have HNM := hid hnm
    clear hnm
    go_enter Tryz.func53, Tryz.ntmps53
    go_wp2_with fail
    go_loopw [5] (fun i wr => ∃ k : Nat, k ≤ n ∧ i = .int .i64 k ∧ a.take k = b.take k ∧ ∃ q, wr = w.drewN q) (fun i _ => n - (intOf i).toNat)
    case atStart => exact ⟨0, Nat.zero_le _, rfl, rfl, 0, rfl⟩
    case round =>
      obtain ⟨k, hk, rfl, htk, q, rfl⟩ := hrel
      by_cases hlt : k < n
      · have hka : k < a.length := by rw [← HN.out]; exact hlt
        have hkb : k < b.length := by rw [← HM.out, ← HNM.out]; exact hlt
        have hkm : k < m := by rw [← HNM.out]; exact hlt
        obtain ⟨bb, off, rfl, _, c0, c1, c2⟩ := change_at (HN.out ▸ HV.out) (List.getElem?_eq_getElem hka)
        obtain ⟨bb', off', rfl, _, d0, d1, d2⟩ := change_at (HM.out ▸ HU.out) (List.getElem?_eq_getElem hkb)
        have HTK := hid htk
        have hsm1 := change_small HV.out (List.getElem_mem hka)
        have hsm2 := change_small HU.out (List.getElem_mem hkb)
        clear htk
        obtain ⟨x, hx⟩ : ∃ x, x = a[k] := ⟨_, rfl⟩
        obtain ⟨y, hy⟩ : ∃ y, y = b[k] := ⟨_, rfl⟩
        rw [← hx] at c0 c1 c2 hsm1
        rw [← hy] at d0 d1 d2 hsm2
        have HX := hid hx
        have HY := hid hy
        clear hx hy
        have hgd := fun op p q w => guard_change op p q x y w
        by_cases hxy : x = y
        · have heq : ∀ w, (binOp .neq 84 (changeV x) (changeV y)).run Tryz.prog w = .ok (.bool false) w := fun w => by rw [neq_change, decide_eq_true hxy]; rfl
          have htk1 := changes_take hka hkb HTK.out (HX.out ▸ HY.out ▸ hxy)
          have HTK1 := hid htk1
          clear hxy htk1
          go_wp2_with fail
          go_quiet (fail)
          rename_i nq
          go_wp2_with fail
          exact ⟨⟨k + 1, by omega, by simp, HTK1.out, _, rfl⟩, by simp [intOf]; omega⟩
        · have heq : ∀ w, (binOp .neq 84 (changeV x) (changeV y)).run Tryz.prog w = .ok (.bool true) w := fun w => by rw [neq_change, decide_eq_false hxy]; rfl
          have hne : a ≠ b := fun e => hxy (by rw [HX.out, HY.out]; simp only [e])
          have HNE := hid hne
          clear hxy hne
          go_wp2_with fail
          go_quiet (fail)
          go_wp2_with fail
          refine bodyPost_ret (v := .bool false) (by simp [results, Tryz.results53, go_sem]) rfl ?_
          rw [decide_eq_false HNE.out]
          exact ⟨rfl, _, World.drewN_drewN _ _ _⟩
      · go_wp2_with fail
        refine bodyPost_ret (v := .bool true) (by simp [results, Tryz.results53, go_sem]) rfl ?_
        have hkn : k = n := by omega
        rw [List.take_of_length_le (by rw [← HN.out]; omega), List.take_of_length_le (by rw [← HM.out, ← HNM.out]; omega)] at htk
        rw [decide_eq_true htk]
        exact ⟨rfl, _, rfl⟩
  · have hb0 : ((n : Int) != m) = true := by simp; omega
    have hne : a ≠ b := fun e => hnm (by rw [HN.out, HM.out, e])
    clear hnm
    go_enter Tryz.func53, Tryz.ntmps53
    go_wp2_with fail
    refine bodyPost_ret (v := .bool false) (by simp [results, Tryz.results53, go_sem]) rfl ?_
    rw [decide_eq_false hne]
    exact ⟨rfl, 0, rfl⟩
end Go.Proofs.YtofljidmdabkcaaGreat

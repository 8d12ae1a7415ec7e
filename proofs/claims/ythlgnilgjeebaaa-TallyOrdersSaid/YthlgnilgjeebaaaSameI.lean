/- wapentakeref6.SameInts: are two lists of numbers the same? -/
import Derived.Test.YthlgnilgjeebaaaApp
import Derived.Test.YthlgnilgjeebaaaSets
import Derived.Deep.QuietTactic
import Derived.Test.YthlgnilgjeebaaaProg
namespace Go.Proofs.Ythlgnilgjeebaaa
open Go.RowKit
theorem row_ints (w : World) (l : List Int) (e : TypeId) (hl : l.length ≤ maxLen) : Row (fun k => k = w.heap.size) (w.alloc (.cells (l.map I64).toArray e)) (.slice (some ⟨w.heap.size, 0, none⟩) l.length l.length) l.length 1 (l.map I64) :=
  ⟨_, _, rfl, by simp, Nat.le_refl _, hl, .inr ⟨w.heap.size, 0, rfl, rfl, by simp, fun j u hu => by
    refine cell_at (heap_alloc_new w _) _ _ ?_
    rw [Nat.zero_add]
    simpa using hu⟩⟩
section
variable {F G : Nat → Prop} {w : World} {v : Value} {l : List Int}
set_option maxRecDepth 20000 in
set_option maxHeartbeats 4000000 in
/-- Are two lists of numbers the same? -/
theorem sameInts_calls {v2 : Value} {l2 : List Int} (h : Row F w v l.length 1 (l.map I64)) (h2 : Row G w v2 l2.length 1 (l2.map I64)) : Calls Try.prog 18 #[v, v2] w fun e w' => e = .returned (.bool (decide (l = l2))) ∧ ∃ m, w' = w.drewN m := by
  have hmax : l.length ≤ 9223372036854775807 := by obtain ⟨_, _, _, _, h1, h2, _⟩ := h; unfold maxLen at h2; omega
  have hmax2 : l2.length ≤ 9223372036854775807 := by obtain ⟨_, _, _, _, h1, h2, _⟩ := h2; unfold maxLen at h2; omega
  obtain ⟨A, c, rfl, hcell⟩ := h.int'
  obtain ⟨A2, c2, rfl, hcell2⟩ := h2.int'
  obtain ⟨n, hn⟩ : ∃ n, n = l.length := ⟨_, rfl⟩
  obtain ⟨n2, hn2⟩ : ∃ n, n = l2.length := ⟨_, rfl⟩
  rw [← hn] at hcell hmax ⊢
  rw [← hn2] at hcell2 hmax2 ⊢
  have HN := hid hn; have HN2 := hid hn2
  have HC := hid hcell; have HC2 := hid hcell2
  clear hcell hcell2 hn hn2 h h2
  by_cases hne : n = n2
  case neg =>
    have hf : decide (l = l2) = false := decide_eq_false (fun e => hne (by rw [HN.out, HN2.out, e]))
    rw [hf]
    have d1 : ((n : Int) != (n2 : Int)) = true := by simp; omega
    clear hf hne
    go_enter Try.func18, Try.ntmps18
    go_wp2_with fail
    go_ret
    exact ⟨rfl, 0, rfl⟩
  subst hne
  obtain ⟨r, hr⟩ : ∃ r, r = decide (l = l2) := ⟨_, rfl⟩
  rw [← hr]
  have HR := hid hr
  clear hr
  go_enter Try.func18, Try.ntmps18
  go_wp2_with fail
  go_loopw [5] (fun i wr => ∃ k m : Nat, k ≤ n ∧ i = .int .i64 k ∧ (∀ j, j < k → l.getD j 0 = l2.getD j 0) ∧ wr = w.drewN m) (fun i _ => n - (intOf i).toNat)
  case atStart => exact ⟨0, 0, Nat.zero_le _, rfl, fun j hj => by omega, rfl⟩
  case round =>
    obtain ⟨k, m, hk, rfl, hall, hw⟩ := hrel
    have hkm : Keep (fun _ => False) w wr := by rw [hw]; exact (Keep.refl _ w).drewN m
    have HW := hid hw
    have HKM := hid hkm
    clear hw hkm
    have HALL := hid hall
    clear hall
    by_cases hlt : k < n
    · obtain ⟨b, off, rfl, _, hcc⟩ := HC.out (by omega)
      obtain ⟨b2, off2, rfl, _, hcc2⟩ := HC2.out (by omega)
      have d1 := HKM.out.cell (hcc k hlt) id
      have d2 := HKM.out.cell (hcc2 k hlt) id
      obtain ⟨x, hx⟩ : ∃ x, x = l.getD k 0 := ⟨_, rfl⟩
      obtain ⟨y, hy⟩ : ∃ y, y = l2.getD k 0 := ⟨_, rfl⟩
      rw [← hx] at d1
      rw [← hy] at d2
      have HX := hid hx; have HY := hid hy
      clear hx hy hcc hcc2
      by_cases hxy : x = y
      · have HXY := hid hxy
        have dd : (x != y) = false := by simp [hxy]
        clear hxy
        go_wp2_with fail
        go_quiet (fail)
        go_wp2_with fail
        refine ⟨⟨k + 1, _, by omega, by simp, fun j hj => ?_, by rw [HW.out]; exact World.drewN_drewN _ _ _⟩, by simp [intOf]; omega⟩
        by_cases hjk : j < k
        · exact HALL.out j hjk
        · obtain rfl : j = k := by omega
          rw [← HX.out, ← HY.out]; exact HXY.out
      · have dd : (x != y) = true := by simp [hxy]
        have hf : r = false := by
          rw [HR.out]
          exact decide_eq_false (fun e => hxy (by rw [HX.out, HY.out, e]))
        subst hf
        clear hxy
        go_wp2_with fail
        go_quiet (fail)
        go_wp2_with fail
        go_ret
        exact ⟨rfl, _, by rw [HW.out]; exact World.drewN_drewN _ _ _⟩
    · obtain rfl : k = n := by omega
      have ht : r = true := by
        rw [HR.out]
        refine decide_eq_true (List.ext_getElem (by rw [← HN.out, ← HN2.out]) (fun i h1 h2 => ?_))
        have := HALL.out i (by rw [HN.out]; exact h1)
        simpa [h1, h2] using this
      subst ht
      go_wp2_with fail
      go_ret
      exact ⟨rfl, _, HW.out⟩
end
end Go.Proofs.Ythlgnilgjeebaaa

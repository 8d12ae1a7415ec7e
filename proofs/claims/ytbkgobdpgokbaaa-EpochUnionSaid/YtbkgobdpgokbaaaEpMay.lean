/- epoch.may, wapentakeref6.May: which members may be; wapentakeref6.SameInts. -/
import Derived.Test.YtbkgobdpgokbaaaMeetsPure
namespace Go.Proofs.Ytbkgobdpgokbaaa
open Go.RowKit
/-- Which members may be. -/
def mayP (l : List Int) : Prop := 1 ≤ l.length ∧ l.length ≤ 15 ∧ ∀ i, i < l.length → (0 ≤ l.getD i 0 ∧ l.getD i 0 < 15 ∧ (0 < i → l.getD (i - 1) 0 < l.getD i 0))
instance (l : List Int) : Decidable (mayP l) := inferInstanceAs (Decidable (_ ∧ _ ∧ _))
def mayB (l : List Int) : Bool := decide (mayP l)
theorem mayP.good {l : List Int} (h : mayP l) : GoodM l := ⟨by have := h.1; omega, h.2.1, fun j hj => by have := (h.2.2 (j + 1) hj).2.2 (by omega); simpa using this⟩
theorem mayB.good {l : List Int} (h : mayB l = true) : GoodM l := (of_decide_eq_true h).good
section
variable {F G : Nat → Prop} {w : World} {v : Value} {l : List Int}
set_option maxRecDepth 20000 in
set_option maxHeartbeats 4000000 in
theorem pmay_calls (h : Row F w v l.length 1 (l.map I64)) : Calls Try.prog 33 #[v] w fun e w' => e = .returned (.bool (mayB l)) ∧ w = w' := by
  have hmax : l.length ≤ 9223372036854775807 := by obtain ⟨_, _, _, _, h1, h2, _⟩ := h; unfold maxLen at h2; omega
  obtain ⟨A, c, rfl, hcell⟩ := h.int'
  obtain ⟨n, hn⟩ : ∃ n, n = l.length := ⟨_, rfl⟩
  rw [← hn] at hcell hmax ⊢
  have HN := hid hn
  have HC := hid hcell
  clear hcell hn h
  have hno : ¬ mayP l → mayB l = false := fun h => decide_eq_false h
  by_cases h1 : n < 1
  · rw [hno (fun h => by have := h.1; have := HN.out; omega)]
    clear hno
    go_enter Try.func33, Try.ntmps33
    go_wp2_with fail
    go_ret
    exact ⟨rfl, rfl⟩
  by_cases h2 : 15 < n
  · rw [hno (fun h => by have := h.2.1; have := HN.out; omega)]
    clear hno
    go_enter Try.func33, Try.ntmps33
    go_wp2_with fail
    go_ret
    exact ⟨rfl, rfl⟩
  obtain ⟨r, hr⟩ : ∃ r, r = mayB l := ⟨_, rfl⟩
  rw [← hr]
  have HR := hid hr
  clear hr
  have HNO := hid hno
  clear hno
  go_enter Try.func33, Try.ntmps33
  go_wp2_with fail
  go_loop [3, 16] (fun z i => ∃ k : Nat, k ≤ n ∧ i = .int .i64 k ∧ z = .int .i64 (if k = 0 then -1 else l.getD (k - 1) 0) ∧ ∀ j, j < k → (0 ≤ l.getD j 0 ∧ l.getD j 0 < 15 ∧ (0 < j → l.getD (j - 1) 0 < l.getD j 0))) (fun _ i => n - (intOf i).toNat)
  case atStart => exact ⟨0, Nat.zero_le _, rfl, rfl, fun j hj => by omega⟩
  case round =>
    obtain ⟨k, hk, rfl, rfl, hall⟩ := hrel
    have HALL := hid hall
    clear hall
    by_cases hlt : k < n
    · obtain ⟨b, off, rfl, _, hcc⟩ := HC.out (by omega)
      have hcell := hcc k hlt
      obtain ⟨x, hx⟩ : ∃ x, x = l.getD k 0 := ⟨_, rfl⟩
      obtain ⟨y, hy⟩ : ∃ y, y = (if k = 0 then -1 else l.getD (k - 1) 0) := ⟨_, rfl⟩
      rw [← hx] at hcell
      rw [← hy]
      have HX := hid hx; have HY := hid hy
      clear hx hy hcc
      by_cases c1 : x ≤ y
      · have hf : r = false := by
          rw [HR.out]
          refine HNO.out (fun hm => ?_)
          have := hm.2.2 k (by have := HN.out; omega)
          rw [← HX.out] at this
          have hy := HY.out
          by_cases k0 : k = 0
          · rw [if_pos k0] at hy; omega
          · rw [if_neg k0] at hy
            have := this.2.2 (by omega)
            omega
        subst hf
        go_wp2_with fail
        go_ret
        exact ⟨rfl, rfl⟩
      by_cases c2 : 15 ≤ x
      · have hf : r = false := by
          rw [HR.out]
          refine HNO.out (fun hm => ?_)
          have := hm.2.2 k (by have := HN.out; omega)
          rw [← HX.out] at this
          omega
        subst hf
        go_wp2_with fail
        go_ret
        exact ⟨rfl, rfl⟩
      · go_wp2_with fail
        refine ⟨⟨k + 1, by omega, by simp, by simp [HX.out], fun j hj => ?_⟩, by simp [intOf]; omega⟩
        by_cases hjk : j < k
        · exact HALL.out j hjk
        · obtain rfl : j = k := by omega
          rw [← HX.out]
          have hy := HY.out
          by_cases k0 : j = 0
          · rw [if_pos k0] at hy; exact ⟨by omega, by omega, fun h => by omega⟩
          · rw [if_neg k0] at hy
            have h0 := (HALL.out (j - 1) (by omega)).1
            exact ⟨by omega, by omega, fun _ => by omega⟩
    · obtain rfl : k = n := by omega
      have ht : r = true := by
        rw [HR.out]
        have hn := HN.out
        exact decide_eq_true ⟨by omega, by omega, fun i hi => HALL.out i (by omega)⟩
      subst ht
      go_wp2_with fail
      go_ret
      exact ⟨rfl, rfl⟩
set_option maxRecDepth 20000 in
set_option maxHeartbeats 4000000 in
theorem rmay_calls (h : Row F w v l.length 1 (l.map I64)) : Calls Try.prog 17 #[v] w fun e w' => e = .returned (.bool (mayB l)) ∧ ∃ m, w' = w.drewN m := by
  have hmax : l.length ≤ 9223372036854775807 := by obtain ⟨_, _, _, _, h1, h2, _⟩ := h; unfold maxLen at h2; omega
  obtain ⟨A, c, rfl, hcell⟩ := h.int'
  obtain ⟨n, hn⟩ : ∃ n, n = l.length := ⟨_, rfl⟩
  rw [← hn] at hcell hmax ⊢
  have HN := hid hn
  have HC := hid hcell
  clear hcell hn h
  have hno : ¬ mayP l → mayB l = false := fun h => decide_eq_false h
  by_cases h1 : n < 1
  · have q1 : decide ((n : Int) < 1) = true := by simp; omega
    rw [hno (fun h => by have := h.1; have := HN.out; omega)]
    clear hno
    go_enter Try.func17, Try.ntmps17
    go_wp2_with fail
    go_ret
    exact ⟨rfl, 0, rfl⟩
  have q1 : decide ((n : Int) < 1) = false := by simp; omega
  by_cases h2 : 15 < n
  · have q2 : decide (15 < (n : Int)) = true := by simp; omega
    rw [hno (fun h => by have := h.2.1; have := HN.out; omega)]
    clear hno
    go_enter Try.func17, Try.ntmps17
    go_wp2_with fail
    go_ret
    exact ⟨rfl, 0, rfl⟩
  have q2 : decide (15 < (n : Int)) = false := by simp; omega
  obtain ⟨r, hr⟩ : ∃ r, r = mayB l := ⟨_, rfl⟩
  rw [← hr]
  have HR := hid hr
  clear hr
  have HNO := hid hno
  clear hno
  go_enter Try.func17, Try.ntmps17
  go_wp2_with fail
  go_loopw [3] (fun i wr => ∃ k m : Nat, k ≤ n ∧ i = .int .i64 k ∧ (∀ j, j < k → (0 ≤ l.getD j 0 ∧ l.getD j 0 < 15 ∧ (0 < j → l.getD (j - 1) 0 < l.getD j 0))) ∧ wr = w.drewN m) (fun i _ => n - (intOf i).toNat)
  case atStart => exact ⟨0, 0, Nat.zero_le _, rfl, fun j hj => by omega, rfl⟩
  case round =>
    obtain ⟨k, m, hk, rfl, hall, hw⟩ := hrel
    have hkm : Keep (fun _ => False) w wr := by rw [hw]; exact (Keep.refl _ w).drewN m
    have HW := hid hw
    have HKM := hid hkm
    clear hw hkm
    have HALL := hid hall
    clear hall
    by_cases hlt : k < n
    · obtain ⟨b, off, rfl, _, hcc⟩ := HC.out (by omega)
      have d1 := HKM.out.cell (hcc k hlt) id
      obtain ⟨x, hx⟩ : ∃ x, x = l.getD k 0 := ⟨_, rfl⟩
      rw [← hx] at d1
      have HX := hid hx
      have HCC := hid hcc
      clear hx hcc
      have hbad : (¬ (0 ≤ x ∧ x < 15 ∧ (0 < k → l.getD (k - 1) 0 < x))) → r = false := fun hb => by
        rw [HR.out]
        refine HNO.out (fun hm => hb ?_)
        have := hm.2.2 k (by have := HN.out; omega)
        rw [← HX.out] at this
        exact this
      have HBAD := hid hbad
      clear hbad
      by_cases x0 : x < 0
      · have d0 : decide (x < 0) = true := decide_eq_true x0
        obtain rfl := HBAD.out (by omega)
        go_wp2_with fail
        go_quiet (fail)
        go_wp2_with fail
        go_ret
        exact ⟨rfl, _, by rw [HW.out]; exact World.drewN_drewN _ _ _⟩
      have d0 : decide (x < 0) = false := decide_eq_false x0
      by_cases x15 : 15 ≤ x
      · have d15 : decide (15 ≤ x) = true := decide_eq_true x15
        obtain rfl := HBAD.out (by omega)
        go_wp2_with fail
        go_quiet (fail)
        go_wp2_with fail
        go_ret
        exact ⟨rfl, _, by rw [HW.out]; exact World.drewN_drewN _ _ _⟩
      have d15 : decide (15 ≤ x) = false := decide_eq_false x15
      by_cases hk0 : k = 0
      · have hz : decide (0 < k) = false := by simp; omega
        have HK0 := hid hk0
        clear hk0
        go_wp2_with fail
        go_quiet (fail)
        go_wp2_with fail
        refine ⟨⟨k + 1, _, by omega, by simp, fun j hj => ?_, by rw [HW.out]; exact World.drewN_drewN _ _ _⟩, by simp [intOf]; omega⟩
        have := HK0.out
        obtain rfl : j = k := by omega
        rw [← HX.out]
        exact ⟨by omega, by omega, fun _ => by omega⟩
      · obtain ⟨j, hj⟩ : ∃ j, j + 1 = k := ⟨k - 1, by omega⟩
        have hjn : j < n := by omega
        have d2 := HKM.out.cell (HCC.out j hjn) id
        obtain ⟨y, hy⟩ : ∃ y, y = l.getD j 0 := ⟨_, rfl⟩
        rw [← hy] at d2
        have HY := hid hy
        have e1 : wrap64 ((k : Int) - 1) = (j : Int) := by unfold wrap64; omega
        have e2 : IntKind.i64.wrap ((k : Int) - 1) = (j : Int) := by simp [IntKind.wrap, IntKind.signed, IntKind.bits]; omega
        have HJ := hid hj
        have hz : decide (0 < k) = true := by simp; omega
        have hk1 : k - 1 = j := by omega
        have HK1 := hid hk1
        clear hy hj hk0 hk1
        by_cases hxy : x ≤ y
        · have dxy : decide (x ≤ y) = true := decide_eq_true hxy
          obtain rfl := HBAD.out (fun q => by have := q.2.2 (by have := HJ.out; omega); rw [HK1.out, ← HY.out] at this; omega)
          go_wp2_with fail
          go_quiet (fail)
          go_wp2_with fail
          go_ret
          exact ⟨rfl, _, by rw [HW.out]; exact World.drewN_drewN _ _ _⟩
        · have dxy : decide (x ≤ y) = false := decide_eq_false hxy
          go_wp2_with fail
          go_quiet (fail)
          go_wp2_with fail
          refine ⟨⟨k + 1, _, by omega, by simp, fun i hi => ?_, by rw [HW.out]; exact World.drewN_drewN _ _ _⟩, by simp [intOf]; omega⟩
          by_cases hik : i < k
          · exact HALL.out i hik
          · obtain rfl : i = k := by omega
            rw [← HX.out, HK1.out, ← HY.out]
            exact ⟨by omega, by omega, fun _ => by omega⟩
    · obtain rfl : k = n := by omega
      have ht : r = true := by
        rw [HR.out]
        have hn := HN.out
        exact decide_eq_true ⟨by omega, by omega, fun i hi => HALL.out i (by omega)⟩
      subst ht
      go_wp2_with fail
      go_ret
      exact ⟨rfl, _, HW.out⟩
set_option maxRecDepth 20000 in
set_option maxHeartbeats 4000000 in
/-- Are two lists of numbers the same? -/
theorem sameInts_calls {v2 : Value} {l2 : List Int} (h : Row F w v l.length 1 (l.map I64)) (h2 : Row G w v2 l2.length 1 (l2.map I64)) : Calls Try.prog 13 #[v, v2] w fun e w' => e = .returned (.bool (decide (l = l2))) ∧ ∃ m, w' = w.drewN m := by
  have hmax : l.length ≤ 9223372036854775807 := by obtain ⟨_, _, _, _, h1, h2, _⟩ := h; unfold maxLen at h2; omega
  have hmax2 : l2.length ≤ 9223372036854775807 := by obtain ⟨_, _, _, _, h1, h2, _⟩ := h2; unfold maxLen at h2; omega
  obtain ⟨A, c, rfl, hcell⟩ := h.int'
  obtain ⟨A2, c2, rfl, hcell2⟩ := h2.int'
  obtain ⟨n, hn⟩ : ∃ n, n = l.length := ⟨_, rfl⟩
  obtain ⟨n2, hn2⟩ : ∃ n, n = l2.length := ⟨_, rfl⟩
  rw [← hn] at hcell hmax ⊢
  rw [← hn2] at hcell2 hmax2 ⊢
  have HN := hid hn; have HN2 := hid hn2
  have HC := hid hcell; have HC2 := hid hcell2
  clear hcell hcell2 hn hn2 h h2
  by_cases hne : n = n2
  case neg =>
    have hf : decide (l = l2) = false := decide_eq_false (fun e => hne (by rw [HN.out, HN2.out, e]))
    rw [hf]
    have d1 : ((n : Int) != (n2 : Int)) = true := by simp; omega
    clear hf hne
    go_enter Try.func13, Try.ntmps13
    go_wp2_with fail
    go_ret
    exact ⟨rfl, 0, rfl⟩
  subst hne
  obtain ⟨r, hr⟩ : ∃ r, r = decide (l = l2) := ⟨_, rfl⟩
  rw [← hr]
  have HR := hid hr
  clear hr
  go_enter Try.func13, Try.ntmps13
  go_wp2_with fail
  go_loopw [5] (fun i wr => ∃ k m : Nat, k ≤ n ∧ i = .int .i64 k ∧ (∀ j, j < k → l.getD j 0 = l2.getD j 0) ∧ wr = w.drewN m) (fun i _ => n - (intOf i).toNat)
  case atStart => exact ⟨0, 0, Nat.zero_le _, rfl, fun j hj => by omega, rfl⟩
  case round =>
    obtain ⟨k, m, hk, rfl, hall, hw⟩ := hrel
    have hkm : Keep (fun _ => False) w wr := by rw [hw]; exact (Keep.refl _ w).drewN m
    have HW := hid hw
    have HKM := hid hkm
    clear hw hkm
    have HALL := hid hall
    clear hall
    by_cases hlt : k < n
    · obtain ⟨b, off, rfl, _, hcc⟩ := HC.out (by omega)
      obtain ⟨b2, off2, rfl, _, hcc2⟩ := HC2.out (by omega)
      have d1 := HKM.out.cell (hcc k hlt) id
      have d2 := HKM.out.cell (hcc2 k hlt) id
      obtain ⟨x, hx⟩ : ∃ x, x = l.getD k 0 := ⟨_, rfl⟩
      obtain ⟨y, hy⟩ : ∃ y, y = l2.getD k 0 := ⟨_, rfl⟩
      rw [← hx] at d1
      rw [← hy] at d2
      have HX := hid hx; have HY := hid hy
      clear hx hy hcc hcc2
      by_cases hxy : x = y
      · have HXY := hid hxy
        have dd : (x != y) = false := by simp [hxy]
        clear hxy
        go_wp2_with fail
        go_quiet (fail)
        go_wp2_with fail
        refine ⟨⟨k + 1, _, by omega, by simp, fun j hj => ?_, by rw [HW.out]; exact World.drewN_drewN _ _ _⟩, by simp [intOf]; omega⟩
        by_cases hjk : j < k
        · exact HALL.out j hjk
        · obtain rfl : j = k := by omega
          rw [← HX.out, ← HY.out]; exact HXY.out
      · have dd : (x != y) = true := by simp [hxy]
        have hf : r = false := by
          rw [HR.out]
          exact decide_eq_false (fun e => hxy (by rw [HX.out, HY.out, e]))
        subst hf
        clear hxy
        go_wp2_with fail
        go_quiet (fail)
        go_wp2_with fail
        go_ret
        exact ⟨rfl, _, by rw [HW.out]; exact World.drewN_drewN _ _ _⟩
    · obtain rfl : k = n := by omega
      have ht : r = true := by
        rw [HR.out]
        refine decide_eq_true (List.ext_getElem (by rw [← HN.out, ← HN2.out]) (fun i h1 h2 => ?_))
        have := HALL.out i (by rw [HN.out]; exact h1)
        simpa [h1, h2] using this
      subst ht
      go_wp2_with fail
      go_ret
      exact ⟨rfl, _, HW.out⟩
end
end Go.Proofs.Ytbkgobdpgokbaaa

/- wapentakelaw16.TallyCounts. -/
import Derived.Test.YthlgnilgjeebaaaTalA
import Derived.Test.YthlgnilgjeebaaaTalV2
import Derived.Test.YthlgnilgjeebaaaTalCP
namespace Go.Proofs.Ythlgnilgjeebaaa
open Go.RowKit Go.MapKept
section
variable {F G : Nat → Prop} {w : World} {v0 v1 : Value} {M L : List Int}
set_option maxRecDepth 20000 in
set_option maxHeartbeats 8000000 in
theorem tallyCounts_calls (hM : Row F w v0 M.length 1 (M.map I64)) (hL : Row G w v1 L.length 1 (L.map I64)) {slot : Int} (hs : okI slot) :
    Calls Try.prog 6 #[v0, v1, .int .i64 slot] w fun e w' => e = .returned (.bool true) ∧ Below w.heap.size w w' := by
  obtain ⟨A0, c0, rfl, _⟩ := hM.int'
  obtain ⟨A1, c1, rfl, hcell⟩ := hL.int'
  have hcap := hL.cap
  have hmax : M.length ≤ 9223372036854775807 := by have := hM.cap; unfold maxLen at this; omega
  have hmax1 : L.length ≤ 9223372036854775807 := by unfold maxLen at hcap; omega
  have HM := hid hM; have HL := hid hL; have HC := hid hcell
  obtain ⟨m, hm⟩ : ∃ m, m = M.length := ⟨_, rfl⟩
  obtain ⟨n, hn⟩ : ∃ n, n = L.length := ⟨_, rfl⟩
  rw [← hm] at hmax
  rw [← hn] at hmax1 hcap
  rw [← hm, ← hn]
  have HMM := hid hm; have HN := hid hn; have HCAP := hid hcap
  clear hM hL hcell hm hn hcap
  go_enter Try.func6, Try.ntmps6
  go_wp2_with fail
  refine (awake16_calls w).mono ?_
  rintro e w0 ⟨rfl, k0⟩
  have K0 := hid k0
  clear k0
  by_cases hm1 : 100 < m
  case pos =>
    go_wp2_with fail
    go_ret
    exact ⟨rfl, K0.out.below (Nat.le_refl _) (fun _ _ f => f)⟩
  by_cases hn1 : 200 < n
  case pos =>
    go_wp2_with fail
    go_ret
    exact ⟨rfl, K0.out.below (Nat.le_refl _) (fun _ _ f => f)⟩
  go_wp2_with fail
  refine (newN_calls 9 0).mono ?_
  rintro e w1 ⟨g, rfl, ht1, k1⟩
  have HT1 := hid ht1
  have K1 := hid (K0.out.trans k1 (fun _ _ f => f))
  have HB := hid K0.out.size
  clear ht1 k1
  go_wp2_with fail
  go_loopw [8, 9, 10] (fun a b i wr => ∃ k : Nat, k ≤ n ∧ i = .int .i64 k ∧ a = .bool (mostB M ((L.take k).filter repB)) ∧ b = .bool (mostB M ((L.take k).filter repB)) ∧ TalN w0.heap.size wr g (cS slot (L.take k)) ∧ Keep (fun q => w.heap.size ≤ q) w wr) (fun _ _ i _ => n - (intOf i).toNat)
  case atStart => exact ⟨0, Nat.zero_le _, rfl, by simp [mostB_none], by simp [mostB_none], HT1.out, K1.out.mono (fun _ _ f => f.elim)⟩
  case round =>
    obtain ⟨k, hk, rfl, rfl, rfl, ht, hkp⟩ := hrel
    by_cases hlt : k < n
    · obtain ⟨b, off, rfl, _, hc⟩ := HC.out (by have := HN.out; omega)
      have hkc : ∀ W, Keep (fun q => w.heap.size ≤ q) w W → W.cell? ⟨b, off + k, none⟩ = some (.int .i64 (L.getD k 0)) := fun W hW => by
        have h9 := hc k (by rw [← HN.out]; exact hlt)
        have h8 : b < w.heap.size := World.block_lt_of_cell? _ _ h9
        exact hW.cell h9 (fun q => by have q : w.heap.size ≤ b := q; omega)
      have hx : L[k]? = some (L.getD k 0) := by rw [List.getD, List.getElem?_eq_getElem (by rw [← HN.out]; exact hlt)]; rfl
      generalize L.getD k 0 = x at *
      obtain ⟨hci, hti⟩ := cS_inv slot L k (by rw [← HN.out]; omega)
      obtain ⟨hci1, hti1⟩ := cS_inv slot L (k + 1) (by rw [← HN.out]; omega)
      have hnx := cS_next slot hx
      have hsub : ∀ y ∈ (L.take k).filter repB, y ∈ (L.take (k + 1)).filter repB := fun y hy => by
        rw [take_filter hx]; exact List.mem_append.2 (.inl hy)
      have hcell := hkc wr hkp
      have HKC := hid hkc; have HTI := hid hti; have HTI1 := hid hti1; have HCI1 := hid hci1; have HNX := hid hnx; have HKP := hid hkp; have HT := hid ht
      have hrr : mostB M ((L.take k).filter repB) = false ∨ (mostB M ((L.take k).filter repB) = true ∧ mostB M ((L.take (k + 1)).filter repB) = true) := by
        cases hq : mostB M ((L.take k).filter repB) with
        | false => exact .inl rfl
        | true => exact .inr ⟨rfl, mostB_mono hsub hq⟩
      clear hkc hci hti hci1 hti1 hnx hsub hkp ht hc hx
      generalize hr0 : mostB M ((L.take k).filter repB) = r0 at *
      generalize hr1 : mostB M ((L.take (k + 1)).filter repB) = r1 at *
      have HR1 := hid hr1; have HRR := hid hrr
      clear hr0 hr1 hrr
      go_wp2_with fail
      refine (promN_nil HT.out x 0).mono ?_
      rintro e w2 ⟨rfl, ht2, k2⟩
      have hk2 : Keep (fun q => w.heap.size ≤ q) w w2 := HKP.out.trans k2 (fun b hb e => by have := HB.out; omega)
      have hcell2 := HKC.out w2 hk2
      have HT2 := hid ht2; have K2 := hid hk2
      clear ht2 k2 hk2 hcell HT HKP
      generalize promB (cS slot (L.take k)) x = pb
      go_wp2_with fail
      refine (voteN_calls HT2.out slot x hs (HTI.out.prom x 0 []) (by omega)).mono ?_
      rintro e w3 ⟨rfl, ht3, k3⟩
      rw [← HNX.out] at ht3
      have hk3 : Keep (fun q => w.heap.size ≤ q) w w3 := K2.out.trans k3 (fun b hb e => by have := HB.out; omega)
      have HT3 := hid ht3; have K3 := hid hk3
      clear ht3 k3 hk3 hcell2 HT2 K2
      generalize voteB (promS (cS slot (L.take k)) x 0 []) slot x = vb
      have hmr : ∀ W, Keep (fun q => w.heap.size ≤ q) w W → Row (fun q => F q ∧ q < w.heap.size) W (.slice A0 m c0) M.length 1 (M.map I64) := fun W hW => by
        rw [HMM.out]
        refine Row.keep (S := fun q => w.heap.size ≤ q) ?_ hW (fun b hb q => by omega)
        obtain ⟨A', c', he, q1, q2, q3, q4⟩ := HM.out
        exact ⟨A', c', he, q1, q2, q3, q4.imp _root_.id (fun ⟨b, off, h1, h2, h3, h4⟩ => ⟨b, off, h1, ⟨h2, h3⟩, h3, h4⟩)⟩
      have HMR := hid hmr
      clear hmr
      go_wp2_with fail
      refine (readyN_calls HT3.out (by have := HTI1.out.pr; omega) 0 (HMR.out _ K3.out) (by have := HMM.out; omega)).mono ?_
      rintro e w4 ⟨rfl, ht4, k4⟩
      rw [HCI1.out.ready M, HR1.out]
      have HT4 := hid ht4; have K4 := hid (K3.out.trans k4 (fun _ _ f => f.elim))
      clear ht4 k4 HT3 K3
      go_wp2_with fail
      refine (wonN_calls HT4.out slot hs (HMR.out _ K4.out) (by have := HMM.out; omega)).mono ?_
      rintro e w5 ⟨rfl, ht5, k5⟩
      rw [HCI1.out.won M, HR1.out]
      have HT5 := hid ht5; have K5 := hid (K4.out.trans k5 (fun _ _ f => f.elim))
      clear ht5 k5 HT4 K4
      have hvr : Row (fun q => G q ∧ q < w.heap.size) w5 (.slice (some ⟨b, off, none⟩) (L.take (k + 1)).length c1) (L.take (k + 1)).length 1 ((L.take (k + 1)).map I64) := by
        have h9 : Row (fun q => G q ∧ q < w.heap.size) w5 (.slice (some ⟨b, off, none⟩) L.length c1) L.length 1 (L.map I64) := by
          refine Row.keep (S := fun q => w.heap.size ≤ q) ?_ K5.out (fun b hb q => by omega)
          obtain ⟨A', c', he, q1, q2, q3, q4⟩ := HL.out
          exact ⟨A', c', he, q1, q2, q3, q4.imp _root_.id (fun ⟨b, off, h1, h2, h3, h4⟩ => ⟨b, off, h1, ⟨h2, h3⟩, h3, h4⟩)⟩
        have h8 := h9.uptoI (k := k + 1) (by rw [← HN.out]; omega)
        have e : (L.take (k + 1)).length = k + 1 := by rw [List.length_take]; have := HN.out; omega
        rw [e] at h8 ⊢
        exact h8
      have e : (L.take (k + 1)).length = k + 1 := by rw [List.length_take]; have := HN.out; omega
      have hval := valid_calls hvr (by rw [e]; omega)
      rw [e] at hval
      have HV := hid hval
      have hle : k + 1 ≤ c1 := by have := HCAP.out; omega
      clear hval hvr e
      rcases HRR.out with rfl | ⟨rfl, rfl⟩
      · cases r1
        all_goals
          go_wp2_with (first
            | (refine wpl_sliceHiG (j := k + 1) (size := 1) rfl rfl (by kernel_rfl) (by kernel_rfl) rfl rfl hle ?_))
          refine HV.out.mono ?_
          rintro e w6 ⟨u6, rfl, hg6⟩
          have hg6k := hg6.kp
          have hrow6 := hg6.row
          have K6 := hid (K5.out.trans hg6.kp (fun _ _ f => f.elim))
          have HR6 := hid hrow6
          have HT6 := hid (HT5.out.keep hg6.kp)
          clear hg6 hg6k hrow6
          go_wp2_with fail
          refine (rmost_calls (HMR.out _ K6.out) (by have := HMM.out; omega) HR6.out).mono ?_
          rintro e w7 ⟨rfl, k7⟩
          rw [mostB_ref, HR1.out]
          have HT7 := hid (HT6.out.keep k7)
          have K7 := hid (K6.out.trans k7 (fun _ _ f => f.elim))
          clear k7
          go_wp2_with fail
          exact ⟨⟨k + 1, by omega, by simp, by rw [HR1.out], by rw [HR1.out], HT7.out, K7.out⟩, by simp [intOf]; omega⟩
      · go_wp2_with (first
          | (refine wpl_sliceHiG (j := k + 1) (size := 1) rfl rfl (by kernel_rfl) (by kernel_rfl) rfl rfl hle ?_))
        refine HV.out.mono ?_
        rintro e w6 ⟨u6, rfl, hg6⟩
        have hrow6 := hg6.row
        have K6 := hid (K5.out.trans hg6.kp (fun _ _ f => f.elim))
        have HR6 := hid hrow6
        have HT6 := hid (HT5.out.keep hg6.kp)
        clear hg6 hrow6
        go_wp2_with fail
        refine (rmost_calls (HMR.out _ K6.out) (by have := HMM.out; omega) HR6.out).mono ?_
        rintro e w7 ⟨rfl, k7⟩
        rw [mostB_ref, HR1.out]
        have HT7 := hid (HT6.out.keep k7)
        have K7 := hid (K6.out.trans k7 (fun _ _ f => f.elim))
        clear k7
        go_wp2_with fail
        exact ⟨⟨k + 1, by omega, by simp, by rw [HR1.out], by rw [HR1.out], HT7.out, K7.out⟩, by simp [intOf]; omega⟩
    · obtain rfl : k = n := by omega
      have et : L.take k = L := List.take_of_length_le (by rw [HN.out]; exact Nat.le_refl _)
      obtain ⟨hci, hti⟩ := cS_inv slot L k (by rw [← HN.out]; omega)
      have hlen := hci.len
      have HT := hid ht; have HKP := hid hkp; have HLEN := hid hlen; have HTI := hid hti
      clear ht hkp hci hti hlen
      generalize mostB M ((L.take k).filter repB) = r0 at *
      go_wp2_with fail
      refine (votersN_calls HT.out slot hs).mono ?_
      rintro e w2 ⟨u2, rfl, hr2, ht2, k2⟩
      obtain ⟨A2, c2, rfl⟩ := hr2.shape
      have HT2 := hid ht2; have K2 := hid (HKP.out.trans k2 (fun _ _ f => f.elim))
      clear hr2 ht2 k2
      rw [HLEN.out]
      go_wp2_with fail
      refine (promisedN_calls HT2.out (by have := HTI.out.pr; omega)).mono ?_
      rintro e w3 ⟨u3, rfl, hr3, ht3, k3⟩
      obtain ⟨A3, c3, rfl⟩ := hr3.shape
      have K3 := hid (K2.out.trans k3 (fun _ _ f => f.elim))
      clear hr3 ht3 k3
      rw [et] at HLEN ⊢
      obtain ⟨ln, hln⟩ : ∃ ln, ln = (keysS (cS slot L).pr).length := ⟨_, rfl⟩
      rw [← hln]
      have HLN := hid hln
      clear hln
      go_wp2_with fail
      go_ret
      exact ⟨by simp, K3.out.below (Nat.le_refl _) (fun b hb q => by omega)⟩
theorem tallyCounts_row (hM : Row F w v0 M.length 1 (M.map I64)) (_ : ∀ n ∈ M, (Lit.int .i64 n).wf = true) (hL : Row G w v1 L.length 1 (L.map I64)) (_ : ∀ n ∈ L, (Lit.int .i64 n).wf = true) (slot : Int) (hs : (Lit.int .i64 slot).wf = true) :
    Calls Try.prog 6 #[v0, v1, .int .i64 slot] w fun e w' => e = .returned (.bool true) ∧ Below w.heap.size w w' := tallyCounts_calls hM hL (okI.of hs)
end
end Go.Proofs.Ythlgnilgjeebaaa

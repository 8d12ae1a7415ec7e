/- wapentakelaw1.CodecFrames: the walk. -/
import Derived.Test.YtbfdnhffcdbidaaFrame2
import Derived.Test.YtbfdnhffcdbidaaL1
namespace Go.Proofs.Ytbfdnhffcdbidaa
open Go.RowKit

theorem unframe_small (l : List UInt8) : (unframe l).2.1 ≤ 1048588 := by
  unfold unframe
  split
  · simp
  split
  · simp
  split
  · simp
  split
  · simp
  split
  · simp
  · simp only; omega

set_option maxRecDepth 20000 in
set_option maxHeartbeats 1000000 in
theorem frames_calls {w : World} {vb v : Value} {body b : List UInt8} (hb : Row (fun k => k < w.heap.size) w vb body.length 1 (body.map U8)) (_hbl : body.length ≤ 140737488351232)
    (hv : Row (fun k => k < w.heap.size) w v b.length 1 (b.map U8)) (_hvl : b.length ≤ 140737488351232) :
    Calls Try.prog 6 #[vb, v] w fun e w' => e = .returned (.bool true) ∧ Below w.heap.size w w' := by
  obtain ⟨A, c, rfl⟩ := hv.shape
  obtain ⟨Ab, cb, rfl⟩ := hb.shape
  have HV := hid hv
  have HB := hid hb
  obtain ⟨n, hn⟩ : ∃ n, n = b.length := ⟨_, rfl⟩
  obtain ⟨nb, hnb⟩ : ∃ nb, nb = body.length := ⟨_, rfl⟩
  rw [← hn, ← hnb]
  have HN := hid hn
  have HNB := hid hnb
  clear hv hn hb hnb
  go_enter Try.func6, Try.ntmps6
  go_wp2_with fail
  refine (awake_calls w).mono ?_
  rintro e w1 ⟨rfl, hk1⟩
  have HV1 := hid (HV.out.keep hk1 (fun _ _ => id))
  have HB1 := hid (HB.out.keep hk1 (fun _ _ => id))
  have hs1 := hk1.size
  by_cases h1 : 5000 < nb
  · go_wp2
    go_ret
    exact ⟨rfl, hk1.below (Nat.le_refl _) (fun _ _ => id)⟩
  by_cases h2 : 5000 < n
  · go_wp2
    go_ret
    exact ⟨rfl, hk1.below (Nat.le_refl _) (fun _ _ => id)⟩
  have hl1 : body.length ≤ 5000 := by rw [← HNB.out]; omega
  have hl2 : b.length ≤ 5000 := by rw [← HN.out]; omega
  have HL1 := hid hl1
  have HL2 := hid hl2
  clear hl1 hl2
  go_wp2_with fail
  rw [HNB.out]
  refine (frame_calls HB1.out HL1.out (fun k hk => by omega)).mono ?_
  rw [← HNB.out]
  rintro e w2 ⟨v2, rfl, ho2, hn2, hk2⟩
  have hs2 := hk2.size
  have HV2 := hid (HV1.out.keep hk2 (fun _ _ => id))
  have HB2 := hid (HB1.out.keep hk2 (fun _ _ => id))
  go_wp2_with fail
  rw [HNB.out]
  refine (mframe_calls HB2.out HL1.out (fun k hk => by omega)).mono ?_
  rw [← HNB.out]
  rintro e w3 ⟨v3, rfl, ho3, hn3, hk3⟩
  have hs3 := hk3.size
  have HV3 := hid (HV2.out.keep hk3 (fun _ _ => id))
  have ho23 := hk3.owns ho2 (fun _ _ => id)
  have hp := unframe_small b
  generalize hun : (unframe b).2.1 = m at *
  generalize hue : (unframe b).2.2 = y at *
  go_wp2_with fail
  rw [HN.out]
  refine (unframe_calls HV3.out (by have := HL2.out; omega)).mono ?_
  rw [← HN.out]
  rintro e w4 ⟨v4, rfl, ho4, hn4, hk4⟩
  rw [hun, hue]
  have hs4 := hk4.size
  have HV4 := hid (HV3.out.keep hk4 (fun _ _ => id))
  go_wp2_with fail
  rw [HN.out]
  refine (munframe_calls HV4.out (by have := HL2.out; omega)).mono ?_
  rw [← HN.out]
  rintro e w5 ⟨v5, rfl, ho5, hn5, hk5⟩
  rw [hun, hue]
  have hs5 := hk5.size
  have HV5 := hid (HV4.out.keep hk5 (fun _ _ => id))
  have ho45 := hk5.owns ho4 (fun _ _ => id)
  have hr2 := (Row.ofOwn ho23).keep (hk4.trans hk5 (fun _ _ => id)) (fun _ _ => id)
  have hr3 := (Row.ofOwn ho3).keep (hk4.trans hk5 (fun _ _ => id)) (fun _ _ => id)
  have hr4 := Row.ofOwn ho45
  have hr5 := Row.ofOwn ho5
  clear ho2 ho3 ho23 ho4 ho45 ho5
  have hkp := ((((hk1.trans hk2 (fun _ _ => id)).trans hk3 (fun _ _ => id)).trans hk4 (fun _ _ => id)).trans hk5 (fun _ _ => id))
  go_wp2_with fail
  refine (same_calls hr2 hr3).mono ?_
  rintro e w6 ⟨rfl, hk6⟩
  simp only [decide_true]
  go_wp2_with fail
  refine (same_calls (hr4.keep hk6 (fun _ _ => id)) (hr5.keep hk6 (fun _ _ => id))).mono ?_
  rintro e w7 ⟨rfl, hk7⟩
  simp only [decide_true]
  have HV7 := hid (HV5.out.keep (hk6.trans hk7 (fun _ _ => id)) (fun _ _ => id))
  go_wp2_with fail
  rw [HN.out]
  refine (crc_calls HV7.out (by have := HL2.out; omega)).mono ?_
  rw [← HN.out]
  rintro e w' ⟨rfl, rfl⟩
  generalize hC : crc b = C at *
  go_wp2_with fail
  rw [HN.out]
  refine (mcrc_calls HV7.out (by have := HL2.out; omega)).mono ?_
  rw [← HN.out, hC]
  rintro e w' ⟨rfl, rfl⟩
  go_wp2
  go_ret
  exact ⟨rfl, ((hkp.trans hk6 (fun _ _ => id)).trans hk7 (fun _ _ => id)).below (Nat.le_refl _) (fun _ _ => id)⟩
end Go.Proofs.Ytbfdnhffcdbidaa

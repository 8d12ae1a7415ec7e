/- wapentakelaw24.NetKnown: the walk. -/
import Derived.Test.YtofljidmdabkcaaNetN
namespace Go.Proofs.Ytofljidmdabkcaa
open Go.RowKit Go.Lib
set_option maxRecDepth 20000 in
set_option maxHeartbeats 4000000 in
theorem netKnown_calls (w : World) : Calls Try.prog 4 #[] w fun e w' => e = .returned (.bool true) ∧ Below w.heap.size w w' := by
  obtain ⟨m1, m2, m3⟩ := nack_may
  have s1 : sendB 2 [] (nackM 1) = true := by rw [sendB, m1]; rfl
  have p2 : placeN 0 1 = 0 := by decide
  have p7 : placeN 7 2 = 1 := by decide
  have t2 : takeM [nackM 1] 0 = nackM 1 := by rw [takeM]; show ([nackM 1][placeN 0 1]?).getD msgZ = _; rw [p2]; rfl
  have s4 : twB 2 [nackM 1] 0 = true := by rw [twB, t2, sendB, m1]; rfl
  have s5 : twB 2 [nackM 1, nackM 1] 0 = false := rfl
  have S1 := hid s1; have S4 := hid s4; have S5 := hid s5; have P2 := hid p2; have P7 := hid p7; have T2 := hid t2
  clear s1 s4 s5 p2 p7 t2 m1 m2 m3
  go_enter Try.func4, Try.ntmps4
  go_wp2_with fail
  refine (awake24_calls w).mono ?_
  rintro e w0 ⟨rfl, k0⟩
  have K0 := hid k0
  clear k0
  go_wp2_with fail
  refine (newNetQ (B := w.heap.size) 2 (by decide) (by decide) K0.out.size).mono ?_
  rintro e w1 ⟨g, rfl, hn1, k1⟩
  have HN1 := hid hn1; have K1 := hid (K0.out.trans k1 (fun _ _ f => f))
  clear hn1 k1
  go_wp2_with fail
  refine (newNet_bad 0 (.inl (by decide))).mono ?_
  rintro e w' ⟨rfl, rfl⟩
  go_wp2_with fail
  refine (nack_calls 1).mono ?_
  rintro e w2 ⟨rfl, k2⟩
  have HN2 := hid (HN1.out.keepF k2); have K2 := hid (K1.out.trans k2 (fun _ _ f => f))
  clear k2
  go_wp2_with fail
  refine (HN2.out.send K2.out.size (nack_cells w2 (fun _ => False) 1 (ok_of 1 (by decide))) (fun _ f => f.elim) (nack_fits 1)).mono ?_
  rintro e w3 ⟨rfl, hn3, k3⟩
  rw [S1.out] at hn3 ⊢
  have HN3 := hid (show NetQ _ _ w3 g 2 [nackM 1] from hn3); have K3 := hid ((K2.out.mono (T := fun k => w.heap.size ≤ k) (fun _ _ f => f.elim)).trans k3 (fun _ _ e => e.1))
  clear hn3 k3
  go_wp2_with fail
  refine (HN3.out.twice K3.out.size (ok_of 0 (by decide))).mono ?_
  rintro e w4 ⟨rfl, hn4, k4⟩
  rw [S4.out, T2.out] at hn4
  rw [S4.out]
  have HN4 := hid (show NetQ _ _ w4 g 2 [nackM 1, nackM 1] from hn4); have K4 := hid (K3.out.trans k4 (fun _ _ e => e.1))
  clear hn4 k4
  go_wp2_with fail
  refine HN4.out.all.mono ?_
  rintro e w5 ⟨v5, rfl, hs5, k5⟩
  obtain ⟨A5, c5, rfl⟩ := hs5.shape
  obtain ⟨b, off, hA, _, cs, hcs, hcl⟩ := hs5.elem (i := 1) (x := nackM 1) rfl
  subst hA
  have hq : w5.cell? ⟨b, off + 27 + 3, none⟩ = some (.int .i64 1) := by have := hcl 3 _ (nack_of hcs); rwa [show Rep.msg.size = 27 from rfl, Nat.one_mul] at this
  have HQ := hid hq
  have HN5 := hid (HN4.out.keepF k5); have K5 := hid (K4.out.trans k5 (fun _ _ f => f.elim))
  have hl2 : [nackM 1, nackM 1].length = 2 := rfl
  rw [hl2]
  clear k5 hs5 hcs hcl hq hl2
  go_wp2_with fail
  refine (newNet_bad 100001 (.inr (by decide))).mono ?_
  rintro e w' ⟨rfl, rfl⟩
  have hq := HQ.out
  go_wp2_with fail
  refine (HN5.out.twice K5.out.size (ok_of 0 (by decide))).mono ?_
  rintro e w6 ⟨rfl, hn6, k6⟩
  rw [S5.out] at hn6 ⊢
  have HN6 := hid (show NetQ _ _ w6 g 2 [nackM 1, nackM 1] from hn6); have K6 := hid (K5.out.trans k6 (fun _ _ e => e.1))
  clear hn6 k6 hq
  go_wp2_with fail
  refine (HN6.out.lose (ok_of 7 (by decide))).mono ?_
  rintro e w7 ⟨rfl, hn7, k7⟩
  have htr : decide (0 < [nackM 1, nackM 1].length) = true := rfl
  rw [htr]
  have hn7' : NetQ w.heap.size (fun _ => False) w7 g 2 [nackM 1] := by
    rw [show placeN 7 [nackM 1, nackM 1].length = 1 from P7.out] at hn7
    exact hn7
  have HN7 := hid hn7'; have K7 := hid (K6.out.trans k7 (fun _ _ e => e.1))
  clear hn7 hn7' k7 htr
  go_wp2_with fail
  refine (HN7.out.lose (ok_of 0 (by decide))).mono ?_
  rintro e w8 ⟨rfl, hn8, k8⟩
  have htr : decide (0 < [nackM 1].length) = true := rfl
  rw [htr]
  have hn8' : NetQ w.heap.size (fun _ => False) w8 g 2 [] := by
    rw [show placeN 0 [nackM 1].length = 0 from P2.out] at hn8
    exact hn8
  have HN8 := hid hn8'; have K8 := hid (K7.out.trans k8 (fun _ _ e => e.1))
  clear hn8 hn8' k8 htr
  go_wp2_with fail
  refine (HN8.out.lose (ok_of 0 (by decide))).mono ?_
  rintro e w9 ⟨rfl, hn9, k9⟩
  have htr : decide (0 < ([] : List Msg).length) = false := rfl
  rw [htr]
  have K9 := hid (K8.out.trans k9 (fun _ _ e => e.1))
  clear hn9 k9 htr
  go_wp2_with fail
  go_ret
  exact ⟨rfl, K9.out.below (Nat.le_refl _) (fun b hb q => by omega)⟩
end Go.Proofs.Ytofljidmdabkcaa

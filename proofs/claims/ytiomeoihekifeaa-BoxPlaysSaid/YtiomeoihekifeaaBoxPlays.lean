/- wapentakelaw20.BoxPlays: the walk. -/
import Derived.Test.YtiomeoihekifeaaBoxPlays0
namespace Go.Proofs.Ytiomeoihekifeaa
open Go.RowKit
theorem nat_of {n : Int} (h : 1 ≤ n) : ∃ m : Nat, n = (m : Int) ∧ 1 ≤ m := ⟨n.toNat, by omega, by omega⟩
set_option maxRecDepth 20000 in
set_option maxHeartbeats 8000000 in
theorem boxPlays_calls {w : World} {v2 : Value} {l : List BDeed} (n : Int) (_hn : (Lit.int .i64 n).wf = true) (k : Int) (_hk : (Lit.int .i64 k).wf = true) (h2 : Sl Rep.bdeed w (fun b => b < w.heap.size) v2 l) :
    Calls Try.prog 10 #[.int .i64 n, .int .i64 k, v2] w fun e w' => e = .returned (.bool true) ∧ Below w.heap.size w w' := by
  have H2 := hid h2
  obtain ⟨A2, c2, rfl⟩ := h2.shape
  obtain ⟨nl, hnl⟩ : ∃ nl, nl = l.length := ⟨_, rfl⟩
  rw [← hnl] at H2 ⊢
  have HNL := hid hnl
  clear h2 hnl _hn _hk
  go_enter Try.func10, Try.ntmps10
  go_wp2_with fail
  refine (awake20_calls w).mono ?_
  rintro e w0 ⟨rfl, k0⟩
  have K0 := hid k0
  have hrm := room20_calls (v := .slice A2 l.length c2) (by rw [← HNL.out]; exact H2.out.keep k0 (fun _ _ => id))
  rw [← HNL.out] at hrm
  obtain ⟨r, hr⟩ : ∃ r, r = roomB l := ⟨_, rfl⟩
  rw [← hr] at hrm
  have HR := hid hr
  clear k0 hr
  go_wp2_with fail
  refine hrm.mono ?_
  rintro e w1 ⟨rfl, k1⟩
  have K1 := hid (K0.out.trans k1 (fun _ _ f => f))
  clear hrm k1
  cases r with
  | false =>
    go_wp2_with fail
    go_ret
    exact ⟨rfl, K1.out.below (Nat.le_refl _) (fun _ _ h => h)⟩
  | true =>
  have hroom : nl ≤ 200 ∧ ∀ d ∈ l, smallM d.m = true := by
    have h := HR.out.symm
    simp only [roomB, Bool.and_eq_true, decide_eq_true_iff, List.all_eq_true] at h
    exact ⟨by rw [HNL.out]; exact h.1, h.2⟩
  have h200 := hroom.1
  have HALL := hid hroom.2
  clear hroom
  by_cases hn1 : n < 1
  · by_cases hk1 : k < 1
    · have dn1 : decide (1 ≤ n) = false := decide_eq_false (by omega)
      have dk1 : decide (1 ≤ k) = false := decide_eq_false (by omega)
      have hc1 := newBox_bad (w := w1) n (.inl (by omega))
      go_wp2_with fail
      refine hc1.mono ?_
      rintro e w2 ⟨rfl, rfl⟩
      clear hc1
      have K2 := hid (Keep.refl (fun _ => False) w1)
      have hc2 := newBox_bad (w := w1) k (.inl (by omega))
      go_wp2_with fail
      refine hc2.mono ?_
      rintro e w3 ⟨rfl, rfl⟩
      clear hc2
      have K3 := hid (Keep.refl (fun _ => False) w1)
      go_wp2_with fail
      go_ret
      exact ⟨rfl, ((K1.out.trans K2.out (fun _ _ h => h)).trans K3.out (fun _ _ h => h)).below (Nat.le_refl _) (fun _ _ h => h)⟩
    by_cases hk2 : 4096 < k
    · have dn1 : decide (1 ≤ n) = false := decide_eq_false (by omega)
      have dk1 : decide (1 ≤ k) = true := decide_eq_true (by omega)
      have dk2 : decide (k ≤ 4096) = false := decide_eq_false (by omega)
      have hc1 := newBox_bad (w := w1) n (.inl (by omega))
      go_wp2_with fail
      refine hc1.mono ?_
      rintro e w2 ⟨rfl, rfl⟩
      clear hc1
      have K2 := hid (Keep.refl (fun _ => False) w1)
      have hc2 := newBox_bad (w := w1) k (.inr (by omega))
      go_wp2_with fail
      refine hc2.mono ?_
      rintro e w3 ⟨rfl, rfl⟩
      clear hc2
      have K3 := hid (Keep.refl (fun _ => False) w1)
      go_wp2_with fail
      go_ret
      exact ⟨rfl, ((K1.out.trans K2.out (fun _ _ h => h)).trans K3.out (fun _ _ h => h)).below (Nat.le_refl _) (fun _ _ h => h)⟩
    obtain ⟨nb, rfl, hnb1⟩ := nat_of (show (1 : Int) ≤ k by omega)
    have hnb : nb ≤ 4096 := by omega
    clear hk1 hk2
    have dn1 : decide (1 ≤ n) = false := decide_eq_false (by omega)
    have dk1 : decide ((1 : Int) ≤ (nb : Int)) = true := decide_eq_true (by omega)
    have dk2 : decide ((nb : Int) ≤ 4096) = true := decide_eq_true (by omega)
    have hc1 := newBox_bad (w := w1) n (.inl (by omega))
    go_wp2_with fail
    refine hc1.mono ?_
    rintro e w2 ⟨rfl, rfl⟩
    clear hc1
    have K2 := hid (Keep.refl (fun _ => False) w1)
    have hc2 := newBox_calls (w := w1) nb (by omega) (by omega)
    go_wp2_with fail
    refine hc2.mono ?_
    rintro e w3 ⟨gb, cb, rfl, hb2, k3⟩
    have HBY := hid hb2
    have K3 := hid k3
    clear k3 hb2 hc2
    go_wp2_with fail
    go_ret
    exact ⟨rfl, ((K1.out.trans K2.out (fun _ _ h => h)).trans K3.out (fun _ _ h => h)).below (Nat.le_refl _) (fun _ _ h => h)⟩
  by_cases hn2 : 4096 < n
  · by_cases hk1 : k < 1
    · have dn1 : decide (1 ≤ n) = true := decide_eq_true (by omega)
      have dn2 : decide (n ≤ 4096) = false := decide_eq_false (by omega)
      have dk1 : decide (1 ≤ k) = false := decide_eq_false (by omega)
      have hc1 := newBox_bad (w := w1) n (.inr (by omega))
      go_wp2_with fail
      refine hc1.mono ?_
      rintro e w2 ⟨rfl, rfl⟩
      clear hc1
      have K2 := hid (Keep.refl (fun _ => False) w1)
      have hc2 := newBox_bad (w := w1) k (.inl (by omega))
      go_wp2_with fail
      refine hc2.mono ?_
      rintro e w3 ⟨rfl, rfl⟩
      clear hc2
      have K3 := hid (Keep.refl (fun _ => False) w1)
      go_wp2_with fail
      go_ret
      exact ⟨rfl, ((K1.out.trans K2.out (fun _ _ h => h)).trans K3.out (fun _ _ h => h)).below (Nat.le_refl _) (fun _ _ h => h)⟩
    by_cases hk2 : 4096 < k
    · have dn1 : decide (1 ≤ n) = true := decide_eq_true (by omega)
      have dn2 : decide (n ≤ 4096) = false := decide_eq_false (by omega)
      have dk1 : decide (1 ≤ k) = true := decide_eq_true (by omega)
      have dk2 : decide (k ≤ 4096) = false := decide_eq_false (by omega)
      have hc1 := newBox_bad (w := w1) n (.inr (by omega))
      go_wp2_with fail
      refine hc1.mono ?_
      rintro e w2 ⟨rfl, rfl⟩
      clear hc1
      have K2 := hid (Keep.refl (fun _ => False) w1)
      have hc2 := newBox_bad (w := w1) k (.inr (by omega))
      go_wp2_with fail
      refine hc2.mono ?_
      rintro e w3 ⟨rfl, rfl⟩
      clear hc2
      have K3 := hid (Keep.refl (fun _ => False) w1)
      go_wp2_with fail
      go_ret
      exact ⟨rfl, ((K1.out.trans K2.out (fun _ _ h => h)).trans K3.out (fun _ _ h => h)).below (Nat.le_refl _) (fun _ _ h => h)⟩
    obtain ⟨nb, rfl, hnb1⟩ := nat_of (show (1 : Int) ≤ k by omega)
    have hnb : nb ≤ 4096 := by omega
    clear hk1 hk2
    have dn1 : decide (1 ≤ n) = true := decide_eq_true (by omega)
    have dn2 : decide (n ≤ 4096) = false := decide_eq_false (by omega)
    have dk1 : decide ((1 : Int) ≤ (nb : Int)) = true := decide_eq_true (by omega)
    have dk2 : decide ((nb : Int) ≤ 4096) = true := decide_eq_true (by omega)
    have hc1 := newBox_bad (w := w1) n (.inr (by omega))
    go_wp2_with fail
    refine hc1.mono ?_
    rintro e w2 ⟨rfl, rfl⟩
    clear hc1
    have K2 := hid (Keep.refl (fun _ => False) w1)
    have hc2 := newBox_calls (w := w1) nb (by omega) (by omega)
    go_wp2_with fail
    refine hc2.mono ?_
    rintro e w3 ⟨gb, cb, rfl, hb2, k3⟩
    have HBY := hid hb2
    have K3 := hid k3
    clear k3 hb2 hc2
    go_wp2_with fail
    go_ret
    exact ⟨rfl, ((K1.out.trans K2.out (fun _ _ h => h)).trans K3.out (fun _ _ h => h)).below (Nat.le_refl _) (fun _ _ h => h)⟩
  obtain ⟨na, rfl, hna1⟩ := nat_of (show (1 : Int) ≤ n by omega)
  have hna : na ≤ 4096 := by omega
  clear hn1 hn2
  by_cases hk1 : k < 1
  · have dn1 : decide ((1 : Int) ≤ (na : Int)) = true := decide_eq_true (by omega)
    have dn2 : decide ((na : Int) ≤ 4096) = true := decide_eq_true (by omega)
    have dk1 : decide (1 ≤ k) = false := decide_eq_false (by omega)
    have hc1 := newBox_calls (w := w1) na (by omega) (by omega)
    go_wp2_with fail
    refine hc1.mono ?_
    rintro e w2 ⟨ga, ca, rfl, hb1, k2⟩
    have HBX := hid hb1
    have K2 := hid k2
    clear k2 hb1 hc1
    have hc2 := newBox_bad (w := w2) k (.inl (by omega))
    go_wp2_with fail
    refine hc2.mono ?_
    rintro e w3 ⟨rfl, rfl⟩
    clear hc2
    have K3 := hid (Keep.refl (fun _ => False) w2)
    go_wp2_with fail
    go_ret
    exact ⟨rfl, ((K1.out.trans K2.out (fun _ _ h => h)).trans K3.out (fun _ _ h => h)).below (Nat.le_refl _) (fun _ _ h => h)⟩
  by_cases hk2 : 4096 < k
  · have dn1 : decide ((1 : Int) ≤ (na : Int)) = true := decide_eq_true (by omega)
    have dn2 : decide ((na : Int) ≤ 4096) = true := decide_eq_true (by omega)
    have dk1 : decide (1 ≤ k) = true := decide_eq_true (by omega)
    have dk2 : decide (k ≤ 4096) = false := decide_eq_false (by omega)
    have hc1 := newBox_calls (w := w1) na (by omega) (by omega)
    go_wp2_with fail
    refine hc1.mono ?_
    rintro e w2 ⟨ga, ca, rfl, hb1, k2⟩
    have HBX := hid hb1
    have K2 := hid k2
    clear k2 hb1 hc1
    have hc2 := newBox_bad (w := w2) k (.inr (by omega))
    go_wp2_with fail
    refine hc2.mono ?_
    rintro e w3 ⟨rfl, rfl⟩
    clear hc2
    have K3 := hid (Keep.refl (fun _ => False) w2)
    go_wp2_with fail
    go_ret
    exact ⟨rfl, ((K1.out.trans K2.out (fun _ _ h => h)).trans K3.out (fun _ _ h => h)).below (Nat.le_refl _) (fun _ _ h => h)⟩
  obtain ⟨nb, rfl, hnb1⟩ := nat_of (show (1 : Int) ≤ k by omega)
  have hnb : nb ≤ 4096 := by omega
  clear hk1 hk2
  have dn1 : decide ((1 : Int) ≤ (na : Int)) = true := decide_eq_true (by omega)
  have dn2 : decide ((na : Int) ≤ 4096) = true := decide_eq_true (by omega)
  have dk1 : decide ((1 : Int) ≤ (nb : Int)) = true := decide_eq_true (by omega)
  have dk2 : decide ((nb : Int) ≤ 4096) = true := decide_eq_true (by omega)
  have hc1 := newBox_calls (w := w1) na (by omega) (by omega)
  go_wp2_with fail
  refine hc1.mono ?_
  rintro e w2 ⟨ga, ca, rfl, hb1, k2⟩
  have HBX := hid hb1
  have K2 := hid k2
  clear k2 hb1 hc1
  have hc2 := newBox_calls (w := w2) nb (by omega) (by omega)
  go_wp2_with fail
  refine hc2.mono ?_
  rintro e w3 ⟨gb, cb, rfl, hb2, k3⟩
  have HBY := hid hb2
  have K3 := hid k3
  clear k3 hb2 hc2
  have z1 := K1.out.size
  have z2 := K2.out.size
  have z3 := K3.out.size
  have hQ : QS w.heap.size w3 ga ca na [] gb cb nb [] (.slice none 0 0) [] (.slice none 0 0) [] (fun _ => False) := by
    refine ⟨NewIn w1 w2, NewIn w2 w3, HBX.out.keep K3.out (fun _ _ => id), HBY.out, fun q a b => ?_, fun q a => ⟨?_, ?_, id, by simp [Value.ownBlock], by simp [Value.ownBlock]⟩, fun q a => ⟨?_, a.2, id, by simp [Value.ownBlock], by simp [Value.ownBlock]⟩, MsgQ.nil, MsgQ.nil, fun b hb => by simp [Value.ownBlock] at hb, fun b hb => by simp [Value.ownBlock] at hb, fun b hb => by simp [Value.ownBlock] at hb, fun _ f => f.elim⟩
    · have := a.2; have := b.1; omega
    · have := a.1; omega
    · have := a.2; omega
    · have := a.1; omega
  have HQ := hid hQ
  have KW := hid ((K1.out.trans K2.out (fun _ _ h => h)).trans K3.out (fun _ _ h => h))
  clear hQ dn1 dn2 dk1 dk2
  have dn1 : decide ((1 : Int) ≤ (na : Int)) = true := decide_eq_true (by omega)
  have dn2 : decide ((na : Int) ≤ 4096) = true := decide_eq_true (by omega)
  have dk1 : decide ((1 : Int) ≤ (nb : Int)) = true := decide_eq_true (by omega)
  have dk2 : decide ((nb : Int) ≤ 4096) = true := decide_eq_true (by omega)
  go_wp2_with fail
  clear dn1 dn2 dk1 dk2
  go_loopw [11, 12, 13] (fun s11 s12 i wr => ∃ (j : Nat) (X Y : List Msg), j ≤ nl ∧ i = .int .i64 j ∧ QS w.heap.size wr ga ca na X gb cb nb Y s11 X s12 Y (fun _ => False) ∧ Keep (fun q => w.heap.size ≤ q) w wr ∧ w.heap.size ≤ wr.heap.size) (fun _ _ i _ => nl - (intOf i).toNat)
  case atStart => exact ⟨0, [], [], Nat.zero_le _, rfl, HQ.out, KW.out.mono (fun _ _ f => f.elim), KW.out.size⟩
  case round =>
    obtain ⟨j, X, Y, hj, rfl, hQ, hkp, hsz⟩ := hrel
    by_cases hlt : j < nl
    · obtain ⟨d, hd⟩ : ∃ d, l[j]? = some d := ⟨l[j]'(by rw [← HNL.out]; exact hlt), by simp [show j < l.length by rw [← HNL.out]; exact hlt]⟩
      have hfit := smallM_fits (HALL.out d (List.mem_of_getElem? hd))
      have hs := H2.out.keep hkp (fun a b c => by omega)
      obtain ⟨A', c', bl, ol, cs, he, rfl, hcs, hcell⟩ := elem_cells7 hs HNL.out hd
      simp only [Value.slice.injEq, true_and] at he
      obtain ⟨rfl, rfl⟩ := he
      obtain ⟨ms, rfl, g1, g2, hms⟩ := bdeed_cells hcs
      have hsize : Rep.bdeed.size = 29 := rfl
      rw [hsize] at hcell
      refine bplays0 (w0 := w) (B := w.heap.size) (d := d) (ms := ms) hlt h200 hna hnb hsz hQ hkp (fun q u hu => hcell q u hu) hms hfit g1 g2 ?_
      rintro X' Y' vx' vy' w' ⟨q1, q2, q3⟩
      intros
      go_wp2_with fail
      refine ⟨?_, by simp [intOf]; omega⟩
      (repeat apply Exists.intro)
      exact ⟨⟨j + 1, X', Y', by omega, by simp, q1, q2, q3⟩, rfl⟩
    · go_wp2_with fail
      go_ret
      exact ⟨rfl, hkp.below (Nat.le_refl _) (fun b hb => by omega)⟩
end Go.Proofs.Ytiomeoihekifeaa

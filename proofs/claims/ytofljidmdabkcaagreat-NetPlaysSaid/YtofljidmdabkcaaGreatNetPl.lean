/-  -/
import Derived.Test.YtofljidmdabkcaaGreatNetPl0
namespace Go.Proofs.YtofljidmdabkcaaGreat
open Go.RowKit
set_option maxRecDepth 20000 in
set_option maxHeartbeats 8000000 in
theorem netPlays_calls {w : World} {v1 : Value} {l : List NDeed} (n : Int) (_hn : (Lit.int .i64 n).wf = true) (h1 : Sl Rep.ndeed w (fun b => b < w.heap.size) v1 l) :
    Calls Tryz.prog 3 #[.int .i64 n, v1] w fun e w' => e = .returned (.bool true) ∧ Below w.heap.size w w' := by
  have H2 := hid h1
  obtain ⟨A2, c2, rfl⟩ := h1.shape
  obtain ⟨nl, hnl⟩ : ∃ nl, nl = l.length := ⟨_, rfl⟩
  rw [← hnl] at H2 ⊢
  have HNL := hid hnl
  clear h1 hnl _hn
  go_enter Tryz.func3, Tryz.ntmps3
  go_wp2_with fail
  refine (awake24_calls w).mono ?_
  rintro e w0 ⟨rfl, k0⟩
  have K0 := hid k0
  have hrm := room24_calls (v := .slice A2 l.length c2) (by rw [← HNL.out]; exact H2.out.keep k0 (fun _ _ => id))
  rw [← HNL.out] at hrm
  obtain ⟨r, hr⟩ : ∃ r, r = roomN l := ⟨_, rfl⟩
  rw [← hr] at hrm
  have HR := hid hr
  clear k0 hr
  go_wp2_with fail
  refine hrm.mono ?_
  rintro e w1 ⟨rfl, k1⟩
  have K1 := hid (K0.out.trans k1 (fun _ _ f => f))
  clear hrm k1
  cases r with
  | false =>
    go_wp2_with fail
    go_ret
    exact ⟨rfl, K1.out.below (Nat.le_refl _) (fun _ _ h => h)⟩
  | true =>
  have hroom : nl ≤ 200 ∧ ∀ d ∈ l, smallM d.m = true := by
    have h := HR.out.symm
    simp only [roomN, Bool.and_eq_true, decide_eq_true_iff, List.all_eq_true] at h
    exact ⟨by rw [HNL.out]; exact h.1, h.2⟩
  have h200 := hroom.1
  have HALL := hid hroom.2
  clear hroom
  by_cases hbad : n < 1 ∨ 100000 < n
  · have hc1 := newNet_bad (w := w1) n hbad
    have hc2 := rnew_bad (w := w1) n hbad
    go_wp2_with fail
    refine hc1.mono ?_
    rintro e w2 ⟨rfl, rfl⟩
    clear hc1
    go_wp2_with fail
    refine hc2.mono ?_
    rintro e w3 ⟨rfl, rfl⟩
    clear hc2
    go_wp2_with fail
    go_ret
    exact ⟨rfl, K1.out.below (Nat.le_refl _) (fun _ _ h => h)⟩
  have hc1 := newNet_calls (w := w1) n (by omega) (by omega)
  have HLO := hid (show 1 ≤ n ∧ n ≤ 100000 by omega)
  clear hbad
  go_wp2_with fail
  refine hc1.mono ?_
  rintro e w2 ⟨g, rfl, hn2, k2⟩
  have HN2 := hid hn2; have K2 := hid k2
  have hc2 := rnew_calls (w := w2) n HLO.out.1 HLO.out.2
  clear hc1 hn2 k2
  go_wp2_with fail
  refine hc2.mono ?_
  rintro e w3 ⟨rr, rfl, hn3, k3⟩
  have HN3 := hid hn3; have K3 := hid k3
  clear hc2 hn3 k3
  have z1 := K1.out.size
  have z2 := K2.out.size
  have z3 := K3.out.size
  have hQ : PQ w.heap.size (fun _ => False) (NewIn w1 w2) (NewIn w2 w3) w3 g rr n [] [] :=
    ⟨HN2.out.keepF K3.out, HN3.out, fun q a b => by have := a.2; have := b.1; omega, fun q a => ⟨by have := a.1; omega, id⟩, fun q a => ⟨by have := a.1; omega, id⟩, fun _ f => f.elim⟩
  have HQ := hid hQ
  have KW := hid ((K1.out.trans K2.out (fun _ _ h => h)).trans K3.out (fun _ _ h => h))
  clear hQ
  go_wp2_with fail
  go_loopw [9] (fun i wr => ∃ (j : Nat) (F G : Nat → Prop) (L : List Msg), j ≤ nl ∧ i = .int .i64 j ∧ PQ w.heap.size (fun _ => False) F G wr g rr n L L ∧ InvN L ∧ Keep (fun q => w.heap.size ≤ q) w wr ∧ w.heap.size ≤ wr.heap.size) (fun i _ => nl - (intOf i).toNat)
  case atStart => exact ⟨0, _, _, [], Nat.zero_le _, rfl, HQ.out, InvN.nil, KW.out.mono (fun _ _ f => f.elim), KW.out.size⟩
  case round =>
    obtain ⟨j, F, G, L, hj, rfl, hQ, hinv, hkp, hsz⟩ := hrel
    by_cases hlt : j < nl
    · obtain ⟨d, hd⟩ : ∃ d, l[j]? = some d := ⟨l[j]'(by rw [← HNL.out]; exact hlt), by simp [show j < l.length by rw [← HNL.out]; exact hlt]⟩
      have hsm := HALL.out d (List.mem_of_getElem? hd)
      have hs := H2.out.keep hkp (fun a b c => by omega)
      obtain ⟨A', c', bl, ol, cs, he, rfl, hcs, hcell⟩ := elem_cells7 hs HNL.out hd
      simp only [Value.slice.injEq, true_and] at he
      obtain ⟨rfl, rfl⟩ := he
      obtain ⟨ms, rfl, g1, g2, hms⟩ := ndeed_cells hcs
      have hsize : Rep.ndeed.size = 29 := rfl
      rw [hsize] at hcell
      refine nplays0 (w0 := w) (B := w.heap.size) (d := d) (ms := ms) hlt h200 hsz hQ hinv hkp (fun q u hu => hcell q u hu) hms (smallM_fits hsm) (smallM_few hsm) g2 ?_ (fun _ _ d _ _ h => by cases d <;> exact h)
      rintro F' G' L' w' ⟨q1, q2, q3, q4⟩
      intros
      go_wp2_with fail
      exact ⟨⟨j + 1, F', G', L', by omega, by simp, q1, q2, q3, q4⟩, by simp [intOf]; omega⟩
    · go_wp2_with fail
      go_ret
      exact ⟨rfl, hkp.below (Nat.le_refl _) (fun b hb => by omega)⟩
end Go.Proofs.YtofljidmdabkcaaGreat

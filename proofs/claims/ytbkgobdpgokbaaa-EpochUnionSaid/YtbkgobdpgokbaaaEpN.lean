/- wapentakelaw7.awake, EpochKnown, EpochMeets: the walks. -/
import Derived.Test.YtbkgobdpgokbaaaEpCh2
import Derived.Test.YtbkgobdpgokbaaaMostR
namespace Go.Proofs.Ytbkgobdpgokbaaa
open Go.RowKit
theorem row_ints (w : World) (l : List Int) (e : TypeId) (hl : l.length ≤ maxLen) : Row (fun k => k = w.heap.size) (w.alloc (.cells (l.map I64).toArray e)) (.slice (some ⟨w.heap.size, 0, none⟩) l.length l.length) l.length 1 (l.map I64) :=
  ⟨_, _, rfl, by simp, Nat.le_refl _, hl, .inr ⟨w.heap.size, 0, rfl, rfl, by simp, fun j u hu => by
    refine cell_at (heap_alloc_new w _) _ _ ?_
    rw [Nat.zero_add]
    simpa using hu⟩⟩
/-- A new Epochs of its own, out of members that lie in a new block. -/
theorem enew_lit {w : World} {B : Nat} (hB : B ≤ w.heap.size) (M : List Int) (al : Int) (e : TypeId) (hok : ∀ y ∈ M, okI y) (hn : newE M al = true) : Calls Try.prog 11 #[.slice (some ⟨w.heap.size, 0, none⟩) M.length M.length, .int .i64 al] (w.alloc (.cells (M.map I64).toArray e)) fun e w' => ∃ g, e = .returned (.tuple #[.pointer (some ⟨g, 0, none⟩), .int .i64 0]) ∧ EpAt (fun k => B ≤ k ∧ k < w'.heap.size) w' g al [(0, M)] ∧ Keep (fun _ => False) w w' ∧ B ≤ w'.heap.size := by
  have hlm : M.length ≤ maxLen := by
    have := newE_ok hn
    have := (this.2.2.2 (0, M) (by simp)).1.2.1
    unfold maxLen; simp only at this; omega
  refine (enew_calls (B := B) (by simp; omega) (row_ints w M e hlm) hok hn).mono ?_
  rintro e w' ⟨g, he, hE, hk⟩
  have hs := hk.size
  simp at hs
  refine ⟨g, he, ?_, ((Keep.refl (fun _ => False) w).alloc _).trans hk (fun _ _ h => h), by omega⟩
  obtain ⟨v, G, h1, ⟨cs, q1, q2, q3⟩, h3, h4, h5⟩ := hE
  exact ⟨v, G, h1, ⟨cs, q1, q2, fun b hb => ⟨⟨⟨(q3 b hb).1.1, own_lt' q1 b hb⟩, (q3 b hb).1.2⟩, (q3 b hb).2⟩⟩, fun b hb => ⟨⟨(h3 b hb).1, (h3 b hb).2.2⟩, (h3 b hb).2⟩, ⟨h4, lt_heap h1⟩, h5⟩
section
variable {w : World} {B g : Nat} {al : Int} {L : List Ep}
/-- Change of an Epochs whose blocks are those from B on. -/
theorem changeB (h : EpAt (fun k => B ≤ k ∧ k < w.heap.size) w g al L) (slot m : Int) (hs1 : okI slot) (hm1 : okI m) (add : Bool) (hl : L.length ≤ 100000) : Calls Try.prog 12 #[.pointer (some ⟨g, 0, none⟩), .int .i64 slot, .int .i64 m, .bool add] w fun e w' => e = .returned (.int .i64 (chE al L slot m add)) ∧ EpAt (fun k => B ≤ k ∧ k < w'.heap.size) w' g al (chL al L slot m add) ∧ Keep (fun k => B ≤ k) w w' := by
  have hBg : B ≤ w.heap.size := by have := h.inF; omega
  refine (change_calls h (fun k hk => hk.2) slot m hs1 hm1 add hl).mono ?_
  rintro e w' ⟨he, hE, hk⟩
  have hs := hk.size
  refine ⟨he, hE.mono (fun k hk => ?_), hk.mono (fun _ _ q => q.1)⟩
  rcases hk with q | q
  · exact ⟨q.1, by omega⟩
  · exact ⟨by have := q.1; omega, q.2⟩
theorem EpAt.keepB {w' : World} (h : EpAt (fun k => B ≤ k ∧ k < w.heap.size) w g al L) (hk : Keep (fun _ => False) w w') : EpAt (fun k => B ≤ k ∧ k < w'.heap.size) w' g al L := (h.keepF hk).mono (fun k q => ⟨q.1, by have := hk.size; omega⟩)
end
set_option maxRecDepth 20000 in
set_option maxHeartbeats 1600000 in
theorem awake7_calls (w : World) : Calls Try.prog 10 #[] w fun e w' => e = .returned (.bool true) ∧ Keep (fun _ => False) w w' := by
  have e1 : chE 2 [(0, [0, 1, 2])] 5 3 true = 0 := by decide
  have e2 : chL 2 [(0, [0, 1, 2])] 5 3 true = [(0, [0, 1, 2]), (7, [0, 1, 2, 3])] := by decide
  have e3 : (atE [(0, [0, 1, 2]), (7, [0, 1, 2, 3])] 6).2 = [0, 1, 2] := by decide
  have e4 : (atE [(0, [0, 1, 2]), (7, [0, 1, 2, 3])] 7).2 = [0, 1, 2, 3] := by decide
  have hnew := enew_lit (w := w) (Nat.le_refl _) [0, 1, 2] 2 3 (fun y hy => by simp at hy; rcases hy with rfl | rfl | rfl <;> exact ⟨by omega, by omega⟩) (by decide)
  go_enter Try.func10, Try.ntmps10
  go_wp2_with fail
  refine hnew.mono ?_
  rintro e w1 ⟨g, rfl, hE, hk, _⟩
  have hch := changeB hE 5 3 ⟨by omega, by omega⟩ ⟨by omega, by omega⟩ true (by simp)
  rw [e1, e2] at hch
  have HK := hid hk
  clear hnew hE hk e1 e2
  go_wp2_with fail
  refine hch.mono ?_
  rintro e w2 ⟨rfl, hE2, k2⟩
  have hk2 := HK.out.trans k2 (S := fun _ => False) (fun b hb h => by omega)
  have hat := eAt_calls hE2 6 (by simp)
  rw [e3] at hat
  have HE2 := hid hE2
  have HK2 := hid hk2
  clear hch hE2 hk2 k2 e3
  go_wp2_with fail
  refine hat.mono ?_
  rintro e w3 ⟨g3, c3, rfl, _, _, k3⟩
  have hat := eAt_calls (HE2.out.keepF k3) 7 (by simp)
  rw [e4] at hat
  have HK3 := hid (HK2.out.trans k3 (fun _ _ h => h))
  clear k3 e4
  go_wp2_with fail
  refine hat.mono ?_
  rintro e w4 ⟨g4, c4, rfl, _, _, k4⟩
  clear hat
  go_wp2_with fail
  go_ret
  exact ⟨rfl, HK3.out.trans k4 (fun _ _ h => h)⟩
theorem meets2 {M a b : List Int} (hM : GoodM M) (ha : mostB M a = true) (hb : mostB M b = true) (hd : ∀ x ∈ M, x ∈ a → x ∉ b) : False := by
  have h1 : quoN M ≤ cntM M a := by simpa [mostB] using ha
  have h2 : quoN M ≤ cntM M b := by simpa [mostB] using hb
  rw [cntM, hM.set] at h1 h2
  have h3 := countP_two (p := fun x => a.contains x) (q := fun x => b.contains x) M (fun x hx hxa => by
    have := hd x hx (by simpa using hxa)
    simpa using this)
  unfold quoN at h1 h2
  omega
set_option maxRecDepth 20000 in
set_option maxHeartbeats 4000000 in
theorem epochMeets_calls {w : World} {v0 v1 v2 : Value} {M a b : List Int} (h0 : Row (fun k => k < w.heap.size) w v0 M.length 1 (M.map I64)) (_hw0 : ∀ n ∈ M, (Lit.int .i64 n).wf = true) (h1 : Row (fun k => k < w.heap.size) w v1 a.length 1 (a.map I64)) (_hw1 : ∀ n ∈ a, (Lit.int .i64 n).wf = true) (h2 : Row (fun k => k < w.heap.size) w v2 b.length 1 (b.map I64)) (_hw2 : ∀ n ∈ b, (Lit.int .i64 n).wf = true) :
    Calls Try.prog 7 #[v0, v1, v2] w fun e w' => e = .returned (.bool true) ∧ Below w.heap.size w w' := by
  have H0 := hid h0; have H1 := hid h1; have H2 := hid h2
  have hm0 : M.length ≤ 9223372036854775807 := by obtain ⟨_, _, _, _, q1, q2, _⟩ := h0; unfold maxLen at q2; omega
  have hm1 : a.length ≤ 9223372036854775807 := by obtain ⟨_, _, _, _, q1, q2, _⟩ := h1; unfold maxLen at q2; omega
  have hm2 : b.length ≤ 9223372036854775807 := by obtain ⟨_, _, _, _, q1, q2, _⟩ := h2; unfold maxLen at q2; omega
  obtain ⟨A0, c0, rfl, hcM⟩ := h0.int'
  obtain ⟨A1, c1, rfl⟩ := h1.shape
  obtain ⟨A2, c2, rfl⟩ := h2.shape
  obtain ⟨nM, hnM⟩ : ∃ nM, nM = M.length := ⟨_, rfl⟩
  obtain ⟨na, hna⟩ : ∃ na, na = a.length := ⟨_, rfl⟩
  obtain ⟨nb, hnb⟩ : ∃ nb, nb = b.length := ⟨_, rfl⟩
  rw [← hnM] at hm0 hcM ⊢
  rw [← hna] at hm1 ⊢
  rw [← hnb] at hm2 ⊢
  have HNM := hid hnM; have HNA := hid hna; have HNB := hid hnb; have HCM := hid hcM
  clear h0 h1 h2 hnM hna hnb hcM
  go_enter Try.func7, Try.ntmps7
  go_wp2_with fail
  refine (awake7_calls w).mono ?_
  rintro e w1 ⟨rfl, k1⟩
  have K1 := hid k1
  clear k1
  by_cases b0 : 300 < nM
  · go_wp2_with fail
    go_ret
    exact ⟨rfl, K1.out.below (Nat.le_refl _) (fun _ _ h => h)⟩
  by_cases b1 : 300 < na
  · go_wp2_with fail
    go_ret
    exact ⟨rfl, K1.out.below (Nat.le_refl _) (fun _ _ h => h)⟩
  by_cases b2 : 300 < nb
  · go_wp2_with fail
    go_ret
    exact ⟨rfl, K1.out.below (Nat.le_refl _) (fun _ _ h => h)⟩
  have hp1 := most_any (H0.out.keep K1.out (fun _ _ => id)) (by have := HNM.out; omega) (H1.out.keep K1.out (fun _ _ => id))
  rw [← HNM.out, ← HNA.out] at hp1
  obtain ⟨x, hx⟩ : ∃ x, x = mostB M a := ⟨_, rfl⟩
  obtain ⟨y, hy⟩ : ∃ y, y = mostB M b := ⟨_, rfl⟩
  rw [← hx] at hp1
  have HX := hid hx; have HY := hid hy
  clear hx hy
  go_wp2_with fail
  refine hp1.mono ?_
  rintro e w2 ⟨rfl, k2⟩
  have K2 := hid (K1.out.trans k2 (fun _ _ h => h))
  have hp2 := most_any (H0.out.keep K2.out (fun _ _ => id)) (by have := HNM.out; omega) (H2.out.keep K2.out (fun _ _ => id))
  rw [← HNM.out, ← HNB.out, ← HY.out] at hp2
  clear k2 hp1
  go_wp2_with fail
  refine hp2.mono ?_
  rintro e w3 ⟨rfl, k3⟩
  have K3 := hid (K2.out.trans k3 (fun _ _ h => h))
  have hr1 := rmost_calls (M := M) (H0.out.keep K3.out (fun _ _ => id)) (by have := HNM.out; omega) (H1.out.keep K3.out (fun _ _ => id))
  rw [mostB_ref, ← HNM.out, ← HNA.out, ← HX.out] at hr1
  have hxx : (x != x) = false := by simp
  have hyy : (y != y) = false := by simp
  clear k3 hp2
  go_wp2_with fail
  refine hr1.mono ?_
  rintro e w4 ⟨rfl, k4⟩
  have K4 := hid (K3.out.trans k4 (fun _ _ h => h))
  have hr2 := rmost_calls (M := M) (H0.out.keep K4.out (fun _ _ => id)) (by have := HNM.out; omega) (H2.out.keep K4.out (fun _ _ => id))
  rw [mostB_ref, ← HNM.out, ← HNB.out, ← HY.out] at hr2
  clear k4 hr1
  go_wp2_with fail
  refine hr2.mono ?_
  rintro e w5 ⟨rfl, k5⟩
  have K5 := hid (K4.out.trans k5 (fun _ _ h => h))
  have hq1 := quorum_calls (H0.out.keep K5.out (fun _ _ => id)) (by have := HNM.out; omega)
  have hq2 := rquorum_calls (H0.out.keep K5.out (fun _ _ => id)) (by have := HNM.out; omega)
  rw [← HNM.out] at hq1 hq2
  obtain ⟨q, hq⟩ : ∃ q, q = quoN M := ⟨_, rfl⟩
  rw [← hq] at hq1 hq2
  have hqq : ((q : Int) != (q : Int)) = false := by simp
  clear k5 hr2 hq
  go_wp2_with fail
  refine hq1.mono ?_
  rintro e w' ⟨rfl, rfl⟩
  go_wp2_with fail
  refine hq2.mono ?_
  rintro e w' ⟨rfl, rfl⟩
  clear hq1 hq2
  cases x with
  | false =>
    go_wp2_with fail
    go_ret
    exact ⟨rfl, K5.out.below (Nat.le_refl _) (fun _ _ h => h)⟩
  | true =>
    cases y with
    | false =>
      go_wp2_with fail
      go_ret
      exact ⟨rfl, K5.out.below (Nat.le_refl _) (fun _ _ h => h)⟩
    | true =>
      have hmy := rmay_calls (H0.out.keep K5.out (fun _ _ => id))
      rw [← HNM.out] at hmy
      go_wp2_with fail
      refine hmy.mono ?_
      rintro e w6 ⟨rfl, z, rfl⟩
      clear hmy
      cases hb : mayB M with
      | false =>
        go_wp2_with fail
        go_ret
        exact ⟨rfl, (K5.out.drewN z).below (Nat.le_refl _) (fun _ _ h => h)⟩
      | true =>
        have K6 := hid (K5.out.drewN z)
        have HB := hid hb
        clear hb
        generalize w5.drewN z = w6 at *
        go_wp2_with fail
        go_loop [9] (fun i => ∃ k : Nat, k ≤ nM ∧ i = .int .i64 k ∧ ∀ j, j < k → ¬ (M.getD j 0 ∈ a ∧ M.getD j 0 ∈ b)) (fun i => nM - (intOf i).toNat)
        case atStart => exact ⟨0, Nat.zero_le _, rfl, fun j hj => by omega⟩
        case round =>
          obtain ⟨k, hk, rfl, hno⟩ := hrel
          have HNO := hid hno
          clear hno
          by_cases hlt : k < nM
          · obtain ⟨bb, off, rfl, _, hcc⟩ := HCM.out (by omega)
            have hcell := K6.out.cell (hcc k hlt) id
            obtain ⟨u, hu⟩ : ∃ u, u = M.getD k 0 := ⟨_, rfl⟩
            rw [← hu] at hcell
            have hh1 := has_calls (H1.out.keep K6.out (fun _ _ => id)) u
            have hh2 := has_calls (H2.out.keep K6.out (fun _ _ => id)) u
            rw [← HNA.out] at hh1
            rw [← HNB.out] at hh2
            have HU := hid hu
            clear hu hcc
            by_cases hua : u ∈ a
            · rw [decide_eq_true hua] at hh1
              by_cases hub : u ∈ b
              · rw [decide_eq_true hub] at hh2
                clear hua hub
                go_wp2_with fail
                refine hh1.mono ?_
                rintro e w' ⟨rfl, rfl⟩
                go_wp2_with fail
                refine hh2.mono ?_
                rintro e w' ⟨rfl, rfl⟩
                go_wp2_with fail
                go_ret
                exact ⟨rfl, K6.out.below (Nat.le_refl _) (fun _ _ h => h)⟩
              · rw [decide_eq_false hub] at hh2
                have HUB := hid hub
                clear hua hub
                go_wp2_with fail
                refine hh1.mono ?_
                rintro e w' ⟨rfl, rfl⟩
                go_wp2_with fail
                refine hh2.mono ?_
                rintro e w' ⟨rfl, rfl⟩
                go_wp2_with fail
                refine ⟨⟨k + 1, by omega, by simp, fun j hj => ?_⟩, by simp [intOf]; omega⟩
                by_cases hjk : j < k
                · exact HNO.out j hjk
                · obtain rfl : j = k := by omega
                  rw [← HU.out]; exact fun h => HUB.out h.2
            · rw [decide_eq_false hua] at hh1
              have HUA := hid hua
              clear hua hh2
              go_wp2_with fail
              refine hh1.mono ?_
              rintro e w' ⟨rfl, rfl⟩
              go_wp2_with fail
              refine ⟨⟨k + 1, by omega, by simp, fun j hj => ?_⟩, by simp [intOf]; omega⟩
              by_cases hjk : j < k
              · exact HNO.out j hjk
              · obtain rfl : j = k := by omega
                rw [← HU.out]; exact fun h => HUA.out h.1
          · obtain rfl : k = nM := by omega
            refine (meets2 (mayB.good HB.out) HX.out.symm HY.out.symm (fun x hx hxa hxb => ?_)).elim
            obtain ⟨j, hj⟩ := List.getElem?_of_mem hx
            have hjl := (List.getElem?_eq_some_iff.1 hj).1
            refine HNO.out j (by rw [HNM.out]; exact hjl) ?_
            rw [List.getD_eq_getElem?_getD, hj]
            exact ⟨hxa, hxb⟩
end Go.Proofs.Ytbkgobdpgokbaaa

/- net: a net of the call's own; wapentakelaw24: nack, awake, NetKnown. -/
import Derived.Test.YtofljidmdabkcaaNetU
namespace Go.Proofs.Ytofljidmdabkcaa
open Go.RowKit Go.Lib
/-- A net whose blocks lie at B or behind, none of them of E. -/
def NetQ (B : Nat) (E : Nat → Prop) (w : World) (g : Nat) (most : Int) (L : List Msg) : Prop :=
  ∃ F, NetAt 56 F w g most L ∧ (∀ k, F k → B ≤ k ∧ ¬ E k) ∧ ∀ k, E k → k < w.heap.size
def OutN (B : Nat) (E : Nat → Prop) (k : Nat) : Prop := B ≤ k ∧ ¬ E k
section
variable {B : Nat} {E E' S G : Nat → Prop} {w w' : World} {g : Nat} {most : Int} {L : List Msg} {m : Msg} {ms : List Value} {k : Int}
theorem NetQ.keepE (h : NetQ B E w g most L) (hk : Keep S w w') (hS : ∀ k, k < w.heap.size → S k → B ≤ k → E k) : NetQ B E w' g most L := by
  obtain ⟨F, h1, h2, h3⟩ := h
  exact ⟨F, h1.keep hk (fun q hq s => (h2 q hq).2 (hS q (h1.lt q hq) s (h2 q hq).1)), h2, fun q hq => Nat.lt_of_lt_of_le (h3 q hq) hk.size⟩
theorem NetQ.keepF (h : NetQ B E w g most L) (hk : Keep (fun _ => False) w w') : NetQ B E w' g most L := h.keepE hk (fun _ _ f => f.elim)
theorem NetQ.withE (h : NetQ B E w g most L) (hk : Keep (fun _ => False) w w') (hE : ∀ k, E' k → E k ∨ (w.heap.size ≤ k ∧ k < w'.heap.size)) : NetQ B E' w' g most L := by
  obtain ⟨F, h1, h2, h3⟩ := h
  have hs := hk.size
  refine ⟨F, h1.keepF hk, fun q hq => ⟨(h2 q hq).1, fun e => ?_⟩, fun q hq => ?_⟩
  · rcases hE q e with e | e
    · exact (h2 q hq).2 e
    · have := h1.lt q hq; omega
  · rcases hE q hq with e | e
    · have := h3 q e; omega
    · exact e.2
theorem NetQ.len (h : NetQ B E w g most L) : Calls Try.prog 11 #[.pointer (some ⟨g, 0, none⟩)] w fun e w' => e = .returned (.int .i64 L.length) ∧ w = w' := by
  obtain ⟨F, h1, h2, h3⟩ := h
  exact nlen_calls h1
theorem NetQ.le (h : NetQ B E w g most L) : (L.length : Int) ≤ most ∧ most ≤ 100000 := by obtain ⟨F, h1, h2, h3⟩ := h; exact h1.le
theorem NetQ.grown {F : Nat → Prop} (h1 : NetAt 56 (Grow F w w') w' g most L) (hF : ∀ k, F k → B ≤ k ∧ ¬ E k) (hB : B ≤ w.heap.size) (hE : ∀ k, E k → k < w.heap.size) (hs : w.heap.size ≤ w'.heap.size) : NetQ B E w' g most L :=
  ⟨_, h1, fun q hq => by
    rcases hq with hq | hq
    · exact hF q hq
    · exact ⟨by omega, fun e => by have := hE q e; omega⟩, fun q hq => Nat.lt_of_lt_of_le (hE q hq) hs⟩
theorem NetQ.send (h : NetQ B E w g most L) (hB : B ≤ w.heap.size) (hm : Rep.msg.cells w G m ms) (hG : ∀ q, G q → q < w.heap.size) (hf : m.Fits) :
    Calls Try.prog 9 #[.pointer (some ⟨g, 0, none⟩), .agg ms.toArray] w fun e w' => e = .returned (.bool (sendB most L m)) ∧ NetQ B E w' g most (if sendB most L m then L ++ [m] else L) ∧ Keep (OutN B E) w w' := by
  obtain ⟨F, h1, h2, h3⟩ := h
  refine (nsend_calls h1 hm hG hf).mono ?_
  rintro e w' ⟨he, hn, hk⟩
  exact ⟨he, NetQ.grown hn h2 hB h3 hk.size, hk.mono (fun q _ s => h2 q s)⟩
theorem NetQ.twice (h : NetQ B E w g most L) (hB : B ≤ w.heap.size) (hk : okI k) :
    Calls Try.prog 12 #[.pointer (some ⟨g, 0, none⟩), .int .i64 k] w fun e w' => e = .returned (.bool (twB most L k)) ∧ NetQ B E w' g most (if twB most L k then L ++ [takeM L k] else L) ∧ Keep (OutN B E) w w' := by
  obtain ⟨F, h1, h2, h3⟩ := h
  refine (ntwice_calls h1 hk).mono ?_
  rintro e w' ⟨he, hn, hk⟩
  exact ⟨he, NetQ.grown hn h2 hB h3 hk.size, hk.mono (fun q _ s => h2 q s)⟩
theorem NetQ.take (h : NetQ B E w g most L) (hk : okI k) :
    Calls Try.prog 14 #[.pointer (some ⟨g, 0, none⟩), .int .i64 k] w fun e w' => ∃ cs, e = .returned (.tuple #[.agg cs.toArray, .bool (decide (0 < L.length))]) ∧ Rep.msg.cells w' (OutN B E) (takeM L k) cs ∧ NetQ B E w' g most (L.eraseIdx (placeN k L.length)) ∧ Keep (OutN B E) w w' := by
  obtain ⟨F, h1, h2, h3⟩ := h
  refine (ntake_calls h1 hk).mono ?_
  rintro e w' ⟨cs, he, hm, hn, hk⟩
  exact ⟨cs, he, Rep.msg.mono hm (fun q hq => h2 q hq.1), ⟨F, hn, h2, fun q hq => Nat.lt_of_lt_of_le (h3 q hq) hk.size⟩, hk.mono (fun q _ s => h2 q s)⟩
theorem NetQ.lose (h : NetQ B E w g most L) (hk : okI k) :
    Calls Try.prog 17 #[.pointer (some ⟨g, 0, none⟩), .int .i64 k] w fun e w' => e = .returned (.bool (decide (0 < L.length))) ∧ NetQ B E w' g most (L.eraseIdx (placeN k L.length)) ∧ Keep (OutN B E) w w' := by
  obtain ⟨F, h1, h2, h3⟩ := h
  refine (nlose_calls h1 hk).mono ?_
  rintro e w' ⟨he, hn, hk⟩
  exact ⟨he, ⟨F, hn, h2, fun q hq => Nat.lt_of_lt_of_le (h3 q hq) hk.size⟩, hk.mono (fun q _ s => h2 q s)⟩
theorem NetQ.all (h : NetQ B E w g most L) : Calls Try.prog 13 #[.pointer (some ⟨g, 0, none⟩)] w (AllPost w L) := by
  obtain ⟨F, h1, h2, h3⟩ := h
  exact nall_calls h1
theorem newNetQ (n : Int) (h1 : 1 ≤ n) (h2 : n ≤ 100000) (hB : B ≤ w.heap.size) :
    Calls Try.prog 7 #[.int .i64 n] w fun e w' => ∃ g, e = .returned (.tuple #[.pointer (some ⟨g, 0, none⟩), .int .i64 0]) ∧ NetQ B (fun _ => False) w' g n [] ∧ Keep (fun _ => False) w w' := by
  refine (newNet_calls n h1 h2).mono ?_
  rintro e w' ⟨g, he, hn, hk⟩
  exact ⟨g, he, ⟨_, hn, fun q hq => ⟨by have := hq.1; omega, id⟩, fun _ f => f.elim⟩, hk⟩
def nackM (n : Int) : Msg := ⟨5, 1, 2, n, 0, 0, reqZ', [], [], 0, verdictZ⟩
abbrev nackC (n : Int) : List Value := msgCs (nackM n) nilV nilV nilV nilV
theorem nack_ok (n : Int) (hn : okI n) : (nackM n).Ok := by
  have h : okI 0 := ⟨by decide, by decide⟩
  have h5 : okI 5 := ⟨by decide, by decide⟩
  have h1 : okI 1 := ⟨by decide, by decide⟩
  have h2 : okI 2 := ⟨by decide, by decide⟩
  exact ⟨h5, h1, h2, hn, h, h, ⟨h, h, h, h, h, h, h⟩, h, ⟨h, h, h, Nat.zero_le _, h⟩⟩
theorem nack_cells (w : World) (F : Nat → Prop) (n : Int) (hn : okI n) : Rep.msg.cells w F (nackM n) (nackC n) := msg_mk (nilSl _ _ _) (nilSl _ _ _) (nilSl _ _ _) (nilSl _ _ _) (nack_ok n hn)
theorem nack_fits (n : Int) : (nackM n).Fits := ⟨Nat.zero_le _, Nat.zero_le _, Nat.zero_le _, Nat.zero_le _, fun x hx => by simp [nackM] at hx, fun x hx => by simp [nackM, verdictZ] at hx⟩
theorem nackL (n : Int) : MsgL (nackC n) := ⟨rfl, by simp [nackC, msgCs, reqCs, verdictCs, nilV, Value.oneCell']⟩
set_option maxRecDepth 20000 in
theorem nack_calls (n : Int) : Calls Try.prog 16 #[.int .i64 n] w fun e w' => e = .returned (.agg (nackC n).toArray) ∧ Keep (fun _ => False) w w' := by
  go_enter Try.func16, Try.ntmps16
  go_wp2_with (first
    | (refine wpl_allocB (z := zM) rfl rfl (by kernel_rfl) ?_; intro g1 w1 hg1 hb1 k1 s1; have HG1 := hid hg1; clear hg1)
    | (refine wpl_build rfl rfl (nackC n).toArray (by kernel_rfl) ?_)
    | (refine wpl_storeB (v := .agg (nackC n).toArray) rfl rfl rfl rfl hb1 (nackL n).info (nackL n).fit (nackL n).oneA ?_; intro w2 hb2 k2 s2))
  refine bodyPost_ret (res_cell (g := g1) (cs := (nackC n).toArray) Try.results16 _ rfl (hb2.trans ((nackL n).whole rfl)) (by kernel_rfl) (by kernel_rfl)) rfl ?_
  have e1 := HG1.out
  exact ⟨rfl, (k1.trans (k2.mono (T := fun k => k = g1) (fun _ _ e => e)) (fun b hb e => by omega))⟩
theorem nack_may : mchkB (nackM 1) = true ∧ mchkB (nackM 2) = true ∧ mchkB (nackM 3) = true := by decide +kernel
theorem nack_of {F : Nat → Prop} {n : Int} {cs : List Value} (h : Rep.msg.cells w F (nackM n) cs) : cs[3]? = some (.int .i64 n) := by
  obtain ⟨vc, vv, vi, vk, rfl, _⟩ := msg_cells h
  rfl
theorem ok_of (n : Int) (h : -1000000 ≤ n ∧ n ≤ 1000000) : okI n := ⟨by omega, by omega⟩
set_option maxRecDepth 20000 in
set_option maxHeartbeats 4000000 in
theorem awake24_calls (w : World) : Calls Try.prog 5 #[] w fun e w' => e = .returned (.bool true) ∧ Keep (fun _ => False) w w' := by
  obtain ⟨m1, m2, m3⟩ := nack_may
  have s1 : sendB 2 [] (nackM 1) = true := by rw [sendB, m1]; rfl
  have s2 : sendB 2 [nackM 1] (nackM 2) = true := by rw [sendB, m2]; rfl
  have s3 : sendB 2 [nackM 1, nackM 2] (nackM 3) = false := rfl
  have p1 : placeN (-1) 2 = 1 := by decide
  have p2 : placeN 0 1 = 0 := by decide
  have t1 : takeM [nackM 1, nackM 2] (-1) = nackM 2 := by rw [takeM]; show ([nackM 1, nackM 2][placeN (-1) 2]?).getD msgZ = _; rw [p1]; rfl
  have t2 : takeM [nackM 1] 0 = nackM 1 := by rw [takeM]; show ([nackM 1][placeN 0 1]?).getD msgZ = _; rw [p2]; rfl
  have s4 : twB 2 [nackM 1] 0 = true := by rw [twB, t2, sendB, m1]; rfl
  have S1 := hid s1; have S2 := hid s2; have S3 := hid s3; have S4 := hid s4; have P1 := hid p1; have T1 := hid t1; have T2 := hid t2
  clear s1 s2 s3 s4 p1 p2 t1 t2 m1 m2 m3
  go_enter Try.func5, Try.ntmps5
  go_wp2_with fail
  refine (newNetQ (B := w.heap.size) 2 (by decide) (by decide) (Nat.le_refl _)).mono ?_
  rintro e w1 ⟨g, rfl, hn1, k1⟩
  have HN1 := hid hn1; have K1 := hid k1
  clear hn1 k1
  go_wp2_with fail
  refine (nack_calls 1).mono ?_
  rintro e w2 ⟨rfl, k2⟩
  have HN2 := hid (HN1.out.keepF k2); have K2 := hid (K1.out.trans k2 (fun _ _ f => f))
  clear k2
  go_wp2_with fail
  refine (HN2.out.send K2.out.size (nack_cells w2 (fun _ => False) 1 (ok_of 1 (by decide))) (fun _ f => f.elim) (nack_fits 1)).mono ?_
  rintro e w3 ⟨rfl, hn3, k3⟩
  rw [S1.out] at hn3 ⊢
  have HN3 := hid (show NetQ _ _ w3 g 2 [nackM 1] from hn3); have K3 := hid ((K2.out.mono (T := fun k => w.heap.size ≤ k) (fun _ _ f => f.elim)).trans k3 (fun _ _ e => e.1))
  clear hn3 k3
  go_wp2_with fail
  refine (nack_calls 2).mono ?_
  rintro e w4 ⟨rfl, k4⟩
  have HN4 := hid (HN3.out.keepF k4); have K4 := hid (K3.out.trans k4 (fun _ _ f => f.elim))
  clear k4
  go_wp2_with fail
  refine (HN4.out.send K4.out.size (nack_cells w4 (fun _ => False) 2 (ok_of 2 (by decide))) (fun _ f => f.elim) (nack_fits 2)).mono ?_
  rintro e w5 ⟨rfl, hn5, k5⟩
  rw [S2.out] at hn5 ⊢
  have HN5 := hid (show NetQ _ _ w5 g 2 [nackM 1, nackM 2] from hn5); have K5 := hid (K4.out.trans k5 (fun _ _ e => e.1))
  clear hn5 k5
  go_wp2_with fail
  refine (nack_calls 3).mono ?_
  rintro e w6 ⟨rfl, k6⟩
  have HN6 := hid (HN5.out.keepF k6); have K6 := hid (K5.out.trans k6 (fun _ _ f => f.elim))
  clear k6
  go_wp2_with fail
  refine (HN6.out.send K6.out.size (nack_cells w6 (fun _ => False) 3 (ok_of 3 (by decide))) (fun _ f => f.elim) (nack_fits 3)).mono ?_
  rintro e w7 ⟨rfl, hn7, k7⟩
  rw [S3.out] at hn7 ⊢
  have HN7 := hid (show NetQ _ _ w7 g 2 [nackM 1, nackM 2] from hn7); have K7 := hid (K6.out.trans k7 (fun _ _ e => e.1))
  clear hn7 k7
  go_wp2_with fail
  refine (HN7.out.take (ok_of (-1) (by decide))).mono ?_
  rintro e w8 ⟨cs, rfl, hm8, hn8, k8⟩
  rw [T1.out] at hm8
  have hn8' : NetQ w.heap.size (fun _ => False) w8 g 2 [nackM 1] := by
    rw [show placeN (-1) [nackM 1, nackM 2].length = 1 from P1.out] at hn8
    exact hn8
  have HL8 := hid (MsgL.of hm8); have HC8 := hid (nack_of hm8)
  have HN8 := hid hn8'; have K8 := hid (K7.out.trans k8 (fun _ _ e => e.1))
  have htr : decide (0 < [nackM 1, nackM 2].length) = true := rfl
  rw [htr]
  clear hn8 hn8' k8 hm8 htr
  go_wp2_with (first
    | (refine wpl_allocB (z := zM) rfl rfl (by kernel_rfl) ?_; intro g3 w9 hg9 hb9 k9 s9; have HG9 := hid hg9; have K9 := hid k9; clear hg9 k9 s9)
    | (refine wpl_storeB (v := .agg cs.toArray) rfl rfl rfl rfl hb9 HL8.out.info HL8.out.fit HL8.out.oneA ?_; intro w10 hb10 k10 s10; replace hb10 := hb10.trans (HL8.out.whole rfl); have K10 := hid k10; clear k10 s10; have q3 := cell_at hb10 3 (.int .i64 2) (by have := HC8.out; simpa using this)))
  have e9 := HG9.out
  have k810 : Keep (fun _ => False) w8 w10 := K9.out.trans K10.out (fun b hb e => by omega)
  have HN10 := hid (HN8.out.keepF k810); have K10' := hid (K8.out.trans k810 (fun _ _ f => f.elim))
  clear k810 hb9 hb10
  refine (HN10.out.twice K10'.out.size (ok_of 0 (by decide))).mono ?_
  rintro e w11 ⟨rfl, hn11, k11⟩
  rw [S4.out, T2.out] at hn11
  rw [S4.out]
  have HN11 := hid (show NetQ _ _ w11 g 2 [nackM 1, nackM 1] from hn11); have K11 := hid (K10'.out.trans k11 (fun _ _ e => e.1))
  clear hn11 k11 q3
  go_wp2_with fail
  refine HN11.out.len.mono ?_
  rintro e w' ⟨rfl, rfl⟩
  go_wp2_with fail
  go_ret
  exact ⟨rfl, K11.out.mono (fun q hq e => by omega)⟩
end
end Go.Proofs.Ytofljidmdabkcaa

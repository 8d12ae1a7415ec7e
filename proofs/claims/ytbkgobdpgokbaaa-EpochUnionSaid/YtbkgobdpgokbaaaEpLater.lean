/- wapentakelaw7.EpochLater: the walk. -/
import Derived.Test.YtbkgobdpgokbaaaEpDeed
import Derived.Test.YtbkgobdpgokbaaaEpIter
namespace Go.Proofs.Ytbkgobdpgokbaaa
open Go.RowKit
theorem chM_has {M : List Int} {m : Int} {add : Bool} (hm : 0 ≤ m ∧ m < 15) : decide (m ∈ chM M m add) = add := by
  rw [Bool.eq_iff_iff, decide_eq_true_iff, chM, memL_mem]
  simp [hm]
theorem chM_len {M : List Int} {m : Int} {add : Bool} (h : mayP M) (hm : 0 ≤ m ∧ m < 15) (hh : if add = true then m ∉ M else m ∈ M ∧ M.length ≠ 1) : (chM M m add).length = if add = true then M.length + 1 else M.length - 1 := by
  cases add with
  | true =>
    simp only [if_true] at hh ⊢
    rw [chM_add, ← ins_mem h hm hh, insAt_len _ _ _ List.countP_le_length]
  | false =>
    simp only [Bool.false_eq_true, if_false] at hh ⊢
    obtain ⟨h1, h2⟩ := del_mem h hh.1
    rw [chM_del, ← h1, delAt]
    simp; omega
set_option maxRecDepth 20000 in
set_option maxHeartbeats 4000000 in
theorem epochLater_calls {w : World} {v0 v2 : Value} {M : List Int} {d : EDeed} (h0 : Row (fun k => k < w.heap.size) w v0 M.length 1 (M.map I64)) (hw0 : ∀ n ∈ M, (Lit.int .i64 n).wf = true) (al : Int) (_hal : (Lit.int .i64 al).wf = true) (h2 : EDeedIs v2 d) :
    Calls Try.prog 3 #[v0, .int .i64 al, v2] w fun e w' => e = .returned (.bool true) ∧ Below w.heap.size w w' := by
  obtain ⟨rfl, hos, hom⟩ := h2
  obtain ⟨do_, slot, m, add⟩ := d
  simp only [edeedCs] at hos hom ⊢
  have hm0 : M.length ≤ 9223372036854775807 := by obtain ⟨_, _, _, _, q1, q2, _⟩ := h0; unfold maxLen at q2; omega
  have H0 := hid h0
  obtain ⟨A0, c0, rfl⟩ := h0.shape
  obtain ⟨n, hn⟩ : ∃ n, n = M.length := ⟨_, rfl⟩
  rw [← hn] at hm0 H0 ⊢
  have HN := hid hn
  have HOK := hid (fun y hy => okI.of (hw0 y hy))
  clear h0 hn hw0
  go_enter Try.func3, Try.ntmps3
  go_wp2_with fail
  have hd0 := heap_alloc_new w (.cells #[.int .i64 do_, .int .i64 slot, .int .i64 m, .bool add] 24)
  have ka := (Keep.refl (fun _ => False) w).alloc (.cells #[.int .i64 do_, .int .i64 slot, .int .i64 m, .bool add] 24)
  have hwb : w.heap.size ≤ (w.alloc (.cells #[.int .i64 do_, .int .i64 slot, .int .i64 m, .bool add] 24)).heap.size := by simp
  generalize w.alloc (.cells #[.int .i64 do_, .int .i64 slot, .int .i64 m, .bool add] 24) = wa at *
  obtain ⟨db, hdb⟩ : ∃ db, db = w.heap.size := ⟨_, rfl⟩
  rw [← hdb] at hd0 ⊢
  have HDB := hid hdb
  clear hdb
  refine (awake7_calls wa).mono ?_
  rintro e w1 ⟨rfl, k1⟩
  have K1 := hid (ka.trans k1 (fun _ _ h => h))
  have hd1 := k1.heap hd0 id
  have HD1 := hid hd1
  have e1 := cell_at hd1 1 (.int .i64 slot) rfl
  have e2 := cell_at hd1 2 (.int .i64 m) rfl
  have e3 := cell_at hd1 3 (.bool add) rfl
  have hdl := lt_heap hd1
  clear k1 hd0 ka hd1
  by_cases b0 : 100 < n
  · go_wp2_with fail
    go_ret
    exact ⟨rfl, K1.out.below (Nat.le_refl _) (fun _ _ h => h)⟩
  have hr1 := H0.out.keep K1.out (fun _ _ => id)
  cases hne : newE M al with
  | false =>
    have hb := enew_bad (by rw [HN.out] at hr1; exact hr1) hne
    rw [← HN.out] at hb
    clear hne hr1
    go_wp2_with fail
    refine hb.mono ?_
    rintro e w' ⟨rfl, rfl⟩
    go_wp2_with fail
    go_ret
    exact ⟨rfl, K1.out.below (Nat.le_refl _) (fun _ _ h => h)⟩
  | true =>
    have hnw := enew_calls (B := w1.heap.size) (Nat.le_refl _) (by rw [HN.out] at hr1; exact hr1) HOK.out hne
    rw [← HN.out] at hnw
    have hok0 := newE_ok hne
    have hal1 := hok0.1; have hal8 := hok0.2.1
    have hmy := (hok0.2.2.2 (0, M) (by simp)).1
    simp only at hmy
    have HMY := hid hmy
    clear hne hr1 hok0 hmy
    go_wp2_with fail
    refine hnw.mono ?_
    rintro e w2 ⟨g, rfl, hE, k2⟩
    have hE2 : EpAt (fun k => w1.heap.size ≤ k ∧ k < w2.heap.size) w2 g al [(0, M)] := by
      obtain ⟨v, G, h1, ⟨cs, q1, q2, q3⟩, h3, h4, h5⟩ := hE
      exact ⟨v, G, h1, ⟨cs, q1, q2, fun b hb => ⟨⟨⟨(q3 b hb).1.1, own_lt' q1 b hb⟩, (q3 b hb).1.2⟩, (q3 b hb).2⟩⟩, fun b hb => ⟨⟨(h3 b hb).1, (h3 b hb).2.2⟩, (h3 b hb).2⟩, ⟨h4, lt_heap h1⟩, h5⟩
    have K2 := hid (K1.out.trans k2 (fun _ _ h => h))
    have hd2 := k2.heap HD1.out id
    have HD2 := hid hd2
    have f1 := cell_at hd2 1 (.int .i64 slot) rfl
    have f2 := cell_at hd2 2 (.int .i64 m) rfl
    have f3 := cell_at hd2 3 (.bool add) rfl
    have hch := changeB hE2 slot m hos hom add (by simp)
    obtain ⟨r, hr⟩ : ∃ r, r = chE al [(0, M)] slot m add := ⟨_, rfl⟩
    rw [← hr] at hch
    have HR := hid hr
    clear hnw hE k2 e1 e2 e3 hd2 hr hE2
    go_wp2_with fail
    refine hch.mono ?_
    rintro e w3 ⟨rfl, hE3, k3⟩
    have k3w : Keep (fun _ => False) w w3 := K2.out.trans k3 (fun b hb h => by have := K1.out.size; omega)
    have hd3 := k3.heap HD2.out (fun q => by have := HDB.out; have := hdl; omega)
    have HD3 := hid hd3
    have HK3 := hid k3w
    have q1 := cell_at hd3 1 (.int .i64 slot) rfl
    have q2 := cell_at hd3 2 (.int .i64 m) rfl
    have q3 := cell_at hd3 3 (.bool add) rfl
    by_cases hr0 : r = 0
    case neg =>
      have hL : chL al [(0, M)] slot m add = [(0, M)] := by rw [chL, if_neg (by rw [← HR.out]; exact hr0)]
      rw [hL] at hE3
      have hat := eAt_calls hE3 slot (by simp)
      have hat2 : (atE [(0, M)] slot).2 = M := by
        have : atP [(0, M)] slot 1 = 0 := by simp [atP]
        simp [atE, this]
      rw [hat2] at hat
      have hdr : (r != 0) = true := by simp [hr0]
      have HE3 := hid hE3
      clear hch hd3 k3 k3w hL hat2 hE3 f1 f2 f3 hr0
      rw [← HN.out] at hat
      go_wp2_with fail
      refine hat.mono ?_
      rintro e w4 ⟨g4, c4, rfl, ho4, _, k4⟩
      have K4 := hid (HK3.out.trans k4 (fun _ _ h => h))
      have hsi := sameInts_calls (v := .slice (some ⟨g4, 0, none⟩) n c4) (v2 := .slice A0 n c0) (l := M) (l2 := M) (by rw [← HN.out]; exact Row.ofOwn ho4) (by rw [← HN.out]; exact H0.out.keep K4.out (fun _ _ => id))
      rw [decide_eq_true rfl] at hsi
      have HE4 := hid (HE3.out.keepB k4)
      clear hat ho4 k4
      go_wp2_with fail
      refine hsi.mono ?_
      rintro e w5 ⟨rfl, z, rfl⟩
      have hE5 := HE4.out.keepB ((Keep.refl (fun _ => False) w4).drewN z)
      have hli := list_in hE5 (fun k hk => hk.2) (by simp)
      have K5 := hid (K4.out.drewN z)
      clear hsi hE5
      go_wp2_with fail
      refine hli.mono ?_
      rintro e w6 ⟨v6, rfl, hO6, k6⟩
      obtain ⟨A6, c6, rfl⟩ := hO6.sl.shape
      have K6 := hid (K5.out.trans k6 (fun _ _ h => h))
      clear hli hO6 k6
      go_wp2_with fail
      go_ret
      exact ⟨rfl, K6.out.below (Nat.le_refl _) (fun _ _ h => h)⟩
    have hz := HR.out
    rw [hr0] at hz
    obtain ⟨⟨s0, s1, m0, m15⟩, s2, s3⟩ := chE_zero.1 hz.symm
    have hlast : lastE [(0, M)] = (0, M) := rfl
    rw [hlast] at s2 s3
    simp only at s2 s3
    have hL : chL al [(0, M)] slot m add = [(0, M), (slot + al, chM M m add)] := by rw [chL, if_pos hz.symm, hlast]; rfl
    rw [hL] at hE3
    have ha1 : (atE [(0, M), (slot + al, chM M m add)] (slot + al - 1)).2 = M := by
      have : atP [(0, M), (slot + al, chM M m add)] (slot + al - 1) 2 = 0 := by
        rw [atP, atP, atP]
        have : ¬ (slot + al ≤ slot + al - 1) := by omega
        simp [this]
      simp [atE, this]
    have ha2 : (atE [(0, M), (slot + al, chM M m add)] (slot + al)).2 = chM M m add := by
      have : atP [(0, M), (slot + al, chM M m add)] (slot + al) 2 = 1 := by
        rw [atP]
        simp
      simp [atE, this]
    have hat1 := eAt_calls hE3 (slot + al - 1) (by simp)
    rw [ha1, ← HN.out] at hat1
    have hmy2 := chM_may (add := add) HMY.out ⟨m0, m15⟩ (fun e => by subst e; simp at s3; exact s3.2)
    have hhas := chM_has (M := M) (add := add) ⟨m0, m15⟩
    have hlen := chM_len HMY.out ⟨m0, m15⟩ s3
    have hmh : decide (m ∈ M) = !add := by
      cases add with
      | true => simp at s3; simp [s3]
      | false => simp at s3; simp [s3.1]
    obtain ⟨M2, hM2⟩ : ∃ M2, M2 = chM M m add := ⟨_, rfl⟩
    rw [← hM2] at hE3 ha2 hmy2 hhas hlen
    obtain ⟨n2, hn2⟩ : ∃ n2, n2 = M2.length := ⟨_, rfl⟩
    rw [← hn2] at hlen
    have HN2 := hid hn2; have HA2 := hid ha2; have HMY2 := hid hmy2; have HHAS := hid hhas; have HLEN := hid hlen; have HMH := hid hmh; have HE3 := hid hE3
    have HM1 := hid hmy2.2.1
    subst hr0
    clear hch hd3 k3 k3w hL hE3 f1 f2 f3 hz s2 s3 hlast ha1 ha2 hmy2 hhas hlen hmh hM2 hn2
    go_wp2_with fail
    refine hat1.mono ?_
    rintro e w4 ⟨g4, c4, rfl, ho4, _, k4⟩
    have K4 := hid (HK3.out.trans k4 (fun _ _ h => h))
    have hd4 := k4.heap HD3.out id
    have r1 := cell_at hd4 1 (.int .i64 slot) rfl
    have hat2 := eAt_calls (HE3.out.keepB k4) (slot + al) (by simp)
    rw [HA2.out, ← HN2.out] at hat2
    have HO4 := hid ho4; have HD4 := hid hd4
    clear hat1 ho4 k4 q1 q2 q3 hd4
    go_wp2_with fail
    refine hat2.mono ?_
    rintro e w5 ⟨g5, c5, rfl, ho5, _, k5⟩
    have K5 := hid (K4.out.trans k5 (fun _ _ h => h))
    have hd5 := k5.heap HD4.out id
    have t2 := cell_at hd5 2 (.int .i64 m) rfl
    have t3 := cell_at hd5 3 (.bool add) rfl
    have hrb := Row.ofOwn (k5.owns HO4.out (fun _ _ => id))
    have hra := Row.ofOwn ho5
    have hrm := H0.out.keep K5.out (fun _ _ => id)
    have S1 := fun z => sameInts_calls (v := .slice (some ⟨g4, 0, none⟩) n c4) (v2 := .slice A0 n c0) (l := M) (l2 := M) (by rw [← HN.out]; exact hrb.drewN z) (by rw [← HN.out]; exact hrm.drewN z)
    have S2 := fun z => has_calls (v := .slice (some ⟨g5, 0, none⟩) n2 c5) (l := M2) (by rw [← HN2.out]; exact hra.drewN z) m
    have S3 := fun z => has_calls (v := .slice A0 n c0) (l := M) (by rw [← HN.out]; exact hrm.drewN z) m
    have S4 := fun z => rmay_calls (v := .slice (some ⟨g5, 0, none⟩) n2 c5) (l := M2) (by rw [← HN2.out]; exact hra.drewN z)
    rw [decide_eq_true (rfl : M = M)] at S1
    rw [HHAS.out] at S2
    rw [HMH.out] at S3
    rw [show mayB M2 = true from decide_eq_true HMY2.out] at S4
    have hn15 := HMY.out.2.1
    have hn1 := HMY.out.1
    have hN := HN.out
    have hlen := HLEN.out
    clear hat2 ho5 k5 r1 hd5 hrb hra hrm
    cases add with
    | true =>
      simp only [if_true] at hlen
      have hl2 : n2 = n + 1 := by omega
      subst hl2
      have hbn : ((true : Bool) != false) = true := rfl
      have hwn : IntKind.i64.wrap ((n : Int) + 1) = (n : Int) + 1 := by rw [IntKind.wrap_i64]; omega
      clear hlen hN
      simp only [Bool.not_true] at S3
      go_wp2_with fail
      go_quiet ((first
        | (go_at_call 13; exact Calls.quiet_of (S1 _))
        | (go_at_call 16; first | with_reducible exact quietS (S2 _) | exact quietS (S3 _))
        | (go_at_call 17; exact Calls.quiet_of (S4 _))))
      go_wp2_with fail
      go_ret
      exact ⟨rfl, (K5.out.drewN _).below (Nat.le_refl _) (fun _ _ h => h)⟩
    | false =>
      simp only [Bool.false_eq_true, if_false] at hlen
      have hne : ((n2 : Int) == (n : Int) + 1) = false := by simp; omega
      have hwn : IntKind.i64.wrap ((n : Int) + 1) = (n : Int) + 1 := by rw [IntKind.wrap_i64]; omega
      clear hlen hN
      simp only [Bool.not_false] at S3
      go_wp2_with fail
      go_quiet ((first
        | (go_at_call 13; exact Calls.quiet_of (S1 _))
        | (go_at_call 16; first | with_reducible exact quietS (S2 _) | exact quietS (S3 _))
        | (go_at_call 17; exact Calls.quiet_of (S4 _))))
      go_wp2_with fail
      go_ret
      exact ⟨rfl, (K5.out.drewN _).below (Nat.le_refl _) (fun _ _ h => h)⟩
end Go.Proofs.Ytbkgobdpgokbaaa

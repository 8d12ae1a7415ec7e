/- wapentakeref11: own; Same, of a message and what its kind names. -/
import Derived.Test.YtofljidmdabkcaaGreatRChk1
import Derived.Test.YtofljidmdabkcaaGreatRChk2b
import Derived.Test.YtofljidmdabkcaaGreatMsgSm2
import Derived.Test.YtofljidmdabkcaaGreatMt
namespace Go.Proofs.YtofljidmdabkcaaGreat
open Go.RowKit Go.Lib
section
variable {F G : Nat → Prop} {w : World} {m : Msg}
abbrev ownK (m : Msg) : Msg := ownBy m (thr (hasK m.kind) 0) (thr (hasK m.kind) 1) (thr (hasK m.kind) 2) (thr (hasK m.kind) 3) (thr (hasK m.kind) 4) (thr (hasK m.kind) 5) (thr (hasK m.kind) 6) (thr (hasK m.kind) 7)
theorem hasK_out {k : Int} (h : ¬ (1 ≤ k ∧ k ≤ 14)) : hasK k = 0 := by
  unfold hasK
  rw [if_neg (by omega), if_neg (by omega), if_neg (by omega), if_neg (by omega), if_neg (by omega), if_neg (by omega), if_neg (by omega), if_neg (by omega), if_neg (by omega), if_neg (by omega), if_neg (by omega)]
theorem own11_calls {Ac Av Ai Ak : Option Addr} {cc cv ci ck : Nat} (h : MsgAt F w m Ac Av Ai Ak cc cv ci ck) (hk : hasK m.kind ≠ 0) : Calls Tryz.prog 45 #[.agg (msgCsA m Ac Av Ai Ak cc cv ci ck).toArray] w (Own11 F w (ownK m)) := by
  have h1 : 1 ≤ m.kind ∧ m.kind ≤ 14 := by
    by_cases h1 : 1 ≤ m.kind ∧ m.kind ≤ 14
    · exact h1
    · exact absurd (hasK_out h1) hk
  rcases (show m.kind = 1 ∨ m.kind = 2 ∨ m.kind = 3 ∨ m.kind = 4 ∨ m.kind = 5 ∨ m.kind = 6 ∨ m.kind = 7 ∨ m.kind = 8 ∨ m.kind = 9 ∨ m.kind = 10 ∨ m.kind = 11 ∨ m.kind = 12 ∨ m.kind = 13 ∨ m.kind = 14 by omega) with e | e | e | e | e | e | e | e | e | e | e | e | e | e
  · rw [ownK, e, show thr (hasK 1) 0 = true from by decide +kernel, show thr (hasK 1) 1 = true from by decide +kernel, show thr (hasK 1) 2 = false from by decide +kernel, show thr (hasK 1) 3 = false from by decide +kernel, show thr (hasK 1) 4 = false from by decide +kernel, show thr (hasK 1) 5 = false from by decide +kernel, show thr (hasK 1) 6 = false from by decide +kernel, show thr (hasK 1) 7 = false from by decide +kernel]
    exact own11_BS h (fun w => by rw [e]; exact has11_1)
  · rw [ownK, e, show thr (hasK 2) 0 = true from by decide +kernel, show thr (hasK 2) 1 = true from by decide +kernel, show thr (hasK 2) 2 = false from by decide +kernel, show thr (hasK 2) 3 = false from by decide +kernel, show thr (hasK 2) 4 = true from by decide +kernel, show thr (hasK 2) 5 = false from by decide +kernel, show thr (hasK 2) 6 = false from by decide +kernel, show thr (hasK 2) 7 = false from by decide +kernel]
    exact own11_BSL h (fun w => by rw [e]; exact has11_2)
  · rw [ownK, e, show thr (hasK 3) 0 = true from by decide +kernel, show thr (hasK 3) 1 = true from by decide +kernel, show thr (hasK 3) 2 = false from by decide +kernel, show thr (hasK 3) 3 = true from by decide +kernel, show thr (hasK 3) 4 = false from by decide +kernel, show thr (hasK 3) 5 = false from by decide +kernel, show thr (hasK 3) 6 = false from by decide +kernel, show thr (hasK 3) 7 = false from by decide +kernel]
    exact own11_BSV h (fun w => by rw [e]; exact has11_3)
  · rw [ownK, e, show thr (hasK 4) 0 = true from by decide +kernel, show thr (hasK 4) 1 = true from by decide +kernel, show thr (hasK 4) 2 = false from by decide +kernel, show thr (hasK 4) 3 = false from by decide +kernel, show thr (hasK 4) 4 = false from by decide +kernel, show thr (hasK 4) 5 = false from by decide +kernel, show thr (hasK 4) 6 = false from by decide +kernel, show thr (hasK 4) 7 = false from by decide +kernel]
    exact own11_BS h (fun w => by rw [e]; exact has11_4)
  · rw [ownK, e, show thr (hasK 5) 0 = true from by decide +kernel, show thr (hasK 5) 1 = false from by decide +kernel, show thr (hasK 5) 2 = false from by decide +kernel, show thr (hasK 5) 3 = false from by decide +kernel, show thr (hasK 5) 4 = false from by decide +kernel, show thr (hasK 5) 5 = false from by decide +kernel, show thr (hasK 5) 6 = false from by decide +kernel, show thr (hasK 5) 7 = false from by decide +kernel]
    exact own11_B h (fun w => by rw [e]; exact has11_5)
  · rw [ownK, e, show thr (hasK 6) 0 = false from by decide +kernel, show thr (hasK 6) 1 = true from by decide +kernel, show thr (hasK 6) 2 = false from by decide +kernel, show thr (hasK 6) 3 = true from by decide +kernel, show thr (hasK 6) 4 = false from by decide +kernel, show thr (hasK 6) 5 = false from by decide +kernel, show thr (hasK 6) 6 = false from by decide +kernel, show thr (hasK 6) 7 = false from by decide +kernel]
    exact own11_SV h (fun w => by rw [e]; exact has11_6)
  · rw [ownK, e, show thr (hasK 7) 0 = true from by decide +kernel, show thr (hasK 7) 1 = true from by decide +kernel, show thr (hasK 7) 2 = true from by decide +kernel, show thr (hasK 7) 3 = false from by decide +kernel, show thr (hasK 7) 4 = false from by decide +kernel, show thr (hasK 7) 5 = false from by decide +kernel, show thr (hasK 7) 6 = false from by decide +kernel, show thr (hasK 7) 7 = false from by decide +kernel]
    exact own11_BST h (fun w => by rw [e]; exact has11_7)
  · rw [ownK, e, show thr (hasK 8) 0 = true from by decide +kernel, show thr (hasK 8) 1 = true from by decide +kernel, show thr (hasK 8) 2 = true from by decide +kernel, show thr (hasK 8) 3 = false from by decide +kernel, show thr (hasK 8) 4 = false from by decide +kernel, show thr (hasK 8) 5 = false from by decide +kernel, show thr (hasK 8) 6 = false from by decide +kernel, show thr (hasK 8) 7 = false from by decide +kernel]
    exact own11_BST h (fun w => by rw [e]; exact has11_8)
  · rw [ownK, e, show thr (hasK 9) 0 = false from by decide +kernel, show thr (hasK 9) 1 = true from by decide +kernel, show thr (hasK 9) 2 = false from by decide +kernel, show thr (hasK 9) 3 = false from by decide +kernel, show thr (hasK 9) 4 = false from by decide +kernel, show thr (hasK 9) 5 = false from by decide +kernel, show thr (hasK 9) 6 = false from by decide +kernel, show thr (hasK 9) 7 = false from by decide +kernel]
    exact own11_S h (fun w => by rw [e]; exact has11_9)
  · rw [ownK, e, show thr (hasK 10) 0 = false from by decide +kernel, show thr (hasK 10) 1 = true from by decide +kernel, show thr (hasK 10) 2 = false from by decide +kernel, show thr (hasK 10) 3 = false from by decide +kernel, show thr (hasK 10) 4 = false from by decide +kernel, show thr (hasK 10) 5 = true from by decide +kernel, show thr (hasK 10) 6 = false from by decide +kernel, show thr (hasK 10) 7 = false from by decide +kernel]
    exact own11_SI h (fun w => by rw [e]; exact has11_10)
  · rw [ownK, e, show thr (hasK 11) 0 = false from by decide +kernel, show thr (hasK 11) 1 = false from by decide +kernel, show thr (hasK 11) 2 = false from by decide +kernel, show thr (hasK 11) 3 = true from by decide +kernel, show thr (hasK 11) 4 = false from by decide +kernel, show thr (hasK 11) 5 = false from by decide +kernel, show thr (hasK 11) 6 = true from by decide +kernel, show thr (hasK 11) 7 = false from by decide +kernel]
    exact own11_NV h (fun w => by rw [e]; exact has11_11)
  · rw [ownK, e, show thr (hasK 12) 0 = false from by decide +kernel, show thr (hasK 12) 1 = false from by decide +kernel, show thr (hasK 12) 2 = false from by decide +kernel, show thr (hasK 12) 3 = true from by decide +kernel, show thr (hasK 12) 4 = false from by decide +kernel, show thr (hasK 12) 5 = false from by decide +kernel, show thr (hasK 12) 6 = true from by decide +kernel, show thr (hasK 12) 7 = false from by decide +kernel]
    exact own11_NV h (fun w => by rw [e]; exact has11_12)
  · rw [ownK, e, show thr (hasK 13) 0 = false from by decide +kernel, show thr (hasK 13) 1 = false from by decide +kernel, show thr (hasK 13) 2 = false from by decide +kernel, show thr (hasK 13) 3 = false from by decide +kernel, show thr (hasK 13) 4 = false from by decide +kernel, show thr (hasK 13) 5 = false from by decide +kernel, show thr (hasK 13) 6 = true from by decide +kernel, show thr (hasK 13) 7 = true from by decide +kernel]
    exact own11_NR h (fun w => by rw [e]; exact has11_13)
  · rw [ownK, e, show thr (hasK 14) 0 = false from by decide +kernel, show thr (hasK 14) 1 = true from by decide +kernel, show thr (hasK 14) 2 = false from by decide +kernel, show thr (hasK 14) 3 = false from by decide +kernel, show thr (hasK 14) 4 = false from by decide +kernel, show thr (hasK 14) 5 = false from by decide +kernel, show thr (hasK 14) 6 = true from by decide +kernel, show thr (hasK 14) 7 = false from by decide +kernel]
    exact own11_NS h (fun w => by rw [e]; exact has11_14)
theorem or_own {t b : Bool} (h : (t || b) = true) : t = true ∨ b = true := by cases t <;> simp_all
theorem own_alone (h : alone m = true) : ownK m = m := by
  simp only [alone, Bool.and_eq_true] at h
  obtain ⟨h0, h1, h2, h3, h4, h5, h6, h7⟩ := h
  unfold ownK ownBy
  have e0 : (if thr (hasK m.kind) 0 = true then m.ballot else 0) = m.ballot := by
    rcases or_own h0 with q | q
    · rw [if_pos q]
    · have q : m.ballot = 0 := by simpa using q
      rw [q]; split <;> rfl
  have e1 : (if thr (hasK m.kind) 1 = true then m.slot else 0) = m.slot := by
    rcases or_own h1 with q | q
    · rw [if_pos q]
    · have q : m.slot = 0 := by simpa using q
      rw [q]; split <;> rfl
  have e2 : (if thr (hasK m.kind) 2 = true then m.time else 0) = m.time := by
    rcases or_own h2 with q | q
    · rw [if_pos q]
    · have q : m.time = 0 := by simpa using q
      rw [q]; split <;> rfl
  have e3 : (if thr (hasK m.kind) 3 = true then m.value else reqZ') = m.value := by
    rcases or_own h3 with q | q
    · rw [if_pos q]
    · have q : m.value = reqZ' := of_decide_eq_true q
      rw [q]; split <;> rfl
  have e4 : (if thr (hasK m.kind) 4 = true then m.votes else []) = m.votes := by
    rcases or_own h4 with q | q
    · rw [if_pos q]
    · have q : m.votes = [] := List.eq_nil_of_length_eq_zero (by simp at q; simp [q])
      rw [q]; split <;> rfl
  have e5 : (if thr (hasK m.kind) 5 = true then m.image else []) = m.image := by
    rcases or_own h5 with q | q
    · rw [if_pos q]
    · have q : m.image = [] := List.eq_nil_of_length_eq_zero (by simp at q; simp [q])
      rw [q]; split <;> rfl
  have e6 : (if thr (hasK m.kind) 6 = true then m.number else 0) = m.number := by
    rcases or_own h6 with q | q
    · rw [if_pos q]
    · have q : m.number = 0 := by simpa using q
      rw [q]; split <;> rfl
  have e7 : (if thr (hasK m.kind) 7 = true then m.verdict else verdictZ) = m.verdict := by
    rcases or_own h7 with q | q
    · rw [if_pos q]
    · have q : m.verdict = verdictZ := of_decide_eq_true q
      rw [q]; split <;> rfl
  rw [e0, e1, e2, e3, e4, e5, e6, e7]
/-- What is not alike, where a message has more than its kind names. -/
theorem not_alone (h : alone m = false) : ¬ (m.ballot = (ownK m).ballot ∧ m.slot = (ownK m).slot ∧ m.time = (ownK m).time ∧ m.number = (ownK m).number ∧ m.votes.length = (ownK m).votes.length ∧ m.value = (ownK m).value ∧ m.verdict = (ownK m).verdict ∧ m.image = (ownK m).image) := by
  rintro ⟨h0, h1, h2, h6, h4, h3, h7, h5⟩
  have key : ∀ {t z : Bool}, (t = false → z = true) → (t || z) = true := fun {t z} f => by cases t; simp [f rfl]; rfl
  have : alone m = true := by
    simp only [alone, Bool.and_eq_true]
    simp only [ownBy] at h0 h1 h2 h3 h4 h5 h6 h7
    refine ⟨key fun t => ?_, key fun t => ?_, key fun t => ?_, key fun t => ?_, key fun t => ?_, key fun t => ?_, key fun t => ?_, key fun t => ?_⟩
    · rw [t] at h0; simpa using h0
    · rw [t] at h1; simpa using h1
    · rw [t] at h2; simpa using h2
    · rw [t] at h3; exact decide_eq_true (by simpa using h3)
    · rw [t] at h4; simpa using h4
    · rw [t] at h5; simp at h5; simp [h5]
    · rw [t] at h6; simpa using h6
    · rw [t] at h7
      have h7 : m.verdict = verdictZ := by simpa using h7
      exact decide_eq_true h7
  rw [this] at h; cases h
set_option maxRecDepth 20000 in
set_option maxHeartbeats 8000000 in
theorem same11_ne {bl sl ti nu : Int} {va : Req} {vo : List Vote} {im : List UInt8} {ve : Verdict} {Ac Av Ai Ak Bc Bv Bi Bk : Option Addr} {cc cv ci ck dc dv di dk : Nat}
    (h1 : MsgAt F w m Ac Av Ai Ak cc cv ci ck) (h2 : MsgAt G w ⟨m.kind, m.from', m.to, bl, sl, ti, va, vo, im, nu, ve⟩ Bc Bv Bi Bk dc dv di dk) (hve : ve.commits = m.verdict.commits ∨ ve.commits = [])
    (hne : ¬ (m.ballot = bl ∧ m.slot = sl ∧ m.time = ti ∧ m.number = nu ∧ m.votes.length = vo.length ∧ m.value = va ∧ m.verdict = ve ∧ m.image = im)) :
    Calls Tryz.prog 16 #[.agg (msgCsA m Ac Av Ai Ak cc cv ci ck).toArray, .agg (msgCsA ⟨m.kind, m.from', m.to, bl, sl, ti, va, vo, im, nu, ve⟩ Bc Bv Bi Bk dc dv di dk).toArray] w fun e w' => e = .returned (.bool false) ∧ Keep (fun _ => False) w w' := by
  obtain ⟨nc, hnc⟩ : ∃ nc, nc = m.value.changes.length := ⟨_, rfl⟩
  obtain ⟨nv, hnv⟩ : ∃ nv, nv = m.votes.length := ⟨_, rfl⟩
  obtain ⟨ni, hni⟩ : ∃ ni, ni = m.image.length := ⟨_, rfl⟩
  obtain ⟨nk, hnk⟩ : ∃ nk, nk = m.verdict.commits.length := ⟨_, rfl⟩
  obtain ⟨mc, hmc⟩ : ∃ nc, nc = va.changes.length := ⟨_, rfl⟩
  obtain ⟨mv, hmv⟩ : ∃ nv, nv = vo.length := ⟨_, rfl⟩
  obtain ⟨mi, hmi⟩ : ∃ ni, ni = im.length := ⟨_, rfl⟩
  obtain ⟨mk, hmk⟩ : ∃ nk, nk = ve.commits.length := ⟨_, rfl⟩
  have KC := fun w' (hk : Keep (fun _ => False) w w') => same9_calls (h1.c.keep hk (fun _ _ => id)) (h2.c.keep hk (fun _ _ => id))
  have KV := fun w' (hk : Keep (fun _ => False) w w') => alike_gen (h1.k.keep hk (fun _ _ => id)) (h2.k.keep hk (fun _ _ => id)) hve
  have KI := fun w' (hk : Keep (fun _ => False) w w') => same_calls (h1.i.keep hk (fun _ _ => id)).row (h2.i.keep hk (fun _ _ => id)).row
  unfold msgCsA
  simp only at KC KV KI
  rw [← hnv, ← hmv] at hne
  rw [← hnc, ← hmc] at KC
  rw [← hnk, ← hmk] at KV
  rw [← hni, ← hmi] at KI
  simp only
  rw [← hnc, ← hnv, ← hni, ← hnk, ← hmc, ← hmv, ← hmi, ← hmk]
  have HNE := hid hne; have KC := hid KC; have KV := hid KV; have KI := hid KI
  clear h1 h2 hve hne hnc hnv hni hnk hmc hmv hmi hmk
  cases e0 : (m.ballot != bl)
  case' true =>
    go_enter Tryz.func16, Tryz.ntmps16
    go_wp2_with (first
      | (refine wpl_boxB (v := .agg (msgCs m (.slice Ac nc cc) (.slice Av nv cv) (.slice Ai ni ci) (.slice Ak nk ck)).toArray) rfl rfl rfl ?_; intro g1 w1 hg1 hb1 k1 s1; have K1 := hid k1; clear hg1 s1 k1)
      | (refine wpl_boxB (v := .agg (msgCs ⟨m.kind, m.from', m.to, bl, sl, ti, va, vo, im, nu, ve⟩ (.slice Bc mc dc) (.slice Bv mv dv) (.slice Bi mi di) (.slice Bk mk dk)).toArray) rfl rfl rfl ?_; intro g2 w2 hg2 hb2 k2 s2; have hb12 := k2.heap hb1 id; have K2 := hid (K1.out.trans k2 (fun _ _ f => f)); clear hg2 s2 k2; refine stopHere ?_))
    have a0 := cell_at hb12 0 (.int .i64 m.kind) rfl
    have b0 := cell_at hb2 0 (.int .i64 m.kind) rfl
    have a1 := cell_at hb12 1 (.int .i64 m.from') rfl
    have b1 := cell_at hb2 1 (.int .i64 m.from') rfl
    have a2 := cell_at hb12 2 (.int .i64 m.to) rfl
    have b2 := cell_at hb2 2 (.int .i64 m.to) rfl
    have a3 := cell_at hb12 3 (.int .i64 m.ballot) rfl
    have b3 := cell_at hb2 3 (.int .i64 bl) rfl
    have a4 := cell_at hb12 4 (.int .i64 m.slot) rfl
    have b4 := cell_at hb2 4 (.int .i64 sl) rfl
    have a5 := cell_at hb12 5 (.int .i64 m.time) rfl
    have b5 := cell_at hb2 5 (.int .i64 ti) rfl
    have a19 := cell_at hb12 19 (.int .i64 m.number) rfl
    have b19 := cell_at hb2 19 (.int .i64 nu) rfl
    have a17 := cell_at hb12 17 (.slice Av nv cv) rfl
    have b17 := cell_at hb2 17 (.slice Bv mv dv) rfl
    have HB1 := hid hb12; have HB2 := hid hb2
    clear hb1 hb12 hb2
    refine goOn ?_
    go_wp2_with fail
    go_ret
    exact ⟨rfl, K2.out⟩
  have E0 := hid (show m.ballot = bl by simpa using e0)
  cases e1 : (m.slot != sl)
  case' true =>
    go_enter Tryz.func16, Tryz.ntmps16
    go_wp2_with (first
      | (refine wpl_boxB (v := .agg (msgCs m (.slice Ac nc cc) (.slice Av nv cv) (.slice Ai ni ci) (.slice Ak nk ck)).toArray) rfl rfl rfl ?_; intro g1 w1 hg1 hb1 k1 s1; have K1 := hid k1; clear hg1 s1 k1)
      | (refine wpl_boxB (v := .agg (msgCs ⟨m.kind, m.from', m.to, bl, sl, ti, va, vo, im, nu, ve⟩ (.slice Bc mc dc) (.slice Bv mv dv) (.slice Bi mi di) (.slice Bk mk dk)).toArray) rfl rfl rfl ?_; intro g2 w2 hg2 hb2 k2 s2; have hb12 := k2.heap hb1 id; have K2 := hid (K1.out.trans k2 (fun _ _ f => f)); clear hg2 s2 k2; refine stopHere ?_))
    have a0 := cell_at hb12 0 (.int .i64 m.kind) rfl
    have b0 := cell_at hb2 0 (.int .i64 m.kind) rfl
    have a1 := cell_at hb12 1 (.int .i64 m.from') rfl
    have b1 := cell_at hb2 1 (.int .i64 m.from') rfl
    have a2 := cell_at hb12 2 (.int .i64 m.to) rfl
    have b2 := cell_at hb2 2 (.int .i64 m.to) rfl
    have a3 := cell_at hb12 3 (.int .i64 m.ballot) rfl
    have b3 := cell_at hb2 3 (.int .i64 bl) rfl
    have a4 := cell_at hb12 4 (.int .i64 m.slot) rfl
    have b4 := cell_at hb2 4 (.int .i64 sl) rfl
    have a5 := cell_at hb12 5 (.int .i64 m.time) rfl
    have b5 := cell_at hb2 5 (.int .i64 ti) rfl
    have a19 := cell_at hb12 19 (.int .i64 m.number) rfl
    have b19 := cell_at hb2 19 (.int .i64 nu) rfl
    have a17 := cell_at hb12 17 (.slice Av nv cv) rfl
    have b17 := cell_at hb2 17 (.slice Bv mv dv) rfl
    have HB1 := hid hb12; have HB2 := hid hb2
    clear hb1 hb12 hb2
    refine goOn ?_
    go_wp2_with fail
    go_ret
    exact ⟨rfl, K2.out⟩
  have E1 := hid (show m.slot = sl by simpa using e1)
  cases e2 : (m.time != ti)
  case' true =>
    go_enter Tryz.func16, Tryz.ntmps16
    go_wp2_with (first
      | (refine wpl_boxB (v := .agg (msgCs m (.slice Ac nc cc) (.slice Av nv cv) (.slice Ai ni ci) (.slice Ak nk ck)).toArray) rfl rfl rfl ?_; intro g1 w1 hg1 hb1 k1 s1; have K1 := hid k1; clear hg1 s1 k1)
      | (refine wpl_boxB (v := .agg (msgCs ⟨m.kind, m.from', m.to, bl, sl, ti, va, vo, im, nu, ve⟩ (.slice Bc mc dc) (.slice Bv mv dv) (.slice Bi mi di) (.slice Bk mk dk)).toArray) rfl rfl rfl ?_; intro g2 w2 hg2 hb2 k2 s2; have hb12 := k2.heap hb1 id; have K2 := hid (K1.out.trans k2 (fun _ _ f => f)); clear hg2 s2 k2; refine stopHere ?_))
    have a0 := cell_at hb12 0 (.int .i64 m.kind) rfl
    have b0 := cell_at hb2 0 (.int .i64 m.kind) rfl
    have a1 := cell_at hb12 1 (.int .i64 m.from') rfl
    have b1 := cell_at hb2 1 (.int .i64 m.from') rfl
    have a2 := cell_at hb12 2 (.int .i64 m.to) rfl
    have b2 := cell_at hb2 2 (.int .i64 m.to) rfl
    have a3 := cell_at hb12 3 (.int .i64 m.ballot) rfl
    have b3 := cell_at hb2 3 (.int .i64 bl) rfl
    have a4 := cell_at hb12 4 (.int .i64 m.slot) rfl
    have b4 := cell_at hb2 4 (.int .i64 sl) rfl
    have a5 := cell_at hb12 5 (.int .i64 m.time) rfl
    have b5 := cell_at hb2 5 (.int .i64 ti) rfl
    have a19 := cell_at hb12 19 (.int .i64 m.number) rfl
    have b19 := cell_at hb2 19 (.int .i64 nu) rfl
    have a17 := cell_at hb12 17 (.slice Av nv cv) rfl
    have b17 := cell_at hb2 17 (.slice Bv mv dv) rfl
    have HB1 := hid hb12; have HB2 := hid hb2
    clear hb1 hb12 hb2
    refine goOn ?_
    go_wp2_with fail
    go_ret
    exact ⟨rfl, K2.out⟩
  have E2 := hid (show m.time = ti by simpa using e2)
  cases e3 : (m.number != nu)
  case' true =>
    go_enter Tryz.func16, Tryz.ntmps16
    go_wp2_with (first
      | (refine wpl_boxB (v := .agg (msgCs m (.slice Ac nc cc) (.slice Av nv cv) (.slice Ai ni ci) (.slice Ak nk ck)).toArray) rfl rfl rfl ?_; intro g1 w1 hg1 hb1 k1 s1; have K1 := hid k1; clear hg1 s1 k1)
      | (refine wpl_boxB (v := .agg (msgCs ⟨m.kind, m.from', m.to, bl, sl, ti, va, vo, im, nu, ve⟩ (.slice Bc mc dc) (.slice Bv mv dv) (.slice Bi mi di) (.slice Bk mk dk)).toArray) rfl rfl rfl ?_; intro g2 w2 hg2 hb2 k2 s2; have hb12 := k2.heap hb1 id; have K2 := hid (K1.out.trans k2 (fun _ _ f => f)); clear hg2 s2 k2; refine stopHere ?_))
    have a0 := cell_at hb12 0 (.int .i64 m.kind) rfl
    have b0 := cell_at hb2 0 (.int .i64 m.kind) rfl
    have a1 := cell_at hb12 1 (.int .i64 m.from') rfl
    have b1 := cell_at hb2 1 (.int .i64 m.from') rfl
    have a2 := cell_at hb12 2 (.int .i64 m.to) rfl
    have b2 := cell_at hb2 2 (.int .i64 m.to) rfl
    have a3 := cell_at hb12 3 (.int .i64 m.ballot) rfl
    have b3 := cell_at hb2 3 (.int .i64 bl) rfl
    have a4 := cell_at hb12 4 (.int .i64 m.slot) rfl
    have b4 := cell_at hb2 4 (.int .i64 sl) rfl
    have a5 := cell_at hb12 5 (.int .i64 m.time) rfl
    have b5 := cell_at hb2 5 (.int .i64 ti) rfl
    have a19 := cell_at hb12 19 (.int .i64 m.number) rfl
    have b19 := cell_at hb2 19 (.int .i64 nu) rfl
    have a17 := cell_at hb12 17 (.slice Av nv cv) rfl
    have b17 := cell_at hb2 17 (.slice Bv mv dv) rfl
    have HB1 := hid hb12; have HB2 := hid hb2
    clear hb1 hb12 hb2
    refine goOn ?_
    go_wp2_with fail
    go_ret
    exact ⟨rfl, K2.out⟩
  have E3 := hid (show m.number = nu by simpa using e3)
  cases e4 : ((nv : Int) != (mv : Int))
  case' true =>
    go_enter Tryz.func16, Tryz.ntmps16
    go_wp2_with (first
      | (refine wpl_boxB (v := .agg (msgCs m (.slice Ac nc cc) (.slice Av nv cv) (.slice Ai ni ci) (.slice Ak nk ck)).toArray) rfl rfl rfl ?_; intro g1 w1 hg1 hb1 k1 s1; have K1 := hid k1; clear hg1 s1 k1)
      | (refine wpl_boxB (v := .agg (msgCs ⟨m.kind, m.from', m.to, bl, sl, ti, va, vo, im, nu, ve⟩ (.slice Bc mc dc) (.slice Bv mv dv) (.slice Bi mi di) (.slice Bk mk dk)).toArray) rfl rfl rfl ?_; intro g2 w2 hg2 hb2 k2 s2; have hb12 := k2.heap hb1 id; have K2 := hid (K1.out.trans k2 (fun _ _ f => f)); clear hg2 s2 k2; refine stopHere ?_))
    have a0 := cell_at hb12 0 (.int .i64 m.kind) rfl
    have b0 := cell_at hb2 0 (.int .i64 m.kind) rfl
    have a1 := cell_at hb12 1 (.int .i64 m.from') rfl
    have b1 := cell_at hb2 1 (.int .i64 m.from') rfl
    have a2 := cell_at hb12 2 (.int .i64 m.to) rfl
    have b2 := cell_at hb2 2 (.int .i64 m.to) rfl
    have a3 := cell_at hb12 3 (.int .i64 m.ballot) rfl
    have b3 := cell_at hb2 3 (.int .i64 bl) rfl
    have a4 := cell_at hb12 4 (.int .i64 m.slot) rfl
    have b4 := cell_at hb2 4 (.int .i64 sl) rfl
    have a5 := cell_at hb12 5 (.int .i64 m.time) rfl
    have b5 := cell_at hb2 5 (.int .i64 ti) rfl
    have a19 := cell_at hb12 19 (.int .i64 m.number) rfl
    have b19 := cell_at hb2 19 (.int .i64 nu) rfl
    have a17 := cell_at hb12 17 (.slice Av nv cv) rfl
    have b17 := cell_at hb2 17 (.slice Bv mv dv) rfl
    have HB1 := hid hb12; have HB2 := hid hb2
    clear hb1 hb12 hb2
    refine goOn ?_
    go_wp2_with fail
    go_ret
    exact ⟨rfl, K2.out⟩
  have E4 := hid (show nv = mv by have := e4; simp at this; omega)
  go_enter Tryz.func16, Tryz.ntmps16
  go_wp2_with (first
    | (refine wpl_boxB (v := .agg (msgCs m (.slice Ac nc cc) (.slice Av nv cv) (.slice Ai ni ci) (.slice Ak nk ck)).toArray) rfl rfl rfl ?_; intro g1 w1 hg1 hb1 k1 s1; have K1 := hid k1; clear hg1 s1 k1)
    | (refine wpl_boxB (v := .agg (msgCs ⟨m.kind, m.from', m.to, bl, sl, ti, va, vo, im, nu, ve⟩ (.slice Bc mc dc) (.slice Bv mv dv) (.slice Bi mi di) (.slice Bk mk dk)).toArray) rfl rfl rfl ?_; intro g2 w2 hg2 hb2 k2 s2; have hb12 := k2.heap hb1 id; have K2 := hid (K1.out.trans k2 (fun _ _ f => f)); clear hg2 s2 k2; refine stopHere ?_))
  have a0 := cell_at hb12 0 (.int .i64 m.kind) rfl
  have b0 := cell_at hb2 0 (.int .i64 m.kind) rfl
  have a1 := cell_at hb12 1 (.int .i64 m.from') rfl
  have b1 := cell_at hb2 1 (.int .i64 m.from') rfl
  have a2 := cell_at hb12 2 (.int .i64 m.to) rfl
  have b2 := cell_at hb2 2 (.int .i64 m.to) rfl
  have a3 := cell_at hb12 3 (.int .i64 m.ballot) rfl
  have b3 := cell_at hb2 3 (.int .i64 bl) rfl
  have a4 := cell_at hb12 4 (.int .i64 m.slot) rfl
  have b4 := cell_at hb2 4 (.int .i64 sl) rfl
  have a5 := cell_at hb12 5 (.int .i64 m.time) rfl
  have b5 := cell_at hb2 5 (.int .i64 ti) rfl
  have a19 := cell_at hb12 19 (.int .i64 m.number) rfl
  have b19 := cell_at hb2 19 (.int .i64 nu) rfl
  have a17 := cell_at hb12 17 (.slice Av nv cv) rfl
  have b17 := cell_at hb2 17 (.slice Bv mv dv) rfl
  have HB1 := hid hb12; have HB2 := hid hb2
  clear hb1 hb12 hb2
  refine goOn ?_
  go_wp2_with (first
    | (refine wpl_loadA (ty := 34) (o := 6) (n := 11) rfl rfl rfl HB1.out (by kernel_rfl) (by kernel_rfl) (reqCs m.value (.slice Ac nc cc)) rfl rfl ?_)
    | (refine wpl_loadA (ty := 34) (o := 6) (n := 11) rfl rfl rfl HB2.out (by kernel_rfl) (by kernel_rfl) (reqCs va (.slice Bc mc dc)) rfl rfl ?_))
  refine (KC.out _ K2.out).mono ?_
  rintro e w3 ⟨rfl, k3⟩
  have K3 := hid (K2.out.trans k3 (fun _ _ f => f)); have HB13 := hid (k3.heap HB1.out id); have HB23 := hid (k3.heap HB2.out id)
  clear k3 a0 a1 a2 a3 a4 a5 a19 a17 b0 b1 b2 b3 b4 b5 b19 b17
  by_cases hva : m.value = va
  case neg =>
    rw [decide_eq_false hva]
    clear hva
    go_wp2_with fail
    go_ret
    exact ⟨rfl, K3.out⟩
  rw [decide_eq_true hva]
  have HVA := hid hva
  clear hva
  go_wp2_with (first
    | (refine wpl_loadG (ty := 40) (o := 20) (n := 7) rfl rfl rfl HB13.out (by kernel_rfl) (by kernel_rfl) (verdictCs m.verdict (.slice Ak nk ck)) rfl rfl ?_)
    | (refine wpl_loadG (ty := 40) (o := 20) (n := 7) rfl rfl rfl HB23.out (by kernel_rfl) (by kernel_rfl) (verdictCs ve (.slice Bk mk dk)) rfl rfl ?_))
  refine (KV.out _ K3.out).mono ?_
  rintro e w4 ⟨rfl, k4⟩
  have K4 := hid (K3.out.trans k4 (fun _ _ f => f))
  have a18 := cell_at (k4.heap HB13.out id) 18 (.slice Ai ni ci) rfl
  have b18 := cell_at (k4.heap HB23.out id) 18 (.slice Bi mi di) rfl
  clear k4
  by_cases hve : m.verdict = ve
  case neg =>
    rw [decide_eq_false hve]
    clear hve
    go_wp2_with fail
    go_ret
    exact ⟨rfl, K4.out⟩
  rw [decide_eq_true hve]
  have HVE := hid hve
  clear hve
  go_wp2_with fail
  refine (KI.out _ K4.out).mono ?_
  rintro e w5 ⟨rfl, k5⟩
  rw [decide_eq_false (fun hi => HNE.out ⟨E0.out, E1.out, E2.out, E3.out, E4.out, HVA.out, HVE.out, hi⟩)]
  have K5 := hid (K4.out.trans k5 (fun _ _ f => f))
  clear k5 a18 b18
  go_wp2_with fail
  go_ret
  exact ⟨rfl, K5.out⟩
theorem ownK_coms : (ownK m).verdict.commits = m.verdict.commits ∨ (ownK m).verdict.commits = [] := by
  unfold ownK ownBy
  simp only
  split
  · exact .inl rfl
  · exact .inr rfl
/-- Is a message what its kind names? -/
theorem same11_own {Ac Av Ai Ak Bc Bv Bi Bk : Option Addr} {cc cv ci ck dc dv di dk : Nat} (h1 : MsgAt F w m Ac Av Ai Ak cc cv ci ck) (h2 : MsgAt G w (ownK m) Bc Bv Bi Bk dc dv di dk) :
    Calls Tryz.prog 16 #[.agg (msgCsA m Ac Av Ai Ak cc cv ci ck).toArray, .agg (msgCsA (ownK m) Bc Bv Bi Bk dc dv di dk).toArray] w fun e w' => e = .returned (.bool (alone m)) ∧ Keep (fun _ => False) w w' := by
  cases ha : alone m
  · exact same11_ne h1 h2 ownK_coms (not_alone ha)
  · rw [own_alone ha] at h2 ⊢
    exact same11_calls h1.c h1.v h1.i h1.k h2.c h2.v h2.i h2.k
end
end Go.Proofs.YtofljidmdabkcaaGreat

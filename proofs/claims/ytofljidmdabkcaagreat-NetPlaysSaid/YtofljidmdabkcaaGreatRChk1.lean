/- wapentakeref11: has, in, Replica, Client, good, own. -/
import Derived.Test.YtofljidmdabkcaaGreatMk2
import Derived.Test.YtofljidmdabkcaaGreatCq
namespace Go.Proofs.YtofljidmdabkcaaGreat
open Go.RowKit
section
variable {F G : Nat → Prop} {w : World} {m : Msg}
set_option maxRecDepth 20000 in
theorem has11_1 : Calls Tryz.prog 41 #[.int .i64 1] w fun e w' => e = .returned (.string ⟨#[66, 83]⟩) ∧ w = w' := by
  go_enter Tryz.func41, Tryz.ntmps41
  go_wp2_with fail
  go_ret
  exact ⟨rfl, rfl⟩
set_option maxRecDepth 20000 in
theorem has11_4 : Calls Tryz.prog 41 #[.int .i64 4] w fun e w' => e = .returned (.string ⟨#[66, 83]⟩) ∧ w = w' := by
  go_enter Tryz.func41, Tryz.ntmps41
  go_wp2_with fail
  go_ret
  exact ⟨rfl, rfl⟩
set_option maxRecDepth 20000 in
theorem has11_2 : Calls Tryz.prog 41 #[.int .i64 2] w fun e w' => e = .returned (.string ⟨#[66, 83, 76]⟩) ∧ w = w' := by
  go_enter Tryz.func41, Tryz.ntmps41
  go_wp2_with fail
  go_ret
  exact ⟨rfl, rfl⟩
set_option maxRecDepth 20000 in
theorem has11_3 : Calls Tryz.prog 41 #[.int .i64 3] w fun e w' => e = .returned (.string ⟨#[66, 83, 86]⟩) ∧ w = w' := by
  go_enter Tryz.func41, Tryz.ntmps41
  go_wp2_with fail
  go_ret
  exact ⟨rfl, rfl⟩
set_option maxRecDepth 20000 in
theorem has11_5 : Calls Tryz.prog 41 #[.int .i64 5] w fun e w' => e = .returned (.string ⟨#[66]⟩) ∧ w = w' := by
  go_enter Tryz.func41, Tryz.ntmps41
  go_wp2_with fail
  go_ret
  exact ⟨rfl, rfl⟩
set_option maxRecDepth 20000 in
theorem has11_6 : Calls Tryz.prog 41 #[.int .i64 6] w fun e w' => e = .returned (.string ⟨#[83, 86]⟩) ∧ w = w' := by
  go_enter Tryz.func41, Tryz.ntmps41
  go_wp2_with fail
  go_ret
  exact ⟨rfl, rfl⟩
set_option maxRecDepth 20000 in
theorem has11_7 : Calls Tryz.prog 41 #[.int .i64 7] w fun e w' => e = .returned (.string ⟨#[66, 83, 84]⟩) ∧ w = w' := by
  go_enter Tryz.func41, Tryz.ntmps41
  go_wp2_with fail
  go_ret
  exact ⟨rfl, rfl⟩
set_option maxRecDepth 20000 in
theorem has11_8 : Calls Tryz.prog 41 #[.int .i64 8] w fun e w' => e = .returned (.string ⟨#[66, 83, 84]⟩) ∧ w = w' := by
  go_enter Tryz.func41, Tryz.ntmps41
  go_wp2_with fail
  go_ret
  exact ⟨rfl, rfl⟩
set_option maxRecDepth 20000 in
theorem has11_9 : Calls Tryz.prog 41 #[.int .i64 9] w fun e w' => e = .returned (.string ⟨#[83]⟩) ∧ w = w' := by
  go_enter Tryz.func41, Tryz.ntmps41
  go_wp2_with fail
  go_ret
  exact ⟨rfl, rfl⟩
set_option maxRecDepth 20000 in
theorem has11_10 : Calls Tryz.prog 41 #[.int .i64 10] w fun e w' => e = .returned (.string ⟨#[83, 73]⟩) ∧ w = w' := by
  go_enter Tryz.func41, Tryz.ntmps41
  go_wp2_with fail
  go_ret
  exact ⟨rfl, rfl⟩
set_option maxRecDepth 20000 in
theorem has11_11 : Calls Tryz.prog 41 #[.int .i64 11] w fun e w' => e = .returned (.string ⟨#[78, 86]⟩) ∧ w = w' := by
  go_enter Tryz.func41, Tryz.ntmps41
  go_wp2_with fail
  go_ret
  exact ⟨rfl, rfl⟩
set_option maxRecDepth 20000 in
theorem has11_12 : Calls Tryz.prog 41 #[.int .i64 12] w fun e w' => e = .returned (.string ⟨#[78, 86]⟩) ∧ w = w' := by
  go_enter Tryz.func41, Tryz.ntmps41
  go_wp2_with fail
  go_ret
  exact ⟨rfl, rfl⟩
set_option maxRecDepth 20000 in
theorem has11_13 : Calls Tryz.prog 41 #[.int .i64 13] w fun e w' => e = .returned (.string ⟨#[78, 82]⟩) ∧ w = w' := by
  go_enter Tryz.func41, Tryz.ntmps41
  go_wp2_with fail
  go_ret
  exact ⟨rfl, rfl⟩
set_option maxRecDepth 20000 in
theorem has11_14 : Calls Tryz.prog 41 #[.int .i64 14] w fun e w' => e = .returned (.string ⟨#[78, 83]⟩) ∧ w = w' := by
  go_enter Tryz.func41, Tryz.ntmps41
  go_wp2_with fail
  go_ret
  exact ⟨rfl, rfl⟩
set_option maxRecDepth 20000 in
theorem has11_none {k : Int} (hk : ¬ (1 ≤ k ∧ k ≤ 14)) : Calls Tryz.prog 41 #[.int .i64 k] w fun e w' => e = .returned (.string ⟨#[]⟩) ∧ w = w' := by
  have n1 : (k == 1) = false := by simp; omega
  have n2 : (k == 2) = false := by simp; omega
  have n3 : (k == 3) = false := by simp; omega
  have n4 : (k == 4) = false := by simp; omega
  have n5 : (k == 5) = false := by simp; omega
  have n6 : (k == 6) = false := by simp; omega
  have n7 : (k == 7) = false := by simp; omega
  have n8 : (k == 8) = false := by simp; omega
  have n9 : (k == 9) = false := by simp; omega
  have n10 : (k == 10) = false := by simp; omega
  have n11 : (k == 11) = false := by simp; omega
  have n12 : (k == 12) = false := by simp; omega
  have n13 : (k == 13) = false := by simp; omega
  have n14 : (k == 14) = false := by simp; omega
  go_enter Tryz.func41, Tryz.ntmps41
  go_wp2_with fail
  go_ret
  exact ⟨rfl, rfl⟩
theorem replica11_calls (t : Int) : Calls Tryz.prog 42 #[.int .i64 t] w fun e w' => e = .returned (.bool (decide (0 ≤ t) && decide (t < 15))) ∧ w = w' := by
  by_cases h0 : 0 ≤ t
  · by_cases h1 : t < 15
    · rw [decide_eq_true h0, decide_eq_true h1]
      go_enter Tryz.func42, Tryz.ntmps42
      go_wp2_with fail
      go_ret
      exact ⟨rfl, rfl⟩
    · rw [decide_eq_true h0, decide_eq_false h1]
      go_enter Tryz.func42, Tryz.ntmps42
      go_wp2_with fail
      go_ret
      exact ⟨rfl, rfl⟩
  · rw [decide_eq_false h0]
    go_enter Tryz.func42, Tryz.ntmps42
    go_wp2_with fail
    go_ret
    exact ⟨rfl, rfl⟩
theorem client11_calls (t : Int) : Calls Tryz.prog 43 #[.int .i64 t] w fun e w' => e = .returned (.bool (decide (100 ≤ t) && decide (t < 200))) ∧ w = w' := by
  by_cases h0 : 100 ≤ t
  · by_cases h1 : t < 200
    · rw [decide_eq_true h0, decide_eq_true h1]
      go_enter Tryz.func43, Tryz.ntmps43
      go_wp2_with fail
      go_ret
      exact ⟨rfl, rfl⟩
    · rw [decide_eq_true h0, decide_eq_false h1]
      go_enter Tryz.func43, Tryz.ntmps43
      go_wp2_with fail
      go_ret
      exact ⟨rfl, rfl⟩
  · rw [decide_eq_false h0]
    go_enter Tryz.func43, Tryz.ntmps43
    go_wp2_with fail
    go_ret
    exact ⟨rfl, rfl⟩
theorem good11_calls (t : Int) : Calls Tryz.prog 44 #[.int .i64 t] w fun e w' => e = .returned (.bool (decide (good t))) ∧ w = w' := by
  by_cases h0 : 0 ≤ t
  · by_cases h1 : t ≤ 1099511627776
    · rw [decide_eq_true (show good t from ⟨h0, h1⟩)]
      go_enter Tryz.func44, Tryz.ntmps44
      go_wp2_with fail
      go_ret
      exact ⟨rfl, rfl⟩
    · rw [decide_eq_false (show ¬ good t from fun q => h1 q.2)]
      go_enter Tryz.func44, Tryz.ntmps44
      go_wp2_with fail
      go_ret
      exact ⟨rfl, rfl⟩
  · rw [decide_eq_false (show ¬ good t from fun q => h0 q.1)]
    go_enter Tryz.func44, Tryz.ntmps44
    go_wp2_with fail
    go_ret
    exact ⟨rfl, rfl⟩
/-- Has a text a byte? -/
def inB (s : ByteArray) (c : Int) : Bool := s.data.toList.any fun u => (u.toNat : Int) == c
theorem in_take {s : ByteArray} {c : Int} {k : Nat} (hk : k < s.size) (h : (s.data.toList.take k).any (fun u => (u.toNat : Int) == c) = false) (hc : ((s[k].toNat : Int) == c) = false) : (s.data.toList.take (k + 1)).any (fun u => (u.toNat : Int) == c) = false := by
  have e : s.data.toList[k]'(by simpa using hk) = s[k] := rfl
  rw [List.take_succ_eq_append_getElem (by simpa using hk), List.any_append, h, Bool.false_or, List.any_cons, List.any_nil, Bool.or_false, e, hc]
theorem in_hit {s : ByteArray} {c : Int} {k : Nat} (hk : k < s.size) (hc : ((s[k].toNat : Int) == c) = true) : inB s c = true := by
  rw [inB, List.any_eq_true]
  exact ⟨s[k], by have := List.getElem_mem (l := s.data.toList) (n := k) (by simpa using hk); exact this, hc⟩
set_option maxRecDepth 20000 in
theorem in_calls (s : ByteArray) (c : Int) (hs : s.size ≤ 100) : Calls Tryz.prog 62 #[.string s, .int .u8 c] w fun e w' => e = .returned (.bool (inB s c)) ∧ w = w' := by
  obtain ⟨b, hb⟩ : ∃ b, b = inB s c := ⟨_, rfl⟩
  rw [← hb]
  have HB := hid hb
  clear hb
  go_enter Tryz.func62, Tryz.ntmps62
  go_wp2_with fail
  go_loop [5] (fun i => ∃ k : Nat, k ≤ s.size ∧ i = .int .i64 k ∧ (s.data.toList.take k).any (fun u => (u.toNat : Int) == c) = false) (fun i => s.size - (intOf i).toNat)
  case atStart => exact ⟨0, Nat.zero_le _, rfl, rfl⟩
  case round =>
    obtain ⟨k, hk, rfl, ht⟩ := hrel
    have HT := hid ht
    clear ht
    by_cases hlt : k < s.size
    · cases hc : ((s[k].toNat : Int) == c)
      · have HN := hid (in_take hlt HT.out hc)
        go_wp2
        go_round
        case rel => exact ⟨k + 1, by omega, by go_num, HN.out⟩
        case measure => simp [intOf]; omega
      · have hb : b = true := by rw [HB.out]; exact in_hit hlt hc
        subst hb
        go_wp2
        go_ret
        exact ⟨rfl, rfl⟩
    · have hb : b = false := by rw [HB.out, inB, ← HT.out, List.take_of_length_le (by simp; omega)]
      subst hb
      go_wp2
      go_ret
      exact ⟨rfl, rfl⟩
/-- A message with some of its fields alone: ballot, slot, time, value, votes, image, number, verdict. -/
def ownBy (m : Msg) (b0 b1 b2 b3 b4 b5 b6 b7 : Bool) : Msg :=
  ⟨m.kind, m.from', m.to, if b0 then m.ballot else 0, if b1 then m.slot else 0, if b2 then m.time else 0, if b3 then m.value else reqZ', if b4 then m.votes else [], if b5 then m.image else [], if b6 then m.number else 0, if b7 then m.verdict else verdictZ⟩
def Own11 (F : Nat → Prop) (w : World) (n : Msg) (e : Ending) (w' : World) : Prop :=
  ∃ Ac Av Ai Ak cc cv ci ck, e = .returned (.agg (msgCsA n Ac Av Ai Ak cc cv ci ck).toArray) ∧ MsgAt F w' n Ac Av Ai Ak cc cv ci ck ∧ Keep (fun _ => False) w w'
theorem sl_nil {α : Type} (r : Rep α) : Sl r w F (.slice none 0 0) [] := ⟨none, 0, rfl, Nat.le_refl _, Nat.zero_le _, .inl rfl⟩
set_option maxRecDepth 20000 in
set_option maxHeartbeats 4000000 in
theorem own11_BS {Ac Av Ai Ak : Option Addr} {cc cv ci ck : Nat} (h : MsgAt F w m Ac Av Ai Ak cc cv ci ck) (HS : ∀ w, Calls Tryz.prog 41 #[.int .i64 m.kind] w fun e w' => e = .returned (.string ⟨#[66, 83]⟩) ∧ w = w') :
    Calls Tryz.prog 45 #[.agg (msgCsA m Ac Av Ai Ak cc cv ci ck).toArray] w (Own11 F w (ownBy m true true false false false false false false)) := by
  obtain ⟨nc, hnc⟩ : ∃ nc, nc = m.value.changes.length := ⟨_, rfl⟩
  obtain ⟨nv, hnv⟩ : ∃ nv, nv = m.votes.length := ⟨_, rfl⟩
  obtain ⟨ni, hni⟩ : ∃ ni, ni = m.image.length := ⟨_, rfl⟩
  obtain ⟨nk, hnk⟩ : ∃ nk, nk = m.verdict.commits.length := ⟨_, rfl⟩
  have H := hid h; have HS := hid HS
  unfold msgCsA
  rw [← hnc, ← hnv, ← hni, ← hnk]
  have HNC := hid hnc; have HNV := hid hnv; have HNI := hid hni; have HNK := hid hnk
  clear h hnc hnv hni hnk
  go_enter Tryz.func45, Tryz.ntmps45
  go_wp2_with (first
    | (refine wpl_boxB (v := .agg (msgCs m (.slice Ac nc cc) (.slice Av nv cv) (.slice Ai ni ci) (.slice Ak nk ck)).toArray) rfl rfl rfl ?_; intro g1 w1 hg1 hb1 k1 s1; have HG1 := hid hg1; have K1 := hid k1; clear hg1 k1 s1)
    | (refine wpl_allocB (z := zM) rfl rfl (by kernel_rfl) ?_; intro g2 w2 hg2 hb2 k2 s2; have HG2 := hid hg2; have hb1' := k2.heap hb1 id; have K2 := hid (K1.out.trans k2 (fun _ _ f => f)); clear hg2 k2 s2; have q0 := cell_at hb1' 0 (.int .i64 m.kind) rfl; have q1 := cell_at hb1' 1 (.int .i64 m.from') rfl; have q2 := cell_at hb1' 2 (.int .i64 m.to) rfl))
  refine (HS.out w2).mono ?_
  rintro e w' ⟨rfl, rfl⟩
  go_wp2_with (first
    | (refine wpl_build rfl rfl (msgCs ⟨m.kind, m.from', m.to, 0, 0, 0, reqZ', [], [], 0, verdictZ⟩ (.slice none 0 0) (.slice none 0 0) (.slice none 0 0) (.slice none 0 0)).toArray (by kernel_rfl) ?_)
    | (refine wpl_allocB (z := zM) rfl rfl (by kernel_rfl) ?_; intro g4 w3 hg4 hb4 k3 s3; have HG4 := hid hg4; have hb13 := k3.heap hb1' id; have hb23 := k3.heap hb2 id; have K3 := hid (K2.out.trans k3 (fun _ _ f => f)); clear hg4 k3 s3)
    | (refine wpl_storeB (v := .agg (msgCs ⟨m.kind, m.from', m.to, 0, 0, 0, reqZ', [], [], 0, verdictZ⟩ (.slice none 0 0) (.slice none 0 0) (.slice none 0 0) (.slice none 0 0)).toArray) (b := g4) rfl rfl rfl rfl hb4 (by kernel_rfl) (of_decide_eq_true (by kernel_rfl)) (by simp [Value.cells, msgCs, reqCs, verdictCs, Value.oneCell']) ?_; intro w4 hb44 k4 s4; have K4 := hid k4; clear s4 k4; replace hb44 : w4.heap[g4]? = some (.cells (msgCs ⟨m.kind, m.from', m.to, 0, 0, 0, reqZ', [], [], 0, verdictZ⟩ (.slice none 0 0) (.slice none 0 0) (.slice none 0 0) (.slice none 0 0)).toArray 42) := hb44))
  have HNE := hid (show g1 ≠ g4 ∧ g2 ≠ g4 ∧ g1 ≠ g2 from ⟨by have := lt_heap hb1'; have := HG4.out; omega, by have := lt_heap hb2; have := HG4.out; omega, by have := lt_heap hb1; have := HG2.out; omega⟩)
  have hb14 := K4.out.heap hb13 HNE.out.1
  have hb24 := K4.out.heap hb23 HNE.out.2.1
  have HW := hid (show w.heap.size ≤ g2 ∧ w.heap.size ≤ g4 from ⟨by have := K1.out.size; have := HG2.out; omega, by have := K2.out.size; have := HG4.out; omega⟩)
  clear hb1 hb1' hb2 hb4 hb13 hb23 q0 q1 q2
  have hin := in_calls (w := w4) ⟨#[66, 83]⟩ 66 (by decide)
  rw [show inB ⟨#[66, 83]⟩ 66 = true from by decide] at hin
  refine hin.mono ?_
  clear hin
  rintro e w' ⟨rfl, rfl⟩
  go_wp2_with (first
    | (refine wpl_load1 rfl rfl rfl hb14 (by kernel_rfl) (v := .int .i64 m.ballot) rfl ?_)
    | (refine wpl_storeB (v := .int .i64 m.ballot) (o := 3) (b := g4) rfl rfl rfl rfl hb44 (by kernel_rfl) (of_decide_eq_true (by kernel_rfl)) (by simp [Value.cells, Value.oneCell']) ?_; intro w5 hb45 k5 s5; have hb15 := k5.heap hb14 HNE.out.1; have hb25 := k5.heap hb24 HNE.out.2.1; have K5 := hid (K4.out.trans k5 (fun _ _ e => e)); clear s5 k5; replace hb45 : w5.heap[g4]? = some (.cells (msgCs ⟨m.kind, m.from', m.to, m.ballot, 0, 0, reqZ', [], [], 0, verdictZ⟩ (.slice none 0 0) (.slice none 0 0) (.slice none 0 0) (.slice none 0 0)).toArray 42) := hb45))
  have hin := in_calls (w := w5) ⟨#[66, 83]⟩ 83 (by decide)
  rw [show inB ⟨#[66, 83]⟩ 83 = true from by decide] at hin
  refine hin.mono ?_
  clear hin
  rintro e w' ⟨rfl, rfl⟩
  go_wp2_with (first
    | (refine wpl_load1 rfl rfl rfl hb15 (by kernel_rfl) (v := .int .i64 m.slot) rfl ?_)
    | (refine wpl_storeB (v := .int .i64 m.slot) (o := 4) (b := g4) rfl rfl rfl rfl hb45 (by kernel_rfl) (of_decide_eq_true (by kernel_rfl)) (by simp [Value.cells, Value.oneCell']) ?_; intro w6 hb46 k6 s6; have hb16 := k6.heap hb15 HNE.out.1; have hb26 := k6.heap hb25 HNE.out.2.1; have K6 := hid (K5.out.trans k6 (fun _ _ e => e)); clear s6 k6; replace hb46 : w6.heap[g4]? = some (.cells (msgCs ⟨m.kind, m.from', m.to, m.ballot, m.slot, 0, reqZ', [], [], 0, verdictZ⟩ (.slice none 0 0) (.slice none 0 0) (.slice none 0 0) (.slice none 0 0)).toArray 42) := hb46))
  have hin := in_calls (w := w6) ⟨#[66, 83]⟩ 84 (by decide)
  rw [show inB ⟨#[66, 83]⟩ 84 = false from by decide] at hin
  refine hin.mono ?_
  clear hin
  rintro e w' ⟨rfl, rfl⟩
  go_wp2_with fail
  have hin := in_calls (w := w6) ⟨#[66, 83]⟩ 86 (by decide)
  rw [show inB ⟨#[66, 83]⟩ 86 = false from by decide] at hin
  refine hin.mono ?_
  clear hin
  rintro e w' ⟨rfl, rfl⟩
  go_wp2_with fail
  have hin := in_calls (w := w6) ⟨#[66, 83]⟩ 76 (by decide)
  rw [show inB ⟨#[66, 83]⟩ 76 = false from by decide] at hin
  refine hin.mono ?_
  clear hin
  rintro e w' ⟨rfl, rfl⟩
  go_wp2_with fail
  have hin := in_calls (w := w6) ⟨#[66, 83]⟩ 73 (by decide)
  rw [show inB ⟨#[66, 83]⟩ 73 = false from by decide] at hin
  refine hin.mono ?_
  clear hin
  rintro e w' ⟨rfl, rfl⟩
  go_wp2_with fail
  have hin := in_calls (w := w6) ⟨#[66, 83]⟩ 78 (by decide)
  rw [show inB ⟨#[66, 83]⟩ 78 = false from by decide] at hin
  refine hin.mono ?_
  clear hin
  rintro e w' ⟨rfl, rfl⟩
  go_wp2_with fail
  have hin := in_calls (w := w6) ⟨#[66, 83]⟩ 82 (by decide)
  rw [show inB ⟨#[66, 83]⟩ 82 = false from by decide] at hin
  refine hin.mono ?_
  clear hin
  rintro e w' ⟨rfl, rfl⟩
  go_wp2_with (first
    | (refine wpl_loadA (ty := 42) (o := 0) (n := 27) rfl rfl rfl hb46 (by kernel_rfl) (by kernel_rfl) (msgCs ⟨m.kind, m.from', m.to, m.ballot, m.slot, 0, reqZ', [], [], 0, verdictZ⟩ (.slice none 0 0) (.slice none 0 0) (.slice none 0 0) (.slice none 0 0)) rfl rfl ?_)
    | (refine wpl_storeB (v := .agg (msgCs ⟨m.kind, m.from', m.to, m.ballot, m.slot, 0, reqZ', [], [], 0, verdictZ⟩ (.slice none 0 0) (.slice none 0 0) (.slice none 0 0) (.slice none 0 0)).toArray) (o := 0) (b := g2) rfl rfl rfl rfl hb26 (by kernel_rfl) (of_decide_eq_true (by kernel_rfl)) (by simp [Value.cells, msgCs, reqCs, verdictCs, Value.oneCell']) ?_; intro wz hbz kz sz; replace hbz : wz.heap[g2]? = some (.cells (msgCs ⟨m.kind, m.from', m.to, m.ballot, m.slot, 0, reqZ', [], [], 0, verdictZ⟩ (.slice none 0 0) (.slice none 0 0) (.slice none 0 0) (.slice none 0 0)).toArray 42) := hbz))
  refine bodyPost_ret (res_cell (g := g2) (cs := (msgCs ⟨m.kind, m.from', m.to, m.ballot, m.slot, 0, reqZ', [], [], 0, verdictZ⟩ (.slice none 0 0) (.slice none 0 0) (.slice none 0 0) (.slice none 0 0)).toArray) Tryz.results45 _ rfl hbz (by kernel_rfl) (by kernel_rfl)) rfl ?_
  obtain ⟨o1, o2⟩ := HW.out
  have kk : Keep (fun _ => False) w wz := ((K3.out.mono (T := fun q => q = g2 ∨ q = g4) (fun _ _ f => f.elim)).trans K6.out (fun _ _ e => .inr e)).trans kz (fun _ _ e => .inl e) |>.mono (fun b hb e => by omega)
  have h := H.out.keep kk (fun _ _ => id)
  refine ⟨none, none, none, none, 0, 0, 0, 0, ?_, ⟨sl_nil _, sl_nil _, sl_nil _, sl_nil _, h.lt⟩, kk⟩
  unfold msgCsA
  rfl
set_option maxRecDepth 20000 in
set_option maxHeartbeats 4000000 in
theorem own11_BSL {Ac Av Ai Ak : Option Addr} {cc cv ci ck : Nat} (h : MsgAt F w m Ac Av Ai Ak cc cv ci ck) (HS : ∀ w, Calls Tryz.prog 41 #[.int .i64 m.kind] w fun e w' => e = .returned (.string ⟨#[66, 83, 76]⟩) ∧ w = w') :
    Calls Tryz.prog 45 #[.agg (msgCsA m Ac Av Ai Ak cc cv ci ck).toArray] w (Own11 F w (ownBy m true true false false true false false false)) := by
  obtain ⟨nc, hnc⟩ : ∃ nc, nc = m.value.changes.length := ⟨_, rfl⟩
  obtain ⟨nv, hnv⟩ : ∃ nv, nv = m.votes.length := ⟨_, rfl⟩
  obtain ⟨ni, hni⟩ : ∃ ni, ni = m.image.length := ⟨_, rfl⟩
  obtain ⟨nk, hnk⟩ : ∃ nk, nk = m.verdict.commits.length := ⟨_, rfl⟩
  have H := hid h; have HS := hid HS
  unfold msgCsA
  rw [← hnc, ← hnv, ← hni, ← hnk]
  have HNC := hid hnc; have HNV := hid hnv; have HNI := hid hni; have HNK := hid hnk
  clear h hnc hnv hni hnk
  go_enter Tryz.func45, Tryz.ntmps45
  go_wp2_with (first
    | (refine wpl_boxB (v := .agg (msgCs m (.slice Ac nc cc) (.slice Av nv cv) (.slice Ai ni ci) (.slice Ak nk ck)).toArray) rfl rfl rfl ?_; intro g1 w1 hg1 hb1 k1 s1; have HG1 := hid hg1; have K1 := hid k1; clear hg1 k1 s1)
    | (refine wpl_allocB (z := zM) rfl rfl (by kernel_rfl) ?_; intro g2 w2 hg2 hb2 k2 s2; have HG2 := hid hg2; have hb1' := k2.heap hb1 id; have K2 := hid (K1.out.trans k2 (fun _ _ f => f)); clear hg2 k2 s2; have q0 := cell_at hb1' 0 (.int .i64 m.kind) rfl; have q1 := cell_at hb1' 1 (.int .i64 m.from') rfl; have q2 := cell_at hb1' 2 (.int .i64 m.to) rfl))
  refine (HS.out w2).mono ?_
  rintro e w' ⟨rfl, rfl⟩
  go_wp2_with (first
    | (refine wpl_build rfl rfl (msgCs ⟨m.kind, m.from', m.to, 0, 0, 0, reqZ', [], [], 0, verdictZ⟩ (.slice none 0 0) (.slice none 0 0) (.slice none 0 0) (.slice none 0 0)).toArray (by kernel_rfl) ?_)
    | (refine wpl_allocB (z := zM) rfl rfl (by kernel_rfl) ?_; intro g4 w3 hg4 hb4 k3 s3; have HG4 := hid hg4; have hb13 := k3.heap hb1' id; have hb23 := k3.heap hb2 id; have K3 := hid (K2.out.trans k3 (fun _ _ f => f)); clear hg4 k3 s3)
    | (refine wpl_storeB (v := .agg (msgCs ⟨m.kind, m.from', m.to, 0, 0, 0, reqZ', [], [], 0, verdictZ⟩ (.slice none 0 0) (.slice none 0 0) (.slice none 0 0) (.slice none 0 0)).toArray) (b := g4) rfl rfl rfl rfl hb4 (by kernel_rfl) (of_decide_eq_true (by kernel_rfl)) (by simp [Value.cells, msgCs, reqCs, verdictCs, Value.oneCell']) ?_; intro w4 hb44 k4 s4; have K4 := hid k4; clear s4 k4; replace hb44 : w4.heap[g4]? = some (.cells (msgCs ⟨m.kind, m.from', m.to, 0, 0, 0, reqZ', [], [], 0, verdictZ⟩ (.slice none 0 0) (.slice none 0 0) (.slice none 0 0) (.slice none 0 0)).toArray 42) := hb44))
  have HNE := hid (show g1 ≠ g4 ∧ g2 ≠ g4 ∧ g1 ≠ g2 from ⟨by have := lt_heap hb1'; have := HG4.out; omega, by have := lt_heap hb2; have := HG4.out; omega, by have := lt_heap hb1; have := HG2.out; omega⟩)
  have hb14 := K4.out.heap hb13 HNE.out.1
  have hb24 := K4.out.heap hb23 HNE.out.2.1
  have HW := hid (show w.heap.size ≤ g2 ∧ w.heap.size ≤ g4 from ⟨by have := K1.out.size; have := HG2.out; omega, by have := K2.out.size; have := HG4.out; omega⟩)
  clear hb1 hb1' hb2 hb4 hb13 hb23 q0 q1 q2
  have hin := in_calls (w := w4) ⟨#[66, 83, 76]⟩ 66 (by decide)
  rw [show inB ⟨#[66, 83, 76]⟩ 66 = true from by decide] at hin
  refine hin.mono ?_
  clear hin
  rintro e w' ⟨rfl, rfl⟩
  go_wp2_with (first
    | (refine wpl_load1 rfl rfl rfl hb14 (by kernel_rfl) (v := .int .i64 m.ballot) rfl ?_)
    | (refine wpl_storeB (v := .int .i64 m.ballot) (o := 3) (b := g4) rfl rfl rfl rfl hb44 (by kernel_rfl) (of_decide_eq_true (by kernel_rfl)) (by simp [Value.cells, Value.oneCell']) ?_; intro w5 hb45 k5 s5; have hb15 := k5.heap hb14 HNE.out.1; have hb25 := k5.heap hb24 HNE.out.2.1; have K5 := hid (K4.out.trans k5 (fun _ _ e => e)); clear s5 k5; replace hb45 : w5.heap[g4]? = some (.cells (msgCs ⟨m.kind, m.from', m.to, m.ballot, 0, 0, reqZ', [], [], 0, verdictZ⟩ (.slice none 0 0) (.slice none 0 0) (.slice none 0 0) (.slice none 0 0)).toArray 42) := hb45))
  have hin := in_calls (w := w5) ⟨#[66, 83, 76]⟩ 83 (by decide)
  rw [show inB ⟨#[66, 83, 76]⟩ 83 = true from by decide] at hin
  refine hin.mono ?_
  clear hin
  rintro e w' ⟨rfl, rfl⟩
  go_wp2_with (first
    | (refine wpl_load1 rfl rfl rfl hb15 (by kernel_rfl) (v := .int .i64 m.slot) rfl ?_)
    | (refine wpl_storeB (v := .int .i64 m.slot) (o := 4) (b := g4) rfl rfl rfl rfl hb45 (by kernel_rfl) (of_decide_eq_true (by kernel_rfl)) (by simp [Value.cells, Value.oneCell']) ?_; intro w6 hb46 k6 s6; have hb16 := k6.heap hb15 HNE.out.1; have hb26 := k6.heap hb25 HNE.out.2.1; have K6 := hid (K5.out.trans k6 (fun _ _ e => e)); clear s6 k6; replace hb46 : w6.heap[g4]? = some (.cells (msgCs ⟨m.kind, m.from', m.to, m.ballot, m.slot, 0, reqZ', [], [], 0, verdictZ⟩ (.slice none 0 0) (.slice none 0 0) (.slice none 0 0) (.slice none 0 0)).toArray 42) := hb46))
  have hin := in_calls (w := w6) ⟨#[66, 83, 76]⟩ 84 (by decide)
  rw [show inB ⟨#[66, 83, 76]⟩ 84 = false from by decide] at hin
  refine hin.mono ?_
  clear hin
  rintro e w' ⟨rfl, rfl⟩
  go_wp2_with fail
  have hin := in_calls (w := w6) ⟨#[66, 83, 76]⟩ 86 (by decide)
  rw [show inB ⟨#[66, 83, 76]⟩ 86 = false from by decide] at hin
  refine hin.mono ?_
  clear hin
  rintro e w' ⟨rfl, rfl⟩
  go_wp2_with fail
  have hin := in_calls (w := w6) ⟨#[66, 83, 76]⟩ 76 (by decide)
  rw [show inB ⟨#[66, 83, 76]⟩ 76 = true from by decide] at hin
  refine hin.mono ?_
  clear hin
  rintro e w' ⟨rfl, rfl⟩
  go_wp2_with (first
    | (refine wpl_load1 rfl rfl rfl hb16 (by kernel_rfl) (v := .slice Av nv cv) rfl ?_)
    | (refine wpl_storeB (v := .slice Av nv cv) (o := 17) (b := g4) rfl rfl rfl rfl hb46 (by kernel_rfl) (of_decide_eq_true (by kernel_rfl)) (by simp [Value.cells, Value.oneCell']) ?_; intro w7 hb47 k7 s7; have hb17 := k7.heap hb16 HNE.out.1; have hb27 := k7.heap hb26 HNE.out.2.1; have K7 := hid (K6.out.trans k7 (fun _ _ e => e)); clear s7 k7; replace hb47 : w7.heap[g4]? = some (.cells (msgCs ⟨m.kind, m.from', m.to, m.ballot, m.slot, 0, reqZ', m.votes, [], 0, verdictZ⟩ (.slice none 0 0) (.slice Av nv cv) (.slice none 0 0) (.slice none 0 0)).toArray 42) := hb47))
  have hin := in_calls (w := w7) ⟨#[66, 83, 76]⟩ 73 (by decide)
  rw [show inB ⟨#[66, 83, 76]⟩ 73 = false from by decide] at hin
  refine hin.mono ?_
  clear hin
  rintro e w' ⟨rfl, rfl⟩
  go_wp2_with fail
  have hin := in_calls (w := w7) ⟨#[66, 83, 76]⟩ 78 (by decide)
  rw [show inB ⟨#[66, 83, 76]⟩ 78 = false from by decide] at hin
  refine hin.mono ?_
  clear hin
  rintro e w' ⟨rfl, rfl⟩
  go_wp2_with fail
  have hin := in_calls (w := w7) ⟨#[66, 83, 76]⟩ 82 (by decide)
  rw [show inB ⟨#[66, 83, 76]⟩ 82 = false from by decide] at hin
  refine hin.mono ?_
  clear hin
  rintro e w' ⟨rfl, rfl⟩
  go_wp2_with (first
    | (refine wpl_loadA (ty := 42) (o := 0) (n := 27) rfl rfl rfl hb47 (by kernel_rfl) (by kernel_rfl) (msgCs ⟨m.kind, m.from', m.to, m.ballot, m.slot, 0, reqZ', m.votes, [], 0, verdictZ⟩ (.slice none 0 0) (.slice Av nv cv) (.slice none 0 0) (.slice none 0 0)) rfl rfl ?_)
    | (refine wpl_storeB (v := .agg (msgCs ⟨m.kind, m.from', m.to, m.ballot, m.slot, 0, reqZ', m.votes, [], 0, verdictZ⟩ (.slice none 0 0) (.slice Av nv cv) (.slice none 0 0) (.slice none 0 0)).toArray) (o := 0) (b := g2) rfl rfl rfl rfl hb27 (by kernel_rfl) (of_decide_eq_true (by kernel_rfl)) (by simp [Value.cells, msgCs, reqCs, verdictCs, Value.oneCell']) ?_; intro wz hbz kz sz; replace hbz : wz.heap[g2]? = some (.cells (msgCs ⟨m.kind, m.from', m.to, m.ballot, m.slot, 0, reqZ', m.votes, [], 0, verdictZ⟩ (.slice none 0 0) (.slice Av nv cv) (.slice none 0 0) (.slice none 0 0)).toArray 42) := hbz))
  refine bodyPost_ret (res_cell (g := g2) (cs := (msgCs ⟨m.kind, m.from', m.to, m.ballot, m.slot, 0, reqZ', m.votes, [], 0, verdictZ⟩ (.slice none 0 0) (.slice Av nv cv) (.slice none 0 0) (.slice none 0 0)).toArray) Tryz.results45 _ rfl hbz (by kernel_rfl) (by kernel_rfl)) rfl ?_
  obtain ⟨o1, o2⟩ := HW.out
  have kk : Keep (fun _ => False) w wz := ((K3.out.mono (T := fun q => q = g2 ∨ q = g4) (fun _ _ f => f.elim)).trans K7.out (fun _ _ e => .inr e)).trans kz (fun _ _ e => .inl e) |>.mono (fun b hb e => by omega)
  have h := H.out.keep kk (fun _ _ => id)
  refine ⟨none, Av, none, none, 0, cv, 0, 0, ?_, ⟨sl_nil _, h.v, sl_nil _, sl_nil _, h.lt⟩, kk⟩
  unfold msgCsA
  simp only [HNV.out]
  rfl
set_option maxRecDepth 20000 in
set_option maxHeartbeats 4000000 in
theorem own11_BSV {Ac Av Ai Ak : Option Addr} {cc cv ci ck : Nat} (h : MsgAt F w m Ac Av Ai Ak cc cv ci ck) (HS : ∀ w, Calls Tryz.prog 41 #[.int .i64 m.kind] w fun e w' => e = .returned (.string ⟨#[66, 83, 86]⟩) ∧ w = w') :
    Calls Tryz.prog 45 #[.agg (msgCsA m Ac Av Ai Ak cc cv ci ck).toArray] w (Own11 F w (ownBy m true true false true false false false false)) := by
  obtain ⟨nc, hnc⟩ : ∃ nc, nc = m.value.changes.length := ⟨_, rfl⟩
  obtain ⟨nv, hnv⟩ : ∃ nv, nv = m.votes.length := ⟨_, rfl⟩
  obtain ⟨ni, hni⟩ : ∃ ni, ni = m.image.length := ⟨_, rfl⟩
  obtain ⟨nk, hnk⟩ : ∃ nk, nk = m.verdict.commits.length := ⟨_, rfl⟩
  have H := hid h; have HS := hid HS
  unfold msgCsA
  rw [← hnc, ← hnv, ← hni, ← hnk]
  have HNC := hid hnc; have HNV := hid hnv; have HNI := hid hni; have HNK := hid hnk
  clear h hnc hnv hni hnk
  go_enter Tryz.func45, Tryz.ntmps45
  go_wp2_with (first
    | (refine wpl_boxB (v := .agg (msgCs m (.slice Ac nc cc) (.slice Av nv cv) (.slice Ai ni ci) (.slice Ak nk ck)).toArray) rfl rfl rfl ?_; intro g1 w1 hg1 hb1 k1 s1; have HG1 := hid hg1; have K1 := hid k1; clear hg1 k1 s1)
    | (refine wpl_allocB (z := zM) rfl rfl (by kernel_rfl) ?_; intro g2 w2 hg2 hb2 k2 s2; have HG2 := hid hg2; have hb1' := k2.heap hb1 id; have K2 := hid (K1.out.trans k2 (fun _ _ f => f)); clear hg2 k2 s2; have q0 := cell_at hb1' 0 (.int .i64 m.kind) rfl; have q1 := cell_at hb1' 1 (.int .i64 m.from') rfl; have q2 := cell_at hb1' 2 (.int .i64 m.to) rfl))
  refine (HS.out w2).mono ?_
  rintro e w' ⟨rfl, rfl⟩
  go_wp2_with (first
    | (refine wpl_build rfl rfl (msgCs ⟨m.kind, m.from', m.to, 0, 0, 0, reqZ', [], [], 0, verdictZ⟩ (.slice none 0 0) (.slice none 0 0) (.slice none 0 0) (.slice none 0 0)).toArray (by kernel_rfl) ?_)
    | (refine wpl_allocB (z := zM) rfl rfl (by kernel_rfl) ?_; intro g4 w3 hg4 hb4 k3 s3; have HG4 := hid hg4; have hb13 := k3.heap hb1' id; have hb23 := k3.heap hb2 id; have K3 := hid (K2.out.trans k3 (fun _ _ f => f)); clear hg4 k3 s3)
    | (refine wpl_storeB (v := .agg (msgCs ⟨m.kind, m.from', m.to, 0, 0, 0, reqZ', [], [], 0, verdictZ⟩ (.slice none 0 0) (.slice none 0 0) (.slice none 0 0) (.slice none 0 0)).toArray) (b := g4) rfl rfl rfl rfl hb4 (by kernel_rfl) (of_decide_eq_true (by kernel_rfl)) (by simp [Value.cells, msgCs, reqCs, verdictCs, Value.oneCell']) ?_; intro w4 hb44 k4 s4; have K4 := hid k4; clear s4 k4; replace hb44 : w4.heap[g4]? = some (.cells (msgCs ⟨m.kind, m.from', m.to, 0, 0, 0, reqZ', [], [], 0, verdictZ⟩ (.slice none 0 0) (.slice none 0 0) (.slice none 0 0) (.slice none 0 0)).toArray 42) := hb44))
  have HNE := hid (show g1 ≠ g4 ∧ g2 ≠ g4 ∧ g1 ≠ g2 from ⟨by have := lt_heap hb1'; have := HG4.out; omega, by have := lt_heap hb2; have := HG4.out; omega, by have := lt_heap hb1; have := HG2.out; omega⟩)
  have hb14 := K4.out.heap hb13 HNE.out.1
  have hb24 := K4.out.heap hb23 HNE.out.2.1
  have HW := hid (show w.heap.size ≤ g2 ∧ w.heap.size ≤ g4 from ⟨by have := K1.out.size; have := HG2.out; omega, by have := K2.out.size; have := HG4.out; omega⟩)
  clear hb1 hb1' hb2 hb4 hb13 hb23 q0 q1 q2
  have hin := in_calls (w := w4) ⟨#[66, 83, 86]⟩ 66 (by decide)
  rw [show inB ⟨#[66, 83, 86]⟩ 66 = true from by decide] at hin
  refine hin.mono ?_
  clear hin
  rintro e w' ⟨rfl, rfl⟩
  go_wp2_with (first
    | (refine wpl_load1 rfl rfl rfl hb14 (by kernel_rfl) (v := .int .i64 m.ballot) rfl ?_)
    | (refine wpl_storeB (v := .int .i64 m.ballot) (o := 3) (b := g4) rfl rfl rfl rfl hb44 (by kernel_rfl) (of_decide_eq_true (by kernel_rfl)) (by simp [Value.cells, Value.oneCell']) ?_; intro w5 hb45 k5 s5; have hb15 := k5.heap hb14 HNE.out.1; have hb25 := k5.heap hb24 HNE.out.2.1; have K5 := hid (K4.out.trans k5 (fun _ _ e => e)); clear s5 k5; replace hb45 : w5.heap[g4]? = some (.cells (msgCs ⟨m.kind, m.from', m.to, m.ballot, 0, 0, reqZ', [], [], 0, verdictZ⟩ (.slice none 0 0) (.slice none 0 0) (.slice none 0 0) (.slice none 0 0)).toArray 42) := hb45))
  have hin := in_calls (w := w5) ⟨#[66, 83, 86]⟩ 83 (by decide)
  rw [show inB ⟨#[66, 83, 86]⟩ 83 = true from by decide] at hin
  refine hin.mono ?_
  clear hin
  rintro e w' ⟨rfl, rfl⟩
  go_wp2_with (first
    | (refine wpl_load1 rfl rfl rfl hb15 (by kernel_rfl) (v := .int .i64 m.slot) rfl ?_)
    | (refine wpl_storeB (v := .int .i64 m.slot) (o := 4) (b := g4) rfl rfl rfl rfl hb45 (by kernel_rfl) (of_decide_eq_true (by kernel_rfl)) (by simp [Value.cells, Value.oneCell']) ?_; intro w6 hb46 k6 s6; have hb16 := k6.heap hb15 HNE.out.1; have hb26 := k6.heap hb25 HNE.out.2.1; have K6 := hid (K5.out.trans k6 (fun _ _ e => e)); clear s6 k6; replace hb46 : w6.heap[g4]? = some (.cells (msgCs ⟨m.kind, m.from', m.to, m.ballot, m.slot, 0, reqZ', [], [], 0, verdictZ⟩ (.slice none 0 0) (.slice none 0 0) (.slice none 0 0) (.slice none 0 0)).toArray 42) := hb46))
  have hin := in_calls (w := w6) ⟨#[66, 83, 86]⟩ 84 (by decide)
  rw [show inB ⟨#[66, 83, 86]⟩ 84 = false from by decide] at hin
  refine hin.mono ?_
  clear hin
  rintro e w' ⟨rfl, rfl⟩
  go_wp2_with fail
  have hin := in_calls (w := w6) ⟨#[66, 83, 86]⟩ 86 (by decide)
  rw [show inB ⟨#[66, 83, 86]⟩ 86 = true from by decide] at hin
  refine hin.mono ?_
  clear hin
  rintro e w' ⟨rfl, rfl⟩
  go_wp2_with (first
    | (refine wpl_loadA (ty := 34) (o := 6) (n := 11) rfl rfl rfl hb16 (by kernel_rfl) (by kernel_rfl) (reqCs m.value (.slice Ac nc cc)) rfl rfl ?_)
    | (refine wpl_storeB (v := .agg (reqCs m.value (.slice Ac nc cc)).toArray) (o := 6) (b := g4) rfl rfl rfl rfl hb46 (by kernel_rfl) (of_decide_eq_true (by kernel_rfl)) (by simp [Value.cells, reqCs, Value.oneCell']) ?_; intro w7 hb47 k7 s7; have hb17 := k7.heap hb16 HNE.out.1; have hb27 := k7.heap hb26 HNE.out.2.1; have K7 := hid (K6.out.trans k7 (fun _ _ e => e)); clear s7 k7; replace hb47 : w7.heap[g4]? = some (.cells (msgCs ⟨m.kind, m.from', m.to, m.ballot, m.slot, 0, m.value, [], [], 0, verdictZ⟩ (.slice Ac nc cc) (.slice none 0 0) (.slice none 0 0) (.slice none 0 0)).toArray 42) := hb47))
  have hin := in_calls (w := w7) ⟨#[66, 83, 86]⟩ 76 (by decide)
  rw [show inB ⟨#[66, 83, 86]⟩ 76 = false from by decide] at hin
  refine hin.mono ?_
  clear hin
  rintro e w' ⟨rfl, rfl⟩
  go_wp2_with fail
  have hin := in_calls (w := w7) ⟨#[66, 83, 86]⟩ 73 (by decide)
  rw [show inB ⟨#[66, 83, 86]⟩ 73 = false from by decide] at hin
  refine hin.mono ?_
  clear hin
  rintro e w' ⟨rfl, rfl⟩
  go_wp2_with fail
  have hin := in_calls (w := w7) ⟨#[66, 83, 86]⟩ 78 (by decide)
  rw [show inB ⟨#[66, 83, 86]⟩ 78 = false from by decide] at hin
  refine hin.mono ?_
  clear hin
  rintro e w' ⟨rfl, rfl⟩
  go_wp2_with fail
  have hin := in_calls (w := w7) ⟨#[66, 83, 86]⟩ 82 (by decide)
  rw [show inB ⟨#[66, 83, 86]⟩ 82 = false from by decide] at hin
  refine hin.mono ?_
  clear hin
  rintro e w' ⟨rfl, rfl⟩
  go_wp2_with (first
    | (refine wpl_loadA (ty := 42) (o := 0) (n := 27) rfl rfl rfl hb47 (by kernel_rfl) (by kernel_rfl) (msgCs ⟨m.kind, m.from', m.to, m.ballot, m.slot, 0, m.value, [], [], 0, verdictZ⟩ (.slice Ac nc cc) (.slice none 0 0) (.slice none 0 0) (.slice none 0 0)) rfl rfl ?_)
    | (refine wpl_storeB (v := .agg (msgCs ⟨m.kind, m.from', m.to, m.ballot, m.slot, 0, m.value, [], [], 0, verdictZ⟩ (.slice Ac nc cc) (.slice none 0 0) (.slice none 0 0) (.slice none 0 0)).toArray) (o := 0) (b := g2) rfl rfl rfl rfl hb27 (by kernel_rfl) (of_decide_eq_true (by kernel_rfl)) (by simp [Value.cells, msgCs, reqCs, verdictCs, Value.oneCell']) ?_; intro wz hbz kz sz; replace hbz : wz.heap[g2]? = some (.cells (msgCs ⟨m.kind, m.from', m.to, m.ballot, m.slot, 0, m.value, [], [], 0, verdictZ⟩ (.slice Ac nc cc) (.slice none 0 0) (.slice none 0 0) (.slice none 0 0)).toArray 42) := hbz))
  refine bodyPost_ret (res_cell (g := g2) (cs := (msgCs ⟨m.kind, m.from', m.to, m.ballot, m.slot, 0, m.value, [], [], 0, verdictZ⟩ (.slice Ac nc cc) (.slice none 0 0) (.slice none 0 0) (.slice none 0 0)).toArray) Tryz.results45 _ rfl hbz (by kernel_rfl) (by kernel_rfl)) rfl ?_
  obtain ⟨o1, o2⟩ := HW.out
  have kk : Keep (fun _ => False) w wz := ((K3.out.mono (T := fun q => q = g2 ∨ q = g4) (fun _ _ f => f.elim)).trans K7.out (fun _ _ e => .inr e)).trans kz (fun _ _ e => .inl e) |>.mono (fun b hb e => by omega)
  have h := H.out.keep kk (fun _ _ => id)
  refine ⟨Ac, none, none, none, cc, 0, 0, 0, ?_, ⟨h.c, sl_nil _, sl_nil _, sl_nil _, h.lt⟩, kk⟩
  unfold msgCsA
  simp only [HNC.out]
  rfl
set_option maxRecDepth 20000 in
set_option maxHeartbeats 4000000 in
theorem own11_B {Ac Av Ai Ak : Option Addr} {cc cv ci ck : Nat} (h : MsgAt F w m Ac Av Ai Ak cc cv ci ck) (HS : ∀ w, Calls Tryz.prog 41 #[.int .i64 m.kind] w fun e w' => e = .returned (.string ⟨#[66]⟩) ∧ w = w') :
    Calls Tryz.prog 45 #[.agg (msgCsA m Ac Av Ai Ak cc cv ci ck).toArray] w (Own11 F w (ownBy m true false false false false false false false)) := by
  obtain ⟨nc, hnc⟩ : ∃ nc, nc = m.value.changes.length := ⟨_, rfl⟩
  obtain ⟨nv, hnv⟩ : ∃ nv, nv = m.votes.length := ⟨_, rfl⟩
  obtain ⟨ni, hni⟩ : ∃ ni, ni = m.image.length := ⟨_, rfl⟩
  obtain ⟨nk, hnk⟩ : ∃ nk, nk = m.verdict.commits.length := ⟨_, rfl⟩
  have H := hid h; have HS := hid HS
  unfold msgCsA
  rw [← hnc, ← hnv, ← hni, ← hnk]
  have HNC := hid hnc; have HNV := hid hnv; have HNI := hid hni; have HNK := hid hnk
  clear h hnc hnv hni hnk
  go_enter Tryz.func45, Tryz.ntmps45
  go_wp2_with (first
    | (refine wpl_boxB (v := .agg (msgCs m (.slice Ac nc cc) (.slice Av nv cv) (.slice Ai ni ci) (.slice Ak nk ck)).toArray) rfl rfl rfl ?_; intro g1 w1 hg1 hb1 k1 s1; have HG1 := hid hg1; have K1 := hid k1; clear hg1 k1 s1)
    | (refine wpl_allocB (z := zM) rfl rfl (by kernel_rfl) ?_; intro g2 w2 hg2 hb2 k2 s2; have HG2 := hid hg2; have hb1' := k2.heap hb1 id; have K2 := hid (K1.out.trans k2 (fun _ _ f => f)); clear hg2 k2 s2; have q0 := cell_at hb1' 0 (.int .i64 m.kind) rfl; have q1 := cell_at hb1' 1 (.int .i64 m.from') rfl; have q2 := cell_at hb1' 2 (.int .i64 m.to) rfl))
  refine (HS.out w2).mono ?_
  rintro e w' ⟨rfl, rfl⟩
  go_wp2_with (first
    | (refine wpl_build rfl rfl (msgCs ⟨m.kind, m.from', m.to, 0, 0, 0, reqZ', [], [], 0, verdictZ⟩ (.slice none 0 0) (.slice none 0 0) (.slice none 0 0) (.slice none 0 0)).toArray (by kernel_rfl) ?_)
    | (refine wpl_allocB (z := zM) rfl rfl (by kernel_rfl) ?_; intro g4 w3 hg4 hb4 k3 s3; have HG4 := hid hg4; have hb13 := k3.heap hb1' id; have hb23 := k3.heap hb2 id; have K3 := hid (K2.out.trans k3 (fun _ _ f => f)); clear hg4 k3 s3)
    | (refine wpl_storeB (v := .agg (msgCs ⟨m.kind, m.from', m.to, 0, 0, 0, reqZ', [], [], 0, verdictZ⟩ (.slice none 0 0) (.slice none 0 0) (.slice none 0 0) (.slice none 0 0)).toArray) (b := g4) rfl rfl rfl rfl hb4 (by kernel_rfl) (of_decide_eq_true (by kernel_rfl)) (by simp [Value.cells, msgCs, reqCs, verdictCs, Value.oneCell']) ?_; intro w4 hb44 k4 s4; have K4 := hid k4; clear s4 k4; replace hb44 : w4.heap[g4]? = some (.cells (msgCs ⟨m.kind, m.from', m.to, 0, 0, 0, reqZ', [], [], 0, verdictZ⟩ (.slice none 0 0) (.slice none 0 0) (.slice none 0 0) (.slice none 0 0)).toArray 42) := hb44))
  have HNE := hid (show g1 ≠ g4 ∧ g2 ≠ g4 ∧ g1 ≠ g2 from ⟨by have := lt_heap hb1'; have := HG4.out; omega, by have := lt_heap hb2; have := HG4.out; omega, by have := lt_heap hb1; have := HG2.out; omega⟩)
  have hb14 := K4.out.heap hb13 HNE.out.1
  have hb24 := K4.out.heap hb23 HNE.out.2.1
  have HW := hid (show w.heap.size ≤ g2 ∧ w.heap.size ≤ g4 from ⟨by have := K1.out.size; have := HG2.out; omega, by have := K2.out.size; have := HG4.out; omega⟩)
  clear hb1 hb1' hb2 hb4 hb13 hb23 q0 q1 q2
  have hin := in_calls (w := w4) ⟨#[66]⟩ 66 (by decide)
  rw [show inB ⟨#[66]⟩ 66 = true from by decide] at hin
  refine hin.mono ?_
  clear hin
  rintro e w' ⟨rfl, rfl⟩
  go_wp2_with (first
    | (refine wpl_load1 rfl rfl rfl hb14 (by kernel_rfl) (v := .int .i64 m.ballot) rfl ?_)
    | (refine wpl_storeB (v := .int .i64 m.ballot) (o := 3) (b := g4) rfl rfl rfl rfl hb44 (by kernel_rfl) (of_decide_eq_true (by kernel_rfl)) (by simp [Value.cells, Value.oneCell']) ?_; intro w5 hb45 k5 s5; have hb15 := k5.heap hb14 HNE.out.1; have hb25 := k5.heap hb24 HNE.out.2.1; have K5 := hid (K4.out.trans k5 (fun _ _ e => e)); clear s5 k5; replace hb45 : w5.heap[g4]? = some (.cells (msgCs ⟨m.kind, m.from', m.to, m.ballot, 0, 0, reqZ', [], [], 0, verdictZ⟩ (.slice none 0 0) (.slice none 0 0) (.slice none 0 0) (.slice none 0 0)).toArray 42) := hb45))
  have hin := in_calls (w := w5) ⟨#[66]⟩ 83 (by decide)
  rw [show inB ⟨#[66]⟩ 83 = false from by decide] at hin
  refine hin.mono ?_
  clear hin
  rintro e w' ⟨rfl, rfl⟩
  go_wp2_with fail
  have hin := in_calls (w := w5) ⟨#[66]⟩ 84 (by decide)
  rw [show inB ⟨#[66]⟩ 84 = false from by decide] at hin
  refine hin.mono ?_
  clear hin
  rintro e w' ⟨rfl, rfl⟩
  go_wp2_with fail
  have hin := in_calls (w := w5) ⟨#[66]⟩ 86 (by decide)
  rw [show inB ⟨#[66]⟩ 86 = false from by decide] at hin
  refine hin.mono ?_
  clear hin
  rintro e w' ⟨rfl, rfl⟩
  go_wp2_with fail
  have hin := in_calls (w := w5) ⟨#[66]⟩ 76 (by decide)
  rw [show inB ⟨#[66]⟩ 76 = false from by decide] at hin
  refine hin.mono ?_
  clear hin
  rintro e w' ⟨rfl, rfl⟩
  go_wp2_with fail
  have hin := in_calls (w := w5) ⟨#[66]⟩ 73 (by decide)
  rw [show inB ⟨#[66]⟩ 73 = false from by decide] at hin
  refine hin.mono ?_
  clear hin
  rintro e w' ⟨rfl, rfl⟩
  go_wp2_with fail
  have hin := in_calls (w := w5) ⟨#[66]⟩ 78 (by decide)
  rw [show inB ⟨#[66]⟩ 78 = false from by decide] at hin
  refine hin.mono ?_
  clear hin
  rintro e w' ⟨rfl, rfl⟩
  go_wp2_with fail
  have hin := in_calls (w := w5) ⟨#[66]⟩ 82 (by decide)
  rw [show inB ⟨#[66]⟩ 82 = false from by decide] at hin
  refine hin.mono ?_
  clear hin
  rintro e w' ⟨rfl, rfl⟩
  go_wp2_with (first
    | (refine wpl_loadA (ty := 42) (o := 0) (n := 27) rfl rfl rfl hb45 (by kernel_rfl) (by kernel_rfl) (msgCs ⟨m.kind, m.from', m.to, m.ballot, 0, 0, reqZ', [], [], 0, verdictZ⟩ (.slice none 0 0) (.slice none 0 0) (.slice none 0 0) (.slice none 0 0)) rfl rfl ?_)
    | (refine wpl_storeB (v := .agg (msgCs ⟨m.kind, m.from', m.to, m.ballot, 0, 0, reqZ', [], [], 0, verdictZ⟩ (.slice none 0 0) (.slice none 0 0) (.slice none 0 0) (.slice none 0 0)).toArray) (o := 0) (b := g2) rfl rfl rfl rfl hb25 (by kernel_rfl) (of_decide_eq_true (by kernel_rfl)) (by simp [Value.cells, msgCs, reqCs, verdictCs, Value.oneCell']) ?_; intro wz hbz kz sz; replace hbz : wz.heap[g2]? = some (.cells (msgCs ⟨m.kind, m.from', m.to, m.ballot, 0, 0, reqZ', [], [], 0, verdictZ⟩ (.slice none 0 0) (.slice none 0 0) (.slice none 0 0) (.slice none 0 0)).toArray 42) := hbz))
  refine bodyPost_ret (res_cell (g := g2) (cs := (msgCs ⟨m.kind, m.from', m.to, m.ballot, 0, 0, reqZ', [], [], 0, verdictZ⟩ (.slice none 0 0) (.slice none 0 0) (.slice none 0 0) (.slice none 0 0)).toArray) Tryz.results45 _ rfl hbz (by kernel_rfl) (by kernel_rfl)) rfl ?_
  obtain ⟨o1, o2⟩ := HW.out
  have kk : Keep (fun _ => False) w wz := ((K3.out.mono (T := fun q => q = g2 ∨ q = g4) (fun _ _ f => f.elim)).trans K5.out (fun _ _ e => .inr e)).trans kz (fun _ _ e => .inl e) |>.mono (fun b hb e => by omega)
  have h := H.out.keep kk (fun _ _ => id)
  refine ⟨none, none, none, none, 0, 0, 0, 0, ?_, ⟨sl_nil _, sl_nil _, sl_nil _, sl_nil _, h.lt⟩, kk⟩
  unfold msgCsA
  rfl
set_option maxRecDepth 20000 in
set_option maxHeartbeats 4000000 in
theorem own11_SV {Ac Av Ai Ak : Option Addr} {cc cv ci ck : Nat} (h : MsgAt F w m Ac Av Ai Ak cc cv ci ck) (HS : ∀ w, Calls Tryz.prog 41 #[.int .i64 m.kind] w fun e w' => e = .returned (.string ⟨#[83, 86]⟩) ∧ w = w') :
    Calls Tryz.prog 45 #[.agg (msgCsA m Ac Av Ai Ak cc cv ci ck).toArray] w (Own11 F w (ownBy m false true false true false false false false)) := by
  obtain ⟨nc, hnc⟩ : ∃ nc, nc = m.value.changes.length := ⟨_, rfl⟩
  obtain ⟨nv, hnv⟩ : ∃ nv, nv = m.votes.length := ⟨_, rfl⟩
  obtain ⟨ni, hni⟩ : ∃ ni, ni = m.image.length := ⟨_, rfl⟩
  obtain ⟨nk, hnk⟩ : ∃ nk, nk = m.verdict.commits.length := ⟨_, rfl⟩
  have H := hid h; have HS := hid HS
  unfold msgCsA
  rw [← hnc, ← hnv, ← hni, ← hnk]
  have HNC := hid hnc; have HNV := hid hnv; have HNI := hid hni; have HNK := hid hnk
  clear h hnc hnv hni hnk
  go_enter Tryz.func45, Tryz.ntmps45
  go_wp2_with (first
    | (refine wpl_boxB (v := .agg (msgCs m (.slice Ac nc cc) (.slice Av nv cv) (.slice Ai ni ci) (.slice Ak nk ck)).toArray) rfl rfl rfl ?_; intro g1 w1 hg1 hb1 k1 s1; have HG1 := hid hg1; have K1 := hid k1; clear hg1 k1 s1)
    | (refine wpl_allocB (z := zM) rfl rfl (by kernel_rfl) ?_; intro g2 w2 hg2 hb2 k2 s2; have HG2 := hid hg2; have hb1' := k2.heap hb1 id; have K2 := hid (K1.out.trans k2 (fun _ _ f => f)); clear hg2 k2 s2; have q0 := cell_at hb1' 0 (.int .i64 m.kind) rfl; have q1 := cell_at hb1' 1 (.int .i64 m.from') rfl; have q2 := cell_at hb1' 2 (.int .i64 m.to) rfl))
  refine (HS.out w2).mono ?_
  rintro e w' ⟨rfl, rfl⟩
  go_wp2_with (first
    | (refine wpl_build rfl rfl (msgCs ⟨m.kind, m.from', m.to, 0, 0, 0, reqZ', [], [], 0, verdictZ⟩ (.slice none 0 0) (.slice none 0 0) (.slice none 0 0) (.slice none 0 0)).toArray (by kernel_rfl) ?_)
    | (refine wpl_allocB (z := zM) rfl rfl (by kernel_rfl) ?_; intro g4 w3 hg4 hb4 k3 s3; have HG4 := hid hg4; have hb13 := k3.heap hb1' id; have hb23 := k3.heap hb2 id; have K3 := hid (K2.out.trans k3 (fun _ _ f => f)); clear hg4 k3 s3)
    | (refine wpl_storeB (v := .agg (msgCs ⟨m.kind, m.from', m.to, 0, 0, 0, reqZ', [], [], 0, verdictZ⟩ (.slice none 0 0) (.slice none 0 0) (.slice none 0 0) (.slice none 0 0)).toArray) (b := g4) rfl rfl rfl rfl hb4 (by kernel_rfl) (of_decide_eq_true (by kernel_rfl)) (by simp [Value.cells, msgCs, reqCs, verdictCs, Value.oneCell']) ?_; intro w4 hb44 k4 s4; have K4 := hid k4; clear s4 k4; replace hb44 : w4.heap[g4]? = some (.cells (msgCs ⟨m.kind, m.from', m.to, 0, 0, 0, reqZ', [], [], 0, verdictZ⟩ (.slice none 0 0) (.slice none 0 0) (.slice none 0 0) (.slice none 0 0)).toArray 42) := hb44))
  have HNE := hid (show g1 ≠ g4 ∧ g2 ≠ g4 ∧ g1 ≠ g2 from ⟨by have := lt_heap hb1'; have := HG4.out; omega, by have := lt_heap hb2; have := HG4.out; omega, by have := lt_heap hb1; have := HG2.out; omega⟩)
  have hb14 := K4.out.heap hb13 HNE.out.1
  have hb24 := K4.out.heap hb23 HNE.out.2.1
  have HW := hid (show w.heap.size ≤ g2 ∧ w.heap.size ≤ g4 from ⟨by have := K1.out.size; have := HG2.out; omega, by have := K2.out.size; have := HG4.out; omega⟩)
  clear hb1 hb1' hb2 hb4 hb13 hb23 q0 q1 q2
  have hin := in_calls (w := w4) ⟨#[83, 86]⟩ 66 (by decide)
  rw [show inB ⟨#[83, 86]⟩ 66 = false from by decide] at hin
  refine hin.mono ?_
  clear hin
  rintro e w' ⟨rfl, rfl⟩
  go_wp2_with fail
  have hin := in_calls (w := w4) ⟨#[83, 86]⟩ 83 (by decide)
  rw [show inB ⟨#[83, 86]⟩ 83 = true from by decide] at hin
  refine hin.mono ?_
  clear hin
  rintro e w' ⟨rfl, rfl⟩
  go_wp2_with (first
    | (refine wpl_load1 rfl rfl rfl hb14 (by kernel_rfl) (v := .int .i64 m.slot) rfl ?_)
    | (refine wpl_storeB (v := .int .i64 m.slot) (o := 4) (b := g4) rfl rfl rfl rfl hb44 (by kernel_rfl) (of_decide_eq_true (by kernel_rfl)) (by simp [Value.cells, Value.oneCell']) ?_; intro w5 hb45 k5 s5; have hb15 := k5.heap hb14 HNE.out.1; have hb25 := k5.heap hb24 HNE.out.2.1; have K5 := hid (K4.out.trans k5 (fun _ _ e => e)); clear s5 k5; replace hb45 : w5.heap[g4]? = some (.cells (msgCs ⟨m.kind, m.from', m.to, 0, m.slot, 0, reqZ', [], [], 0, verdictZ⟩ (.slice none 0 0) (.slice none 0 0) (.slice none 0 0) (.slice none 0 0)).toArray 42) := hb45))
  have hin := in_calls (w := w5) ⟨#[83, 86]⟩ 84 (by decide)
  rw [show inB ⟨#[83, 86]⟩ 84 = false from by decide] at hin
  refine hin.mono ?_
  clear hin
  rintro e w' ⟨rfl, rfl⟩
  go_wp2_with fail
  have hin := in_calls (w := w5) ⟨#[83, 86]⟩ 86 (by decide)
  rw [show inB ⟨#[83, 86]⟩ 86 = true from by decide] at hin
  refine hin.mono ?_
  clear hin
  rintro e w' ⟨rfl, rfl⟩
  go_wp2_with (first
    | (refine wpl_loadA (ty := 34) (o := 6) (n := 11) rfl rfl rfl hb15 (by kernel_rfl) (by kernel_rfl) (reqCs m.value (.slice Ac nc cc)) rfl rfl ?_)
    | (refine wpl_storeB (v := .agg (reqCs m.value (.slice Ac nc cc)).toArray) (o := 6) (b := g4) rfl rfl rfl rfl hb45 (by kernel_rfl) (of_decide_eq_true (by kernel_rfl)) (by simp [Value.cells, reqCs, Value.oneCell']) ?_; intro w6 hb46 k6 s6; have hb16 := k6.heap hb15 HNE.out.1; have hb26 := k6.heap hb25 HNE.out.2.1; have K6 := hid (K5.out.trans k6 (fun _ _ e => e)); clear s6 k6; replace hb46 : w6.heap[g4]? = some (.cells (msgCs ⟨m.kind, m.from', m.to, 0, m.slot, 0, m.value, [], [], 0, verdictZ⟩ (.slice Ac nc cc) (.slice none 0 0) (.slice none 0 0) (.slice none 0 0)).toArray 42) := hb46))
  have hin := in_calls (w := w6) ⟨#[83, 86]⟩ 76 (by decide)
  rw [show inB ⟨#[83, 86]⟩ 76 = false from by decide] at hin
  refine hin.mono ?_
  clear hin
  rintro e w' ⟨rfl, rfl⟩
  go_wp2_with fail
  have hin := in_calls (w := w6) ⟨#[83, 86]⟩ 73 (by decide)
  rw [show inB ⟨#[83, 86]⟩ 73 = false from by decide] at hin
  refine hin.mono ?_
  clear hin
  rintro e w' ⟨rfl, rfl⟩
  go_wp2_with fail
  have hin := in_calls (w := w6) ⟨#[83, 86]⟩ 78 (by decide)
  rw [show inB ⟨#[83, 86]⟩ 78 = false from by decide] at hin
  refine hin.mono ?_
  clear hin
  rintro e w' ⟨rfl, rfl⟩
  go_wp2_with fail
  have hin := in_calls (w := w6) ⟨#[83, 86]⟩ 82 (by decide)
  rw [show inB ⟨#[83, 86]⟩ 82 = false from by decide] at hin
  refine hin.mono ?_
  clear hin
  rintro e w' ⟨rfl, rfl⟩
  go_wp2_with (first
    | (refine wpl_loadA (ty := 42) (o := 0) (n := 27) rfl rfl rfl hb46 (by kernel_rfl) (by kernel_rfl) (msgCs ⟨m.kind, m.from', m.to, 0, m.slot, 0, m.value, [], [], 0, verdictZ⟩ (.slice Ac nc cc) (.slice none 0 0) (.slice none 0 0) (.slice none 0 0)) rfl rfl ?_)
    | (refine wpl_storeB (v := .agg (msgCs ⟨m.kind, m.from', m.to, 0, m.slot, 0, m.value, [], [], 0, verdictZ⟩ (.slice Ac nc cc) (.slice none 0 0) (.slice none 0 0) (.slice none 0 0)).toArray) (o := 0) (b := g2) rfl rfl rfl rfl hb26 (by kernel_rfl) (of_decide_eq_true (by kernel_rfl)) (by simp [Value.cells, msgCs, reqCs, verdictCs, Value.oneCell']) ?_; intro wz hbz kz sz; replace hbz : wz.heap[g2]? = some (.cells (msgCs ⟨m.kind, m.from', m.to, 0, m.slot, 0, m.value, [], [], 0, verdictZ⟩ (.slice Ac nc cc) (.slice none 0 0) (.slice none 0 0) (.slice none 0 0)).toArray 42) := hbz))
  refine bodyPost_ret (res_cell (g := g2) (cs := (msgCs ⟨m.kind, m.from', m.to, 0, m.slot, 0, m.value, [], [], 0, verdictZ⟩ (.slice Ac nc cc) (.slice none 0 0) (.slice none 0 0) (.slice none 0 0)).toArray) Tryz.results45 _ rfl hbz (by kernel_rfl) (by kernel_rfl)) rfl ?_
  obtain ⟨o1, o2⟩ := HW.out
  have kk : Keep (fun _ => False) w wz := ((K3.out.mono (T := fun q => q = g2 ∨ q = g4) (fun _ _ f => f.elim)).trans K6.out (fun _ _ e => .inr e)).trans kz (fun _ _ e => .inl e) |>.mono (fun b hb e => by omega)
  have h := H.out.keep kk (fun _ _ => id)
  refine ⟨Ac, none, none, none, cc, 0, 0, 0, ?_, ⟨h.c, sl_nil _, sl_nil _, sl_nil _, h.lt⟩, kk⟩
  unfold msgCsA
  simp only [HNC.out]
  rfl
set_option maxRecDepth 20000 in
set_option maxHeartbeats 4000000 in
theorem own11_BST {Ac Av Ai Ak : Option Addr} {cc cv ci ck : Nat} (h : MsgAt F w m Ac Av Ai Ak cc cv ci ck) (HS : ∀ w, Calls Tryz.prog 41 #[.int .i64 m.kind] w fun e w' => e = .returned (.string ⟨#[66, 83, 84]⟩) ∧ w = w') :
    Calls Tryz.prog 45 #[.agg (msgCsA m Ac Av Ai Ak cc cv ci ck).toArray] w (Own11 F w (ownBy m true true true false false false false false)) := by
  obtain ⟨nc, hnc⟩ : ∃ nc, nc = m.value.changes.length := ⟨_, rfl⟩
  obtain ⟨nv, hnv⟩ : ∃ nv, nv = m.votes.length := ⟨_, rfl⟩
  obtain ⟨ni, hni⟩ : ∃ ni, ni = m.image.length := ⟨_, rfl⟩
  obtain ⟨nk, hnk⟩ : ∃ nk, nk = m.verdict.commits.length := ⟨_, rfl⟩
  have H := hid h; have HS := hid HS
  unfold msgCsA
  rw [← hnc, ← hnv, ← hni, ← hnk]
  have HNC := hid hnc; have HNV := hid hnv; have HNI := hid hni; have HNK := hid hnk
  clear h hnc hnv hni hnk
  go_enter Tryz.func45, Tryz.ntmps45
  go_wp2_with (first
    | (refine wpl_boxB (v := .agg (msgCs m (.slice Ac nc cc) (.slice Av nv cv) (.slice Ai ni ci) (.slice Ak nk ck)).toArray) rfl rfl rfl ?_; intro g1 w1 hg1 hb1 k1 s1; have HG1 := hid hg1; have K1 := hid k1; clear hg1 k1 s1)
    | (refine wpl_allocB (z := zM) rfl rfl (by kernel_rfl) ?_; intro g2 w2 hg2 hb2 k2 s2; have HG2 := hid hg2; have hb1' := k2.heap hb1 id; have K2 := hid (K1.out.trans k2 (fun _ _ f => f)); clear hg2 k2 s2; have q0 := cell_at hb1' 0 (.int .i64 m.kind) rfl; have q1 := cell_at hb1' 1 (.int .i64 m.from') rfl; have q2 := cell_at hb1' 2 (.int .i64 m.to) rfl))
  refine (HS.out w2).mono ?_
  rintro e w' ⟨rfl, rfl⟩
  go_wp2_with (first
    | (refine wpl_build rfl rfl (msgCs ⟨m.kind, m.from', m.to, 0, 0, 0, reqZ', [], [], 0, verdictZ⟩ (.slice none 0 0) (.slice none 0 0) (.slice none 0 0) (.slice none 0 0)).toArray (by kernel_rfl) ?_)
    | (refine wpl_allocB (z := zM) rfl rfl (by kernel_rfl) ?_; intro g4 w3 hg4 hb4 k3 s3; have HG4 := hid hg4; have hb13 := k3.heap hb1' id; have hb23 := k3.heap hb2 id; have K3 := hid (K2.out.trans k3 (fun _ _ f => f)); clear hg4 k3 s3)
    | (refine wpl_storeB (v := .agg (msgCs ⟨m.kind, m.from', m.to, 0, 0, 0, reqZ', [], [], 0, verdictZ⟩ (.slice none 0 0) (.slice none 0 0) (.slice none 0 0) (.slice none 0 0)).toArray) (b := g4) rfl rfl rfl rfl hb4 (by kernel_rfl) (of_decide_eq_true (by kernel_rfl)) (by simp [Value.cells, msgCs, reqCs, verdictCs, Value.oneCell']) ?_; intro w4 hb44 k4 s4; have K4 := hid k4; clear s4 k4; replace hb44 : w4.heap[g4]? = some (.cells (msgCs ⟨m.kind, m.from', m.to, 0, 0, 0, reqZ', [], [], 0, verdictZ⟩ (.slice none 0 0) (.slice none 0 0) (.slice none 0 0) (.slice none 0 0)).toArray 42) := hb44))
  have HNE := hid (show g1 ≠ g4 ∧ g2 ≠ g4 ∧ g1 ≠ g2 from ⟨by have := lt_heap hb1'; have := HG4.out; omega, by have := lt_heap hb2; have := HG4.out; omega, by have := lt_heap hb1; have := HG2.out; omega⟩)
  have hb14 := K4.out.heap hb13 HNE.out.1
  have hb24 := K4.out.heap hb23 HNE.out.2.1
  have HW := hid (show w.heap.size ≤ g2 ∧ w.heap.size ≤ g4 from ⟨by have := K1.out.size; have := HG2.out; omega, by have := K2.out.size; have := HG4.out; omega⟩)
  clear hb1 hb1' hb2 hb4 hb13 hb23 q0 q1 q2
  have hin := in_calls (w := w4) ⟨#[66, 83, 84]⟩ 66 (by decide)
  rw [show inB ⟨#[66, 83, 84]⟩ 66 = true from by decide] at hin
  refine hin.mono ?_
  clear hin
  rintro e w' ⟨rfl, rfl⟩
  go_wp2_with (first
    | (refine wpl_load1 rfl rfl rfl hb14 (by kernel_rfl) (v := .int .i64 m.ballot) rfl ?_)
    | (refine wpl_storeB (v := .int .i64 m.ballot) (o := 3) (b := g4) rfl rfl rfl rfl hb44 (by kernel_rfl) (of_decide_eq_true (by kernel_rfl)) (by simp [Value.cells, Value.oneCell']) ?_; intro w5 hb45 k5 s5; have hb15 := k5.heap hb14 HNE.out.1; have hb25 := k5.heap hb24 HNE.out.2.1; have K5 := hid (K4.out.trans k5 (fun _ _ e => e)); clear s5 k5; replace hb45 : w5.heap[g4]? = some (.cells (msgCs ⟨m.kind, m.from', m.to, m.ballot, 0, 0, reqZ', [], [], 0, verdictZ⟩ (.slice none 0 0) (.slice none 0 0) (.slice none 0 0) (.slice none 0 0)).toArray 42) := hb45))
  have hin := in_calls (w := w5) ⟨#[66, 83, 84]⟩ 83 (by decide)
  rw [show inB ⟨#[66, 83, 84]⟩ 83 = true from by decide] at hin
  refine hin.mono ?_
  clear hin
  rintro e w' ⟨rfl, rfl⟩
  go_wp2_with (first
    | (refine wpl_load1 rfl rfl rfl hb15 (by kernel_rfl) (v := .int .i64 m.slot) rfl ?_)
    | (refine wpl_storeB (v := .int .i64 m.slot) (o := 4) (b := g4) rfl rfl rfl rfl hb45 (by kernel_rfl) (of_decide_eq_true (by kernel_rfl)) (by simp [Value.cells, Value.oneCell']) ?_; intro w6 hb46 k6 s6; have hb16 := k6.heap hb15 HNE.out.1; have hb26 := k6.heap hb25 HNE.out.2.1; have K6 := hid (K5.out.trans k6 (fun _ _ e => e)); clear s6 k6; replace hb46 : w6.heap[g4]? = some (.cells (msgCs ⟨m.kind, m.from', m.to, m.ballot, m.slot, 0, reqZ', [], [], 0, verdictZ⟩ (.slice none 0 0) (.slice none 0 0) (.slice none 0 0) (.slice none 0 0)).toArray 42) := hb46))
  have hin := in_calls (w := w6) ⟨#[66, 83, 84]⟩ 84 (by decide)
  rw [show inB ⟨#[66, 83, 84]⟩ 84 = true from by decide] at hin
  refine hin.mono ?_
  clear hin
  rintro e w' ⟨rfl, rfl⟩
  go_wp2_with (first
    | (refine wpl_load1 rfl rfl rfl hb16 (by kernel_rfl) (v := .int .i64 m.time) rfl ?_)
    | (refine wpl_storeB (v := .int .i64 m.time) (o := 5) (b := g4) rfl rfl rfl rfl hb46 (by kernel_rfl) (of_decide_eq_true (by kernel_rfl)) (by simp [Value.cells, Value.oneCell']) ?_; intro w7 hb47 k7 s7; have hb17 := k7.heap hb16 HNE.out.1; have hb27 := k7.heap hb26 HNE.out.2.1; have K7 := hid (K6.out.trans k7 (fun _ _ e => e)); clear s7 k7; replace hb47 : w7.heap[g4]? = some (.cells (msgCs ⟨m.kind, m.from', m.to, m.ballot, m.slot, m.time, reqZ', [], [], 0, verdictZ⟩ (.slice none 0 0) (.slice none 0 0) (.slice none 0 0) (.slice none 0 0)).toArray 42) := hb47))
  have hin := in_calls (w := w7) ⟨#[66, 83, 84]⟩ 86 (by decide)
  rw [show inB ⟨#[66, 83, 84]⟩ 86 = false from by decide] at hin
  refine hin.mono ?_
  clear hin
  rintro e w' ⟨rfl, rfl⟩
  go_wp2_with fail
  have hin := in_calls (w := w7) ⟨#[66, 83, 84]⟩ 76 (by decide)
  rw [show inB ⟨#[66, 83, 84]⟩ 76 = false from by decide] at hin
  refine hin.mono ?_
  clear hin
  rintro e w' ⟨rfl, rfl⟩
  go_wp2_with fail
  have hin := in_calls (w := w7) ⟨#[66, 83, 84]⟩ 73 (by decide)
  rw [show inB ⟨#[66, 83, 84]⟩ 73 = false from by decide] at hin
  refine hin.mono ?_
  clear hin
  rintro e w' ⟨rfl, rfl⟩
  go_wp2_with fail
  have hin := in_calls (w := w7) ⟨#[66, 83, 84]⟩ 78 (by decide)
  rw [show inB ⟨#[66, 83, 84]⟩ 78 = false from by decide] at hin
  refine hin.mono ?_
  clear hin
  rintro e w' ⟨rfl, rfl⟩
  go_wp2_with fail
  have hin := in_calls (w := w7) ⟨#[66, 83, 84]⟩ 82 (by decide)
  rw [show inB ⟨#[66, 83, 84]⟩ 82 = false from by decide] at hin
  refine hin.mono ?_
  clear hin
  rintro e w' ⟨rfl, rfl⟩
  go_wp2_with (first
    | (refine wpl_loadA (ty := 42) (o := 0) (n := 27) rfl rfl rfl hb47 (by kernel_rfl) (by kernel_rfl) (msgCs ⟨m.kind, m.from', m.to, m.ballot, m.slot, m.time, reqZ', [], [], 0, verdictZ⟩ (.slice none 0 0) (.slice none 0 0) (.slice none 0 0) (.slice none 0 0)) rfl rfl ?_)
    | (refine wpl_storeB (v := .agg (msgCs ⟨m.kind, m.from', m.to, m.ballot, m.slot, m.time, reqZ', [], [], 0, verdictZ⟩ (.slice none 0 0) (.slice none 0 0) (.slice none 0 0) (.slice none 0 0)).toArray) (o := 0) (b := g2) rfl rfl rfl rfl hb27 (by kernel_rfl) (of_decide_eq_true (by kernel_rfl)) (by simp [Value.cells, msgCs, reqCs, verdictCs, Value.oneCell']) ?_; intro wz hbz kz sz; replace hbz : wz.heap[g2]? = some (.cells (msgCs ⟨m.kind, m.from', m.to, m.ballot, m.slot, m.time, reqZ', [], [], 0, verdictZ⟩ (.slice none 0 0) (.slice none 0 0) (.slice none 0 0) (.slice none 0 0)).toArray 42) := hbz))
  refine bodyPost_ret (res_cell (g := g2) (cs := (msgCs ⟨m.kind, m.from', m.to, m.ballot, m.slot, m.time, reqZ', [], [], 0, verdictZ⟩ (.slice none 0 0) (.slice none 0 0) (.slice none 0 0) (.slice none 0 0)).toArray) Tryz.results45 _ rfl hbz (by kernel_rfl) (by kernel_rfl)) rfl ?_
  obtain ⟨o1, o2⟩ := HW.out
  have kk : Keep (fun _ => False) w wz := ((K3.out.mono (T := fun q => q = g2 ∨ q = g4) (fun _ _ f => f.elim)).trans K7.out (fun _ _ e => .inr e)).trans kz (fun _ _ e => .inl e) |>.mono (fun b hb e => by omega)
  have h := H.out.keep kk (fun _ _ => id)
  refine ⟨none, none, none, none, 0, 0, 0, 0, ?_, ⟨sl_nil _, sl_nil _, sl_nil _, sl_nil _, h.lt⟩, kk⟩
  unfold msgCsA
  rfl
set_option maxRecDepth 20000 in
set_option maxHeartbeats 4000000 in
theorem own11_S {Ac Av Ai Ak : Option Addr} {cc cv ci ck : Nat} (h : MsgAt F w m Ac Av Ai Ak cc cv ci ck) (HS : ∀ w, Calls Tryz.prog 41 #[.int .i64 m.kind] w fun e w' => e = .returned (.string ⟨#[83]⟩) ∧ w = w') :
    Calls Tryz.prog 45 #[.agg (msgCsA m Ac Av Ai Ak cc cv ci ck).toArray] w (Own11 F w (ownBy m false true false false false false false false)) := by
  obtain ⟨nc, hnc⟩ : ∃ nc, nc = m.value.changes.length := ⟨_, rfl⟩
  obtain ⟨nv, hnv⟩ : ∃ nv, nv = m.votes.length := ⟨_, rfl⟩
  obtain ⟨ni, hni⟩ : ∃ ni, ni = m.image.length := ⟨_, rfl⟩
  obtain ⟨nk, hnk⟩ : ∃ nk, nk = m.verdict.commits.length := ⟨_, rfl⟩
  have H := hid h; have HS := hid HS
  unfold msgCsA
  rw [← hnc, ← hnv, ← hni, ← hnk]
  have HNC := hid hnc; have HNV := hid hnv; have HNI := hid hni; have HNK := hid hnk
  clear h hnc hnv hni hnk
  go_enter Tryz.func45, Tryz.ntmps45
  go_wp2_with (first
    | (refine wpl_boxB (v := .agg (msgCs m (.slice Ac nc cc) (.slice Av nv cv) (.slice Ai ni ci) (.slice Ak nk ck)).toArray) rfl rfl rfl ?_; intro g1 w1 hg1 hb1 k1 s1; have HG1 := hid hg1; have K1 := hid k1; clear hg1 k1 s1)
    | (refine wpl_allocB (z := zM) rfl rfl (by kernel_rfl) ?_; intro g2 w2 hg2 hb2 k2 s2; have HG2 := hid hg2; have hb1' := k2.heap hb1 id; have K2 := hid (K1.out.trans k2 (fun _ _ f => f)); clear hg2 k2 s2; have q0 := cell_at hb1' 0 (.int .i64 m.kind) rfl; have q1 := cell_at hb1' 1 (.int .i64 m.from') rfl; have q2 := cell_at hb1' 2 (.int .i64 m.to) rfl))
  refine (HS.out w2).mono ?_
  rintro e w' ⟨rfl, rfl⟩
  go_wp2_with (first
    | (refine wpl_build rfl rfl (msgCs ⟨m.kind, m.from', m.to, 0, 0, 0, reqZ', [], [], 0, verdictZ⟩ (.slice none 0 0) (.slice none 0 0) (.slice none 0 0) (.slice none 0 0)).toArray (by kernel_rfl) ?_)
    | (refine wpl_allocB (z := zM) rfl rfl (by kernel_rfl) ?_; intro g4 w3 hg4 hb4 k3 s3; have HG4 := hid hg4; have hb13 := k3.heap hb1' id; have hb23 := k3.heap hb2 id; have K3 := hid (K2.out.trans k3 (fun _ _ f => f)); clear hg4 k3 s3)
    | (refine wpl_storeB (v := .agg (msgCs ⟨m.kind, m.from', m.to, 0, 0, 0, reqZ', [], [], 0, verdictZ⟩ (.slice none 0 0) (.slice none 0 0) (.slice none 0 0) (.slice none 0 0)).toArray) (b := g4) rfl rfl rfl rfl hb4 (by kernel_rfl) (of_decide_eq_true (by kernel_rfl)) (by simp [Value.cells, msgCs, reqCs, verdictCs, Value.oneCell']) ?_; intro w4 hb44 k4 s4; have K4 := hid k4; clear s4 k4; replace hb44 : w4.heap[g4]? = some (.cells (msgCs ⟨m.kind, m.from', m.to, 0, 0, 0, reqZ', [], [], 0, verdictZ⟩ (.slice none 0 0) (.slice none 0 0) (.slice none 0 0) (.slice none 0 0)).toArray 42) := hb44))
  have HNE := hid (show g1 ≠ g4 ∧ g2 ≠ g4 ∧ g1 ≠ g2 from ⟨by have := lt_heap hb1'; have := HG4.out; omega, by have := lt_heap hb2; have := HG4.out; omega, by have := lt_heap hb1; have := HG2.out; omega⟩)
  have hb14 := K4.out.heap hb13 HNE.out.1
  have hb24 := K4.out.heap hb23 HNE.out.2.1
  have HW := hid (show w.heap.size ≤ g2 ∧ w.heap.size ≤ g4 from ⟨by have := K1.out.size; have := HG2.out; omega, by have := K2.out.size; have := HG4.out; omega⟩)
  clear hb1 hb1' hb2 hb4 hb13 hb23 q0 q1 q2
  have hin := in_calls (w := w4) ⟨#[83]⟩ 66 (by decide)
  rw [show inB ⟨#[83]⟩ 66 = false from by decide] at hin
  refine hin.mono ?_
  clear hin
  rintro e w' ⟨rfl, rfl⟩
  go_wp2_with fail
  have hin := in_calls (w := w4) ⟨#[83]⟩ 83 (by decide)
  rw [show inB ⟨#[83]⟩ 83 = true from by decide] at hin
  refine hin.mono ?_
  clear hin
  rintro e w' ⟨rfl, rfl⟩
  go_wp2_with (first
    | (refine wpl_load1 rfl rfl rfl hb14 (by kernel_rfl) (v := .int .i64 m.slot) rfl ?_)
    | (refine wpl_storeB (v := .int .i64 m.slot) (o := 4) (b := g4) rfl rfl rfl rfl hb44 (by kernel_rfl) (of_decide_eq_true (by kernel_rfl)) (by simp [Value.cells, Value.oneCell']) ?_; intro w5 hb45 k5 s5; have hb15 := k5.heap hb14 HNE.out.1; have hb25 := k5.heap hb24 HNE.out.2.1; have K5 := hid (K4.out.trans k5 (fun _ _ e => e)); clear s5 k5; replace hb45 : w5.heap[g4]? = some (.cells (msgCs ⟨m.kind, m.from', m.to, 0, m.slot, 0, reqZ', [], [], 0, verdictZ⟩ (.slice none 0 0) (.slice none 0 0) (.slice none 0 0) (.slice none 0 0)).toArray 42) := hb45))
  have hin := in_calls (w := w5) ⟨#[83]⟩ 84 (by decide)
  rw [show inB ⟨#[83]⟩ 84 = false from by decide] at hin
  refine hin.mono ?_
  clear hin
  rintro e w' ⟨rfl, rfl⟩
  go_wp2_with fail
  have hin := in_calls (w := w5) ⟨#[83]⟩ 86 (by decide)
  rw [show inB ⟨#[83]⟩ 86 = false from by decide] at hin
  refine hin.mono ?_
  clear hin
  rintro e w' ⟨rfl, rfl⟩
  go_wp2_with fail
  have hin := in_calls (w := w5) ⟨#[83]⟩ 76 (by decide)
  rw [show inB ⟨#[83]⟩ 76 = false from by decide] at hin
  refine hin.mono ?_
  clear hin
  rintro e w' ⟨rfl, rfl⟩
  go_wp2_with fail
  have hin := in_calls (w := w5) ⟨#[83]⟩ 73 (by decide)
  rw [show inB ⟨#[83]⟩ 73 = false from by decide] at hin
  refine hin.mono ?_
  clear hin
  rintro e w' ⟨rfl, rfl⟩
  go_wp2_with fail
  have hin := in_calls (w := w5) ⟨#[83]⟩ 78 (by decide)
  rw [show inB ⟨#[83]⟩ 78 = false from by decide] at hin
  refine hin.mono ?_
  clear hin
  rintro e w' ⟨rfl, rfl⟩
  go_wp2_with fail
  have hin := in_calls (w := w5) ⟨#[83]⟩ 82 (by decide)
  rw [show inB ⟨#[83]⟩ 82 = false from by decide] at hin
  refine hin.mono ?_
  clear hin
  rintro e w' ⟨rfl, rfl⟩
  go_wp2_with (first
    | (refine wpl_loadA (ty := 42) (o := 0) (n := 27) rfl rfl rfl hb45 (by kernel_rfl) (by kernel_rfl) (msgCs ⟨m.kind, m.from', m.to, 0, m.slot, 0, reqZ', [], [], 0, verdictZ⟩ (.slice none 0 0) (.slice none 0 0) (.slice none 0 0) (.slice none 0 0)) rfl rfl ?_)
    | (refine wpl_storeB (v := .agg (msgCs ⟨m.kind, m.from', m.to, 0, m.slot, 0, reqZ', [], [], 0, verdictZ⟩ (.slice none 0 0) (.slice none 0 0) (.slice none 0 0) (.slice none 0 0)).toArray) (o := 0) (b := g2) rfl rfl rfl rfl hb25 (by kernel_rfl) (of_decide_eq_true (by kernel_rfl)) (by simp [Value.cells, msgCs, reqCs, verdictCs, Value.oneCell']) ?_; intro wz hbz kz sz; replace hbz : wz.heap[g2]? = some (.cells (msgCs ⟨m.kind, m.from', m.to, 0, m.slot, 0, reqZ', [], [], 0, verdictZ⟩ (.slice none 0 0) (.slice none 0 0) (.slice none 0 0) (.slice none 0 0)).toArray 42) := hbz))
  refine bodyPost_ret (res_cell (g := g2) (cs := (msgCs ⟨m.kind, m.from', m.to, 0, m.slot, 0, reqZ', [], [], 0, verdictZ⟩ (.slice none 0 0) (.slice none 0 0) (.slice none 0 0) (.slice none 0 0)).toArray) Tryz.results45 _ rfl hbz (by kernel_rfl) (by kernel_rfl)) rfl ?_
  obtain ⟨o1, o2⟩ := HW.out
  have kk : Keep (fun _ => False) w wz := ((K3.out.mono (T := fun q => q = g2 ∨ q = g4) (fun _ _ f => f.elim)).trans K5.out (fun _ _ e => .inr e)).trans kz (fun _ _ e => .inl e) |>.mono (fun b hb e => by omega)
  have h := H.out.keep kk (fun _ _ => id)
  refine ⟨none, none, none, none, 0, 0, 0, 0, ?_, ⟨sl_nil _, sl_nil _, sl_nil _, sl_nil _, h.lt⟩, kk⟩
  unfold msgCsA
  rfl
set_option maxRecDepth 20000 in
set_option maxHeartbeats 4000000 in
theorem own11_SI {Ac Av Ai Ak : Option Addr} {cc cv ci ck : Nat} (h : MsgAt F w m Ac Av Ai Ak cc cv ci ck) (HS : ∀ w, Calls Tryz.prog 41 #[.int .i64 m.kind] w fun e w' => e = .returned (.string ⟨#[83, 73]⟩) ∧ w = w') :
    Calls Tryz.prog 45 #[.agg (msgCsA m Ac Av Ai Ak cc cv ci ck).toArray] w (Own11 F w (ownBy m false true false false false true false false)) := by
  obtain ⟨nc, hnc⟩ : ∃ nc, nc = m.value.changes.length := ⟨_, rfl⟩
  obtain ⟨nv, hnv⟩ : ∃ nv, nv = m.votes.length := ⟨_, rfl⟩
  obtain ⟨ni, hni⟩ : ∃ ni, ni = m.image.length := ⟨_, rfl⟩
  obtain ⟨nk, hnk⟩ : ∃ nk, nk = m.verdict.commits.length := ⟨_, rfl⟩
  have H := hid h; have HS := hid HS
  unfold msgCsA
  rw [← hnc, ← hnv, ← hni, ← hnk]
  have HNC := hid hnc; have HNV := hid hnv; have HNI := hid hni; have HNK := hid hnk
  clear h hnc hnv hni hnk
  go_enter Tryz.func45, Tryz.ntmps45
  go_wp2_with (first
    | (refine wpl_boxB (v := .agg (msgCs m (.slice Ac nc cc) (.slice Av nv cv) (.slice Ai ni ci) (.slice Ak nk ck)).toArray) rfl rfl rfl ?_; intro g1 w1 hg1 hb1 k1 s1; have HG1 := hid hg1; have K1 := hid k1; clear hg1 k1 s1)
    | (refine wpl_allocB (z := zM) rfl rfl (by kernel_rfl) ?_; intro g2 w2 hg2 hb2 k2 s2; have HG2 := hid hg2; have hb1' := k2.heap hb1 id; have K2 := hid (K1.out.trans k2 (fun _ _ f => f)); clear hg2 k2 s2; have q0 := cell_at hb1' 0 (.int .i64 m.kind) rfl; have q1 := cell_at hb1' 1 (.int .i64 m.from') rfl; have q2 := cell_at hb1' 2 (.int .i64 m.to) rfl))
  refine (HS.out w2).mono ?_
  rintro e w' ⟨rfl, rfl⟩
  go_wp2_with (first
    | (refine wpl_build rfl rfl (msgCs ⟨m.kind, m.from', m.to, 0, 0, 0, reqZ', [], [], 0, verdictZ⟩ (.slice none 0 0) (.slice none 0 0) (.slice none 0 0) (.slice none 0 0)).toArray (by kernel_rfl) ?_)
    | (refine wpl_allocB (z := zM) rfl rfl (by kernel_rfl) ?_; intro g4 w3 hg4 hb4 k3 s3; have HG4 := hid hg4; have hb13 := k3.heap hb1' id; have hb23 := k3.heap hb2 id; have K3 := hid (K2.out.trans k3 (fun _ _ f => f)); clear hg4 k3 s3)
    | (refine wpl_storeB (v := .agg (msgCs ⟨m.kind, m.from', m.to, 0, 0, 0, reqZ', [], [], 0, verdictZ⟩ (.slice none 0 0) (.slice none 0 0) (.slice none 0 0) (.slice none 0 0)).toArray) (b := g4) rfl rfl rfl rfl hb4 (by kernel_rfl) (of_decide_eq_true (by kernel_rfl)) (by simp [Value.cells, msgCs, reqCs, verdictCs, Value.oneCell']) ?_; intro w4 hb44 k4 s4; have K4 := hid k4; clear s4 k4; replace hb44 : w4.heap[g4]? = some (.cells (msgCs ⟨m.kind, m.from', m.to, 0, 0, 0, reqZ', [], [], 0, verdictZ⟩ (.slice none 0 0) (.slice none 0 0) (.slice none 0 0) (.slice none 0 0)).toArray 42) := hb44))
  have HNE := hid (show g1 ≠ g4 ∧ g2 ≠ g4 ∧ g1 ≠ g2 from ⟨by have := lt_heap hb1'; have := HG4.out; omega, by have := lt_heap hb2; have := HG4.out; omega, by have := lt_heap hb1; have := HG2.out; omega⟩)
  have hb14 := K4.out.heap hb13 HNE.out.1
  have hb24 := K4.out.heap hb23 HNE.out.2.1
  have HW := hid (show w.heap.size ≤ g2 ∧ w.heap.size ≤ g4 from ⟨by have := K1.out.size; have := HG2.out; omega, by have := K2.out.size; have := HG4.out; omega⟩)
  clear hb1 hb1' hb2 hb4 hb13 hb23 q0 q1 q2
  have hin := in_calls (w := w4) ⟨#[83, 73]⟩ 66 (by decide)
  rw [show inB ⟨#[83, 73]⟩ 66 = false from by decide] at hin
  refine hin.mono ?_
  clear hin
  rintro e w' ⟨rfl, rfl⟩
  go_wp2_with fail
  have hin := in_calls (w := w4) ⟨#[83, 73]⟩ 83 (by decide)
  rw [show inB ⟨#[83, 73]⟩ 83 = true from by decide] at hin
  refine hin.mono ?_
  clear hin
  rintro e w' ⟨rfl, rfl⟩
  go_wp2_with (first
    | (refine wpl_load1 rfl rfl rfl hb14 (by kernel_rfl) (v := .int .i64 m.slot) rfl ?_)
    | (refine wpl_storeB (v := .int .i64 m.slot) (o := 4) (b := g4) rfl rfl rfl rfl hb44 (by kernel_rfl) (of_decide_eq_true (by kernel_rfl)) (by simp [Value.cells, Value.oneCell']) ?_; intro w5 hb45 k5 s5; have hb15 := k5.heap hb14 HNE.out.1; have hb25 := k5.heap hb24 HNE.out.2.1; have K5 := hid (K4.out.trans k5 (fun _ _ e => e)); clear s5 k5; replace hb45 : w5.heap[g4]? = some (.cells (msgCs ⟨m.kind, m.from', m.to, 0, m.slot, 0, reqZ', [], [], 0, verdictZ⟩ (.slice none 0 0) (.slice none 0 0) (.slice none 0 0) (.slice none 0 0)).toArray 42) := hb45))
  have hin := in_calls (w := w5) ⟨#[83, 73]⟩ 84 (by decide)
  rw [show inB ⟨#[83, 73]⟩ 84 = false from by decide] at hin
  refine hin.mono ?_
  clear hin
  rintro e w' ⟨rfl, rfl⟩
  go_wp2_with fail
  have hin := in_calls (w := w5) ⟨#[83, 73]⟩ 86 (by decide)
  rw [show inB ⟨#[83, 73]⟩ 86 = false from by decide] at hin
  refine hin.mono ?_
  clear hin
  rintro e w' ⟨rfl, rfl⟩
  go_wp2_with fail
  have hin := in_calls (w := w5) ⟨#[83, 73]⟩ 76 (by decide)
  rw [show inB ⟨#[83, 73]⟩ 76 = false from by decide] at hin
  refine hin.mono ?_
  clear hin
  rintro e w' ⟨rfl, rfl⟩
  go_wp2_with fail
  have hin := in_calls (w := w5) ⟨#[83, 73]⟩ 73 (by decide)
  rw [show inB ⟨#[83, 73]⟩ 73 = true from by decide] at hin
  refine hin.mono ?_
  clear hin
  rintro e w' ⟨rfl, rfl⟩
  go_wp2_with (first
    | (refine wpl_load1 rfl rfl rfl hb15 (by kernel_rfl) (v := .slice Ai ni ci) rfl ?_)
    | (refine wpl_storeB (v := .slice Ai ni ci) (o := 18) (b := g4) rfl rfl rfl rfl hb45 (by kernel_rfl) (of_decide_eq_true (by kernel_rfl)) (by simp [Value.cells, Value.oneCell']) ?_; intro w6 hb46 k6 s6; have hb16 := k6.heap hb15 HNE.out.1; have hb26 := k6.heap hb25 HNE.out.2.1; have K6 := hid (K5.out.trans k6 (fun _ _ e => e)); clear s6 k6; replace hb46 : w6.heap[g4]? = some (.cells (msgCs ⟨m.kind, m.from', m.to, 0, m.slot, 0, reqZ', [], m.image, 0, verdictZ⟩ (.slice none 0 0) (.slice none 0 0) (.slice Ai ni ci) (.slice none 0 0)).toArray 42) := hb46))
  have hin := in_calls (w := w6) ⟨#[83, 73]⟩ 78 (by decide)
  rw [show inB ⟨#[83, 73]⟩ 78 = false from by decide] at hin
  refine hin.mono ?_
  clear hin
  rintro e w' ⟨rfl, rfl⟩
  go_wp2_with fail
  have hin := in_calls (w := w6) ⟨#[83, 73]⟩ 82 (by decide)
  rw [show inB ⟨#[83, 73]⟩ 82 = false from by decide] at hin
  refine hin.mono ?_
  clear hin
  rintro e w' ⟨rfl, rfl⟩
  go_wp2_with (first
    | (refine wpl_loadA (ty := 42) (o := 0) (n := 27) rfl rfl rfl hb46 (by kernel_rfl) (by kernel_rfl) (msgCs ⟨m.kind, m.from', m.to, 0, m.slot, 0, reqZ', [], m.image, 0, verdictZ⟩ (.slice none 0 0) (.slice none 0 0) (.slice Ai ni ci) (.slice none 0 0)) rfl rfl ?_)
    | (refine wpl_storeB (v := .agg (msgCs ⟨m.kind, m.from', m.to, 0, m.slot, 0, reqZ', [], m.image, 0, verdictZ⟩ (.slice none 0 0) (.slice none 0 0) (.slice Ai ni ci) (.slice none 0 0)).toArray) (o := 0) (b := g2) rfl rfl rfl rfl hb26 (by kernel_rfl) (of_decide_eq_true (by kernel_rfl)) (by simp [Value.cells, msgCs, reqCs, verdictCs, Value.oneCell']) ?_; intro wz hbz kz sz; replace hbz : wz.heap[g2]? = some (.cells (msgCs ⟨m.kind, m.from', m.to, 0, m.slot, 0, reqZ', [], m.image, 0, verdictZ⟩ (.slice none 0 0) (.slice none 0 0) (.slice Ai ni ci) (.slice none 0 0)).toArray 42) := hbz))
  refine bodyPost_ret (res_cell (g := g2) (cs := (msgCs ⟨m.kind, m.from', m.to, 0, m.slot, 0, reqZ', [], m.image, 0, verdictZ⟩ (.slice none 0 0) (.slice none 0 0) (.slice Ai ni ci) (.slice none 0 0)).toArray) Tryz.results45 _ rfl hbz (by kernel_rfl) (by kernel_rfl)) rfl ?_
  obtain ⟨o1, o2⟩ := HW.out
  have kk : Keep (fun _ => False) w wz := ((K3.out.mono (T := fun q => q = g2 ∨ q = g4) (fun _ _ f => f.elim)).trans K6.out (fun _ _ e => .inr e)).trans kz (fun _ _ e => .inl e) |>.mono (fun b hb e => by omega)
  have h := H.out.keep kk (fun _ _ => id)
  refine ⟨none, none, Ai, none, 0, 0, ci, 0, ?_, ⟨sl_nil _, sl_nil _, h.i, sl_nil _, h.lt⟩, kk⟩
  unfold msgCsA
  simp only [HNI.out]
  rfl
set_option maxRecDepth 20000 in
set_option maxHeartbeats 4000000 in
theorem own11_NV {Ac Av Ai Ak : Option Addr} {cc cv ci ck : Nat} (h : MsgAt F w m Ac Av Ai Ak cc cv ci ck) (HS : ∀ w, Calls Tryz.prog 41 #[.int .i64 m.kind] w fun e w' => e = .returned (.string ⟨#[78, 86]⟩) ∧ w = w') :
    Calls Tryz.prog 45 #[.agg (msgCsA m Ac Av Ai Ak cc cv ci ck).toArray] w (Own11 F w (ownBy m false false false true false false true false)) := by
  obtain ⟨nc, hnc⟩ : ∃ nc, nc = m.value.changes.length := ⟨_, rfl⟩
  obtain ⟨nv, hnv⟩ : ∃ nv, nv = m.votes.length := ⟨_, rfl⟩
  obtain ⟨ni, hni⟩ : ∃ ni, ni = m.image.length := ⟨_, rfl⟩
  obtain ⟨nk, hnk⟩ : ∃ nk, nk = m.verdict.commits.length := ⟨_, rfl⟩
  have H := hid h; have HS := hid HS
  unfold msgCsA
  rw [← hnc, ← hnv, ← hni, ← hnk]
  have HNC := hid hnc; have HNV := hid hnv; have HNI := hid hni; have HNK := hid hnk
  clear h hnc hnv hni hnk
  go_enter Tryz.func45, Tryz.ntmps45
  go_wp2_with (first
    | (refine wpl_boxB (v := .agg (msgCs m (.slice Ac nc cc) (.slice Av nv cv) (.slice Ai ni ci) (.slice Ak nk ck)).toArray) rfl rfl rfl ?_; intro g1 w1 hg1 hb1 k1 s1; have HG1 := hid hg1; have K1 := hid k1; clear hg1 k1 s1)
    | (refine wpl_allocB (z := zM) rfl rfl (by kernel_rfl) ?_; intro g2 w2 hg2 hb2 k2 s2; have HG2 := hid hg2; have hb1' := k2.heap hb1 id; have K2 := hid (K1.out.trans k2 (fun _ _ f => f)); clear hg2 k2 s2; have q0 := cell_at hb1' 0 (.int .i64 m.kind) rfl; have q1 := cell_at hb1' 1 (.int .i64 m.from') rfl; have q2 := cell_at hb1' 2 (.int .i64 m.to) rfl))
  refine (HS.out w2).mono ?_
  rintro e w' ⟨rfl, rfl⟩
  go_wp2_with (first
    | (refine wpl_build rfl rfl (msgCs ⟨m.kind, m.from', m.to, 0, 0, 0, reqZ', [], [], 0, verdictZ⟩ (.slice none 0 0) (.slice none 0 0) (.slice none 0 0) (.slice none 0 0)).toArray (by kernel_rfl) ?_)
    | (refine wpl_allocB (z := zM) rfl rfl (by kernel_rfl) ?_; intro g4 w3 hg4 hb4 k3 s3; have HG4 := hid hg4; have hb13 := k3.heap hb1' id; have hb23 := k3.heap hb2 id; have K3 := hid (K2.out.trans k3 (fun _ _ f => f)); clear hg4 k3 s3)
    | (refine wpl_storeB (v := .agg (msgCs ⟨m.kind, m.from', m.to, 0, 0, 0, reqZ', [], [], 0, verdictZ⟩ (.slice none 0 0) (.slice none 0 0) (.slice none 0 0) (.slice none 0 0)).toArray) (b := g4) rfl rfl rfl rfl hb4 (by kernel_rfl) (of_decide_eq_true (by kernel_rfl)) (by simp [Value.cells, msgCs, reqCs, verdictCs, Value.oneCell']) ?_; intro w4 hb44 k4 s4; have K4 := hid k4; clear s4 k4; replace hb44 : w4.heap[g4]? = some (.cells (msgCs ⟨m.kind, m.from', m.to, 0, 0, 0, reqZ', [], [], 0, verdictZ⟩ (.slice none 0 0) (.slice none 0 0) (.slice none 0 0) (.slice none 0 0)).toArray 42) := hb44))
  have HNE := hid (show g1 ≠ g4 ∧ g2 ≠ g4 ∧ g1 ≠ g2 from ⟨by have := lt_heap hb1'; have := HG4.out; omega, by have := lt_heap hb2; have := HG4.out; omega, by have := lt_heap hb1; have := HG2.out; omega⟩)
  have hb14 := K4.out.heap hb13 HNE.out.1
  have hb24 := K4.out.heap hb23 HNE.out.2.1
  have HW := hid (show w.heap.size ≤ g2 ∧ w.heap.size ≤ g4 from ⟨by have := K1.out.size; have := HG2.out; omega, by have := K2.out.size; have := HG4.out; omega⟩)
  clear hb1 hb1' hb2 hb4 hb13 hb23 q0 q1 q2
  have hin := in_calls (w := w4) ⟨#[78, 86]⟩ 66 (by decide)
  rw [show inB ⟨#[78, 86]⟩ 66 = false from by decide] at hin
  refine hin.mono ?_
  clear hin
  rintro e w' ⟨rfl, rfl⟩
  go_wp2_with fail
  have hin := in_calls (w := w4) ⟨#[78, 86]⟩ 83 (by decide)
  rw [show inB ⟨#[78, 86]⟩ 83 = false from by decide] at hin
  refine hin.mono ?_
  clear hin
  rintro e w' ⟨rfl, rfl⟩
  go_wp2_with fail
  have hin := in_calls (w := w4) ⟨#[78, 86]⟩ 84 (by decide)
  rw [show inB ⟨#[78, 86]⟩ 84 = false from by decide] at hin
  refine hin.mono ?_
  clear hin
  rintro e w' ⟨rfl, rfl⟩
  go_wp2_with fail
  have hin := in_calls (w := w4) ⟨#[78, 86]⟩ 86 (by decide)
  rw [show inB ⟨#[78, 86]⟩ 86 = true from by decide] at hin
  refine hin.mono ?_
  clear hin
  rintro e w' ⟨rfl, rfl⟩
  go_wp2_with (first
    | (refine wpl_loadA (ty := 34) (o := 6) (n := 11) rfl rfl rfl hb14 (by kernel_rfl) (by kernel_rfl) (reqCs m.value (.slice Ac nc cc)) rfl rfl ?_)
    | (refine wpl_storeB (v := .agg (reqCs m.value (.slice Ac nc cc)).toArray) (o := 6) (b := g4) rfl rfl rfl rfl hb44 (by kernel_rfl) (of_decide_eq_true (by kernel_rfl)) (by simp [Value.cells, reqCs, Value.oneCell']) ?_; intro w5 hb45 k5 s5; have hb15 := k5.heap hb14 HNE.out.1; have hb25 := k5.heap hb24 HNE.out.2.1; have K5 := hid (K4.out.trans k5 (fun _ _ e => e)); clear s5 k5; replace hb45 : w5.heap[g4]? = some (.cells (msgCs ⟨m.kind, m.from', m.to, 0, 0, 0, m.value, [], [], 0, verdictZ⟩ (.slice Ac nc cc) (.slice none 0 0) (.slice none 0 0) (.slice none 0 0)).toArray 42) := hb45))
  have hin := in_calls (w := w5) ⟨#[78, 86]⟩ 76 (by decide)
  rw [show inB ⟨#[78, 86]⟩ 76 = false from by decide] at hin
  refine hin.mono ?_
  clear hin
  rintro e w' ⟨rfl, rfl⟩
  go_wp2_with fail
  have hin := in_calls (w := w5) ⟨#[78, 86]⟩ 73 (by decide)
  rw [show inB ⟨#[78, 86]⟩ 73 = false from by decide] at hin
  refine hin.mono ?_
  clear hin
  rintro e w' ⟨rfl, rfl⟩
  go_wp2_with fail
  have hin := in_calls (w := w5) ⟨#[78, 86]⟩ 78 (by decide)
  rw [show inB ⟨#[78, 86]⟩ 78 = true from by decide] at hin
  refine hin.mono ?_
  clear hin
  rintro e w' ⟨rfl, rfl⟩
  go_wp2_with (first
    | (refine wpl_load1 rfl rfl rfl hb15 (by kernel_rfl) (v := .int .i64 m.number) rfl ?_)
    | (refine wpl_storeB (v := .int .i64 m.number) (o := 19) (b := g4) rfl rfl rfl rfl hb45 (by kernel_rfl) (of_decide_eq_true (by kernel_rfl)) (by simp [Value.cells, Value.oneCell']) ?_; intro w6 hb46 k6 s6; have hb16 := k6.heap hb15 HNE.out.1; have hb26 := k6.heap hb25 HNE.out.2.1; have K6 := hid (K5.out.trans k6 (fun _ _ e => e)); clear s6 k6; replace hb46 : w6.heap[g4]? = some (.cells (msgCs ⟨m.kind, m.from', m.to, 0, 0, 0, m.value, [], [], m.number, verdictZ⟩ (.slice Ac nc cc) (.slice none 0 0) (.slice none 0 0) (.slice none 0 0)).toArray 42) := hb46))
  have hin := in_calls (w := w6) ⟨#[78, 86]⟩ 82 (by decide)
  rw [show inB ⟨#[78, 86]⟩ 82 = false from by decide] at hin
  refine hin.mono ?_
  clear hin
  rintro e w' ⟨rfl, rfl⟩
  go_wp2_with (first
    | (refine wpl_loadA (ty := 42) (o := 0) (n := 27) rfl rfl rfl hb46 (by kernel_rfl) (by kernel_rfl) (msgCs ⟨m.kind, m.from', m.to, 0, 0, 0, m.value, [], [], m.number, verdictZ⟩ (.slice Ac nc cc) (.slice none 0 0) (.slice none 0 0) (.slice none 0 0)) rfl rfl ?_)
    | (refine wpl_storeB (v := .agg (msgCs ⟨m.kind, m.from', m.to, 0, 0, 0, m.value, [], [], m.number, verdictZ⟩ (.slice Ac nc cc) (.slice none 0 0) (.slice none 0 0) (.slice none 0 0)).toArray) (o := 0) (b := g2) rfl rfl rfl rfl hb26 (by kernel_rfl) (of_decide_eq_true (by kernel_rfl)) (by simp [Value.cells, msgCs, reqCs, verdictCs, Value.oneCell']) ?_; intro wz hbz kz sz; replace hbz : wz.heap[g2]? = some (.cells (msgCs ⟨m.kind, m.from', m.to, 0, 0, 0, m.value, [], [], m.number, verdictZ⟩ (.slice Ac nc cc) (.slice none 0 0) (.slice none 0 0) (.slice none 0 0)).toArray 42) := hbz))
  refine bodyPost_ret (res_cell (g := g2) (cs := (msgCs ⟨m.kind, m.from', m.to, 0, 0, 0, m.value, [], [], m.number, verdictZ⟩ (.slice Ac nc cc) (.slice none 0 0) (.slice none 0 0) (.slice none 0 0)).toArray) Tryz.results45 _ rfl hbz (by kernel_rfl) (by kernel_rfl)) rfl ?_
  obtain ⟨o1, o2⟩ := HW.out
  have kk : Keep (fun _ => False) w wz := ((K3.out.mono (T := fun q => q = g2 ∨ q = g4) (fun _ _ f => f.elim)).trans K6.out (fun _ _ e => .inr e)).trans kz (fun _ _ e => .inl e) |>.mono (fun b hb e => by omega)
  have h := H.out.keep kk (fun _ _ => id)
  refine ⟨Ac, none, none, none, cc, 0, 0, 0, ?_, ⟨h.c, sl_nil _, sl_nil _, sl_nil _, h.lt⟩, kk⟩
  unfold msgCsA
  simp only [HNC.out]
  rfl
set_option maxRecDepth 20000 in
set_option maxHeartbeats 4000000 in
theorem own11_NR {Ac Av Ai Ak : Option Addr} {cc cv ci ck : Nat} (h : MsgAt F w m Ac Av Ai Ak cc cv ci ck) (HS : ∀ w, Calls Tryz.prog 41 #[.int .i64 m.kind] w fun e w' => e = .returned (.string ⟨#[78, 82]⟩) ∧ w = w') :
    Calls Tryz.prog 45 #[.agg (msgCsA m Ac Av Ai Ak cc cv ci ck).toArray] w (Own11 F w (ownBy m false false false false false false true true)) := by
  obtain ⟨nc, hnc⟩ : ∃ nc, nc = m.value.changes.length := ⟨_, rfl⟩
  obtain ⟨nv, hnv⟩ : ∃ nv, nv = m.votes.length := ⟨_, rfl⟩
  obtain ⟨ni, hni⟩ : ∃ ni, ni = m.image.length := ⟨_, rfl⟩
  obtain ⟨nk, hnk⟩ : ∃ nk, nk = m.verdict.commits.length := ⟨_, rfl⟩
  have H := hid h; have HS := hid HS
  unfold msgCsA
  rw [← hnc, ← hnv, ← hni, ← hnk]
  have HNC := hid hnc; have HNV := hid hnv; have HNI := hid hni; have HNK := hid hnk
  clear h hnc hnv hni hnk
  go_enter Tryz.func45, Tryz.ntmps45
  go_wp2_with (first
    | (refine wpl_boxB (v := .agg (msgCs m (.slice Ac nc cc) (.slice Av nv cv) (.slice Ai ni ci) (.slice Ak nk ck)).toArray) rfl rfl rfl ?_; intro g1 w1 hg1 hb1 k1 s1; have HG1 := hid hg1; have K1 := hid k1; clear hg1 k1 s1)
    | (refine wpl_allocB (z := zM) rfl rfl (by kernel_rfl) ?_; intro g2 w2 hg2 hb2 k2 s2; have HG2 := hid hg2; have hb1' := k2.heap hb1 id; have K2 := hid (K1.out.trans k2 (fun _ _ f => f)); clear hg2 k2 s2; have q0 := cell_at hb1' 0 (.int .i64 m.kind) rfl; have q1 := cell_at hb1' 1 (.int .i64 m.from') rfl; have q2 := cell_at hb1' 2 (.int .i64 m.to) rfl))
  refine (HS.out w2).mono ?_
  rintro e w' ⟨rfl, rfl⟩
  go_wp2_with (first
    | (refine wpl_build rfl rfl (msgCs ⟨m.kind, m.from', m.to, 0, 0, 0, reqZ', [], [], 0, verdictZ⟩ (.slice none 0 0) (.slice none 0 0) (.slice none 0 0) (.slice none 0 0)).toArray (by kernel_rfl) ?_)
    | (refine wpl_allocB (z := zM) rfl rfl (by kernel_rfl) ?_; intro g4 w3 hg4 hb4 k3 s3; have HG4 := hid hg4; have hb13 := k3.heap hb1' id; have hb23 := k3.heap hb2 id; have K3 := hid (K2.out.trans k3 (fun _ _ f => f)); clear hg4 k3 s3)
    | (refine wpl_storeB (v := .agg (msgCs ⟨m.kind, m.from', m.to, 0, 0, 0, reqZ', [], [], 0, verdictZ⟩ (.slice none 0 0) (.slice none 0 0) (.slice none 0 0) (.slice none 0 0)).toArray) (b := g4) rfl rfl rfl rfl hb4 (by kernel_rfl) (of_decide_eq_true (by kernel_rfl)) (by simp [Value.cells, msgCs, reqCs, verdictCs, Value.oneCell']) ?_; intro w4 hb44 k4 s4; have K4 := hid k4; clear s4 k4; replace hb44 : w4.heap[g4]? = some (.cells (msgCs ⟨m.kind, m.from', m.to, 0, 0, 0, reqZ', [], [], 0, verdictZ⟩ (.slice none 0 0) (.slice none 0 0) (.slice none 0 0) (.slice none 0 0)).toArray 42) := hb44))
  have HNE := hid (show g1 ≠ g4 ∧ g2 ≠ g4 ∧ g1 ≠ g2 from ⟨by have := lt_heap hb1'; have := HG4.out; omega, by have := lt_heap hb2; have := HG4.out; omega, by have := lt_heap hb1; have := HG2.out; omega⟩)
  have hb14 := K4.out.heap hb13 HNE.out.1
  have hb24 := K4.out.heap hb23 HNE.out.2.1
  have HW := hid (show w.heap.size ≤ g2 ∧ w.heap.size ≤ g4 from ⟨by have := K1.out.size; have := HG2.out; omega, by have := K2.out.size; have := HG4.out; omega⟩)
  clear hb1 hb1' hb2 hb4 hb13 hb23 q0 q1 q2
  have hin := in_calls (w := w4) ⟨#[78, 82]⟩ 66 (by decide)
  rw [show inB ⟨#[78, 82]⟩ 66 = false from by decide] at hin
  refine hin.mono ?_
  clear hin
  rintro e w' ⟨rfl, rfl⟩
  go_wp2_with fail
  have hin := in_calls (w := w4) ⟨#[78, 82]⟩ 83 (by decide)
  rw [show inB ⟨#[78, 82]⟩ 83 = false from by decide] at hin
  refine hin.mono ?_
  clear hin
  rintro e w' ⟨rfl, rfl⟩
  go_wp2_with fail
  have hin := in_calls (w := w4) ⟨#[78, 82]⟩ 84 (by decide)
  rw [show inB ⟨#[78, 82]⟩ 84 = false from by decide] at hin
  refine hin.mono ?_
  clear hin
  rintro e w' ⟨rfl, rfl⟩
  go_wp2_with fail
  have hin := in_calls (w := w4) ⟨#[78, 82]⟩ 86 (by decide)
  rw [show inB ⟨#[78, 82]⟩ 86 = false from by decide] at hin
  refine hin.mono ?_
  clear hin
  rintro e w' ⟨rfl, rfl⟩
  go_wp2_with fail
  have hin := in_calls (w := w4) ⟨#[78, 82]⟩ 76 (by decide)
  rw [show inB ⟨#[78, 82]⟩ 76 = false from by decide] at hin
  refine hin.mono ?_
  clear hin
  rintro e w' ⟨rfl, rfl⟩
  go_wp2_with fail
  have hin := in_calls (w := w4) ⟨#[78, 82]⟩ 73 (by decide)
  rw [show inB ⟨#[78, 82]⟩ 73 = false from by decide] at hin
  refine hin.mono ?_
  clear hin
  rintro e w' ⟨rfl, rfl⟩
  go_wp2_with fail
  have hin := in_calls (w := w4) ⟨#[78, 82]⟩ 78 (by decide)
  rw [show inB ⟨#[78, 82]⟩ 78 = true from by decide] at hin
  refine hin.mono ?_
  clear hin
  rintro e w' ⟨rfl, rfl⟩
  go_wp2_with (first
    | (refine wpl_load1 rfl rfl rfl hb14 (by kernel_rfl) (v := .int .i64 m.number) rfl ?_)
    | (refine wpl_storeB (v := .int .i64 m.number) (o := 19) (b := g4) rfl rfl rfl rfl hb44 (by kernel_rfl) (of_decide_eq_true (by kernel_rfl)) (by simp [Value.cells, Value.oneCell']) ?_; intro w5 hb45 k5 s5; have hb15 := k5.heap hb14 HNE.out.1; have hb25 := k5.heap hb24 HNE.out.2.1; have K5 := hid (K4.out.trans k5 (fun _ _ e => e)); clear s5 k5; replace hb45 : w5.heap[g4]? = some (.cells (msgCs ⟨m.kind, m.from', m.to, 0, 0, 0, reqZ', [], [], m.number, verdictZ⟩ (.slice none 0 0) (.slice none 0 0) (.slice none 0 0) (.slice none 0 0)).toArray 42) := hb45))
  have hin := in_calls (w := w5) ⟨#[78, 82]⟩ 82 (by decide)
  rw [show inB ⟨#[78, 82]⟩ 82 = true from by decide] at hin
  refine hin.mono ?_
  clear hin
  rintro e w' ⟨rfl, rfl⟩
  go_wp2_with (first
    | (refine wpl_loadA (ty := 40) (o := 20) (n := 7) rfl rfl rfl hb15 (by kernel_rfl) (by kernel_rfl) (verdictCs m.verdict (.slice Ak nk ck)) rfl rfl ?_)
    | (refine wpl_storeB (v := .agg (verdictCs m.verdict (.slice Ak nk ck)).toArray) (o := 20) (b := g4) rfl rfl rfl rfl hb45 (by kernel_rfl) (of_decide_eq_true (by kernel_rfl)) (by simp [Value.cells, verdictCs, Value.oneCell']) ?_; intro w6 hb46 k6 s6; have hb16 := k6.heap hb15 HNE.out.1; have hb26 := k6.heap hb25 HNE.out.2.1; have K6 := hid (K5.out.trans k6 (fun _ _ e => e)); clear s6 k6; replace hb46 : w6.heap[g4]? = some (.cells (msgCs ⟨m.kind, m.from', m.to, 0, 0, 0, reqZ', [], [], m.number, m.verdict⟩ (.slice none 0 0) (.slice none 0 0) (.slice none 0 0) (.slice Ak nk ck)).toArray 42) := hb46)
    | (refine wpl_loadA (ty := 42) (o := 0) (n := 27) rfl rfl rfl hb46 (by kernel_rfl) (by kernel_rfl) (msgCs ⟨m.kind, m.from', m.to, 0, 0, 0, reqZ', [], [], m.number, m.verdict⟩ (.slice none 0 0) (.slice none 0 0) (.slice none 0 0) (.slice Ak nk ck)) rfl rfl ?_)
    | (refine wpl_storeB (v := .agg (msgCs ⟨m.kind, m.from', m.to, 0, 0, 0, reqZ', [], [], m.number, m.verdict⟩ (.slice none 0 0) (.slice none 0 0) (.slice none 0 0) (.slice Ak nk ck)).toArray) (o := 0) (b := g2) rfl rfl rfl rfl hb26 (by kernel_rfl) (of_decide_eq_true (by kernel_rfl)) (by simp [Value.cells, msgCs, reqCs, verdictCs, Value.oneCell']) ?_; intro wz hbz kz sz; replace hbz : wz.heap[g2]? = some (.cells (msgCs ⟨m.kind, m.from', m.to, 0, 0, 0, reqZ', [], [], m.number, m.verdict⟩ (.slice none 0 0) (.slice none 0 0) (.slice none 0 0) (.slice Ak nk ck)).toArray 42) := hbz))
  refine bodyPost_ret (res_cell (g := g2) (cs := (msgCs ⟨m.kind, m.from', m.to, 0, 0, 0, reqZ', [], [], m.number, m.verdict⟩ (.slice none 0 0) (.slice none 0 0) (.slice none 0 0) (.slice Ak nk ck)).toArray) Tryz.results45 _ rfl hbz (by kernel_rfl) (by kernel_rfl)) rfl ?_
  obtain ⟨o1, o2⟩ := HW.out
  have kk : Keep (fun _ => False) w wz := ((K3.out.mono (T := fun q => q = g2 ∨ q = g4) (fun _ _ f => f.elim)).trans K6.out (fun _ _ e => .inr e)).trans kz (fun _ _ e => .inl e) |>.mono (fun b hb e => by omega)
  have h := H.out.keep kk (fun _ _ => id)
  refine ⟨none, none, none, Ak, 0, 0, 0, ck, ?_, ⟨sl_nil _, sl_nil _, sl_nil _, h.k, h.lt⟩, kk⟩
  unfold msgCsA
  simp only [HNK.out]
  rfl
set_option maxRecDepth 20000 in
set_option maxHeartbeats 4000000 in
theorem own11_NS {Ac Av Ai Ak : Option Addr} {cc cv ci ck : Nat} (h : MsgAt F w m Ac Av Ai Ak cc cv ci ck) (HS : ∀ w, Calls Tryz.prog 41 #[.int .i64 m.kind] w fun e w' => e = .returned (.string ⟨#[78, 83]⟩) ∧ w = w') :
    Calls Tryz.prog 45 #[.agg (msgCsA m Ac Av Ai Ak cc cv ci ck).toArray] w (Own11 F w (ownBy m false true false false false false true false)) := by
  obtain ⟨nc, hnc⟩ : ∃ nc, nc = m.value.changes.length := ⟨_, rfl⟩
  obtain ⟨nv, hnv⟩ : ∃ nv, nv = m.votes.length := ⟨_, rfl⟩
  obtain ⟨ni, hni⟩ : ∃ ni, ni = m.image.length := ⟨_, rfl⟩
  obtain ⟨nk, hnk⟩ : ∃ nk, nk = m.verdict.commits.length := ⟨_, rfl⟩
  have H := hid h; have HS := hid HS
  unfold msgCsA
  rw [← hnc, ← hnv, ← hni, ← hnk]
  have HNC := hid hnc; have HNV := hid hnv; have HNI := hid hni; have HNK := hid hnk
  clear h hnc hnv hni hnk
  go_enter Tryz.func45, Tryz.ntmps45
  go_wp2_with (first
    | (refine wpl_boxB (v := .agg (msgCs m (.slice Ac nc cc) (.slice Av nv cv) (.slice Ai ni ci) (.slice Ak nk ck)).toArray) rfl rfl rfl ?_; intro g1 w1 hg1 hb1 k1 s1; have HG1 := hid hg1; have K1 := hid k1; clear hg1 k1 s1)
    | (refine wpl_allocB (z := zM) rfl rfl (by kernel_rfl) ?_; intro g2 w2 hg2 hb2 k2 s2; have HG2 := hid hg2; have hb1' := k2.heap hb1 id; have K2 := hid (K1.out.trans k2 (fun _ _ f => f)); clear hg2 k2 s2; have q0 := cell_at hb1' 0 (.int .i64 m.kind) rfl; have q1 := cell_at hb1' 1 (.int .i64 m.from') rfl; have q2 := cell_at hb1' 2 (.int .i64 m.to) rfl))
  refine (HS.out w2).mono ?_
  rintro e w' ⟨rfl, rfl⟩
  go_wp2_with (first
    | (refine wpl_build rfl rfl (msgCs ⟨m.kind, m.from', m.to, 0, 0, 0, reqZ', [], [], 0, verdictZ⟩ (.slice none 0 0) (.slice none 0 0) (.slice none 0 0) (.slice none 0 0)).toArray (by kernel_rfl) ?_)
    | (refine wpl_allocB (z := zM) rfl rfl (by kernel_rfl) ?_; intro g4 w3 hg4 hb4 k3 s3; have HG4 := hid hg4; have hb13 := k3.heap hb1' id; have hb23 := k3.heap hb2 id; have K3 := hid (K2.out.trans k3 (fun _ _ f => f)); clear hg4 k3 s3)
    | (refine wpl_storeB (v := .agg (msgCs ⟨m.kind, m.from', m.to, 0, 0, 0, reqZ', [], [], 0, verdictZ⟩ (.slice none 0 0) (.slice none 0 0) (.slice none 0 0) (.slice none 0 0)).toArray) (b := g4) rfl rfl rfl rfl hb4 (by kernel_rfl) (of_decide_eq_true (by kernel_rfl)) (by simp [Value.cells, msgCs, reqCs, verdictCs, Value.oneCell']) ?_; intro w4 hb44 k4 s4; have K4 := hid k4; clear s4 k4; replace hb44 : w4.heap[g4]? = some (.cells (msgCs ⟨m.kind, m.from', m.to, 0, 0, 0, reqZ', [], [], 0, verdictZ⟩ (.slice none 0 0) (.slice none 0 0) (.slice none 0 0) (.slice none 0 0)).toArray 42) := hb44))
  have HNE := hid (show g1 ≠ g4 ∧ g2 ≠ g4 ∧ g1 ≠ g2 from ⟨by have := lt_heap hb1'; have := HG4.out; omega, by have := lt_heap hb2; have := HG4.out; omega, by have := lt_heap hb1; have := HG2.out; omega⟩)
  have hb14 := K4.out.heap hb13 HNE.out.1
  have hb24 := K4.out.heap hb23 HNE.out.2.1
  have HW := hid (show w.heap.size ≤ g2 ∧ w.heap.size ≤ g4 from ⟨by have := K1.out.size; have := HG2.out; omega, by have := K2.out.size; have := HG4.out; omega⟩)
  clear hb1 hb1' hb2 hb4 hb13 hb23 q0 q1 q2
  have hin := in_calls (w := w4) ⟨#[78, 83]⟩ 66 (by decide)
  rw [show inB ⟨#[78, 83]⟩ 66 = false from by decide] at hin
  refine hin.mono ?_
  clear hin
  rintro e w' ⟨rfl, rfl⟩
  go_wp2_with fail
  have hin := in_calls (w := w4) ⟨#[78, 83]⟩ 83 (by decide)
  rw [show inB ⟨#[78, 83]⟩ 83 = true from by decide] at hin
  refine hin.mono ?_
  clear hin
  rintro e w' ⟨rfl, rfl⟩
  go_wp2_with (first
    | (refine wpl_load1 rfl rfl rfl hb14 (by kernel_rfl) (v := .int .i64 m.slot) rfl ?_)
    | (refine wpl_storeB (v := .int .i64 m.slot) (o := 4) (b := g4) rfl rfl rfl rfl hb44 (by kernel_rfl) (of_decide_eq_true (by kernel_rfl)) (by simp [Value.cells, Value.oneCell']) ?_; intro w5 hb45 k5 s5; have hb15 := k5.heap hb14 HNE.out.1; have hb25 := k5.heap hb24 HNE.out.2.1; have K5 := hid (K4.out.trans k5 (fun _ _ e => e)); clear s5 k5; replace hb45 : w5.heap[g4]? = some (.cells (msgCs ⟨m.kind, m.from', m.to, 0, m.slot, 0, reqZ', [], [], 0, verdictZ⟩ (.slice none 0 0) (.slice none 0 0) (.slice none 0 0) (.slice none 0 0)).toArray 42) := hb45))
  have hin := in_calls (w := w5) ⟨#[78, 83]⟩ 84 (by decide)
  rw [show inB ⟨#[78, 83]⟩ 84 = false from by decide] at hin
  refine hin.mono ?_
  clear hin
  rintro e w' ⟨rfl, rfl⟩
  go_wp2_with fail
  have hin := in_calls (w := w5) ⟨#[78, 83]⟩ 86 (by decide)
  rw [show inB ⟨#[78, 83]⟩ 86 = false from by decide] at hin
  refine hin.mono ?_
  clear hin
  rintro e w' ⟨rfl, rfl⟩
  go_wp2_with fail
  have hin := in_calls (w := w5) ⟨#[78, 83]⟩ 76 (by decide)
  rw [show inB ⟨#[78, 83]⟩ 76 = false from by decide] at hin
  refine hin.mono ?_
  clear hin
  rintro e w' ⟨rfl, rfl⟩
  go_wp2_with fail
  have hin := in_calls (w := w5) ⟨#[78, 83]⟩ 73 (by decide)
  rw [show inB ⟨#[78, 83]⟩ 73 = false from by decide] at hin
  refine hin.mono ?_
  clear hin
  rintro e w' ⟨rfl, rfl⟩
  go_wp2_with fail
  have hin := in_calls (w := w5) ⟨#[78, 83]⟩ 78 (by decide)
  rw [show inB ⟨#[78, 83]⟩ 78 = true from by decide] at hin
  refine hin.mono ?_
  clear hin
  rintro e w' ⟨rfl, rfl⟩
  go_wp2_with (first
    | (refine wpl_load1 rfl rfl rfl hb15 (by kernel_rfl) (v := .int .i64 m.number) rfl ?_)
    | (refine wpl_storeB (v := .int .i64 m.number) (o := 19) (b := g4) rfl rfl rfl rfl hb45 (by kernel_rfl) (of_decide_eq_true (by kernel_rfl)) (by simp [Value.cells, Value.oneCell']) ?_; intro w6 hb46 k6 s6; have hb16 := k6.heap hb15 HNE.out.1; have hb26 := k6.heap hb25 HNE.out.2.1; have K6 := hid (K5.out.trans k6 (fun _ _ e => e)); clear s6 k6; replace hb46 : w6.heap[g4]? = some (.cells (msgCs ⟨m.kind, m.from', m.to, 0, m.slot, 0, reqZ', [], [], m.number, verdictZ⟩ (.slice none 0 0) (.slice none 0 0) (.slice none 0 0) (.slice none 0 0)).toArray 42) := hb46))
  have hin := in_calls (w := w6) ⟨#[78, 83]⟩ 82 (by decide)
  rw [show inB ⟨#[78, 83]⟩ 82 = false from by decide] at hin
  refine hin.mono ?_
  clear hin
  rintro e w' ⟨rfl, rfl⟩
  go_wp2_with (first
    | (refine wpl_loadA (ty := 42) (o := 0) (n := 27) rfl rfl rfl hb46 (by kernel_rfl) (by kernel_rfl) (msgCs ⟨m.kind, m.from', m.to, 0, m.slot, 0, reqZ', [], [], m.number, verdictZ⟩ (.slice none 0 0) (.slice none 0 0) (.slice none 0 0) (.slice none 0 0)) rfl rfl ?_)
    | (refine wpl_storeB (v := .agg (msgCs ⟨m.kind, m.from', m.to, 0, m.slot, 0, reqZ', [], [], m.number, verdictZ⟩ (.slice none 0 0) (.slice none 0 0) (.slice none 0 0) (.slice none 0 0)).toArray) (o := 0) (b := g2) rfl rfl rfl rfl hb26 (by kernel_rfl) (of_decide_eq_true (by kernel_rfl)) (by simp [Value.cells, msgCs, reqCs, verdictCs, Value.oneCell']) ?_; intro wz hbz kz sz; replace hbz : wz.heap[g2]? = some (.cells (msgCs ⟨m.kind, m.from', m.to, 0, m.slot, 0, reqZ', [], [], m.number, verdictZ⟩ (.slice none 0 0) (.slice none 0 0) (.slice none 0 0) (.slice none 0 0)).toArray 42) := hbz))
  refine bodyPost_ret (res_cell (g := g2) (cs := (msgCs ⟨m.kind, m.from', m.to, 0, m.slot, 0, reqZ', [], [], m.number, verdictZ⟩ (.slice none 0 0) (.slice none 0 0) (.slice none 0 0) (.slice none 0 0)).toArray) Tryz.results45 _ rfl hbz (by kernel_rfl) (by kernel_rfl)) rfl ?_
  obtain ⟨o1, o2⟩ := HW.out
  have kk : Keep (fun _ => False) w wz := ((K3.out.mono (T := fun q => q = g2 ∨ q = g4) (fun _ _ f => f.elim)).trans K6.out (fun _ _ e => .inr e)).trans kz (fun _ _ e => .inl e) |>.mono (fun b hb e => by omega)
  have h := H.out.keep kk (fun _ _ => id)
  refine ⟨none, none, none, none, 0, 0, 0, 0, ?_, ⟨sl_nil _, sl_nil _, sl_nil _, sl_nil _, h.lt⟩, kk⟩
  unfold msgCsA
  rfl
end
end Go.Proofs.YtofljidmdabkcaaGreat

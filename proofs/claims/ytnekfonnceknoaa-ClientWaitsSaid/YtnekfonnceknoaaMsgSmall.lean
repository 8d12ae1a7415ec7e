/- wapentakelaw9.small, Small; wapentakelaw11.Small. -/
import Derived.Test.YtnekfonnceknoaaMt
import Derived.Test.YtnekfonnceknoaaCm
namespace Go.Proofs.Ytnekfonnceknoaa
open Go.RowKit
def smallB (r : Req) : Bool := decide (r.changes.length ≤ 200) && (decide (r.name.size ≤ 1000) && (decide (r.ref.size ≤ 1000) && (decide (r.path.size ≤ 1000) && r.changes.all (fun c => decide (c.path.size ≤ 1000)))))
def comReq (c : Commit) : Req := ⟨0, ByteArray.empty, 0, 0, 0, c.ref, c.changes, ByteArray.empty, 0, 0, 0⟩
def smallV (x : Verdict) : Bool := decide (x.commits.length ≤ 100) && (decide (x.path.size ≤ 1000) && x.commits.all (fun c => smallB (comReq c)))
def smallM (m : Msg) : Bool := decide (m.votes.length ≤ 200) && (decide (m.image.length ≤ 5000) && (decide (m.value.changes.length ≤ 200) && (smallV m.verdict && m.votes.all (fun x => decide (x.value.changes.length ≤ 200)))))
theorem all_false {α : Type} {l : List α} {p : α → Bool} {k : Nat} {x : α} (hx : l[k]? = some x) (hp : p x = false) : l.all p = false := by
  rw [List.all_eq_false]
  exact ⟨x, List.mem_of_getElem? hx, by simp [hp]⟩
theorem all_true {α : Type} {l : List α} {p : α → Bool} {k : Nat} (hk : l.length ≤ k) (hp : (l.take k).all p = true) : l.all p = true := by
  rwa [List.take_of_length_le hk] at hp
theorem take_all {α : Type} {l : List α} {p : α → Bool} {k : Nat} {x : α} (hx : l[k]? = some x) (h : (l.take k).all p = true) (hp : p x = true) : (l.take (k + 1)).all p = true := by
  rw [List.take_add_one, hx, List.all_append, h]; simp [hp]
theorem smallM_fits {m : Msg} (h : smallM m = true) : m.Fits := by
  simp only [smallM, smallV, smallB, Bool.and_eq_true, decide_eq_true_iff, List.all_eq_true, comReq] at h
  obtain ⟨h1, h2, h3, ⟨h4, h5, h6⟩, h7⟩ := h
  exact ⟨by omega, by omega, by omega, by omega, fun x hx => by have := h7 x hx; omega, fun x hx => Nat.le_trans (show x.changes.length ≤ 200 from of_decide_eq_true (h6 x hx).1) (by omega)⟩
section
variable {F G S : Nat → Prop} {w w' : World}
set_option maxRecDepth 100000 in
set_option maxHeartbeats 1600000 in
theorem small_calls {r : Req} {v : Value} (hv : Sl .change w F v r.changes) :
    Calls Try.prog 55 #[reqV r v] w fun e w' => e = .returned (.bool (smallB r)) ∧ Keep (fun _ => False) w w' := by
  have hmax : r.changes.length ≤ 9223372036854775807 := by obtain ⟨_, _, _, q1, q2, _⟩ := hv; unfold maxLen at q2; omega
  obtain ⟨A, c, rfl⟩ := hv.shape
  have HV := hid hv
  obtain ⟨n, hn⟩ : ∃ n, n = r.changes.length := ⟨_, rfl⟩
  rw [← hn] at HV hmax ⊢
  have HN := hid hn
  obtain ⟨kind, name, ses, seq, base, ref, ch, path, frm, many, mem⟩ := r
  simp only at HV HN hn
  obtain ⟨sb, hsb⟩ : ∃ sb, sb = smallB ⟨kind, name, ses, seq, base, ref, ch, path, frm, many, mem⟩ := ⟨_, rfl⟩
  rw [← hsb]
  have HSB := hid hsb
  clear hv hsb
  by_cases b0 : 200 < n
  case' pos =>
    have hb : sb = false := by
      rw [HSB.out]
      simp only [smallB, Bool.and_eq_false_iff, decide_eq_false_iff_not]; omega
    subst hb
    clear hn
    go_enter Try.func55, Try.ntmps55
    go_wp2_with (first | (refine wpl_boxB (v := reqV ⟨kind, name, ses, seq, base, ref, ch, path, frm, many, mem⟩ (.slice A n c)) rfl rfl rfl ?_; intro g w1 hg hb1 k1 s1; have HG := hid hg; clear hg; have c1 := cell_at hb1 1 (.string name) rfl; have c5 := cell_at hb1 5 (.string ref) rfl; have c6 := cell_at hb1 6 (.slice A n c) rfl; have c7 := cell_at hb1 7 (.string path) rfl; have HB1 := hid hb1; clear hb1))
    go_ret
    exact ⟨rfl, k1⟩
  by_cases b1 : 1000 < name.size
  case' pos =>
    have hb : sb = false := by
      rw [HSB.out]
      simp only [smallB, Bool.and_eq_false_iff, decide_eq_false_iff_not]; omega
    subst hb
    clear hn
    go_enter Try.func55, Try.ntmps55
    go_wp2_with (first | (refine wpl_boxB (v := reqV ⟨kind, name, ses, seq, base, ref, ch, path, frm, many, mem⟩ (.slice A n c)) rfl rfl rfl ?_; intro g w1 hg hb1 k1 s1; have HG := hid hg; clear hg; have c1 := cell_at hb1 1 (.string name) rfl; have c5 := cell_at hb1 5 (.string ref) rfl; have c6 := cell_at hb1 6 (.slice A n c) rfl; have c7 := cell_at hb1 7 (.string path) rfl; have HB1 := hid hb1; clear hb1))
    go_ret
    exact ⟨rfl, k1⟩
  by_cases b2 : 1000 < ref.size
  case' pos =>
    have hb : sb = false := by
      rw [HSB.out]
      simp only [smallB, Bool.and_eq_false_iff, decide_eq_false_iff_not]; omega
    subst hb
    clear hn
    go_enter Try.func55, Try.ntmps55
    go_wp2_with (first | (refine wpl_boxB (v := reqV ⟨kind, name, ses, seq, base, ref, ch, path, frm, many, mem⟩ (.slice A n c)) rfl rfl rfl ?_; intro g w1 hg hb1 k1 s1; have HG := hid hg; clear hg; have c1 := cell_at hb1 1 (.string name) rfl; have c5 := cell_at hb1 5 (.string ref) rfl; have c6 := cell_at hb1 6 (.slice A n c) rfl; have c7 := cell_at hb1 7 (.string path) rfl; have HB1 := hid hb1; clear hb1))
    go_ret
    exact ⟨rfl, k1⟩
  by_cases b3 : 1000 < path.size
  case' pos =>
    have hb : sb = false := by
      rw [HSB.out]
      simp only [smallB, Bool.and_eq_false_iff, decide_eq_false_iff_not]; omega
    subst hb
    clear hn
    go_enter Try.func55, Try.ntmps55
    go_wp2_with (first | (refine wpl_boxB (v := reqV ⟨kind, name, ses, seq, base, ref, ch, path, frm, many, mem⟩ (.slice A n c)) rfl rfl rfl ?_; intro g w1 hg hb1 k1 s1; have HG := hid hg; clear hg; have c1 := cell_at hb1 1 (.string name) rfl; have c5 := cell_at hb1 5 (.string ref) rfl; have c6 := cell_at hb1 6 (.slice A n c) rfl; have c7 := cell_at hb1 7 (.string path) rfl; have HB1 := hid hb1; clear hb1))
    go_ret
    exact ⟨rfl, k1⟩
  clear hn
  go_enter Try.func55, Try.ntmps55
  go_wp2_with (first | (refine wpl_boxB (v := reqV ⟨kind, name, ses, seq, base, ref, ch, path, frm, many, mem⟩ (.slice A n c)) rfl rfl rfl ?_; intro g w1 hg hb1 k1 s1; have HG := hid hg; clear hg; have c1 := cell_at hb1 1 (.string name) rfl; have c5 := cell_at hb1 5 (.string ref) rfl; have c6 := cell_at hb1 6 (.slice A n c) rfl; have c7 := cell_at hb1 7 (.string path) rfl; have HB1 := hid hb1; clear hb1))
  have HK1 := hid k1
  clear k1
  go_loopw [3] (fun i wr => ∃ k : Nat, k ≤ n ∧ i = .int .i64 k ∧ (ch.take k).all (fun c => decide (c.path.size ≤ 1000)) = true ∧ wr = w1) (fun i _ => n - (intOf i).toNat)
  case atStart => exact ⟨0, Nat.zero_le _, rfl, rfl, rfl⟩
  case round =>
    obtain ⟨k, hk, rfl, hall, rfl⟩ := hrel
    have HALL := hid hall
    clear hall
    by_cases hlt : k < n
    · obtain ⟨x, hx⟩ : ∃ x, ch[k]? = some x := ⟨ch[k]'(by rw [← HN.out]; exact hlt), by simp [show k < ch.length by rw [← HN.out]; exact hlt]⟩
      have hvk := HV.out.keep HK1.out (fun _ _ => id)
      obtain ⟨b, off, rfl, _, d0, _, _⟩ := change_at (HN.out ▸ hvk) hx
      have HX := hid hx
      clear hvk hx
      by_cases hs : 1000 < x.path.size
      · have hb : sb = false := by
          rw [HSB.out]
          simp only [smallB, all_false (p := fun c : Change => decide (c.path.size ≤ 1000)) HX.out (decide_eq_false (by omega)), Bool.and_false]
        subst hb
        go_wp2_with fail
        go_ret
        exact ⟨rfl, HK1.out⟩
      · have HT := hid (take_all HX.out HALL.out (decide_eq_true (by omega)))
        go_wp2_with fail
        exact ⟨⟨k + 1, by omega, by simp, HT.out, trivial⟩, by simp [intOf]; omega⟩
    · have hb : sb = true := by
        rw [HSB.out]
        simp only [smallB, all_true (l := ch) (k := k) (by rw [← HN.out]; omega) HALL.out, Bool.and_true, Bool.and_eq_true, decide_eq_true_iff]
        rw [← HN.out]; omega
      subst hb
      go_wp2_with fail
      go_ret
      exact ⟨rfl, HK1.out⟩
set_option maxRecDepth 100000 in
set_option maxHeartbeats 1600000 in
theorem smallV_calls {x : Verdict} {v : Value} (hv : Sl .commit w F v x.commits) :
    Calls Try.prog 34 #[.agg (verdictCs x v).toArray] w fun e w' => e = .returned (.bool (smallV x)) ∧ Keep (fun _ => False) w w' := by
  have hmax : x.commits.length ≤ 9223372036854775807 := by obtain ⟨_, _, _, q1, q2, _⟩ := hv; unfold maxLen at q2; omega
  obtain ⟨A, c, rfl⟩ := hv.shape
  have HV := hid hv
  obtain ⟨n, hn⟩ : ∃ n, n = x.commits.length := ⟨_, rfl⟩
  rw [← hn] at HV hmax ⊢
  have HN := hid hn
  obtain ⟨code, ses, rev, path, dig, coms, mem⟩ := x
  simp only at HV HN hn
  simp only [verdictCs]
  obtain ⟨sb, hsb⟩ : ∃ sb, sb = smallV ⟨code, ses, rev, path, dig, coms, mem⟩ := ⟨_, rfl⟩
  rw [← hsb]
  have HSB := hid hsb
  clear hv hsb
  by_cases b0 : 100 < n
  case' pos =>
    have hb : sb = false := by
      rw [HSB.out]
      simp only [smallV, Bool.and_eq_false_iff, decide_eq_false_iff_not]; omega
    subst hb
    clear hn
    go_enter Try.func34, Try.ntmps34
    go_wp2_with (first | (refine wpl_boxB (v := .agg (verdictCs ⟨code, ses, rev, path, dig, coms, mem⟩ (.slice A n c)).toArray) rfl rfl rfl ?_; intro g w1 hg hb1 k1 s1; have HG := hid hg; clear hg; have c3 := cell_at hb1 3 (.string path) rfl; have c5 := cell_at hb1 5 (.slice A n c) rfl; have HB1 := hid hb1; clear hb1))
    go_ret
    exact ⟨rfl, k1⟩
  by_cases b1 : 1000 < path.size
  case' pos =>
    have hb : sb = false := by
      rw [HSB.out]
      simp only [smallV, Bool.and_eq_false_iff, decide_eq_false_iff_not]; omega
    subst hb
    clear hn
    go_enter Try.func34, Try.ntmps34
    go_wp2_with (first | (refine wpl_boxB (v := .agg (verdictCs ⟨code, ses, rev, path, dig, coms, mem⟩ (.slice A n c)).toArray) rfl rfl rfl ?_; intro g w1 hg hb1 k1 s1; have HG := hid hg; clear hg; have c3 := cell_at hb1 3 (.string path) rfl; have c5 := cell_at hb1 5 (.slice A n c) rfl; have HB1 := hid hb1; clear hb1))
    go_ret
    exact ⟨rfl, k1⟩
  clear hn
  go_enter Try.func34, Try.ntmps34
  go_wp2_with (first | (refine wpl_boxB (v := .agg (verdictCs ⟨code, ses, rev, path, dig, coms, mem⟩ (.slice A n c)).toArray) rfl rfl rfl ?_; intro g w1 hg hb1 k1 s1; have HG := hid hg; clear hg; have c3 := cell_at hb1 3 (.string path) rfl; have c5 := cell_at hb1 5 (.slice A n c) rfl; have HB1 := hid hb1; clear hb1))
  have HK1 := hid k1
  clear k1
  go_loopw [3] (fun i wr => ∃ k : Nat, k ≤ n ∧ i = .int .i64 k ∧ (coms.take k).all (fun c => smallB (comReq c)) = true ∧ Keep (fun _ => False) w1 wr) (fun i _ => n - (intOf i).toNat)
  case atStart => exact ⟨0, Nat.zero_le _, rfl, rfl, Keep.refl _ _⟩
  case round =>
    obtain ⟨k, hk, rfl, hall, hkp⟩ := hrel
    have HALL := hid hall
    have HKP := hid hkp
    have c5 := hkp.cell c5 id
    clear hall
    by_cases hlt : k < n
    · obtain ⟨x, hx⟩ : ∃ x, coms[k]? = some x := ⟨coms[k]'(by rw [← HN.out]; exact hlt), by simp [show k < coms.length by rw [← HN.out]; exact hlt]⟩
      have hvk := (HV.out.keep HK1.out (fun _ _ => id)).keep hkp (fun _ _ => id)
      obtain ⟨A', c', b, off, cs, he, rfl, hcs, hcell⟩ := elem_cells7 hvk HN.out hx
      simp only [Value.slice.injEq, true_and] at he
      obtain ⟨rfl, rfl⟩ := he
      obtain ⟨v1, rfl, hs1, hok1⟩ := commit_cells hcs
      have KS := fun w' (hk : Keep (fun _ => False) wr w') => (small_calls (r := comReq x) (hs1.keep hk (fun _ _ => id))).mono (R' := fun e w'' => e = .returned (.bool (smallB (comReq x))) ∧ Keep (fun _ => False) wr w'') (fun e w'' ⟨h1, h2⟩ => ⟨h1, hk.trans h2 (fun _ _ h => h)⟩)
      obtain ⟨A1, c1, rfl⟩ := hs1.shape
      have hsz : Rep.commit.size = 4 := rfl
      rw [hsz] at hcell
      have p2 : wr.cell? ⟨b, off + k * 4 + 2, none⟩ = some (.string x.ref) := hcell 2 _ rfl
      have p3 : wr.cell? ⟨b, off + k * 4 + 3, none⟩ = some (.slice A1 x.changes.length c1) := hcell 3 _ rfl
      have P2 := fun p : Gr wr => p.k.cell p2 id
      have P3 := fun p : Gr wr => p.k.cell p3 id
      have P5 := fun p : Gr wr => p.k.cell c5 id
      have HX := hid hx
      obtain ⟨s, hs⟩ : ∃ s, s = smallB (comReq x) := ⟨_, rfl⟩
      rw [← hs] at KS
      simp only [comReq] at KS
      have HS := hid hs
      clear hcell hs1 hcs hx hok1 hsz hvk p2 p3 hkp hs
      go_wp2_with fail
      refine wp_region_gr (by kernel_rfl) (lexB_of (by kernel_rfl)) ?_
      repeat (go_big_quiet_step (first
        | (go_at_call 55; exact grOf (KS _ (Gr.k _)))))
      refine wpQuiet_nil ?_
      rintro w6 ⟨⟨w6, hk6⟩, rfl⟩
      clear KS P2 P3 P5
      cases s with
      | false =>
        have hb : sb = false := by
          rw [HSB.out]
          simp only [smallV, all_false (p := fun c => smallB (comReq c)) HX.out HS.out.symm, Bool.and_false]
        subst hb
        go_wp2_with fail
        go_ret
        exact ⟨rfl, (HK1.out.trans HKP.out (fun _ _ h => h)).trans hk6 (fun _ _ h => h)⟩
      | true =>
        have HT := hid (take_all HX.out HALL.out HS.out.symm)
        go_wp2_with fail
        exact ⟨⟨k + 1, by omega, by simp, HT.out, HKP.out.trans hk6 (fun _ _ h => h)⟩, by simp [intOf]; omega⟩
    · have hb : sb = true := by
        rw [HSB.out]
        simp only [smallV, all_true (l := coms) (k := k) (by rw [← HN.out]; omega) HALL.out, Bool.and_true, Bool.and_eq_true, decide_eq_true_iff]
        rw [← HN.out]; omega
      subst hb
      go_wp2_with fail
      go_ret
      exact ⟨rfl, HK1.out.trans HKP.out (fun _ _ h => h)⟩
set_option maxRecDepth 100000 in
set_option maxHeartbeats 1600000 in
theorem smallM_calls {m : Msg} {vc vv vi vk : Value} (hc : Sl .change w F vc m.value.changes) (hv : Sl .vote w F vv m.votes) (hi : Sl .u8 w F vi m.image) (hk : Sl .commit w F vk m.verdict.commits) :
    Calls Try.prog 15 #[.agg (msgCs m vc vv vi vk).toArray] w fun e w' => e = .returned (.bool (smallM m)) ∧ Keep (fun _ => False) w w' := by
  have hmv : m.votes.length ≤ 9223372036854775807 := by obtain ⟨_, _, _, q1, q2, _⟩ := hv; unfold maxLen at q2; omega
  have hmi : m.image.length ≤ 9223372036854775807 := by obtain ⟨_, _, _, q1, q2, _⟩ := hi; unfold maxLen at q2; omega
  have hmc : m.value.changes.length ≤ 9223372036854775807 := by obtain ⟨_, _, _, q1, q2, _⟩ := hc; unfold maxLen at q2; omega
  obtain ⟨Ac, cc, rfl⟩ := hc.shape
  obtain ⟨Av, cv, rfl⟩ := hv.shape
  obtain ⟨Ai, ci, rfl⟩ := hi.shape
  have KV := fun w' (hq : Keep (fun _ => False) w w') => smallV_calls (x := m.verdict) (hk.keep hq (fun _ _ => id))
  obtain ⟨Ak, ck, rfl⟩ := hk.shape
  have HV := hid hv
  obtain ⟨nv, hnv⟩ : ∃ nv, nv = m.votes.length := ⟨_, rfl⟩
  obtain ⟨ni, hni⟩ : ∃ ni, ni = m.image.length := ⟨_, rfl⟩
  obtain ⟨nc, hnc⟩ : ∃ nc, nc = m.value.changes.length := ⟨_, rfl⟩
  obtain ⟨nk, hnk⟩ : ∃ nk, nk = m.verdict.commits.length := ⟨_, rfl⟩
  rw [← hnv] at HV hmv
  rw [← hni] at hmi
  rw [← hnc] at hmc
  rw [← hnk] at KV
  rw [← hnv, ← hni, ← hnc, ← hnk]
  have HNV := hid hnv
  obtain ⟨sm, hsm⟩ : ∃ sm, sm = smallM m := ⟨_, rfl⟩
  rw [← hsm]
  have HSM := hid hsm
  obtain ⟨sv, hsv⟩ : ∃ sv, sv = smallV m.verdict := ⟨_, rfl⟩
  rw [← hsv] at KV
  have HSV := hid hsv
  obtain ⟨kind, frm, to, bal, slot, time, ⟨vkind, vname, vses, vseq, vbase, vref, vch, vpath, vfrm, vmany, vmem⟩, votes, image, num, ⟨code, ses, rev, path, dig, coms, mem⟩⟩ := m
  simp only at HV HNV hnv hni hnc hnk HSV
  simp only [verdictCs] at KV
  clear hc hv hi hk hsm hsv hnk
  by_cases b0 : 200 < nv
  case' pos =>
    have hb : sm = false := by
      rw [HSM.out]
      simp only [smallM, Bool.and_eq_false_iff, decide_eq_false_iff_not]; omega
    subst hb
    clear hnv hni hnc
    go_enter Try.func15, Try.ntmps15
    go_wp2_with (first | (refine wpl_boxB (v := .agg (msgCs ⟨kind, frm, to, bal, slot, time, ⟨vkind, vname, vses, vseq, vbase, vref, vch, vpath, vfrm, vmany, vmem⟩, votes, image, num, ⟨code, ses, rev, path, dig, coms, mem⟩⟩ (.slice Ac nc cc) (.slice Av nv cv) (.slice Ai ni ci) (.slice Ak nk ck)).toArray) rfl rfl rfl ?_; intro g w1 hg hb1 k1 s1; have HG := hid hg; clear hg; have c12 := cell_at hb1 12 (.slice Ac nc cc) rfl; have c17 := cell_at hb1 17 (.slice Av nv cv) rfl; have c18 := cell_at hb1 18 (.slice Ai ni ci) rfl; have c20 := cell_at hb1 20 (.int .i64 code) rfl; have c21 := cell_at hb1 21 (.int .i64 ses) rfl; have c22 := cell_at hb1 22 (.int .i64 rev) rfl; have c23 := cell_at hb1 23 (.string path) rfl; have c24 := cell_at hb1 24 (.int .u64 dig) rfl; have c25 := cell_at hb1 25 (.slice Ak nk ck) rfl; have c26 := cell_at hb1 26 (.int .i64 mem) rfl; have HB1 := hid hb1; clear hb1))
    go_ret
    exact ⟨rfl, k1⟩
  by_cases b1 : 5000 < ni
  case' pos =>
    have hb : sm = false := by
      rw [HSM.out]
      simp only [smallM, Bool.and_eq_false_iff, decide_eq_false_iff_not]; omega
    subst hb
    clear hnv hni hnc
    go_enter Try.func15, Try.ntmps15
    go_wp2_with (first | (refine wpl_boxB (v := .agg (msgCs ⟨kind, frm, to, bal, slot, time, ⟨vkind, vname, vses, vseq, vbase, vref, vch, vpath, vfrm, vmany, vmem⟩, votes, image, num, ⟨code, ses, rev, path, dig, coms, mem⟩⟩ (.slice Ac nc cc) (.slice Av nv cv) (.slice Ai ni ci) (.slice Ak nk ck)).toArray) rfl rfl rfl ?_; intro g w1 hg hb1 k1 s1; have HG := hid hg; clear hg; have c12 := cell_at hb1 12 (.slice Ac nc cc) rfl; have c17 := cell_at hb1 17 (.slice Av nv cv) rfl; have c18 := cell_at hb1 18 (.slice Ai ni ci) rfl; have c20 := cell_at hb1 20 (.int .i64 code) rfl; have c21 := cell_at hb1 21 (.int .i64 ses) rfl; have c22 := cell_at hb1 22 (.int .i64 rev) rfl; have c23 := cell_at hb1 23 (.string path) rfl; have c24 := cell_at hb1 24 (.int .u64 dig) rfl; have c25 := cell_at hb1 25 (.slice Ak nk ck) rfl; have c26 := cell_at hb1 26 (.int .i64 mem) rfl; have HB1 := hid hb1; clear hb1))
    go_ret
    exact ⟨rfl, k1⟩
  by_cases b2 : 200 < nc
  case' pos =>
    have hb : sm = false := by
      rw [HSM.out]
      simp only [smallM, Bool.and_eq_false_iff, decide_eq_false_iff_not]; omega
    subst hb
    clear hnv hni hnc
    go_enter Try.func15, Try.ntmps15
    go_wp2_with (first | (refine wpl_boxB (v := .agg (msgCs ⟨kind, frm, to, bal, slot, time, ⟨vkind, vname, vses, vseq, vbase, vref, vch, vpath, vfrm, vmany, vmem⟩, votes, image, num, ⟨code, ses, rev, path, dig, coms, mem⟩⟩ (.slice Ac nc cc) (.slice Av nv cv) (.slice Ai ni ci) (.slice Ak nk ck)).toArray) rfl rfl rfl ?_; intro g w1 hg hb1 k1 s1; have HG := hid hg; clear hg; have c12 := cell_at hb1 12 (.slice Ac nc cc) rfl; have c17 := cell_at hb1 17 (.slice Av nv cv) rfl; have c18 := cell_at hb1 18 (.slice Ai ni ci) rfl; have c20 := cell_at hb1 20 (.int .i64 code) rfl; have c21 := cell_at hb1 21 (.int .i64 ses) rfl; have c22 := cell_at hb1 22 (.int .i64 rev) rfl; have c23 := cell_at hb1 23 (.string path) rfl; have c24 := cell_at hb1 24 (.int .u64 dig) rfl; have c25 := cell_at hb1 25 (.slice Ak nk ck) rfl; have c26 := cell_at hb1 26 (.int .i64 mem) rfl; have HB1 := hid hb1; clear hb1))
    go_ret
    exact ⟨rfl, k1⟩
  have HNI := hid hni
  have HNC := hid hnc
  clear hnv hni hnc
  go_enter Try.func15, Try.ntmps15
  go_wp2_with (first | (refine wpl_boxB (v := .agg (msgCs ⟨kind, frm, to, bal, slot, time, ⟨vkind, vname, vses, vseq, vbase, vref, vch, vpath, vfrm, vmany, vmem⟩, votes, image, num, ⟨code, ses, rev, path, dig, coms, mem⟩⟩ (.slice Ac nc cc) (.slice Av nv cv) (.slice Ai ni ci) (.slice Ak nk ck)).toArray) rfl rfl rfl ?_; intro g w1 hg hb1 k1 s1; have HG := hid hg; clear hg; have c12 := cell_at hb1 12 (.slice Ac nc cc) rfl; have c17 := cell_at hb1 17 (.slice Av nv cv) rfl; have c18 := cell_at hb1 18 (.slice Ai ni ci) rfl; have c20 := cell_at hb1 20 (.int .i64 code) rfl; have c21 := cell_at hb1 21 (.int .i64 ses) rfl; have c22 := cell_at hb1 22 (.int .i64 rev) rfl; have c23 := cell_at hb1 23 (.string path) rfl; have c24 := cell_at hb1 24 (.int .u64 dig) rfl; have c25 := cell_at hb1 25 (.slice Ak nk ck) rfl; have c26 := cell_at hb1 26 (.int .i64 mem) rfl; have HB1 := hid hb1; clear hb1))
  refine (KV _ k1).mono ?_
  rintro e w2 ⟨rfl, k2⟩
  have HK1 := hid (k1.trans k2 (fun _ _ h => h))
  have c17 := k2.cell c17 id
  clear KV k1 k2 c12 c18 c20 c21 c22 c23 c24 c25 c26
  cases sv with
  | false =>
    have hb : sm = false := by
      rw [HSM.out]
      simp only [smallM, ← HSV.out, Bool.false_and, Bool.and_false]
    subst hb
    go_wp2_with fail
    go_ret
    exact ⟨rfl, HK1.out⟩
  | true =>
  go_wp2_with fail
  go_loopw [3] (fun i wr => ∃ k : Nat, k ≤ nv ∧ i = .int .i64 k ∧ (votes.take k).all (fun x => decide (x.value.changes.length ≤ 200)) = true ∧ wr = w2) (fun i _ => nv - (intOf i).toNat)
  case atStart => exact ⟨0, Nat.zero_le _, rfl, rfl, rfl⟩
  case round =>
    obtain ⟨k, hk, rfl, hall, rfl⟩ := hrel
    have HALL := hid hall
    clear hall
    by_cases hlt : k < nv
    · obtain ⟨x, hx⟩ : ∃ x, votes[k]? = some x := ⟨votes[k]'(by rw [← HNV.out]; exact hlt), by simp [show k < votes.length by rw [← HNV.out]; exact hlt]⟩
      have hvk := HV.out.keep HK1.out (fun _ _ => id)
      obtain ⟨A', c', b, off, cs, he, rfl, hcs, hcell⟩ := elem_cells7 hvk HNV.out hx
      simp only [Value.slice.injEq, true_and] at he
      obtain ⟨rfl, rfl⟩ := he
      obtain ⟨v1, rfl, hs1, hok1⟩ := vote_cells hcs
      have hl1 : x.value.changes.length ≤ 9223372036854775807 := by obtain ⟨_, _, _, q1, q2, _⟩ := hs1; unfold maxLen at q2; omega
      obtain ⟨A1, c1, rfl⟩ := hs1.shape
      have hsz : Rep.vote.size = 13 := rfl
      rw [hsz] at hcell
      obtain ⟨nx, hnx⟩ : ∃ nx, nx = x.value.changes.length := ⟨_, rfl⟩
      rw [← hnx] at hl1 hcell
      have p8 : wr.cell? ⟨b, off + k * 13 + 8, none⟩ = some (.slice A1 nx c1) := hcell 8 _ rfl
      have HX := hid hx
      have HNX := hid hnx
      clear hcell hs1 hcs hx hok1 hsz hvk hnx
      by_cases hs : 200 < nx
      · have hb : sm = false := by
          rw [HSM.out]
          simp only [smallM, all_false (p := fun x : Vote => decide (x.value.changes.length ≤ 200)) HX.out (decide_eq_false (by rw [← HNX.out]; omega)), Bool.and_false]
        subst hb
        go_wp2_with fail
        go_ret
        exact ⟨rfl, HK1.out⟩
      · have HT := hid (take_all (p := fun x : Vote => decide (x.value.changes.length ≤ 200)) HX.out HALL.out (decide_eq_true (by rw [← HNX.out]; omega)))
        go_wp2_with fail
        exact ⟨⟨k + 1, by omega, by simp, HT.out, trivial⟩, by simp [intOf]; omega⟩
    · have hb : sm = true := by
        rw [HSM.out]
        simp only [smallM, all_true (l := votes) (k := k) (by rw [← HNV.out]; omega) HALL.out, ← HSV.out, Bool.and_true, Bool.and_eq_true, decide_eq_true_iff]
        rw [← HNV.out, ← HNI.out, ← HNC.out]; omega
      subst hb
      go_wp2_with fail
      go_ret
      exact ⟨rfl, HK1.out⟩
end
end Go.Proofs.Ytnekfonnceknoaa

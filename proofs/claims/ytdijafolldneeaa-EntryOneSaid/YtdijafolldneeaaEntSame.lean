/- wapentakelaw9.EntrySame: the walk. -/
import Derived.Test.YtdijafolldneeaaEntAlike
namespace Go.Proofs.Ytdijafolldneeaa
open Go.RowKit
theorem rev_ne {n : Int} (h : okI n) : (n == wrap64 (n + 1)) = false := by
  obtain ⟨h1, h2⟩ := h
  simp only [beq_eq_false_iff_ne, ne_eq]
  unfold wrap64
  omega
theorem eqb (a : Bool) : (a == a) = true := by cases a <;> rfl
set_option maxRecDepth 20000 in
set_option maxHeartbeats 16000000 in
theorem entrySame_calls {w : World} {v0 v1 v2 : Value} {r s : Req} {x : Verdict} (h0 : ReqIs w v0 r) (h1 : ReqIs w v1 s) (h2 : VdIs w v2 x) :
    Calls Try.prog 6 #[v0, v1, v2] w fun e w' => e = .returned (.bool true) ∧ Below w.heap.size w w' := by
  obtain ⟨u0, rfl, hs0⟩ := h0
  obtain ⟨u1, rfl, hs1⟩ := h1
  obtain ⟨u2, rfl, hs2, hok⟩ := h2
  obtain ⟨Av, cx, rfl⟩ := hs2.shape
  obtain ⟨nv, hnv⟩ : ∃ nv, nv = x.commits.length := ⟨_, rfl⟩
  rw [← hnv] at hs2 ⊢
  obtain ⟨A, c, rfl⟩ := hs0.shape
  obtain ⟨n, hn⟩ : ∃ n, n = r.changes.length := ⟨_, rfl⟩
  rw [← hn] at hs0 ⊢
  obtain ⟨B, d, rfl⟩ := hs1.shape
  obtain ⟨m, hm⟩ : ∃ m, m = s.changes.length := ⟨_, rfl⟩
  rw [← hm] at hs1 ⊢
  have HS0 := hid hs0; have HS1 := hid hs1; have HS2 := hid hs2; have HQ := hid (rev_ne hok.rev)
  clear hs0 hs1 hs2 hn hm hok hnv
  go_enter Try.func6, Try.ntmps6
  go_wp2_with (first
    | (have _f := HB; refine wpl_boxB (v := .agg (verdictCs x (.slice Av nv cx)).toArray) rfl rfl rfl ?_; intro g3 w3 hg3 hb3 k3 s3; have K3 := hid k3; have HB3 := hid hb3; clear hg3 k3 s3 hb3 _f)
    | (have _f := HA; refine wpl_boxB (v := .agg (reqCs s (.slice B m d)).toArray) rfl rfl rfl ?_; intro g2 w2 hg2 hb2 k2 s2; have K2 := hid k2; have HB := hid hb2; clear hg2 k2 s2 hb2 _f)
    | (refine wpl_boxB (v := .agg (reqCs r (.slice A n c)).toArray) rfl rfl rfl ?_; intro g1 w1 hg1 hb1 k1 s1; have K1 := hid k1; have HA := hid hb1; clear hg1 k1 s1 hb1))
  refine (awake9_calls w3).mono ?_
  rintro e w4 ⟨rfl, k4⟩
  have hb1 := k4.heap (K3.out.heap (K2.out.heap HA.out id) id) id
  have hb2 := k4.heap (K3.out.heap HB.out id) id
  have hb3 := k4.heap HB3.out id
  have K4 := hid (((K1.out.trans K2.out (fun _ _ f => f)).trans K3.out (fun _ _ f => f)).trans k4 (fun _ _ f => f))
  have H1 := hid hb1; have H2 := hid hb2; have H3 := hid hb3
  clear k4 hb2 hb3 HA HB HB3
  obtain ⟨m1, hm1⟩ : ∃ b, b = smallB r := ⟨_, rfl⟩
  obtain ⟨m2, hm2⟩ : ∃ b, b = smallB s := ⟨_, rfl⟩
  obtain ⟨m3, hm3⟩ : ∃ b, b = smallV x := ⟨_, rfl⟩
  have S1 := hid (small_calls (r := r) (HS0.out.keep K4.out (fun _ _ => id)))
  rw [← hm1] at S1
  have S2 := hid (fun y (hk : Keep (fun _ => False) w y) => small_calls (r := s) (HS1.out.keep hk (fun _ _ => id)))
  rw [← hm2] at S2
  have S3 := hid (fun y (hk : Keep (fun _ => False) w y) => smallV_calls (x := x) (HS2.out.keep hk (fun _ _ => id)))
  rw [← hm3] at S3
  clear hm1 hm2 hm3
  go_wp2_with (first
    | (refine wpl_loadA (ty := 29) (o := 0) (n := 11) rfl rfl rfl hb1 (by kernel_rfl) (by kernel_rfl) (reqCs r (.slice A n c)) rfl rfl ?_))
  refine S1.out.mono ?_
  rintro e w5 ⟨rfl, k5⟩
  have hb2 := k5.heap H2.out id
  have K5 := hid (K4.out.trans k5 (fun _ _ f => f)); have H1 := hid (k5.heap H1.out id); have H3 := hid (k5.heap H3.out id); have H2 := hid hb2
  clear k5 hb1
  cases m1 with
  | false =>
    go_wp2_with fail
    go_ret
    exact ⟨rfl, K5.out.below (Nat.le_refl _) (fun _ _ f => f)⟩
  | true =>
  go_wp2_with (first
    | (refine wpl_loadG (ty := 29) rfl rfl rfl hb2 (by kernel_rfl) (by kernel_rfl) (reqCs s (.slice B m d)) rfl rfl ?_))
  refine (S2.out _ K5.out).mono ?_
  rintro e w6 ⟨rfl, k6⟩
  have hb3 := k6.heap H3.out id
  have K6 := hid (K5.out.trans k6 (fun _ _ f => f)); have H1 := hid (k6.heap H1.out id); have H2 := hid (k6.heap H2.out id); have H3 := hid hb3
  clear k6 hb2
  cases m2 with
  | false =>
    go_wp2_with fail
    go_ret
    exact ⟨rfl, K6.out.below (Nat.le_refl _) (fun _ _ f => f)⟩
  | true =>
  go_wp2_with (first
    | (refine wpl_loadG (ty := 43) rfl rfl rfl hb3 (by kernel_rfl) (by kernel_rfl) (verdictCs x (.slice Av nv cx)) rfl rfl ?_))
  refine (S3.out _ K6.out).mono ?_
  rintro e w7 ⟨rfl, k7⟩
  have hb3 := k7.heap H3.out id
  have K7 := hid (K6.out.trans k7 (fun _ _ f => f)); have H1 := hid (k7.heap H1.out id); have H2 := hid (k7.heap H2.out id); have H3 := hid hb3
  clear k7 S1 S2 S3
  cases m3 with
  | false =>
    go_wp2_with fail
    go_ret
    exact ⟨rfl, K7.out.below (Nat.le_refl _) (fun _ _ f => f)⟩
  | true =>
  go_wp2_with (first
    | (refine wpl_loadA (ty := 43) (o := 0) (n := 7) rfl rfl rfl hb3 (by kernel_rfl) (by kernel_rfl) (verdictCs x (.slice Av nv cx)) rfl rfl ?_)
    | (refine wpl_allocB (z := zVd) rfl rfl (by kernel_rfl) ?_; intro g7 w8 hg7 hb7 k8 s8; have HG7 := hid hg7; have K8 := hid k8; clear hg7 k8 s8)
    | (refine wpl_storeB (v := .agg (verdictCs x (.slice Av nv cx)).toArray) rfl rfl rfl rfl hb7 (by kernel_rfl) (Nat.le_refl 7) (by simp [Value.oneCell', verdictCs, Value.cells]) ?_; intro w9 hb9 k9 s9; rw [show spl (Value.agg (verdictCs vdZ (.slice none 0 0)).toArray).cells 0 (Value.agg (verdictCs x (.slice Av nv cx)).toArray).cells.toList = (verdictCs x (.slice Av nv cx)).toArray from spl_whole _ _ (Nat.le_refl 7)] at hb9; have K9 := hid (K8.out.trans k9 (fun b hb e => by have := HG7.out; omega)); have z2 := cell_at hb9 2 (.int .i64 x.rev) rfl; have zf := fun o => free_at hb9 o; have HB9 := hid hb9; clear k9 s9 hb7 hb9))
  have hb10 : (w9.setCell ⟨g7, 2, none⟩ (.int .i64 (wrap64 (x.rev + 1)))).heap[g7]? = some (.cells (verdictCs ⟨x.code, x.session, wrap64 (x.rev + 1), x.path, x.digest, x.commits, x.member⟩ (.slice Av nv cx)).toArray 43) := by rw [heap_set HB9.out]; rfl
  have k10 : Keep (fun k => k = g7) w9 (w9.setCell ⟨g7, 2, none⟩ (.int .i64 (wrap64 (x.rev + 1)))) := (Keep.refl _ w9).setCell _ _ (fun _ => rfl)
  have hq := HQ.out
  generalize hw10 : w9.setCell ⟨g7, 2, none⟩ (.int .i64 (wrap64 (x.rev + 1))) = w10 at hb10 k10 ⊢
  generalize wrap64 (x.rev + 1) = q at hb10 hq ⊢
  have k710 : Keep (fun _ => False) w7 w10 := K9.out.trans k10 (fun b hb e => by have := HG7.out; omega)
  have h1 := k710.heap H1.out id; have h2 := k710.heap H2.out id; have h3 := k710.heap H3.out id; have h7 := hb10
  have K10 := hid (K7.out.trans k710 (fun _ _ f => f))
  have HC := hid (fun y (hk : Keep (fun _ => False) w10 y) => (⟨hk.cell (cell_at h1 0 (.int .i64 r.kind) rfl) id, hk.cell (cell_at h1 1 (.string r.name) rfl) id, hk.cell (cell_at h1 2 (.int .i64 r.session) rfl) id, hk.cell (cell_at h1 3 (.int .i64 r.seq) rfl) id, hk.cell (cell_at h1 4 (.int .i64 r.base) rfl) id, hk.cell (cell_at h1 5 (.string r.ref) rfl) id, hk.cell (cell_at h1 6 (.slice A n c) rfl) id, hk.cell (cell_at h1 7 (.string r.path) rfl) id, hk.cell (cell_at h1 8 (.int .i64 r.from') rfl) id, hk.cell (cell_at h1 9 (.int .i64 r.many) rfl) id, hk.cell (cell_at h1 10 (.int .i64 r.member) rfl) id, hk.cell (cell_at h2 0 (.int .i64 s.kind) rfl) id, hk.cell (cell_at h2 1 (.string s.name) rfl) id, hk.cell (cell_at h2 2 (.int .i64 s.session) rfl) id, hk.cell (cell_at h2 3 (.int .i64 s.seq) rfl) id, hk.cell (cell_at h2 4 (.int .i64 s.base) rfl) id, hk.cell (cell_at h2 5 (.string s.ref) rfl) id, hk.cell (cell_at h2 6 (.slice B m d) rfl) id, hk.cell (cell_at h2 7 (.string s.path) rfl) id, hk.cell (cell_at h2 8 (.int .i64 s.from') rfl) id, hk.cell (cell_at h2 9 (.int .i64 s.many) rfl) id, hk.cell (cell_at h2 10 (.int .i64 s.member) rfl) id, hk.cell (cell_at h3 0 (.int .i64 x.code) rfl) id, hk.cell (cell_at h3 1 (.int .i64 x.session) rfl) id, hk.cell (cell_at h3 2 (.int .i64 x.rev) rfl) id, hk.cell (cell_at h3 3 (.string x.path) rfl) id, hk.cell (cell_at h3 4 (.int .u64 x.digest) rfl) id, hk.cell (cell_at h3 5 (.slice Av nv cx) rfl) id, hk.cell (cell_at h3 6 (.int .i64 x.member) rfl) id, hk.cell (cell_at h7 0 (.int .i64 x.code) rfl) id, hk.cell (cell_at h7 1 (.int .i64 x.session) rfl) id, hk.cell (cell_at h7 2 (.int .i64 q) rfl) id, hk.cell (cell_at h7 3 (.string x.path) rfl) id, hk.cell (cell_at h7 4 (.int .u64 x.digest) rfl) id, hk.cell (cell_at h7 5 (.slice Av nv cx) rfl) id, hk.cell (cell_at h7 6 (.int .i64 x.member) rfl) id⟩ : y.cell? ⟨g1, 0, none⟩ = some (.int .i64 r.kind) ∧ y.cell? ⟨g1, 1, none⟩ = some (.string r.name) ∧ y.cell? ⟨g1, 2, none⟩ = some (.int .i64 r.session) ∧ y.cell? ⟨g1, 3, none⟩ = some (.int .i64 r.seq) ∧ y.cell? ⟨g1, 4, none⟩ = some (.int .i64 r.base) ∧ y.cell? ⟨g1, 5, none⟩ = some (.string r.ref) ∧ y.cell? ⟨g1, 6, none⟩ = some (.slice A n c) ∧ y.cell? ⟨g1, 7, none⟩ = some (.string r.path) ∧ y.cell? ⟨g1, 8, none⟩ = some (.int .i64 r.from') ∧ y.cell? ⟨g1, 9, none⟩ = some (.int .i64 r.many) ∧ y.cell? ⟨g1, 10, none⟩ = some (.int .i64 r.member) ∧ y.cell? ⟨g2, 0, none⟩ = some (.int .i64 s.kind) ∧ y.cell? ⟨g2, 1, none⟩ = some (.string s.name) ∧ y.cell? ⟨g2, 2, none⟩ = some (.int .i64 s.session) ∧ y.cell? ⟨g2, 3, none⟩ = some (.int .i64 s.seq) ∧ y.cell? ⟨g2, 4, none⟩ = some (.int .i64 s.base) ∧ y.cell? ⟨g2, 5, none⟩ = some (.string s.ref) ∧ y.cell? ⟨g2, 6, none⟩ = some (.slice B m d) ∧ y.cell? ⟨g2, 7, none⟩ = some (.string s.path) ∧ y.cell? ⟨g2, 8, none⟩ = some (.int .i64 s.from') ∧ y.cell? ⟨g2, 9, none⟩ = some (.int .i64 s.many) ∧ y.cell? ⟨g2, 10, none⟩ = some (.int .i64 s.member) ∧ y.cell? ⟨g3, 0, none⟩ = some (.int .i64 x.code) ∧ y.cell? ⟨g3, 1, none⟩ = some (.int .i64 x.session) ∧ y.cell? ⟨g3, 2, none⟩ = some (.int .i64 x.rev) ∧ y.cell? ⟨g3, 3, none⟩ = some (.string x.path) ∧ y.cell? ⟨g3, 4, none⟩ = some (.int .u64 x.digest) ∧ y.cell? ⟨g3, 5, none⟩ = some (.slice Av nv cx) ∧ y.cell? ⟨g3, 6, none⟩ = some (.int .i64 x.member) ∧ y.cell? ⟨g7, 0, none⟩ = some (.int .i64 x.code) ∧ y.cell? ⟨g7, 1, none⟩ = some (.int .i64 x.session) ∧ y.cell? ⟨g7, 2, none⟩ = some (.int .i64 q) ∧ y.cell? ⟨g7, 3, none⟩ = some (.string x.path) ∧ y.cell? ⟨g7, 4, none⟩ = some (.int .u64 x.digest) ∧ y.cell? ⟨g7, 5, none⟩ = some (.slice Av nv cx) ∧ y.cell? ⟨g7, 6, none⟩ = some (.int .i64 x.member)))
  clear hw10 h1 h2 h3 h7 hb10 k10 k710 z2 zf hb3 HB9 K9 H1 H2 H3
  obtain ⟨dd, hdd⟩ : ∃ b, b = decide (r = s) := ⟨_, rfl⟩
  have HDD := hid hdd
  have C1 : ∀ y, Keep (fun _ => False) w10 y → Calls Try.prog 18 #[reqV r (.slice A n c), reqV s (.slice B m d)] y fun e w' => e = .returned (.bool dd) ∧ Keep (fun _ => False) w10 w' := fun y hk => by
    rw [HDD.out]
    exact (sameR_calls (r := r) (s := s) ((HS0.out.keep K10.out (fun _ _ => id)).keep hk (fun _ _ => id)) ((HS1.out.keep K10.out (fun _ _ => id)).keep hk (fun _ _ => id))).mono (fun _ _ ⟨h1, h2⟩ => ⟨h1, hk.trans h2 (fun _ _ q => q)⟩)
  have C2 : ∀ y, Keep (fun _ => False) w10 y → Calls Try.prog 13 #[reqV r (.slice A n c), reqV s (.slice B m d)] y fun e w' => e = .returned (.bool dd) ∧ Keep (fun _ => False) w10 w' := fun y hk => by
    rw [HDD.out]
    exact (same9_calls (r := r) (s := s) ((HS0.out.keep K10.out (fun _ _ => id)).keep hk (fun _ _ => id)) ((HS1.out.keep K10.out (fun _ _ => id)).keep hk (fun _ _ => id))).mono (fun _ _ ⟨h1, h2⟩ => ⟨h1, hk.trans h2 (fun _ _ q => q)⟩)
  have C3 : ∀ y, Keep (fun _ => False) w10 y → Calls Try.prog 18 #[reqV r (.slice A n c), reqV r (.slice A n c)] y fun e w' => e = .returned (.bool true) ∧ Keep (fun _ => False) w10 w' := fun y hk => by
    have := (sameR_calls (r := r) (s := r) ((HS0.out.keep K10.out (fun _ _ => id)).keep hk (fun _ _ => id)) ((HS0.out.keep K10.out (fun _ _ => id)).keep hk (fun _ _ => id))).mono (R' := fun e w' => e = .returned (.bool (decide (r = r))) ∧ Keep (fun _ => False) w10 w') (fun _ _ ⟨h1, h2⟩ => ⟨h1, hk.trans h2 (fun _ _ q => q)⟩)
    rwa [decide_eq_true rfl] at this
  have C4 : ∀ y, Keep (fun _ => False) w10 y → Calls Try.prog 19 #[vdV x (.slice Av nv cx), vdV x (.slice Av nv cx)] y fun e w' => e = .returned (.bool true) ∧ Keep (fun _ => False) w10 w' := fun y hk =>
    (alikeE_calls (x := x) ((HS2.out.keep K10.out (fun _ _ => id)).keep hk (fun _ _ => id)) ((HS2.out.keep K10.out (fun _ _ => id)).keep hk (fun _ _ => id))).mono (fun _ _ ⟨h1, h2⟩ => ⟨h1, hk.trans h2 (fun _ _ q => q)⟩)
  have C5 : ∀ y, Keep (fun _ => False) w10 y → Calls Try.prog 19 #[vdV x (.slice Av nv cx), .agg #[.int .i64 x.code, .int .i64 x.session, .int .i64 q, .string x.path, .int .u64 x.digest, (.slice Av nv cx), .int .i64 x.member]] y fun e w' => e = .returned (.bool false) ∧ Keep (fun _ => False) w10 w' := fun y hk =>
    (alikeN_calls (x := x) (q := q) hq).mono (fun _ _ ⟨h1, h2⟩ => ⟨h1, hk.trans h2 (fun _ _ q => q)⟩)
  have kd : Keep (fun _ => False) w10 w10.drew := (Keep.refl _ w10).drew
  have hb := eqb dd
  clear hdd hq HQ
  go_wp2_with fail
  go_region_held3 (fun y => y.cell? ⟨g1, 0, none⟩ = some (.int .i64 r.kind) ∧ y.cell? ⟨g1, 1, none⟩ = some (.string r.name) ∧ y.cell? ⟨g1, 2, none⟩ = some (.int .i64 r.session) ∧ y.cell? ⟨g1, 3, none⟩ = some (.int .i64 r.seq) ∧ y.cell? ⟨g1, 4, none⟩ = some (.int .i64 r.base) ∧ y.cell? ⟨g1, 5, none⟩ = some (.string r.ref) ∧ y.cell? ⟨g1, 6, none⟩ = some (.slice A n c) ∧ y.cell? ⟨g1, 7, none⟩ = some (.string r.path) ∧ y.cell? ⟨g1, 8, none⟩ = some (.int .i64 r.from') ∧ y.cell? ⟨g1, 9, none⟩ = some (.int .i64 r.many) ∧ y.cell? ⟨g1, 10, none⟩ = some (.int .i64 r.member) ∧ y.cell? ⟨g2, 0, none⟩ = some (.int .i64 s.kind) ∧ y.cell? ⟨g2, 1, none⟩ = some (.string s.name) ∧ y.cell? ⟨g2, 2, none⟩ = some (.int .i64 s.session) ∧ y.cell? ⟨g2, 3, none⟩ = some (.int .i64 s.seq) ∧ y.cell? ⟨g2, 4, none⟩ = some (.int .i64 s.base) ∧ y.cell? ⟨g2, 5, none⟩ = some (.string s.ref) ∧ y.cell? ⟨g2, 6, none⟩ = some (.slice B m d) ∧ y.cell? ⟨g2, 7, none⟩ = some (.string s.path) ∧ y.cell? ⟨g2, 8, none⟩ = some (.int .i64 s.from') ∧ y.cell? ⟨g2, 9, none⟩ = some (.int .i64 s.many) ∧ y.cell? ⟨g2, 10, none⟩ = some (.int .i64 s.member) ∧ y.cell? ⟨g3, 0, none⟩ = some (.int .i64 x.code) ∧ y.cell? ⟨g3, 1, none⟩ = some (.int .i64 x.session) ∧ y.cell? ⟨g3, 2, none⟩ = some (.int .i64 x.rev) ∧ y.cell? ⟨g3, 3, none⟩ = some (.string x.path) ∧ y.cell? ⟨g3, 4, none⟩ = some (.int .u64 x.digest) ∧ y.cell? ⟨g3, 5, none⟩ = some (.slice Av nv cx) ∧ y.cell? ⟨g3, 6, none⟩ = some (.int .i64 x.member) ∧ y.cell? ⟨g7, 0, none⟩ = some (.int .i64 x.code) ∧ y.cell? ⟨g7, 1, none⟩ = some (.int .i64 x.session) ∧ y.cell? ⟨g7, 2, none⟩ = some (.int .i64 q) ∧ y.cell? ⟨g7, 3, none⟩ = some (.string x.path) ∧ y.cell? ⟨g7, 4, none⟩ = some (.int .u64 x.digest) ∧ y.cell? ⟨g7, 5, none⟩ = some (.slice Av nv cx) ∧ y.cell? ⟨g7, 6, none⟩ = some (.int .i64 x.member)) (exact HC.out _ (by assumption)) (first
    | (go_at_call 13; with_reducible refine (C2 _ (by assumption)).mono ?_; rintro e w12 ⟨rfl, k12⟩)
    | (go_at_call 18; with_reducible refine (C1 _ (by assumption)).mono ?_; rintro e w11 ⟨rfl, k11⟩)
    | (go_at_call 18; with_reducible refine (C3 _ (by assumption)).mono ?_; rintro e w13 ⟨rfl, k13⟩)
    | (go_at_call 19; with_reducible refine (C4 _ (by assumption)).mono ?_; rintro e w14 ⟨rfl, k14⟩)
    | (go_at_call 19; with_reducible refine (C5 _ (by assumption)).mono ?_; rintro e w15 ⟨rfl, k15⟩))
  all_goals
    go_wp2_with fail
    go_ret
    exact ⟨by simp, (K10.out.trans (by assumption) (fun _ _ q => q)).below (Nat.le_refl _) (fun _ _ f => f)⟩
end Go.Proofs.Ytdijafolldneeaa

/- wapentakeref9.Encode; wapentakelaw9.EntryEncodes: the walk. -/
import Derived.Test.YtdijafolldneeaaEntRPut
import Derived.Test.YtdijafolldneeaaEntBack
namespace Go.Proofs.Ytdijafolldneeaa
open Go.RowKit
section
variable {F G : Nat → Prop} {w : World} {r : Req}
theorem put9S_enc (r : Req) : put9S [] r = ⟨encB r, if mayR r then 0 else 1⟩ := by
  unfold put9S encB
  by_cases hm : mayR r
  · simp [hm]
  · simp [hm, wRefuse]
set_option maxRecDepth 20000 in
set_option maxHeartbeats 4000000 in
theorem enc9_calls {v : Value} (hv : Sl .change w G v r.changes) (hG : ∀ k, G k → k < w.heap.size) : Calls Try.prog 14 #[.agg (reqCs r v).toArray] w (EncPost w r) := by
  obtain ⟨A, c, rfl⟩ := hv.shape
  obtain ⟨n, hn⟩ : ∃ n, n = r.changes.length := ⟨_, rfl⟩
  rw [← hn] at hv ⊢
  have HV := hid hv; have HG := hid hG
  clear hv hG hn
  go_enter Try.func14, Try.ntmps14
  go_wp2_with (first
    | (refine wpl_boxB (v := .agg (reqCs r (.slice A n c)).toArray) rfl rfl rfl ?_; intro g1 w1 hg1 hb1 k1 s1; have HB1 := hid hb1; have K1 := hid k1; clear hg1 k1 s1 hb1)
    | (refine wpl_build rfl rfl #[.slice none 0 0, .int .i64 0] (by kernel_rfl) ?_)
    | (have _f := HB1; refine wpl_boxB (v := .agg #[.slice none 0 0, .int .i64 0]) rfl rfl rfl ?_; intro gw w2 hgw hb2 k2 s2; have HGW := hid hgw; have K2 := hid k2; have HZ2 := hid s2; have hb12 := k2.heap HB1.out id; have HB2 := hid hb2; clear hgw k2 s2 hb2 _f)
    | (refine wpl_loadA (ty := 29) (o := 0) (n := 11) rfl rfl rfl hb12 (by kernel_rfl) (by kernel_rfl) (reqCs r (.slice A n c)) rfl rfl ?_))
  have K02 := hid (K1.out.trans K2.out (fun _ _ f => f))
  have hW : MwAt (fun k => k = gw) w2 gw ⟨[], 0⟩ := ⟨.slice none 0 0, HB2.out, World.ownsRow_nil _ 0 _ 1, rfl, fun k hk => by simp [Value.ownBlock] at hk⟩
  have hpc := put9_calls (r := r) (v := .slice A n c) hW (fun k hk => by have := HZ2.out; omega) (HV.out.keep K02.out (fun _ _ => id)) (fun k hk => ⟨fun e => by have := HGW.out; have := HG.out k hk; have := K1.out.size; omega, by have := HG.out k hk; have := K02.out.size; omega⟩) (by simp)
  rw [put9S_enc] at hpc
  have HPC := hid hpc
  clear hW hpc hb12
  refine HPC.out.mono ?_
  rintro e w3 ⟨rfl, h3, k3⟩
  have hk03 : Keep (fun _ => False) w w3 := K02.out.trans k3 (fun b hb e => by have := HGW.out; have := K1.out.size; omega)
  have hlen : (encB r).length ≤ 35184372088832 := by
    unfold encB
    split
    · rename_i hm; have := encR_len hm; omega
    · simp
  obtain ⟨f, hf⟩ : ∃ f : Int, f = if mayR r then 0 else 1 := ⟨_, rfl⟩
  have hf01 : (if f = 0 then encB r else []) = encB r := by
    rw [hf]; unfold encB
    by_cases hm : mayR r <;> simp [hm]
  rw [← hf] at h3
  have HFF := hid hf
  have hdc := mdone_calls h3 hlen
  unfold DonePost at hdc
  simp only at hdc
  rw [hf01] at hdc
  have HK := hid hk03; have HDC := hid hdc
  clear h3 k3 hk03 hlen hdc hf01 hf
  go_wp2_with fail
  refine HDC.out.mono ?_
  rintro e w4 ⟨v4, rfl, ho, hn, k4⟩
  have K4 := hid (HK.out.trans k4 (fun _ _ f => f))
  have HO := hid ho; have HNW := hid hn
  have hz := HK.out.size
  clear ho hn k4 HDC
  go_wp2_with fail
  go_ret2
  exact ⟨v4, by rw [← HFF.out]; rfl, HO.out, fun k hk => ⟨by have := (HNW.out k hk).1; omega, (HNW.out k hk).2⟩, K4.out⟩
set_option maxRecDepth 20000 in
set_option maxHeartbeats 8000000 in
theorem entryEncodes_calls {w : World} {v0 : Value} {r : Req} (h0 : ReqIs w v0 r) :
    Calls Try.prog 5 #[v0] w fun e w' => e = .returned (.bool true) ∧ Below w.heap.size w w' := by
  obtain ⟨u, rfl, hs⟩ := h0
  obtain ⟨A, c, rfl⟩ := hs.shape
  obtain ⟨n, hn⟩ : ∃ n, n = r.changes.length := ⟨_, rfl⟩
  rw [← hn] at hs ⊢
  have HS := hid hs
  clear hs hn
  go_enter Try.func5, Try.ntmps5
  go_wp2_with (first
    | (refine wpl_boxB (v := .agg (reqCs r (.slice A n c)).toArray) rfl rfl rfl ?_; intro g1 w2 hg2 hb2 k2 s2; have K2 := hid k2; have HB2 := hid hb2; clear hg2 k2 s2 hb2))
  refine (awake9_calls w2).mono ?_
  rintro e w3 ⟨rfl, k3⟩
  have hb3 := k3.heap HB2.out id
  have K3 := hid (K2.out.trans k3 (fun _ _ f => f))
  have HB3 := hid hb3
  have HS3 := hid (HS.out.keep K3.out (fun _ _ => id))
  clear k3
  have hsc := small_calls (r := r) HS3.out
  obtain ⟨sm, hsm⟩ : ∃ sm, sm = smallB r := ⟨_, rfl⟩
  rw [← hsm] at hsc
  have HSC := hid hsc
  clear hsc hsm
  go_wp2_with (first
    | (refine wpl_loadA (ty := 29) (o := 0) (n := 11) rfl rfl rfl hb3 (by kernel_rfl) (by kernel_rfl) (reqCs r (.slice A n c)) rfl rfl ?_))
  refine HSC.out.mono ?_
  rintro e w4 ⟨rfl, k4⟩
  have K4 := hid (K3.out.trans k4 (fun _ _ f => f))
  have HB4 := hid (k4.heap HB3.out id)
  clear k4 hb3
  cases sm with
  | false =>
    go_wp2_with fail
    go_ret
    exact ⟨rfl, K4.out.below (Nat.le_refl _) (fun _ _ f => f)⟩
  | true =>
    obtain ⟨f, hf⟩ : ∃ f : Int, f = if mayR r then 0 else 1 := ⟨_, rfl⟩
    have HF := hid hf
    clear hf
    have hb4 := HB4.out
    have hec := enc_calls (r := r) (HS.out.keep K4.out (fun _ _ => id)) (fun k hk => by have := K4.out.size; omega)
    unfold EncPost at hec
    rw [← HF.out] at hec
    have HEC := hid hec
    clear hec
    go_wp2_with (first
      | (refine wpl_loadA (ty := 29) (o := 0) (n := 11) rfl rfl rfl hb4 (by kernel_rfl) (by kernel_rfl) (reqCs r (.slice A n c)) rfl rfl ?_))
    refine HEC.out.mono ?_
    rintro e w5 ⟨v5, rfl, ho5, hnw5, k5⟩
    have K5 := hid (K4.out.trans k5 (fun _ _ f => f))
    have hb5 := k5.heap HB4.out id
    have HB5 := hid hb5
    obtain ⟨A5, c5, rfl⟩ := own_slice ho5
    have HR5 := hid (Row.ofOwn ho5)
    clear ho5 k5 hb4 HEC hnw5
    have hec := enc9_calls (r := r) (HS.out.keep K5.out (fun _ _ => id)) (fun k hk => by have := K5.out.size; omega)
    unfold EncPost at hec
    rw [← HF.out] at hec
    have HEC := hid hec
    clear hec
    go_wp2_with (first
      | (refine wpl_loadA (ty := 29) (o := 0) (n := 11) rfl rfl rfl hb5 (by kernel_rfl) (by kernel_rfl) (reqCs r (.slice A n c)) rfl rfl ?_))
    refine HEC.out.mono ?_
    rintro e w6 ⟨v6, rfl, ho6, hnw6, k6⟩
    have K6 := hid (K5.out.trans k6 (fun _ _ f => f))
    have HB6 := hid (k6.heap HB5.out id)
    obtain ⟨A6, c6, rfl⟩ := own_slice ho6
    have HR6 := hid (Row.ofOwn ho6)
    have HR5' := hid (HR5.out.keep k6 (fun _ _ => id))
    have HS6 := hid (HS.out.keep K6.out (fun _ _ => id))
    clear ho6 k6 hb5 HEC hnw6 HR5
    have HC := hid (fun y (hk : Keep (fun _ => False) w6 y) => (⟨hk.cell (cell_at HB6.out 0 (.int .i64 r.kind) rfl) id, hk.cell (cell_at HB6.out 1 (.string r.name) rfl) id, hk.cell (cell_at HB6.out 2 (.int .i64 r.session) rfl) id, hk.cell (cell_at HB6.out 3 (.int .i64 r.seq) rfl) id, hk.cell (cell_at HB6.out 4 (.int .i64 r.base) rfl) id, hk.cell (cell_at HB6.out 5 (.string r.ref) rfl) id, hk.cell (cell_at HB6.out 6 (.slice A n c) rfl) id, hk.cell (cell_at HB6.out 7 (.string r.path) rfl) id, hk.cell (cell_at HB6.out 8 (.int .i64 r.from') rfl) id, hk.cell (cell_at HB6.out 9 (.int .i64 r.many) rfl) id, hk.cell (cell_at HB6.out 10 (.int .i64 r.member) rfl) id⟩ : y.cell? ⟨g1, 0, none⟩ = some (.int .i64 r.kind) ∧ y.cell? ⟨g1, 1, none⟩ = some (.string r.name) ∧ y.cell? ⟨g1, 2, none⟩ = some (.int .i64 r.session) ∧ y.cell? ⟨g1, 3, none⟩ = some (.int .i64 r.seq) ∧ y.cell? ⟨g1, 4, none⟩ = some (.int .i64 r.base) ∧ y.cell? ⟨g1, 5, none⟩ = some (.string r.ref) ∧ y.cell? ⟨g1, 6, none⟩ = some (.slice A n c) ∧ y.cell? ⟨g1, 7, none⟩ = some (.string r.path) ∧ y.cell? ⟨g1, 8, none⟩ = some (.int .i64 r.from') ∧ y.cell? ⟨g1, 9, none⟩ = some (.int .i64 r.many) ∧ y.cell? ⟨g1, 10, none⟩ = some (.int .i64 r.member)))
    obtain ⟨nb, hnb⟩ : ∃ nb, nb = (encB r).length := ⟨_, rfl⟩
    have SC : ∀ y, Keep (fun _ => False) w6 y → Calls Try.prog 11 #[.slice A5 nb c5, .slice A6 nb c6] y fun e w' => e = .returned (.bool true) ∧ Keep (fun _ => False) w6 w' := fun y hk => by
      rw [hnb]
      refine (same_calls (a := encB r) (b := encB r) (HR5'.out.keep hk (fun _ _ => id)) (HR6.out.keep hk (fun _ _ => id))).mono ?_
      rintro e w' ⟨rfl, k⟩
      exact ⟨by rw [decide_eq_true rfl], hk.trans k (fun _ _ q => q)⟩
    have EC : ∀ y, Keep (fun _ => False) w6 y → Calls Try.prog 15 #[reqV r (.slice A n c)] y fun e w' => e = .returned (.int .i64 f) ∧ Keep (fun _ => False) w6 w' := fun y hk => by
      rw [HF.out]
      exact (check_calls (r := r) (HS6.out.keep hk (fun _ _ => id)) (fun k hq => by have := K6.out.size; have := hk.size; omega)).mono (fun _ _ ⟨h1, h2⟩ => ⟨h1, hk.trans h2 (fun _ _ q => q)⟩)
    have RC : ∀ y, Keep (fun _ => False) w6 y → Calls Try.prog 16 #[reqV r (.slice A n c)] y fun e w' => e = .returned (.int .i64 f) ∧ Keep (fun _ => False) w6 w' := fun y hk => by
      rw [HF.out]
      exact (check9_calls (r := r) (HS6.out.keep hk (fun _ _ => id))).mono (fun _ _ ⟨h1, h2⟩ => ⟨h1, hk.trans h2 (fun _ _ q => q)⟩)
    have kd : Keep (fun _ => False) w6 w6.drew := (Keep.refl _ w6).drew
    rw [← hnb]
    have hff : (f == f) = true := by simp
    clear hnb
    go_wp2_with fail
    go_region_held3 (fun y => y.cell? ⟨g1, 0, none⟩ = some (.int .i64 r.kind) ∧ y.cell? ⟨g1, 1, none⟩ = some (.string r.name) ∧ y.cell? ⟨g1, 2, none⟩ = some (.int .i64 r.session) ∧ y.cell? ⟨g1, 3, none⟩ = some (.int .i64 r.seq) ∧ y.cell? ⟨g1, 4, none⟩ = some (.int .i64 r.base) ∧ y.cell? ⟨g1, 5, none⟩ = some (.string r.ref) ∧ y.cell? ⟨g1, 6, none⟩ = some (.slice A n c) ∧ y.cell? ⟨g1, 7, none⟩ = some (.string r.path) ∧ y.cell? ⟨g1, 8, none⟩ = some (.int .i64 r.from') ∧ y.cell? ⟨g1, 9, none⟩ = some (.int .i64 r.many) ∧ y.cell? ⟨g1, 10, none⟩ = some (.int .i64 r.member)) (exact HC.out _ (by assumption)) (first
      | (go_at_call 11; with_reducible refine (SC _ (by assumption)).mono ?_; rintro e w7 ⟨rfl, k7⟩)
      | (go_at_call 15; with_reducible refine (EC _ (by assumption)).mono ?_; rintro e w8 ⟨rfl, k8⟩)
      | (go_at_call 16; with_reducible refine (RC _ (by assumption)).mono ?_; rintro e w9 ⟨rfl, k9⟩))
    all_goals
      go_wp2_with fail
      go_ret
      exact ⟨by simp, (K6.out.trans (by assumption) (fun _ _ q => q)).below (Nat.le_refl _) (fun _ _ f => f)⟩
end
end Go.Proofs.Ytdijafolldneeaa

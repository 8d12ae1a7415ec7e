/- entry.Alike. -/
import Derived.Test.YtdijafolldneeaaEntBack
import Derived.Test.YtdijafolldneeaaSlc
import Derived.Test.YtdijafolldneeaaReqSame
namespace Go.Proofs.Ytdijafolldneeaa
open Go.RowKit
def cmZ : Commit := ⟨0, 0, ByteArray.empty, []⟩
abbrev vdV (x : Verdict) (v : Value) : Value := .agg #[.int .i64 x.code, .int .i64 x.session, .int .i64 x.rev, .string x.path, .int .u64 x.digest, v, .int .i64 x.member]
theorem opens_commit9 : Opens Try.prog Rep.commit 68 :=
  Opens.as (Opens.struct Try.underlying68 (by kernel_rfl) (.cons rfl opens_int (.cons rfl opens_int (.cons rfl opens_str (.one rfl opens_changes))))) _ (fun p => ⟨p.1, p.2.1, p.2.2.1, p.2.2.2⟩) (fun _ => rfl)
theorem opens_commits9 : Opens Try.prog Rep.commit.slice 41 := Opens.slice Try.underlying41 (by kernel_rfl) opens_commit9 (by decide)
theorem opens_verdict9 : Opens Try.prog Rep.verdict 43 :=
  Opens.as (Opens.struct Try.underlying43 (by kernel_rfl) (.cons rfl opens_int (.cons rfl opens_int (.cons rfl opens_int (.cons rfl opens_str (.cons rfl (Opens.u64 Try.underlying40 (by kernel_rfl)) (.cons rfl opens_commits9 (.one rfl opens_int))))))))
    _ (fun p => ⟨p.1, p.2.1, p.2.2.1, p.2.2.2.1, p.2.2.2.2.1, p.2.2.2.2.2.1, p.2.2.2.2.2.2⟩) (fun _ => rfl)
/-- A verdict that was handed in. -/
def VdIs (w : World) (v : Value) (x : Verdict) : Prop := ∃ u, v = .agg (verdictCs x u).toArray ∧ Sl .commit w (fun b => b < w.heap.size) u x.commits ∧ x.Ok
abbrev zVd : Value := .agg (verdictCs vdZ (.slice none 0 0)).toArray
set_option maxRecDepth 100000 in
theorem open_verdict {H : Type} {enc : TypeId × Value → H} {W : World} {base b : Nat} {held : Bool} {v : Value} {d : DataW H} {ps : List MemPlace}
    (_hv : Value.okWide Try.prog W .any b 43 v) (h : DataW.Trod enc Try.prog W base (fun _ => true) held 43 v d ps) : ∃ x, VdIs W v x := by
  obtain ⟨fuel, hf⟩ := h
  obtain ⟨x, hr⟩ := opens_verdict9.2 H enc W base held fuel _ _ hf
  have hl := Rep.verdict.len hr
  have hsz : Rep.verdict.size = 7 := rfl
  rw [hsz] at hl
  obtain ⟨u, hu, hs, hok⟩ := verdict_cells hr
  refine ⟨x, u, ?_, hs, hok⟩
  have hv : v = .agg v.cells := by cases v <;> simp [Value.cells] at hl ⊢
  rw [hv, ← hu]
section
variable {F G : Nat → Prop} {w : World}
theorem keep_alloc9 (w : World) (a b : Array Value) (e e' : TypeId) : Keep (fun _ => False) w ((w.alloc (.cells a e)).alloc (.cells b e')) := ((Keep.refl _ w).alloc _).alloc _
set_option maxRecDepth 100000 in
set_option maxHeartbeats 1600000 in
theorem alikeK_calls {x : Commit} {v u : Value} (hv : Sl .change w F v x.changes) (hu : Sl .change w G u x.changes) :
    Calls Try.prog 36 #[.agg (commitCs x v).toArray, .agg (commitCs x u).toArray] w fun e w' => e = .returned (.bool true) ∧ Keep (fun _ => False) w w' := by
  have H := fun w' (hk : Keep (fun _ => False) w w') => sameC_calls (hv.keep hk (fun _ _ => id)) (hu.keep hk (fun _ _ => id))
  simp only [decide_true] at H
  obtain ⟨A, c, rfl⟩ := hv.shape
  obtain ⟨B, d, rfl⟩ := hu.shape
  obtain ⟨n, hn⟩ : ∃ n, n = x.changes.length := ⟨_, rfl⟩
  rw [← hn] at H ⊢
  clear hv hu hn
  obtain ⟨rev, base, ref, ch⟩ := x
  simp only [commitCs]
  go_enter Try.func36, Try.ntmps36
  go_wp2_with fail
  refine (H _ (keep_alloc9 _ _ _ _ _)).mono ?_
  rintro e w1 ⟨rfl, z, rfl⟩
  clear H
  go_wp2_with fail
  go_ret
  exact ⟨rfl, (keep_alloc9 _ _ _ _ _).drewN z⟩
set_option maxRecDepth 100000 in
set_option maxHeartbeats 1600000 in
theorem eqF_calls {v u : Value} {l : List Commit} (hv : Sl .commit w F v l) (hu : Sl .commit w G u l) :
    Calls Try.prog 35 #[v, u, .func (.func 36) #[] #[]] w fun e w' => e = .returned (.bool true) ∧ Keep (fun _ => False) w w' := by
  have hmax : l.length ≤ 9223372036854775807 := by obtain ⟨_, _, _, q1, q2, _⟩ := hv; unfold maxLen at q2; omega
  obtain ⟨A, c, rfl⟩ := hv.shape
  obtain ⟨B, d, rfl⟩ := hu.shape
  have HV := hid hv
  have HU := hid hu
  obtain ⟨n, hn⟩ : ∃ n, n = l.length := ⟨_, rfl⟩
  rw [← hn] at HV HU hmax ⊢
  have HN := hid hn
  clear hv hu hn
  go_enter Try.func35, Try.ntmps35
  go_wp2_with fail
  go_loopw [17] (fun i wr => ∃ k : Nat, k ≤ n ∧ i = .int .i64 k ∧ Keep (fun _ => False) w wr) (fun i _ => n - (intOf i).toNat)
  case atStart => exact ⟨0, Nat.zero_le _, rfl, Keep.refl _ _⟩
  case round =>
    obtain ⟨k, hk, rfl, hkp⟩ := hrel
    by_cases hlt : k < n
    · obtain ⟨x, hx⟩ : ∃ x, l[k]? = some x := ⟨l[k]'(by rw [← HN.out]; exact hlt), by simp [show k < l.length by rw [← HN.out]; exact hlt]⟩
      obtain ⟨A', c', b, off, cs, he, rfl, hcs, hcell⟩ := elem_cells7 (HV.out.keep hkp (fun _ _ => id)) HN.out hx
      simp only [Value.slice.injEq, true_and] at he
      obtain ⟨rfl, rfl⟩ := he
      obtain ⟨B', d', b2, off2, ds, he, rfl, hds, hdell⟩ := elem_cells7 (HU.out.keep hkp (fun _ _ => id)) HN.out hx
      simp only [Value.slice.injEq, true_and] at he
      obtain ⟨rfl, rfl⟩ := he
      obtain ⟨v1, rfl, hs1, hok1⟩ := commit_cells hcs
      obtain ⟨v2, rfl, hs2, _⟩ := commit_cells hds
      have KV := hid (fun w' (hk : Keep (fun _ => False) wr w') => (alikeK_calls (hs1.keep hk (fun _ _ => id)) (hs2.keep hk (fun _ _ => id))).mono (R' := fun e w'' => e = .returned (.bool true) ∧ Keep (fun _ => False) wr w'') (fun e w'' ⟨h1, h2⟩ => ⟨h1, hk.trans h2 (fun _ _ h => h)⟩))
      obtain ⟨A1, c1, rfl⟩ := hs1.shape
      obtain ⟨A2, c2, rfl⟩ := hs2.shape
      have hsz : Rep.commit.size = 4 := rfl
      rw [hsz] at hcell hdell
      have p0 : wr.cell? ⟨b, off + k * 4, none⟩ = some (.int .i64 x.rev) := hcell 0 _ rfl
      have p1 : wr.cell? ⟨b, off + k * 4 + 1, none⟩ = some (.int .i64 x.base) := hcell 1 _ rfl
      have p2 : wr.cell? ⟨b, off + k * 4 + 2, none⟩ = some (.string x.ref) := hcell 2 _ rfl
      have p3 : wr.cell? ⟨b, off + k * 4 + 3, none⟩ = some (.slice A1 x.changes.length c1) := hcell 3 _ rfl
      have q0 : wr.cell? ⟨b2, off2 + k * 4, none⟩ = some (.int .i64 x.rev) := hdell 0 _ rfl
      have q1 : wr.cell? ⟨b2, off2 + k * 4 + 1, none⟩ = some (.int .i64 x.base) := hdell 1 _ rfl
      have q2 : wr.cell? ⟨b2, off2 + k * 4 + 2, none⟩ = some (.string x.ref) := hdell 2 _ rfl
      have q3 : wr.cell? ⟨b2, off2 + k * 4 + 3, none⟩ = some (.slice A2 x.changes.length c2) := hdell 3 _ rfl
      have HKP := hid hkp
      clear hcell hdell hs1 hs2 hcs hds hx hok1 hsz hkp
      go_wp2_with (first
        | (have _f := HB6; refine wpl_allocB (z := .agg (commitCs cmZ (.slice none 0 0)).toArray) rfl rfl (by kernel_rfl) ?_; intro g7 w7 hg7 hb7 k7 s7; have HG7 := hid hg7; have K7 := hid k7; have hb67 := k7.heap HB6.out id; clear hg7 k7 s7 _f)
        | (refine wpl_allocB (z := .agg (commitCs cmZ (.slice none 0 0)).toArray) rfl rfl (by kernel_rfl) ?_; intro g5 w5 hg5 hb5 k5 s5; have HG5 := hid hg5; have K5 := hid k5; clear hg5 k5 s5)
        | (refine wpl_storeB (v := .agg (commitCs x (.slice A1 x.changes.length c1)).toArray) rfl rfl rfl rfl hb5 (by kernel_rfl) (Nat.le_refl 4) (by simp [Value.oneCell', commitCs, Value.cells]) ?_; intro w6 hb6 k6 s6; rw [show spl (Value.agg (commitCs cmZ (.slice none 0 0)).toArray).cells 0 (Value.agg (commitCs x (.slice A1 x.changes.length c1)).toArray).cells.toList = (commitCs x (.slice A1 x.changes.length c1)).toArray from spl_whole _ _ (Nat.le_refl 4)] at hb6; have k06 := K5.out.trans k6 (fun b hb e => by have := HG5.out; omega); have q0 := k06.cell q0 id; have q1 := k06.cell q1 id; have q2 := k06.cell q2 id; have q3 := k06.cell q3 id; have K06 := hid k06; have HB6 := hid hb6; clear k6 s6 hb5 k06 hb6)
        | (refine wpl_storeB (v := .agg (commitCs x (.slice A2 x.changes.length c2)).toArray) rfl rfl rfl rfl hb7 (by kernel_rfl) (Nat.le_refl 4) (by simp [Value.oneCell', commitCs, Value.cells]) ?_; intro w8 hb8 k8 s8; rw [show spl (Value.agg (commitCs cmZ (.slice none 0 0)).toArray).cells 0 (Value.agg (commitCs x (.slice A2 x.changes.length c2)).toArray).cells.toList = (commitCs x (.slice A2 x.changes.length c2)).toArray from spl_whole _ _ (Nat.le_refl 4)] at hb8; have hb68 := k8.heap hb67 (fun e => by have := HG7.out; have := lt_heap HB6.out; omega); have K8 := hid (K06.out.trans (K7.out.trans k8 (fun b hb e => by have := HG7.out; omega)) (fun _ _ f => f)); clear k8 s8 hb7 hb67)
        | (refine wpl_loadA (ty := 68) (o := 0) (n := 4) rfl rfl rfl hb68 (by kernel_rfl) (by kernel_rfl) (commitCs x (.slice A1 x.changes.length c1)) rfl rfl ?_)
        | (refine wpl_loadA (ty := 68) (o := 0) (n := 4) rfl rfl rfl hb8 (by kernel_rfl) (by kernel_rfl) (commitCs x (.slice A2 x.changes.length c2)) rfl rfl ?_))
      refine (KV.out _ K8.out).mono ?_
      rintro e w9 ⟨rfl, k9⟩
      have K9 := hid k9
      clear k9 hb68 hb8
      go_wp2_with fail
      exact ⟨⟨k + 1, by omega, by simp, HKP.out.trans K9.out (fun _ _ h => h)⟩, by simp [intOf]; omega⟩
    · go_wp2_with fail
      go_ret
      exact ⟨rfl, hkp⟩
set_option maxRecDepth 100000 in
set_option maxHeartbeats 1600000 in
theorem alikeE_calls {x : Verdict} {v u : Value} (hv : Sl .commit w F v x.commits) (hu : Sl .commit w G u x.commits) :
    Calls Try.prog 19 #[vdV x v, vdV x u] w fun e w' => e = .returned (.bool true) ∧ Keep (fun _ => False) w w' := by
  have H := fun w' (hk : Keep (fun _ => False) w w') => eqF_calls (hv.keep hk (fun _ _ => id)) (hu.keep hk (fun _ _ => id))
  obtain ⟨A, c, rfl⟩ := hv.shape
  obtain ⟨B, d, rfl⟩ := hu.shape
  obtain ⟨n, hn⟩ : ∃ n, n = x.commits.length := ⟨_, rfl⟩
  rw [← hn] at H ⊢
  clear hv hu hn
  obtain ⟨code, ses, rev, path, dig, coms, mem⟩ := x
  go_enter Try.func19, Try.ntmps19
  go_wp2_with fail
  refine (H _ (keep_alloc9 _ _ _ _ _)).mono ?_
  rintro e w1 ⟨rfl, hk⟩
  clear H
  go_wp2_with fail
  go_ret
  exact ⟨rfl, (keep_alloc9 _ _ _ _ _).trans hk (fun _ _ h => h)⟩
set_option maxRecDepth 100000 in
set_option maxHeartbeats 1600000 in
theorem alikeN_calls {x : Verdict} {q : Int} {v u : Value} (hq : (x.rev == q) = false) :
    Calls Try.prog 19 #[vdV x v, vdV ⟨x.code, x.session, q, x.path, x.digest, x.commits, x.member⟩ u] w fun e w' => e = .returned (.bool false) ∧ Keep (fun _ => False) w w' := by
  obtain ⟨code, ses, rev, path, dig, coms, mem⟩ := x
  simp only at hq ⊢
  go_enter Try.func19, Try.ntmps19
  go_wp2_with fail
  go_ret
  exact ⟨rfl, keep_alloc9 _ _ _ _ _⟩
end
end Go.Proofs.Ytdijafolldneeaa

/- Messages, votes, verdicts, commits that are equal are the same. -/
import Derived.Test.YtofljidmdabkcaaGreatSame9
import Derived.Test.YtofljidmdabkcaaGreatRef1
import Derived.Test.YtofljidmdabkcaaGreatMt
import Derived.Test.YtofljidmdabkcaaGreatCp
namespace Go.Proofs.YtofljidmdabkcaaGreat
open Go.RowKit
section
variable {F G S : Nat → Prop} {w w' : World}
theorem elem_cells {α : Type} {r : Rep α} {n : Nat} {v : Value} {l : List α} (h : Sl r w F v l) (hn : n = l.length) {i : Nat} {x : α} (hx : l[i]? = some x) : ∃ A c b off cs, v = .slice A n c ∧ A = some ⟨b, off, none⟩ ∧ r.cells w F x cs ∧ ∀ k u, cs[k]? = some u → w.cell? ⟨b, off + i * r.size + k, none⟩ = some u := by
  obtain ⟨A, c, rfl⟩ := h.shape
  obtain ⟨b, off, hA, hbl, cs, hcs, hcell⟩ := h.elem hx
  exact ⟨A, c, b, off, cs, by rw [hn], hA, hcs, hcell⟩
theorem keep_alloc2 (w : World) (a b : Array Value) (e e' : TypeId) : Keep (fun _ => False) w ((w.alloc (.cells a e)).alloc (.cells b e')) := ((Keep.refl _ w).alloc _).alloc _
set_option maxRecDepth 100000 in
set_option maxHeartbeats 1600000 in
theorem sameK1_calls {x : Commit} {v u : Value} (hv : Sl .change w F v x.changes) (hu : Sl .change w G u x.changes) :
    Calls Tryz.prog 68 #[.agg (commitCs x v).toArray, .agg (commitCs x u).toArray] w fun e w' => e = .returned (.bool true) ∧ Keep (fun _ => False) w w' := by
  have H := fun w' (hk : Keep (fun _ => False) w w') => same3_calls (hv.keep hk (fun _ _ => id)) (hu.keep hk (fun _ _ => id))
  simp only [decide_true] at H
  obtain ⟨A, c, rfl⟩ := hv.shape
  obtain ⟨B, d, rfl⟩ := hu.shape
  obtain ⟨n, hn⟩ : ∃ n, n = x.changes.length := ⟨_, rfl⟩
  rw [← hn] at H ⊢
  clear hv hu hn
  obtain ⟨rev, base, ref, ch⟩ := x
  simp only [commitCs]
  go_enter Tryz.func68, Tryz.ntmps68
  go_wp2_with fail
  refine (H _ (keep_alloc2 _ _ _ _ _)).mono ?_
  rintro e w1 ⟨rfl, z, rfl⟩
  clear H
  go_wp2_with fail
  go_ret
  exact ⟨rfl, (keep_alloc2 _ _ _ _ _).drewN z⟩
set_option maxRecDepth 100000 in
set_option maxHeartbeats 1600000 in
theorem sameKs_calls {v u : Value} {l : List Commit} (hv : Sl .commit w F v l) (hu : Sl .commit w G u l) :
    Calls Tryz.prog 54 #[v, u] w fun e w' => e = .returned (.bool true) ∧ Keep (fun _ => False) w w' := by
  have hmax : l.length ≤ 9223372036854775807 := by obtain ⟨_, _, _, q1, q2, _⟩ := hv; unfold maxLen at q2; omega
  obtain ⟨A, c, rfl⟩ := hv.shape
  obtain ⟨B, d, rfl⟩ := hu.shape
  have HV := hid hv
  have HU := hid hu
  obtain ⟨n, hn⟩ : ∃ n, n = l.length := ⟨_, rfl⟩
  rw [← hn] at HV HU hmax ⊢
  have HN := hid hn
  clear hv hu hn
  go_enter Tryz.func54, Tryz.ntmps54
  go_wp2_with fail
  go_loopw [5] (fun i wr => ∃ k : Nat, k ≤ n ∧ i = .int .i64 k ∧ Keep (fun _ => False) w wr) (fun i _ => n - (intOf i).toNat)
  case atStart => exact ⟨0, Nat.zero_le _, rfl, Keep.refl _ _⟩
  case round =>
    obtain ⟨k, hk, rfl, hkp⟩ := hrel
    by_cases hlt : k < n
    · obtain ⟨x, hx⟩ : ∃ x, l[k]? = some x := ⟨l[k]'(by rw [← HN.out]; exact hlt), by simp [show k < l.length by rw [← HN.out]; exact hlt]⟩
      obtain ⟨A', c', b, off, cs, he, rfl, hcs, hcell⟩ := elem_cells (HV.out.keep hkp (fun _ _ => id)) HN.out hx
      simp only [Value.slice.injEq, true_and] at he
      obtain ⟨rfl, rfl⟩ := he
      obtain ⟨B', d', b2, off2, ds, he, rfl, hds, hdell⟩ := elem_cells (HU.out.keep hkp (fun _ _ => id)) HN.out hx
      simp only [Value.slice.injEq, true_and] at he
      obtain ⟨rfl, rfl⟩ := he
      obtain ⟨v1, rfl, hs1, hok1⟩ := commit_cells hcs
      obtain ⟨v2, rfl, hs2, _⟩ := commit_cells hds
      have KV := fun w' (hk : Keep (fun _ => False) wr w') => (sameK1_calls (hs1.keep hk (fun _ _ => id)) (hs2.keep hk (fun _ _ => id))).mono (R' := fun e w'' => e = .returned (.bool true) ∧ Keep (fun _ => False) wr w'') (fun e w'' ⟨h1, h2⟩ => ⟨h1, hk.trans h2 (fun _ _ h => h)⟩)
      obtain ⟨A1, c1, rfl⟩ := hs1.shape
      obtain ⟨A2, c2, rfl⟩ := hs2.shape
      have hsz : Rep.commit.size = 4 := rfl
      rw [hsz] at hcell hdell
      have p0 : wr.cell? ⟨b, off + k * 4, none⟩ = some (.int .i64 x.rev) := hcell 0 _ rfl
      have p1 : wr.cell? ⟨b, off + k * 4 + 1, none⟩ = some (.int .i64 x.base) := hcell 1 _ rfl
      have p2 : wr.cell? ⟨b, off + k * 4 + 2, none⟩ = some (.string x.ref) := hcell 2 _ rfl
      have p3 : wr.cell? ⟨b, off + k * 4 + 3, none⟩ = some (.slice A1 x.changes.length c1) := hcell 3 _ rfl
      have q0 : wr.cell? ⟨b2, off2 + k * 4, none⟩ = some (.int .i64 x.rev) := hdell 0 _ rfl
      have q1 : wr.cell? ⟨b2, off2 + k * 4 + 1, none⟩ = some (.int .i64 x.base) := hdell 1 _ rfl
      have q2 : wr.cell? ⟨b2, off2 + k * 4 + 2, none⟩ = some (.string x.ref) := hdell 2 _ rfl
      have q3 : wr.cell? ⟨b2, off2 + k * 4 + 3, none⟩ = some (.slice A2 x.changes.length c2) := hdell 3 _ rfl
      have p0 := fun p : Gr wr => p.k.cell p0 id
      have p1 := fun p : Gr wr => p.k.cell p1 id
      have p2 := fun p : Gr wr => p.k.cell p2 id
      have p3 := fun p : Gr wr => p.k.cell p3 id
      have q0 := fun p : Gr wr => p.k.cell q0 id
      have q1 := fun p : Gr wr => p.k.cell q1 id
      have q2 := fun p : Gr wr => p.k.cell q2 id
      have q3 := fun p : Gr wr => p.k.cell q3 id
      have HKP := hid hkp
      clear hcell hdell hs1 hs2 hcs hds hx hok1 hsz hkp
      go_wp2_with fail
      refine wp_region_gr (by kernel_rfl) (lexB_of (by kernel_rfl)) ?_
      repeat (go_big_quiet_step (first
        | (go_at_call 68; exact grOf (KV _ (Gr.k _)))))
      refine wpQuiet_nil ?_
      rintro w6 ⟨⟨w6, hk6⟩, rfl⟩
      clear KV
      go_wp2_with fail
      exact ⟨⟨k + 1, by omega, by simp, HKP.out.trans hk6 (fun _ _ h => h)⟩, by simp [intOf]; omega⟩
    · go_wp2_with fail
      go_ret
      exact ⟨rfl, hkp⟩
set_option maxRecDepth 100000 in
set_option maxHeartbeats 1600000 in
theorem alike_calls {x : Verdict} {v u : Value} (hv : Sl .commit w F v x.commits) (hu : Sl .commit w G u x.commits) :
    Calls Tryz.prog 29 #[.agg (verdictCs x v).toArray, .agg (verdictCs x u).toArray] w fun e w' => e = .returned (.bool true) ∧ Keep (fun _ => False) w w' := by
  have H := fun w' (hk : Keep (fun _ => False) w w') => sameKs_calls (hv.keep hk (fun _ _ => id)) (hu.keep hk (fun _ _ => id))
  obtain ⟨A, c, rfl⟩ := hv.shape
  obtain ⟨B, d, rfl⟩ := hu.shape
  obtain ⟨n, hn⟩ : ∃ n, n = x.commits.length := ⟨_, rfl⟩
  rw [← hn] at H ⊢
  clear hv hu hn
  obtain ⟨code, ses, rev, path, dig, coms, mem⟩ := x
  simp only [verdictCs]
  go_enter Tryz.func29, Tryz.ntmps29
  go_wp2_with fail
  refine (H _ (keep_alloc2 _ _ _ _ _)).mono ?_
  rintro e w1 ⟨rfl, hk⟩
  clear H
  go_wp2_with fail
  go_ret
  exact ⟨rfl, (keep_alloc2 _ _ _ _ _).trans hk (fun _ _ h => h)⟩
set_option maxRecDepth 100000 in
set_option maxHeartbeats 1600000 in
theorem sameV_calls {x : Vote} {v u : Value} (hv : Sl .change w F v x.value.changes) (hu : Sl .change w G u x.value.changes) :
    Calls Tryz.prog 31 #[.agg (voteCs x v).toArray, .agg (voteCs x u).toArray] w fun e w' => e = .returned (.bool true) ∧ Keep (fun _ => False) w w' := by
  have H := fun w' (hk : Keep (fun _ => False) w w') => same9_calls (r := x.value) (s := x.value) (hv.keep hk (fun _ _ => id)) (hu.keep hk (fun _ _ => id))
  simp only [decide_true] at H
  obtain ⟨A, c, rfl⟩ := hv.shape
  obtain ⟨B, d, rfl⟩ := hu.shape
  obtain ⟨n, hn⟩ : ∃ n, n = x.value.changes.length := ⟨_, rfl⟩
  rw [← hn] at H ⊢
  clear hv hu hn
  obtain ⟨slot, bal, ⟨kind, name, ses, seq, base, ref, ch, path, frm, many, mem⟩⟩ := x
  simp only [voteCs, reqCs]
  go_enter Tryz.func31, Tryz.ntmps31
  go_wp2_with fail
  refine (H _ (keep_alloc2 _ _ _ _ _)).mono ?_
  rintro e w1 ⟨rfl, hk⟩
  clear H
  go_wp2_with fail
  go_ret
  exact ⟨rfl, (keep_alloc2 _ _ _ _ _).trans hk (fun _ _ h => h)⟩
end
end Go.Proofs.YtofljidmdabkcaaGreat

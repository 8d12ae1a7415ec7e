/- wapentakeref9.CopyRequest; wapentakeref3.CopyCommit, CopyCommits, CopyVerdict; wapentakeref11.CopyVotes. -/
import Derived.Test.YtofljidmdabkcaaGrown
import Derived.Test.YtofljidmdabkcaaBlk
import Derived.Test.YtofljidmdabkcaaClones
import Derived.Deep.DeepCutAuto
import Derived.Deep.CutBlock
import Derived.Deep.CutRange
namespace Go.Proofs.Ytofljidmdabkcaa
open Go.RowKit
theorem T_C : SlT Try.prog 22 48 (.agg #[.string ByteArray.empty, .bool false, .int .u64 0]) 3 32 := SlT.mk' Try.underlying22 (by kernel_rfl) rfl (by decide)
section
variable {F G S : Nat → Prop} {w w' : World}
/-- Cells in a new block, as the row of one element that an append takes. -/
theorem row_n (w : World) (d : List Value) (e : TypeId) : Row (fun k => k = w.heap.size) (w.alloc (.cells d.toArray e)) (.slice (some ⟨w.heap.size, 0, none⟩) 1 1) 1 d.length d :=
  ⟨_, _, rfl, by omega, Nat.le_refl _, by decide, .inr ⟨w.heap.size, 0, rfl, rfl, by simp, fun j u hu => by
    rw [Nat.zero_add, cell_of_row _ _ j d.toArray e (0, 0) (heap_alloc_new w _)]
    simpa using hu⟩⟩
/-- A list of changes in memory of its own. -/
def OwnC (w w' : World) (A : Option Addr) (n c : Nat) (l : List Change) : Prop :=
  Sl .change w' (NewIn w w') (.slice A n c) l ∧ (∃ cs, w'.ownsRow 0 48 3 (.slice A n c) n cs) ∧ ∀ b, (Value.slice A n c).ownBlock = some b → w.heap.size ≤ b
set_option maxRecDepth 20000 in
set_option maxHeartbeats 1600000 in
theorem copyReq_calls {r : Req} {v : Value} (hv : Sl .change w F v r.changes) (hl : r.changes.length ≤ 4294967296) :
    Calls Try.prog 19 #[.agg (reqCs r v).toArray] w fun e w' => ∃ A c, e = .returned (.agg (reqCs r (.slice A r.changes.length c)).toArray) ∧ OwnC w w' A r.changes.length c r.changes ∧ Keep (fun _ => False) w w' := by
  obtain ⟨A, c, rfl⟩ := hv.shape
  have HV := hid hv
  clear hv
  obtain ⟨n, hn⟩ : ∃ n, n = r.changes.length := ⟨_, rfl⟩
  rw [← hn] at HV hl ⊢
  have HN := hid hn
  clear hn
  go_enter Try.func19, Try.ntmps19
  go_wp2_with (first
    | (refine wpl_boxB (v := .agg (reqCs r (.slice A n c)).toArray) rfl rfl rfl ?_; intro g w1 hg hb1 k1 s1; have HG := hid hg; clear hg)
    | (refine wpl_allocB (z := .agg (reqCs reqZ' (.slice none 0 0)).toArray) rfl rfl (by kernel_rfl) ?_; intro g2 w2 hg2 hb2 k2 s2; have HG2 := hid hg2; have HS2 := hid s2; clear hg2 s2; have hb1 := k2.heap hb1 id; have c6 := fun o => cell_at (heap_alloc hb1 o) 6 (.slice A n c) rfl)
    | (at_builtin; refine stopHere ?_))
  have k02 := k1.trans k2 (fun _ _ q => q)
  have ka : Keep (fun _ => False) w2 (w2.alloc (.cells #[] 48)) := (Keep.refl _ w2).alloc _
  obtain ⟨cs, hrow, hparts⟩ := ((HV.out.keep k02 (fun _ _ => id)).keep ka (fun _ _ => id)).parts
  have HP := hid hparts
  have h1c := row_one (r := Rep.change) (by decide) change_one (by have := hrow; obtain ⟨_, _, _, q, _⟩ := this; exact q) hparts
  rw [← HN.out] at hrow
  clear hparts
  refine goOn (wpl_app (v := .slice (some ⟨w2.heap.size, 0, none⟩) 0 0) rfl rfl T_C rfl (owns_emp w2 48 3) rfl hrow h1c (by omega) (by omega) ?_)
  intro A3 c3 w3 ho3 hk3 hn3
  simp only [Nat.zero_add, List.nil_append] at ho3 hk3 hn3 ⊢
  have k3 := keep_emp2 hk3
  replace hb1 := k3.heap hb1 id
  replace hb2 := k3.heap hb2 id
  have HO3 := hid ho3; have HN3 := hid hn3
  have hz3 := k3.size
  clear ho3 hn3 hk3 ka hrow h1c c6
  go_wp2_with (first
    | (refine wpl_loadA rfl rfl rfl hb1 (by kernel_rfl) (by kernel_rfl) (reqCs r (.slice A3 n c3)) rfl rfl ?_)
    | (refine wpl_storeB (v := .slice A3 n c3) rfl rfl rfl rfl hb1 (by kernel_rfl) (by simp [reqCs, Value.cells]) (by simp [Value.oneCell', Value.cells]) ?_; intro w4 hb4 k4 s4; replace hb1 := hb4; replace hb2 := k4.heap hb2 (fun e => by have := HG2.out; omega))
    | (refine wpl_storeB (v := .agg (reqCs r (.slice A3 n c3)).toArray) rfl rfl rfl rfl hb2 (by kernel_rfl) (by simp [reqCs, Value.cells]) (by simp [Value.oneCell', reqCs, Value.cells]) ?_; intro w5 hb5 k5 s5))
  refine bodyPost_ret (res_cell (g := g2) (cs := (reqCs r (.slice A3 n c3)).toArray) Try.results19 _ rfl hb5 (by kernel_rfl) (by kernel_rfl)) rfl ?_
  have e1 := HG.out
  have e2 := HG2.out
  have e3 := HS2.out
  have hnew : ∀ b, (Value.slice A3 n c3).ownBlock = some b → w2.heap.size ≤ b := fun b hb => by
    rcases HN3.out b hb with q | q
    · simp only [Value.ownBlock, Option.some.injEq] at q; omega
    · have q : w2.heap.size + 1 ≤ b := by simpa using q
      omega
  have k35 : Keep (fun q => q = g ∨ q = g2) w3 w5 := (k4.mono (fun _ _ e => .inl e)).trans k5 (fun _ _ e => .inr e)
  have hs4 := k4.size
  have hs5 := k5.size
  have ho5 := k35.owns HO3.out (fun b hb e => by have := hnew b hb; omega)
  refine ⟨_, _, rfl, ⟨?_, ⟨cs, ho5⟩, fun b hb => by have := hnew b hb; omega⟩, (k02.trans k3 (fun _ _ q => q)).trans k35 (fun b hb e => by omega)⟩
  have hp5 : Parts .change w5 (NewIn w w5) cs r.changes := fun i x hx => HP.out i x hx
  have hr5 : Row (NewIn w w5) w5 (.slice A3 n c3) n 3 cs := (Row.ofOwn ho5).mono (fun b hb => ⟨by have := hnew b hb.symm; omega, own_lt' ho5 b hb.symm⟩)
  exact hp5.sl (F := NewIn w w5) (by rw [← HN.out]; exact hr5) (fun _ h => h)
set_option maxRecDepth 20000 in
set_option maxHeartbeats 1600000 in
theorem copyCom_calls {r : Commit} {v : Value} (hv : Sl .change w F v r.changes) (hl : r.changes.length ≤ 4294967296) :
    Calls Try.prog 57 #[.agg (commitCs r v).toArray] w fun e w' => ∃ A c, e = .returned (.agg (commitCs r (.slice A r.changes.length c)).toArray) ∧ OwnC w w' A r.changes.length c r.changes ∧ Keep (fun _ => False) w w' := by
  obtain ⟨A, c, rfl⟩ := hv.shape
  have HV := hid hv
  clear hv
  obtain ⟨n, hn⟩ : ∃ n, n = r.changes.length := ⟨_, rfl⟩
  rw [← hn] at HV hl ⊢
  have HN := hid hn
  clear hn
  go_enter Try.func57, Try.ntmps57
  go_wp2_with (first
    | (refine wpl_boxB (v := .agg (commitCs r (.slice A n c)).toArray) rfl rfl rfl ?_; intro g w1 hg hb1 k1 s1; have HG := hid hg; clear hg)
    | (refine wpl_allocB (z := .agg (commitCs ⟨0, 0, ByteArray.empty, []⟩ (.slice none 0 0)).toArray) rfl rfl (by kernel_rfl) ?_; intro g2 w2 hg2 hb2 k2 s2; have HG2 := hid hg2; have HS2 := hid s2; clear hg2 s2; have hb1 := k2.heap hb1 id; have c6 := fun o => cell_at (heap_alloc hb1 o) 3 (.slice A n c) rfl)
    | (at_builtin; refine stopHere ?_))
  have k02 := k1.trans k2 (fun _ _ q => q)
  have ka : Keep (fun _ => False) w2 (w2.alloc (.cells #[] 48)) := (Keep.refl _ w2).alloc _
  obtain ⟨cs, hrow, hparts⟩ := ((HV.out.keep k02 (fun _ _ => id)).keep ka (fun _ _ => id)).parts
  have HP := hid hparts
  have h1c := row_one (r := Rep.change) (by decide) change_one (by have := hrow; obtain ⟨_, _, _, q, _⟩ := this; exact q) hparts
  rw [← HN.out] at hrow
  clear hparts
  refine goOn (wpl_app (v := .slice (some ⟨w2.heap.size, 0, none⟩) 0 0) rfl rfl T_C rfl (owns_emp w2 48 3) rfl hrow h1c (by omega) (by omega) ?_)
  intro A3 c3 w3 ho3 hk3 hn3
  simp only [Nat.zero_add, List.nil_append] at ho3 hk3 hn3 ⊢
  have k3 := keep_emp2 hk3
  replace hb1 := k3.heap hb1 id
  replace hb2 := k3.heap hb2 id
  have HO3 := hid ho3; have HN3 := hid hn3
  have hz3 := k3.size
  clear ho3 hn3 hk3 ka hrow h1c c6
  go_wp2_with (first
    | (refine wpl_loadA rfl rfl rfl hb1 (by kernel_rfl) (by kernel_rfl) (commitCs r (.slice A3 n c3)) rfl rfl ?_)
    | (refine wpl_storeB (v := .slice A3 n c3) rfl rfl rfl rfl hb1 (by kernel_rfl) (by simp [commitCs, Value.cells]) (by simp [Value.oneCell', Value.cells]) ?_; intro w4 hb4 k4 s4; replace hb1 := hb4; replace hb2 := k4.heap hb2 (fun e => by have := HG2.out; omega))
    | (refine wpl_storeB (v := .agg (commitCs r (.slice A3 n c3)).toArray) rfl rfl rfl rfl hb2 (by kernel_rfl) (by simp [commitCs, Value.cells]) (by simp [Value.oneCell', commitCs, Value.cells]) ?_; intro w5 hb5 k5 s5))
  refine bodyPost_ret (res_cell (g := g2) (cs := (commitCs r (.slice A3 n c3)).toArray) Try.results57 _ rfl hb5 (by kernel_rfl) (by kernel_rfl)) rfl ?_
  have e1 := HG.out
  have e2 := HG2.out
  have e3 := HS2.out
  have hnew : ∀ b, (Value.slice A3 n c3).ownBlock = some b → w2.heap.size ≤ b := fun b hb => by
    rcases HN3.out b hb with q | q
    · simp only [Value.ownBlock, Option.some.injEq] at q; omega
    · have q : w2.heap.size + 1 ≤ b := by simpa using q
      omega
  have k35 : Keep (fun q => q = g ∨ q = g2) w3 w5 := (k4.mono (fun _ _ e => .inl e)).trans k5 (fun _ _ e => .inr e)
  have hs4 := k4.size
  have hs5 := k5.size
  have ho5 := k35.owns HO3.out (fun b hb e => by have := hnew b hb; omega)
  refine ⟨_, _, rfl, ⟨?_, ⟨cs, ho5⟩, fun b hb => by have := hnew b hb; omega⟩, (k02.trans k3 (fun _ _ q => q)).trans k35 (fun b hb e => by omega)⟩
  have hp5 : Parts .change w5 (NewIn w w5) cs r.changes := fun i x hx => HP.out i x hx
  have hr5 : Row (NewIn w w5) w5 (.slice A3 n c3) n 3 cs := (Row.ofOwn ho5).mono (fun b hb => ⟨by have := hnew b hb.symm; omega, own_lt' ho5 b hb.symm⟩)
  exact hp5.sl (F := NewIn w w5) (by rw [← HN.out]; exact hr5) (fun _ h => h)
theorem one_change_sl {A : Option Addr} {n c : Nat} {w w' : World} {l : List Change} (h : OwnC w w' A n c l) : Sl .change w' (NewIn w w') (.slice A n c) l := h.1
set_option maxRecDepth 20000 in
set_option maxHeartbeats 1600000 in
theorem copyComs_calls {v : Value} {l : List Commit} (hv : Sl .commit w F v l) (hF : ∀ q, F q → q < w.heap.size) (hl : l.length ≤ 1000000) (hm : ∀ x ∈ l, x.changes.length ≤ 4294967296) :
    Calls Try.prog 40 #[v] w fun e w' => ∃ A c, e = .returned (.slice A l.length c) ∧ Sl .commit w' (NewIn w w') (.slice A l.length c) l ∧ Keep (fun _ => False) w w' := by
  obtain ⟨A0, c0, rfl⟩ := hv.shape
  have HV := hid hv
  have HF := hid hF
  have HM := hid hm
  obtain ⟨n, hn⟩ : ∃ n, n = l.length := ⟨_, rfl⟩
  rw [← hn] at HV hl ⊢
  have HN := hid hn
  clear hv hF hm hn
  go_enter Try.func40, Try.ntmps40
  go_wp2_with fail
  go_loopw [3, 4] (fun o i wr => ∃ (k : Nat) (A : Option Addr) (c : Nat) (cs : List Value), k ≤ n ∧ i = .int .i64 k ∧ o = .slice A k c ∧ GrownP .commit 73 w.heap.size wr (.slice A k c) k (l.take k) cs ∧ Keep (fun _ => False) w wr) (fun _ i _ => n - (intOf i).toNat)
  case atStart => exact ⟨0, none, 0, [], Nat.zero_le _, rfl, rfl, GrownP.nil, Keep.refl _ _⟩
  case round =>
    obtain ⟨k, A, c, cs, hk, rfl, rfl, hgp, hkp⟩ := hrel
    by_cases hlt : k < n
    · obtain ⟨x, hx⟩ : ∃ x, l[k]? = some x := ⟨l[k]'(by rw [← HN.out]; exact hlt), by simp [show k < l.length by rw [← HN.out]; exact hlt]⟩
      have hvk := HV.out.keep hkp (fun _ _ => id)
      obtain ⟨b, off, rfl, hFb, es, hes, hcell⟩ := hvk.elem hx
      obtain ⟨v1, rfl, hs1, hok1⟩ := commit_cells hes
      have hcc := copyCom_calls (r := x) hs1 (HM.out x (List.mem_of_getElem? hx))
      obtain ⟨A1, c1, rfl⟩ := hs1.shape
      have hsz : Rep.commit.size = 4 := rfl
      rw [hsz] at hcell
      have p0 : wr.cell? ⟨b, off + k * 4, none⟩ = some (.int .i64 x.rev) := hcell 0 _ rfl
      have p1 : wr.cell? ⟨b, off + k * 4 + 1, none⟩ = some (.int .i64 x.base) := hcell 1 _ rfl
      have p2 : wr.cell? ⟨b, off + k * 4 + 2, none⟩ = some (.string x.ref) := hcell 2 _ rfl
      have p3 : wr.cell? ⟨b, off + k * 4 + 3, none⟩ = some (.slice A1 x.changes.length c1) := hcell 3 _ rfl
      have HX := hid hx; have HGP := hid hgp; have HKP := hid hkp; have HOK := hid hok1
      have hsr := hkp.size
      clear hcell hs1 hes hx hgp hkp hvk hok1 hsz
      simp only [commitCs] at hcc
      go_wp2_with fail
      refine hcc.mono ?_
      rintro e w1 ⟨A5, c5, rfl, hoc, k1⟩
      have HOC := hid hoc; have HK1 := hid k1
      clear hcc hoc k1 p0 p1 p2 p3
      go_wp2_with (at_builtin; refine stopHere ?_)
      have hgp1 := HGP.out.keepF HK1.out
      have hka : Keep (fun _ => False) w1 (w1.alloc (.cells (commitCs x (.slice A5 x.changes.length c5)).toArray 73)) := (Keep.refl _ w1).alloc _
      refine goOn (wpl_app (v := .slice A k c) rfl rfl T_K rfl (hka.owns hgp1.1 (fun _ _ => id)) rfl (row_n w1 (commitCs x (.slice A5 x.changes.length c5)) 73) (by simp [commitCs, Value.oneCell']) (by omega) (by omega) ?_)
      intro A6 c6 w6 ho6 hk6 hn6
      obtain ⟨hg6, hkw6⟩ := GrownP.more (r := .commit) HGP.out hsr HK1.out (commit_mk HOC.out.1 HOK.out) hka ho6 hk6 hn6
      have HG6 := hid hg6
      have HK6 := hid hkw6
      clear hgp1 hka ho6 hk6 hn6 hg6 hkw6
      go_wp2_with fail
      refine ⟨⟨k + 1, A6, c6, _, by omega, by simp, rfl, by rw [List.take_add_one, HX.out]; exact HG6.out, HKP.out.trans HK6.out (fun b hb e => by have := HGP.out.2.2.2 b e.symm; omega)⟩, by simp [intOf]; omega⟩
    · obtain rfl : k = n := by omega
      have HG := hid hgp; have HKP := hid hkp
      clear hgp hkp
      go_wp2_with fail
      go_ret
      have hs := HG.out.sl
      rw [List.take_of_length_le (by rw [← HN.out]; exact Nat.le_refl _)] at hs
      exact ⟨A, c, rfl, hs, HKP.out⟩
end
end Go.Proofs.Ytofljidmdabkcaa

/- box: a message in memory of its own. -/
import Derived.Test.YtofljidmdabkcaaMsgT
import Derived.Test.YtofljidmdabkcaaClones
import Derived.Deep.RegionWith
import Derived.Deep.RegionHeld3
namespace Go.Proofs.Ytofljidmdabkcaa
open Go.RowKit

section
variable {F : Nat → Prop} {w : World}
theorem cloneC_n {A : Option Addr} {n c : Nat} {l : List Change} (hn : l.length = n) (hv : Sl .change w F (.slice A n c) l) (hl : n ≤ 4294967296) :
    Calls Try.prog 48 #[.slice A n c] w fun e w' => ∃ A' c', e = .returned (.slice A' n c') ∧ Sl .change w' (NewIn w w') (.slice A' n c') l ∧ Keep (fun _ => False) w w' := by
  subst hn
  refine (cloneC_calls hv hl).mono ?_
  rintro e w' ⟨v, rfl, hs, hk⟩
  obtain ⟨A', c', rfl⟩ := hs.shape
  exact ⟨A', c', rfl, hs, hk⟩
set_option maxRecDepth 20000 in
theorem request_calls {r : Req} {v : Value} (hv : Sl .change w F v r.changes) (hl : r.changes.length ≤ 4294967296) :
    Calls Try.prog 44 #[.agg (reqCs r v).toArray] w fun e w' => ∃ v', e = .returned (.agg (reqCs r v').toArray) ∧ Sl .change w' (NewIn w w') v' r.changes ∧ Keep (fun _ => False) w w' := by
  obtain ⟨A, c, rfl⟩ := hv.shape
  have HV := hid hv
  clear hv
  generalize hn : r.changes.length = n at *
  have HN := hid hn
  clear hn
  go_enter Try.func44, Try.ntmps44
  go_wp2_with (first
    | (refine wpl_boxB (v := .agg (reqCs r (.slice A n c)).toArray) rfl rfl rfl ?_; intro g w1 hg hb1 k1 s1; have HG := hid hg; clear hg)
    | (refine wpl_allocB (z := .agg (reqCs reqZ' (.slice none 0 0)).toArray) rfl rfl (by kernel_rfl) ?_; intro g2 w2 hg2 hb2 k2 s2; have HG2 := hid hg2; clear hg2; have hb1 := k2.heap hb1 id)
    | (refine wpl_load1 rfl rfl rfl hb1 (by kernel_rfl) (v := .slice A n c) rfl ?_))
  have k02 := k1.trans k2 (fun _ _ q => q)
  refine (cloneC_n HN.out (HV.out.keep k02 (fun _ _ => id)) hl).mono ?_
  rintro e w3 ⟨A3, c3, rfl, hs3, k3⟩
  replace hb1 := k3.heap hb1 id
  replace hb2 := k3.heap hb2 id
  have HS := hid hs3
  clear hs3
  go_wp2_with (first
    | (refine wpl_loadA rfl rfl rfl hb1 (by kernel_rfl) (by kernel_rfl) (reqCs r (.slice A3 n c3)) rfl rfl ?_)
    | (refine wpl_storeB (v := .slice A3 n c3) rfl rfl rfl rfl hb1 (by kernel_rfl) (by simp [reqCs, Value.cells]) (by simp [Value.oneCell', Value.cells]) ?_; intro w4 hb4 k4 s4; replace hb1 := hb4; replace hb2 := k4.heap hb2 (fun e => by have := HG2.out; omega))
    | (refine wpl_storeB (v := .agg (reqCs r (.slice A3 n c3)).toArray) rfl rfl rfl rfl hb2 (by kernel_rfl) (by simp [reqCs, Value.cells]) (by simp [Value.oneCell', reqCs, Value.cells]) ?_; intro w5 hb5 k5 s5))
  refine bodyPost_ret (res_cell (g := g2) (cs := (reqCs r (.slice A3 n c3)).toArray) Try.results44 _ rfl hb5 (by kernel_rfl) (by kernel_rfl)) rfl ?_
  have e1 := HG.out
  have e2 := HG2.out
  have q3 := k3.size
  refine ⟨_, rfl, ((HS.out.keep k4 ?_).keep k5 ?_).mono ?_, ((k02.trans k3 (fun _ _ q => q)).trans k4 ?_).trans k5 ?_⟩
  · intro k hk e; have := hk.1; omega
  · intro k hk e; have := hk.1; omega
  · intro k hk; have h1 := hk.1; have h2 := hk.2; exact ⟨by omega, by omega⟩
  · intro b hb e; omega
  · intro b hb e; omega
end
end Go.Proofs.Ytofljidmdabkcaa

/- wapentakeref11.Copy: a message in memory of its own. -/
import Derived.Test.YtofljidmdabkcaaGreatCq
import Derived.Test.YtofljidmdabkcaaGreatCp
namespace Go.Proofs.YtofljidmdabkcaaGreat
open Go.RowKit
section
variable {F G S : Nat → Prop} {w w' : World}
/-- A message whose lists are the call's own, in new blocks. -/
def OwnMsg (w w' : World) (m : Msg) (Ac Av Ai Ak : Option Addr) (cc cv ci ck : Nat) : Prop :=
  OwnC w w' Ac m.value.changes.length cc m.value.changes ∧ OwnV w w' Av m.votes.length cv m.votes ∧
  w'.ownsRow 0 5 1 (.slice Ai m.image.length ci) m.image.length (m.image.map U8) ∧ (∀ k, (Value.slice Ai m.image.length ci).ownBlock = some k → w.heap.size ≤ k) ∧
  Sl .commit w' (NewIn w w') (.slice Ak m.verdict.commits.length ck) m.verdict.commits
theorem OwnC.later {w1 w2 : World} {A : Option Addr} {n c : Nat} {l : List Change} (h : OwnC w1 w2 A n c l) (hw : w.heap.size ≤ w1.heap.size) (hk : Keep S w2 w') (hS : ∀ b, w1.heap.size ≤ b → b < w2.heap.size → ¬ S b) : OwnC w w' A n c l := by
  obtain ⟨h1, ⟨cs, h2⟩, h3⟩ := h
  have hs := hk.size
  exact ⟨(h1.keep hk (fun b hb => hS b hb.1 hb.2)).mono (fun b hb => ⟨by have := hb.1; omega, by have := hb.2; omega⟩), ⟨cs, hk.owns h2 (fun b hb => hS b (h3 b hb) (own_lt' h2 b hb))⟩, fun b hb => by have := h3 b hb; omega⟩
theorem OwnV.later {w1 w2 : World} {A : Option Addr} {n c : Nat} {l : List Vote} (h : OwnV w1 w2 A n c l) (hw : w.heap.size ≤ w1.heap.size) (hk : Keep S w2 w') (hS : ∀ b, w1.heap.size ≤ b → b < w2.heap.size → ¬ S b) : OwnV w w' A n c l := by
  obtain ⟨h1, ⟨cs, h2⟩, h3⟩ := h
  have hs := hk.size
  exact ⟨(h1.keep hk (fun b hb => hS b hb.1 hb.2)).mono (fun b hb => ⟨by have := hb.1; omega, by have := hb.2; omega⟩), ⟨cs, hk.owns h2 (fun b hb => hS b (h3 b hb) (own_lt' h2 b hb))⟩, fun b hb => by have := h3 b hb; omega⟩
set_option maxRecDepth 20000 in
set_option maxHeartbeats 1600000 in
theorem copyM_calls {m : Msg} {vc vv vi vk : Value} (hc : Sl .change w F vc m.value.changes) (hv : Sl .vote w F vv m.votes) (hi : Sl .u8 w F vi m.image) (hk : Sl .commit w F vk m.verdict.commits)
    (hF : ∀ q, F q → q < w.heap.size) (hf : m.Fits) (hlv : m.votes.length ≤ 1000000) (hlk : m.verdict.commits.length ≤ 1000000) :
    Calls Tryz.prog 24 #[.agg (msgCs m vc vv vi vk).toArray] w fun e w' => ∃ Ac Av Ai Ak cc cv ci ck, e = .returned (.agg (msgCs m (.slice Ac m.value.changes.length cc) (.slice Av m.votes.length cv) (.slice Ai m.image.length ci) (.slice Ak m.verdict.commits.length ck)).toArray) ∧ OwnMsg w w' m Ac Av Ai Ak cc cv ci ck ∧ Keep (fun _ => False) w w' := by
  have HFI := hid hf
  have hf1 := hf.1; have hf3 := hf.3
  obtain ⟨Ac, cc, rfl⟩ := hc.shape
  obtain ⟨Av, cv, rfl⟩ := hv.shape
  obtain ⟨Ai, ci, rfl⟩ := hi.shape
  obtain ⟨Ak, ck, rfl⟩ := hk.shape
  have HC := hid (fun w' (q : Keep (fun b => w.heap.size ≤ b) w w') => copyReq_calls (r := m.value) (hc.keep q (fun b hb e => by have := hF b hb; omega)) HFI.out.1)
  have HV := hid (fun w' (q : Keep (fun b => w.heap.size ≤ b) w w') => copyVotes_calls (l := m.votes) (hv.keep q (fun b hb e => by have := hF b hb; omega)) (fun b hb => by have := hF b hb; have := q.size; omega) hlv HFI.out.5)
  have HI := hid (fun w' (q : Keep (fun b => w.heap.size ≤ b) w w') => copy_calls (a := m.image) (hi.keep q (fun b hb e => by have := hF b hb; omega)).row (by omega))
  have HK := hid (fun w' (q : Keep (fun b => w.heap.size ≤ b) w w') => copyVer_calls (x := m.verdict) (hk.keep q (fun b hb e => by have := hF b hb; omega)) (fun b hb => by have := hF b hb; have := q.size; omega) hlk HFI.out.6)
  obtain ⟨nv, hnv⟩ : ∃ nv, nv = m.votes.length := ⟨_, rfl⟩
  obtain ⟨ni, hni⟩ : ∃ ni, ni = m.image.length := ⟨_, rfl⟩
  obtain ⟨nc, hnc⟩ : ∃ nc, nc = m.value.changes.length := ⟨_, rfl⟩
  obtain ⟨nk, hnk⟩ : ∃ nk, nk = m.verdict.commits.length := ⟨_, rfl⟩
  unfold OwnMsg
  rw [← hnc] at HC ⊢
  rw [← hnv] at HV ⊢
  rw [← hni] at HI ⊢
  rw [← hnk] at HK ⊢
  clear hc hv hi hk hF hf hnv hni hnc hnk hf1 hf3 hlv hlk
  go_enter Tryz.func24, Tryz.ntmps24
  go_wp2_with (first
    | (refine wpl_boxB (v := .agg (msgCs m (.slice Ac nc cc) (.slice Av nv cv) (.slice Ai ni ci) (.slice Ak nk ck)).toArray) rfl rfl rfl ?_; intro g w1 hg hb1 k1 s1; have HG := hid hg; clear hg)
    | (refine wpl_allocB (z := .agg (msgCs msgZ nilV nilV nilV nilV).toArray) rfl rfl (by kernel_rfl) ?_; intro g2 w2 hg2 hb2 k2 s2; have HG2 := hid hg2; have HS2 := hid s2; clear hg2 s2; replace hb1 := k2.heap hb1 id)
    | (refine wpl_loadA rfl rfl rfl hb1 (by kernel_rfl) (by kernel_rfl) (reqCs m.value (.slice Ac nc cc)) rfl rfl ?_))
  have q1 : w.heap.size ≤ g := Nat.le_of_eq HG.out.symm
  have q2 : g < g2 := by have := HG.out; have := HG2.out; omega
  have q3 : g2 < w2.heap.size := by have := HS2.out; omega
  clear s1
  have k02 : Keep (fun b => w.heap.size ≤ b) w w2 := (k1.trans k2 (fun _ _ q => q)).mono (fun _ _ f => f.elim)
  refine (HC.out _ k02).mono ?_
  rintro e w3 ⟨Ac3, cc3, rfl, ho3, k3⟩
  replace hb1 := k3.heap hb1 id
  replace hb2 := k3.heap hb2 id
  have HO3 := hid ho3
  have z3 := k3.size
  have K3 := hid (k02.trans k3 (fun _ _ f => f.elim))
  clear ho3 k1 k2 k3 k02
  go_wp2_with (first
    | (refine wpl_storeB (v := .agg (reqCs m.value (.slice Ac3 nc cc3)).toArray) rfl rfl rfl rfl hb1 (by kernel_rfl) (by simp [reqCs, msgCs, verdictCs, Value.cells]) (by simp [reqCs, Value.oneCell', Value.cells]) ?_; intro w4 hb4 k4 s4; replace hb1 : w4.heap[g]? = some (.cells (msgCs m (.slice Ac3 nc cc3) (.slice Av nv cv) (.slice Ai ni ci) (.slice Ak nk ck)).toArray 42) := hb4; clear hb4; replace hb2 := k4.heap hb2 (fun e => by omega))
    | (refine wpl_loadA rfl rfl rfl hb1 (by kernel_rfl) (by kernel_rfl) (verdictCs m.verdict (.slice Ak nk ck)) rfl rfl ?_))
  have K4 := hid (K3.out.trans k4 (fun b hb e => by omega))
  have HO4 := hid (HO3.out.later (w := w2) (Nat.le_refl _) k4 (fun b hb hb' e => by omega))
  refine (HK.out _ K4.out).mono ?_
  rintro e w5 ⟨Ak5, ck5, rfl, ho5, k5⟩
  replace hb1 := k5.heap hb1 id
  replace hb2 := k5.heap hb2 id
  have HO5 := hid ho5
  have z5 := k5.size
  have K5 := hid (K4.out.trans k5 (fun _ _ f => f.elim))
  have HO45 := hid (HO4.out.later (w := w2) (Nat.le_refl _) k5 (fun _ _ _ f => f))
  clear ho5 k4 k5
  go_wp2_with (first
    | (refine wpl_storeB (v := .agg (verdictCs m.verdict (.slice Ak5 nk ck5)).toArray) rfl rfl rfl rfl hb1 (by kernel_rfl) (by simp [reqCs, msgCs, verdictCs, Value.cells]) (by simp [verdictCs, Value.oneCell', Value.cells]) ?_; intro w6 hb6 k6 s6; replace hb1 : w6.heap[g]? = some (.cells (msgCs m (.slice Ac3 nc cc3) (.slice Av nv cv) (.slice Ai ni ci) (.slice Ak5 nk ck5)).toArray 42) := hb6; clear hb6; replace hb2 := k6.heap hb2 (fun e => by omega))
    | (refine wpl_load1 rfl rfl rfl hb1 (by kernel_rfl) (v := .slice Ai ni ci) rfl ?_))
  have K6 := hid (K5.out.trans k6 (fun b hb e => by omega))
  have HO46 := hid (HO45.out.later (w := w2) (Nat.le_refl _) k6 (fun b hb hb' e => by omega))
  have HO56 := hid (HO5.out.keep k6 (fun b hb e => by have := hb.1; omega))
  refine (HI.out _ K6.out).mono ?_
  rintro e w7 ⟨vi7, rfl, ho7, hn7, k7⟩
  obtain ⟨Ai7, ci7, rfl⟩ := own_slice ho7
  replace hb1 := k7.heap hb1 id
  replace hb2 := k7.heap hb2 id
  have HO7 := hid ho7; have HN7 := hid hn7
  have z7 := k7.size
  have K7 := hid (K6.out.trans k7 (fun _ _ f => f.elim))
  have HO47 := hid (HO46.out.later (w := w2) (Nat.le_refl _) k7 (fun _ _ _ f => f))
  have HO57 := hid (HO56.out.keep k7 (fun _ _ => id))
  have z6 := k6.size
  clear ho7 hn7 k6 k7
  go_wp2_with (first
    | (refine wpl_storeB (v := .slice Ai7 ni ci7) rfl rfl rfl rfl hb1 (by kernel_rfl) (by simp [reqCs, msgCs, verdictCs, Value.cells]) (by simp [Value.oneCell', Value.cells]) ?_; intro w8 hb8 k8 s8; replace hb1 : w8.heap[g]? = some (.cells (msgCs m (.slice Ac3 nc cc3) (.slice Av nv cv) (.slice Ai7 ni ci7) (.slice Ak5 nk ck5)).toArray 42) := hb8; clear hb8; replace hb2 := k8.heap hb2 (fun e => by omega))
    | (refine wpl_load1 rfl rfl rfl hb1 (by kernel_rfl) (v := .slice Av nv cv) rfl ?_))
  have K8 := hid (K7.out.trans k8 (fun b hb e => by omega))
  have z8 := k8.size
  have HO48 := hid (HO47.out.later (w := w2) (Nat.le_refl _) k8 (fun b hb hb' e => by omega))
  have HO58 := hid (HO57.out.keep k8 (fun b hb e => by have := hb.1; omega))
  have HO78 := hid (k8.owns HO7.out (fun b hb e => by have := (HN7.out b hb).1; omega))
  clear k8
  refine (HV.out _ K8.out).mono ?_
  rintro e w9 ⟨Av9, cv9, rfl, ho9, k9⟩
  replace hb1 := k9.heap hb1 id
  replace hb2 := k9.heap hb2 id
  have HO9 := hid ho9
  have z9 := k9.size
  have K9 := hid (K8.out.trans k9 (fun _ _ f => f.elim))
  have HO49 := hid (HO48.out.later (w := w2) (Nat.le_refl _) k9 (fun _ _ _ f => f))
  have HO59 := hid (HO58.out.keep k9 (fun _ _ => id))
  have HO79 := hid (k9.owns HO78.out (fun _ _ => id))
  clear ho9 k9
  go_wp2_with (first
    | (refine wpl_storeB (v := .slice Av9 nv cv9) rfl rfl rfl rfl hb1 (by kernel_rfl) (by simp [reqCs, msgCs, verdictCs, Value.cells]) (by simp [Value.oneCell', Value.cells]) ?_; intro wa hba ka sa; replace hb1 : wa.heap[g]? = some (.cells (msgCs m (.slice Ac3 nc cc3) (.slice Av9 nv cv9) (.slice Ai7 ni ci7) (.slice Ak5 nk ck5)).toArray 42) := hba; clear hba; replace hb2 := ka.heap hb2 (fun e => by omega))
    | (refine wpl_loadA rfl rfl rfl hb1 (by kernel_rfl) (by kernel_rfl) (msgCs m (.slice Ac3 nc cc3) (.slice Av9 nv cv9) (.slice Ai7 ni ci7) (.slice Ak5 nk ck5)) rfl rfl ?_)
    | (refine wpl_storeB (v := .agg (msgCs m (.slice Ac3 nc cc3) (.slice Av9 nv cv9) (.slice Ai7 ni ci7) (.slice Ak5 nk ck5)).toArray) rfl rfl rfl rfl hb2 (by kernel_rfl) (by simp [reqCs, msgCs, verdictCs, Value.cells]) (by simp [Value.cells]; exact one_msgCs m) ?_; intro wb hbb kb sb))
  refine bodyPost_ret (res_cell (g := g2) (cs := (msgCs m (.slice Ac3 nc cc3) (.slice Av9 nv cv9) (.slice Ai7 ni ci7) (.slice Ak5 nk ck5)).toArray) Tryz.results24 _ rfl hbb (by kernel_rfl) (by kernel_rfl)) rfl ?_
  have kab : Keep (fun q => q = g ∨ q = g2) w9 wb := (ka.mono (fun _ _ e => .inl e)).trans kb (fun _ _ e => .inr e)
  have zb := kab.size
  refine ⟨_, _, _, _, _, _, _, _, rfl, ⟨(HO49.out.later (w := w2) (Nat.le_refl _) kab (fun b hb hb' e => by omega)).later (w := w) (by omega) (Keep.refl (fun _ => False) _) (fun _ _ _ f => f), HO9.out.later (w := w) (by omega) kab (fun b hb hb' e => by omega), kab.owns HO79.out (fun b hb e => by have := (HN7.out b hb).1; omega), fun b hb => by have := (HN7.out b hb).1; omega, (HO59.out.keep kab (fun b hb e => by have := hb.1; omega)).mono (fun b hb => ⟨by have := hb.1; omega, by have := hb.2; omega⟩)⟩, (K9.out.trans kab (fun b hb e => by omega)).mono (fun b hb e => by omega)⟩
end
end Go.Proofs.YtofljidmdabkcaaGreat

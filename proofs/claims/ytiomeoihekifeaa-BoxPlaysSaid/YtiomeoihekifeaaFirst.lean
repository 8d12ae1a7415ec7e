/- wapentakelaw20: first, room. -/
import Derived.Test.YtiomeoihekifeaaQRow
import Derived.Test.YtiomeoihekifeaaMsgSmall
import Derived.Test.YtiomeoihekifeaaBoxN
import Derived.Deep.RegionHeld3
namespace Go.Proofs.Ytiomeoihekifeaa
open Go.RowKit
theorem results_cell_tmp3 {fn : Func} {p u v : Tmp} {ty : TypeId} (h : fn.results = #[.cell p ty, .tmp u, .tmp v]) (tmps : Array Value) (P : Program) (w : World) :
    (results fn tmps).run P w = ((asAddr (tmps.getD p undef)).run P w).andThen fun a w₁ => ((loadVar ty a).run P w₁).andThen fun x w₂ => .ok (.tuple #[x, tmps.getD u undef, tmps.getD v undef]) w₂ := by
  simp only [results, h]
  simp [Sem.run_bind, Result.andThen]
theorem res_cell_tmp3 {P : Program} {fn : Func} {p u v : Tmp} {ty : TypeId} (h : fn.results = #[.cell p ty, .tmp u, .tmp v]) (tmps : Array Value) {w : World} {g : Nat} {t : TypeId} {cs : Array Value} {fr : Nat × Nat} {x y : Value}
    (hp : tmps.getD p undef = .pointer (some ⟨g, 0, none⟩)) (hu' : tmps.getD u undef = x) (hv' : tmps.getD v undef = y) (hg : w.heap[g]? = some (.cells cs t fr))
    (hd : (P.underlying ty).map TypeDesc.isRow = some true) (hi : (P.info? ty).map (·.size) = some cs.size) :
    (results fn tmps).run P w = .ok (.tuple #[.agg cs, x, y]) w := by
  obtain ⟨d, hu, hd⟩ : ∃ d, P.underlying ty = some d ∧ d.isRow = true := by
    cases hq : P.underlying ty with
    | none => simp [hq] at hd
    | some d => exact ⟨d, rfl, by simpa [hq] using hd⟩
  rw [results_cell_tmp3 h, hp, hu', hv']
  simp [asAddr, run_loadVar_row w g t ty cs fr d hg hu (by cases d <;> simp_all) hi, Result.andThen]
/-- A queue of messages: its own block from B on; what they point to lies below B. -/
def MsgQ (B : Nat) (w : World) (v : Value) (l : List Msg) : Prop :=
  ∃ cs, QRow w 60 27 v l.length cs ∧ Parts .msg w (fun b => b < B) cs l ∧ ∀ b, v.ownBlock = some b → B ≤ b
section
variable {F S : Nat → Prop} {w w' : World} {B : Nat} {l : List Msg} {v : Value}
theorem MsgQ.nil : MsgQ B w (.slice none 0 0) [] := ⟨[], QRow.nil, Parts.nil, fun b hb => by simp [Value.ownBlock] at hb⟩
theorem MsgQ.keep (h : MsgQ B w v l) (hk : Keep S w w') (hS : ∀ b, b < B → ¬ S b) (hv : ∀ b, v.ownBlock = some b → ¬ S b) : MsgQ B w' v l := by
  obtain ⟨cs, h1, h2, h3⟩ := h
  exact ⟨cs, h1.keep hk hv, h2.keep hk hS, h3⟩
theorem MsgQ.keepF (h : MsgQ B w v l) (hk : Keep (fun _ => False) w w') : MsgQ B w' v l := h.keep hk (fun _ _ => id) (fun _ _ => id)
theorem MsgQ.shape (h : MsgQ B w v l) : ∃ A c, v = .slice A l.length c := by obtain ⟨cs, h1, _⟩ := h; exact h1.shape
theorem MsgQ.lt (h : MsgQ B w v l) : ∀ b, v.ownBlock = some b → B ≤ b ∧ b < w.heap.size := fun b hb => by obtain ⟨cs, h1, _, h3⟩ := h; exact ⟨h3 b hb, h1.lt b hb⟩
def FirstPost (B : Nat) (w : World) (v : Value) (l : List Msg) (e : Ending) (w' : World) : Prop :=
  ∃ cs v', e = .returned (.tuple #[.agg cs.toArray, .bool (decide (0 < l.length)), v']) ∧ Rep.msg.cells w' (fun b => b < B) (l.headD msgZ) cs ∧ MsgQ B w' v' l.tail ∧ Keep (fun _ => False) w w' ∧ ∀ b, v'.ownBlock = some b → v.ownBlock = some b
set_option maxRecDepth 20000 in
set_option maxHeartbeats 4000000 in
theorem first_calls (h : MsgQ B w v l) : Calls Try.prog 45 #[v] w (FirstPost B w v l) := by
  have hz := fun w => (by obtain ⟨i, hi, _, hz⟩ := info_msg; simp [zeroValue, typeInfo, hi, hz] : (zeroValue 60).run Try.prog w = .ok (.agg (msgCs msgZ nilV nilV nilV nilV).toArray) w)
  cases l with
  | nil =>
    obtain ⟨A, c, rfl⟩ := h.shape
    simp only [List.length_nil] at h ⊢
    clear h
    go_enter Try.func45, Try.ntmps45
    go_wp2_with (first
      | (refine wpl_allocB (z := .agg (msgCs msgZ nilV nilV nilV nilV).toArray) rfl rfl (by kernel_rfl) ?_; intro g1 w1 hg1 hb1 k1 s1; have HG1 := hid hg1; clear hg1)
      | (refine wpl_storeB (v := .agg (msgCs msgZ nilV nilV nilV nilV).toArray) rfl rfl rfl rfl hb1 (by kernel_rfl) (by decide) (msg_oneA (msgZ_cells w1 (fun _ => False))) ?_; intro w2 hb2 k2 s2))
    refine bodyPost_ret (res_cell_tmp3 (g := g1) (cs := (msgCs msgZ nilV nilV nilV nilV).toArray) (x := .bool false) (y := .slice none 0 0) Try.results45 _ rfl rfl rfl hb2 (by kernel_rfl) (by kernel_rfl)) rfl ?_
    have e1 := HG1.out
    exact ⟨_, _, rfl, msgZ_cells _ _, MsgQ.nil, k1.trans k2 (fun b hb e => by omega), fun b hb => by simp [Value.ownBlock] at hb⟩
  | cons m t =>
    obtain ⟨cs, h1, h2, h3⟩ := h
    obtain ⟨n, hn⟩ : ∃ n, n = t.length := ⟨_, rfl⟩
    simp only [List.length_cons, ← hn] at h1
    have HN := hid hn
    have hrow := h1.cells
    rcases h1.2 with ⟨_, h0⟩ | ⟨g, o, cap, cur, rfl, hg, hnc, hcm, hs, htk⟩
    · omega
    have hm0 := h2 0 m rfl
    have hsz : Rep.msg.size = 27 := rfl
    rw [hsz, Nat.zero_mul, List.drop_zero] at hm0
    obtain ⟨vc, vv, vi, vk, hcs, e1, e2, e3, e4, _⟩ := msg_cells hm0
    obtain ⟨Ac, cc, rfl⟩ := e1.shape
    obtain ⟨Av, cv, rfl⟩ := e2.shape
    obtain ⟨Ai, ci, rfl⟩ := e3.shape
    obtain ⟨Ak, ck, rfl⟩ := e4.shape
    obtain ⟨nc, hnc'⟩ : ∃ nc, nc = m.value.changes.length := ⟨_, rfl⟩
    obtain ⟨nv, hnv⟩ : ∃ nv, nv = m.votes.length := ⟨_, rfl⟩
    obtain ⟨ni, hni⟩ : ∃ ni, ni = m.image.length := ⟨_, rfl⟩
    obtain ⟨nk, hnk⟩ : ∃ nk, nk = m.verdict.commits.length := ⟨_, rfl⟩
    rw [← hnc', ← hnv, ← hni, ← hnk] at hcs
    have hce : ∀ j u, (msgCs m (.slice Ac nc cc) (.slice Av nv cv) (.slice Ai ni ci) (.slice Ak nk ck))[j]? = some u → w.cell? ⟨g, o + j, none⟩ = some u := fun j u hu => by
      obtain ⟨A', c', he, _, _, _, hq⟩ := hrow
      simp only [Value.slice.injEq, true_and] at he
      obtain ⟨rfl, rfl⟩ := he
      obtain ⟨b', off', he, _, _, hcl⟩ := hq.resolve_left (by omega)
      simp only [Option.some.injEq, Addr.mk.injEq, and_true] at he
      obtain ⟨rfl, rfl⟩ := he
      refine hcl j u ?_
      rw [← hcs, List.getElem?_take] at hu
      split at hu
      · exact hu
      · cases hu
    rw [hcs] at hm0
    have HM := hid hm0
    have hqt := QRow.tail h1
    have H2 := hid h2; have H3 := hid h3
    have HCE0 := hid hce
    have hg0 := lt_heap hg
    clear hm0 h1 h2 h3 hrow hs htk hn hsz hz hcs e1 e2 e3 e4 hnc' hnv hni hnk hce hg
    by_cases hc1 : cap = 1
    · subst hc1
      obtain rfl : n = 0 := by omega
      rw [if_pos rfl] at hqt
      have HQ := hid hqt
      clear hqt
      go_enter Try.func45, Try.ntmps45
      go_wp2_with (first
        | (refine wpl_allocB (z := .agg (msgCs msgZ nilV nilV nilV nilV).toArray) rfl rfl (by kernel_rfl) ?_; intro g1 w1 hg1 hb1 k1 s1; have HG1 := hid hg1; clear hg1))
      have HCE : w1.drew.rangeAt g o (msgCs m (.slice Ac nc cc) (.slice Av nv cv) (.slice Ai ni ci) (.slice Ak nk ck)) := fun j u hu => k1.drew.cell (HCE0.out j u hu) id
      obtain ⟨dM, hu, hd⟩ : ∃ d, Try.prog.underlying 60 = some d ∧ d.isRow = true := ⟨_, Try.underlying60, rfl⟩
      have hi : (Try.prog.info? 60).map (·.size) = some (msgCs m (.slice Ac nc cc) (.slice Av nv cv) (.slice Ai ni ci) (.slice Ak nk ck)).length := by kernel_rfl
      have HU := hid hu; have HD := hid hd; have HI := hid hi
      clear hu hd hi
      refine wp_region_held_drew (S := fun w' => w'.rangeAt g o (msgCs m (.slice Ac nc cc) (.slice Av nv cv) (.slice Ai ni ci) (.slice Ak nk ck))) (by kernel_rfl) HCE (fun hHeld => ?_)
      refine wpAnyH_take (i := 0) (v := .slice (some ⟨g, o, none⟩) 1 1) rfl (by kernel_rfl) (by kernel_rfl) (by kernel_rfl) (fun _ _ _ h => h) (Or.inl ⟨by rfl, fun w' _ => by go_simp⟩) hHeld ?_
      refine wpAnyH_take (i := 1) (v := .pointer (some ⟨g, o, none⟩)) rfl (by kernel_rfl) (by kernel_rfl) (by kernel_rfl) (fun _ _ _ h => h) (Or.inl ⟨by rfl, fun w' _ => by go_simp⟩) hHeld ?_
      refine wpAnyH_take (i := 2) (v := _) rfl (by kernel_rfl) (by kernel_rfl) (by kernel_rfl) (fun _ _ _ h => h) (yieldsIf_load_mid (by rfl) _ _ rfl g o rfl (msgCs m (.slice Ac nc cc) (.slice Av nv cv) (.slice Ai ni ci) (.slice Ak nk ck)) dM (fun _ h => h) HU.out HD.out HI.out) hHeld ?_
      refine wpAnyH_take (i := 3) (v := .slice (some ⟨g, o, none⟩) 1 1) rfl (by kernel_rfl) (by kernel_rfl) (by kernel_rfl) (fun _ _ _ h => h) (Or.inl ⟨by rfl, fun w' _ => by go_simp⟩) hHeld ?_
      refine wpAnyH_take (i := 4) (v := .slice (some ⟨g, o, none⟩) 0 0) rfl (by kernel_rfl) (by kernel_rfl) (by kernel_rfl) (fun _ _ _ h => h) (Or.inl ⟨by rfl, fun w' _ => by go_simp⟩) hHeld ?_
      simp only [Act.put]
      refine wpAnyH_ready (rs := [5]) (by kernel_rfl) (by simp) ?_
      refine AllReadyH.cons rfl (fun K hK => ?_) AllReadyH.nil
      rw [if_pos (by rfl)]
      have ht : w1.drew.there g1 0 (msgCs m (.slice Ac nc cc) (.slice Av nv cv) (.slice Ai ni ci) (.slice Ak nk ck)).toArray.size := fun j hj => ⟨by
        have hj : j < 27 := hj
        rw [cell_of_row w1.drew g1 _ _ _ (0, 0) hb1]
        simp [Value.cells, msgCs, reqCs, verdictCs]
        omega, free_at hb1 _⟩
      have h1c : ∀ u ∈ (msgCs m (.slice Ac nc cc) (.slice Av nv cv) (.slice Ai ni ci) (.slice Ak nk ck)), u.oneCell' = true := one_msgCs m
      have hi2s : (Try.prog.info? 60).map (·.size) = some (msgCs m (.slice Ac nc cc) (.slice Av nv cv) (.slice Ai ni ci) (.slice Ak nk ck)).toArray.size := by rw [List.size_toArray]; exact HI.out
      refine wp_store_mid _ _ _ rfl g1 0 (msgCs m (.slice Ac nc cc) (.slice Av nv cv) (.slice Ai ni ci) (.slice Ak nk ck)).toArray rfl rfl ht hi2s (all_oneCell_toArray h1c) ?_
      have hb2 := heap_setCells (msgCs m (.slice Ac nc cc) (.slice Av nv cv) (.slice Ai ni ci) (.slice Ak nk ck)) 0 _ w1.drew hb1 (by simp [msgCs, reqCs, verdictCs, Value.cells])
      have k2 := keep_setCells g1 (msgCs m (.slice Ac nc cc) (.slice Av nv cv) (.slice Ai ni ci) (.slice Ak nk ck)) 0 w1.drew
      generalize w1.drew.setCells g1 0 (msgCs m (.slice Ac nc cc) (.slice Av nv cv) (.slice Ai ni ci) (.slice Ak nk ck)).toArray.toList = w2 at *
      have q1 : w.heap.size ≤ g1 := Nat.le_of_eq HG1.out.symm
      have kk : Keep (fun _ => False) w w2 := (k1.drew).trans k2 (fun b hb e => by omega)
      refine hK.out _ _ (fun j u hu => kk.cell (HCE0.out j u hu) id) (fun _ => ?_)
      simp only [Act.put]
      refine wpAnyH_ready (rs := [6]) (by kernel_rfl) (by simp) ?_
      refine AllReadyH.cons rfl (fun K2 hK2 => ?_) AllReadyH.nil
      rw [if_pos (by rfl)]
      go_simp
      refine hK2.out _ _ (fun j u hu => kk.cell (HCE0.out j u hu) id) (fun _ => ?_)
      clear hK2 K2 hK K
      refine wpAnyH_ready (rs := [7]) (by kernel_rfl) (by simp) ?_
      refine AllReadyH.cons rfl (fun K3 hK3 => ?_) AllReadyH.nil
      rw [if_pos (by rfl)]
      go_simp
      refine hK3.out _ _ (fun j u hu => kk.cell (HCE0.out j u hu) id) (fun _ => ?_)
      clear hK3 K3
      refine wpAnyH_done (by kernel_rfl) ?_ _
      go_wp2_with fail
      refine bodyPost_ret (res_cell_tmp3 (g := g1) (cs := (msgCs m (.slice Ac nc cc) (.slice Av nv cv) (.slice Ai ni ci) (.slice Ak nk ck)).toArray) Try.results45 _ rfl rfl rfl (hb2.trans (by rw [spl_whole _ _ (by simp [msgCs, reqCs, verdictCs, Value.cells])])) (by kernel_rfl) hi2s) rfl ?_
      refine ⟨_, _, rfl, Rep.msg.keep HM.out kk (fun _ _ => id), ⟨_, by rw [List.tail_cons, ← HN.out]; exact HQ.out.keep kk (fun _ _ => id), (Parts.drop (H2.out.keep kk (fun _ _ => id)) 1), fun b hb => H3.out b hb⟩, kk, fun b hb => hb⟩
    · rw [if_neg hc1, Nat.one_mul] at hqt
      have HQ := hid hqt
      clear hqt
      have hi1 : (1 : Int) ≤ (n : Int) + 1 := by omega
      have hi2 : (n : Int) + 1 ≤ (cap : Int) := by omega
      go_enter Try.func45, Try.ntmps45
      go_wp2_with (first
        | (refine wpl_allocB (z := .agg (msgCs msgZ nilV nilV nilV nilV).toArray) rfl rfl (by kernel_rfl) ?_; intro g1 w1 hg1 hb1 k1 s1; have HG1 := hid hg1; clear hg1))
      have HCE : w1.drew.rangeAt g o (msgCs m (.slice Ac nc cc) (.slice Av nv cv) (.slice Ai ni ci) (.slice Ak nk ck)) := fun j u hu => k1.drew.cell (HCE0.out j u hu) id
      obtain ⟨dM, hu, hd⟩ : ∃ d, Try.prog.underlying 60 = some d ∧ d.isRow = true := ⟨_, Try.underlying60, rfl⟩
      have hi : (Try.prog.info? 60).map (·.size) = some (msgCs m (.slice Ac nc cc) (.slice Av nv cv) (.slice Ai ni ci) (.slice Ak nk ck)).length := by kernel_rfl
      have HU := hid hu; have HD := hid hd; have HI := hid hi
      clear hu hd hi
      refine wp_region_held_drew (S := fun w' => w'.rangeAt g o (msgCs m (.slice Ac nc cc) (.slice Av nv cv) (.slice Ai ni ci) (.slice Ak nk ck))) (by kernel_rfl) HCE (fun hHeld => ?_)
      refine wpAnyH_take (i := 0) (v := .slice (some ⟨g, o, none⟩) (n + 1) cap) rfl (by kernel_rfl) (by kernel_rfl) (by kernel_rfl) (fun _ _ _ h => h) (Or.inl ⟨by rfl, fun w' _ => by go_simp⟩) hHeld ?_
      refine wpAnyH_take (i := 1) (v := .pointer (some ⟨g, o, none⟩)) rfl (by kernel_rfl) (by kernel_rfl) (by kernel_rfl) (fun _ _ _ h => h) (Or.inl ⟨by rfl, fun w' _ => by go_simp⟩) hHeld ?_
      refine wpAnyH_take (i := 2) (v := _) rfl (by kernel_rfl) (by kernel_rfl) (by kernel_rfl) (fun _ _ _ h => h) (yieldsIf_load_mid (by rfl) _ _ rfl g o rfl (msgCs m (.slice Ac nc cc) (.slice Av nv cv) (.slice Ai ni ci) (.slice Ak nk ck)) dM (fun _ h => h) HU.out HD.out HI.out) hHeld ?_
      refine wpAnyH_take (i := 3) (v := .slice (some ⟨g, o, none⟩) (n + 1) cap) rfl (by kernel_rfl) (by kernel_rfl) (by kernel_rfl) (fun _ _ _ h => h) (Or.inl ⟨by rfl, fun w' _ => by go_simp⟩) hHeld ?_
      refine wpAnyH_take (i := 4) (v := .slice (some ⟨g, o + 27, none⟩) n (cap - 1)) rfl (by kernel_rfl) (by kernel_rfl) (by kernel_rfl) (fun _ _ _ h => h) (Or.inl ⟨by rfl, fun w' _ => by go_simp⟩) hHeld ?_
      simp only [Act.put]
      refine wpAnyH_ready (rs := [5]) (by kernel_rfl) (by simp) ?_
      refine AllReadyH.cons rfl (fun K hK => ?_) AllReadyH.nil
      rw [if_pos (by rfl)]
      have ht : w1.drew.there g1 0 (msgCs m (.slice Ac nc cc) (.slice Av nv cv) (.slice Ai ni ci) (.slice Ak nk ck)).toArray.size := fun j hj => ⟨by
        have hj : j < 27 := hj
        rw [cell_of_row w1.drew g1 _ _ _ (0, 0) hb1]
        simp [Value.cells, msgCs, reqCs, verdictCs]
        omega, free_at hb1 _⟩
      have h1c : ∀ u ∈ (msgCs m (.slice Ac nc cc) (.slice Av nv cv) (.slice Ai ni ci) (.slice Ak nk ck)), u.oneCell' = true := one_msgCs m
      have hi2s : (Try.prog.info? 60).map (·.size) = some (msgCs m (.slice Ac nc cc) (.slice Av nv cv) (.slice Ai ni ci) (.slice Ak nk ck)).toArray.size := by rw [List.size_toArray]; exact HI.out
      refine wp_store_mid _ _ _ rfl g1 0 (msgCs m (.slice Ac nc cc) (.slice Av nv cv) (.slice Ai ni ci) (.slice Ak nk ck)).toArray rfl rfl ht hi2s (all_oneCell_toArray h1c) ?_
      have hb2 := heap_setCells (msgCs m (.slice Ac nc cc) (.slice Av nv cv) (.slice Ai ni ci) (.slice Ak nk ck)) 0 _ w1.drew hb1 (by simp [msgCs, reqCs, verdictCs, Value.cells])
      have k2 := keep_setCells g1 (msgCs m (.slice Ac nc cc) (.slice Av nv cv) (.slice Ai ni ci) (.slice Ak nk ck)) 0 w1.drew
      generalize w1.drew.setCells g1 0 (msgCs m (.slice Ac nc cc) (.slice Av nv cv) (.slice Ai ni ci) (.slice Ak nk ck)).toArray.toList = w2 at *
      have q1 : w.heap.size ≤ g1 := Nat.le_of_eq HG1.out.symm
      have kk : Keep (fun _ => False) w w2 := (k1.drew).trans k2 (fun b hb e => by omega)
      refine hK.out _ _ (fun j u hu => kk.cell (HCE0.out j u hu) id) (fun _ => ?_)
      simp only [Act.put]
      refine wpAnyH_ready (rs := [6]) (by kernel_rfl) (by simp) ?_
      refine AllReadyH.cons rfl (fun K2 hK2 => ?_) AllReadyH.nil
      rw [if_pos (by rfl)]
      go_simp
      refine hK2.out _ _ (fun j u hu => kk.cell (HCE0.out j u hu) id) (fun _ => ?_)
      clear hK2 K2 hK K
      refine wpAnyH_ready (rs := [7]) (by kernel_rfl) (by simp) ?_
      refine AllReadyH.cons rfl (fun K3 hK3 => ?_) AllReadyH.nil
      rw [if_pos (by rfl)]
      go_simp
      refine hK3.out _ _ (fun j u hu => kk.cell (HCE0.out j u hu) id) (fun _ => ?_)
      clear hK3 K3
      refine wpAnyH_done (by kernel_rfl) ?_ _
      go_wp2_with fail
      refine bodyPost_ret (res_cell_tmp3 (g := g1) (cs := (msgCs m (.slice Ac nc cc) (.slice Av nv cv) (.slice Ai ni ci) (.slice Ak nk ck)).toArray) Try.results45 _ rfl rfl rfl (hb2.trans (by rw [spl_whole _ _ (by simp [msgCs, reqCs, verdictCs, Value.cells])])) (by kernel_rfl) hi2s) rfl ?_
      refine ⟨_, _, rfl, Rep.msg.keep HM.out kk (fun _ _ => id), ⟨_, by rw [List.tail_cons, ← HN.out]; exact HQ.out.keep kk (fun _ _ => id), (Parts.drop (H2.out.keep kk (fun _ _ => id)) 1), fun b hb => H3.out b hb⟩, kk, fun b hb => hb⟩
end
end Go.Proofs.Ytiomeoihekifeaa

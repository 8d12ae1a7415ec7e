/- box: a message in memory of its own. -/
import Derived.Test.YtofljidmdabkcaaOwn
import Derived.Test.YtofljidmdabkcaaCopyAt
namespace Go.Proofs.Ytofljidmdabkcaa
open Go.RowKit
def verdictZ : Verdict := ⟨0, 0, 0, ByteArray.empty, 0, [], 0⟩
def msgZ : Msg := ⟨0, 0, 0, 0, 0, 0, reqZ', [], [], 0, verdictZ⟩
def nilV : Value := .slice none 0 0
section
variable {F : Nat → Prop} {w : World}
theorem msgCs_len (m : Msg) (a b c d : Value) : (msgCs m a b c d).length = 27 := rfl
theorem one_msgCs (m : Msg) {A B C D : Option Addr} {a b c d a' b' c' d' : Nat} : ∀ u ∈ msgCs m (.slice A a a') (.slice B b b') (.slice C c c') (.slice D d d'), u.oneCell' = true := by
  simp [msgCs, reqCs, verdictCs, Value.oneCell']
set_option maxRecDepth 20000 in
set_option maxHeartbeats 800000 in
theorem ownM_calls {m : Msg} {vc vv vi vk : Value} (hc : Sl .change w F vc m.value.changes) (hv : Sl .vote w F vv m.votes) (hi : Sl .u8 w F vi m.image) (hk : Sl .commit w F vk m.verdict.commits)
    (hF : ∀ q, F q → q < w.heap.size) (hok : m.Ok) (h1 : m.value.changes.length ≤ 4294967296) (h2 : m.votes.length ≤ 4294967296) (h3 : m.image.length ≤ 4294967296) (h4 : m.verdict.commits.length ≤ 4294967296)
    (h5 : ∀ x ∈ m.votes, x.value.changes.length ≤ 4294967296) (h6 : ∀ x ∈ m.verdict.commits, x.changes.length ≤ 4294967296) :
    Calls Try.prog 25 #[.agg (msgCs m vc vv vi vk).toArray] w fun e w' => ∃ vs, e = .returned (.agg vs.toArray) ∧ Rep.msg.cells w' (NewIn w w') m vs ∧ Keep (fun _ => False) w w' := by
  obtain ⟨Ac, cc, rfl⟩ := hc.shape
  obtain ⟨Av, cv, rfl⟩ := hv.shape
  obtain ⟨Ai, ci, rfl⟩ := hi.shape
  obtain ⟨Ak, ck, rfl⟩ := hk.shape
  generalize hnc : m.value.changes.length = nc at *
  generalize hnv : m.votes.length = nv at *
  generalize hni : m.image.length = ni at *
  generalize hnk : m.verdict.commits.length = nk at *
  have HNC := hid hnc
  have HNV := hid hnv
  have HNI := hid hni
  have HNK := hid hnk
  have HC := hid hc
  have HV := hid hv
  have HI := hid hi
  have HK := hid hk
  have H5 := hid h5
  have H6 := hid h6
  have HFF := hid hF
  have HOK := hid hok
  clear hnc hnv hni hnk hc hv hi hk h5 h6 hF hok
  go_enter Try.func25, Try.ntmps25
  go_wp2_with (first
    | (refine wpl_boxB (v := .agg (msgCs m (.slice Ac nc cc) (.slice Av nv cv) (.slice Ai ni ci) (.slice Ak nk ck)).toArray) rfl rfl rfl ?_; intro g w1 hg hb1 k1 s1; have HG := hid hg; clear hg)
    | (refine wpl_allocB (z := .agg (msgCs msgZ nilV nilV nilV nilV).toArray) rfl rfl (by kernel_rfl) ?_; intro g2 w2 hg2 hb2 k2 s2; have HG2 := hid hg2; clear hg2; replace hb1 := k2.heap hb1 id)
    | (refine wpl_loadA rfl rfl rfl hb1 (by kernel_rfl) (by kernel_rfl) (reqCs m.value (.slice Ac nc cc)) rfl rfl ?_))
  have k02 := k1.trans k2 (fun _ _ q => q)
  refine (request_calls (r := m.value) (HC.out.keep k02 (fun _ _ => id)) (by rw [HNC.out]; exact h1)).mono ?_
  rintro e w3 ⟨v3, rfl, hs3, k3⟩
  obtain ⟨A3, c3, rfl⟩ := hs3.shape
  rw [HNC.out] at hs3 ⊢
  have k03 := k02.trans k3 (fun _ _ q => q)
  replace hb1 := k3.heap hb1 id
  replace hb2 := k3.heap hb2 id
  have HS := hid hs3
  clear hs3
  go_wp2_with (first
    | (refine wpl_storeB (v := .agg (reqCs m.value (.slice A3 nc c3)).toArray) rfl rfl rfl rfl hb1 (by kernel_rfl) (by simp [reqCs, msgCs, verdictCs, Value.cells]) (by simp [reqCs, Value.oneCell', Value.cells]) ?_; intro w4 hb4 k4 s4; replace hb1 : w4.heap[g]? = some (.cells (msgCs m (.slice A3 nc c3) (.slice Av nv cv) (.slice Ai ni ci) (.slice Ak nk ck)).toArray 32) := hb4; clear hb4; replace hb2 := k4.heap hb2 (fun e => by have := HG2.out; omega))
    | (refine wpl_load1 rfl rfl rfl hb1 (by kernel_rfl) (v := .slice Av nv cv) rfl ?_))
  have k34 : Keep (fun k => w.heap.size ≤ k) w w4 := (k03.mono (fun _ _ q => q.elim)).trans k4 (fun b hb e => by have := HG.out; omega)
  obtain ⟨cs0, hrow0, hparts0⟩ := (HV.out.keep k34 (fun q hq e => by have := HFF.out q hq; omega)).cells
  rw [HNV.out] at hrow0
  have HP0 := hid hparts0
  have h1c := row_one (by decide) vote_one (by have := hrow0; obtain ⟨_, _, _, q, _⟩ := this; rw [HNV.out]; exact q) hparts0
  clear hparts0
  refine (clone_V hrow0 h1c h2).mono ?_
  rintro e w5 ⟨A5, c5, rfl, ho5, hn5, k5⟩
  replace hb1 := k5.heap hb1 id
  replace hb2 := k5.heap hb2 id
  clear hrow0 h1c
  go_wp2_with (first
    | (refine wpl_storeB (v := .slice A5 nv c5) rfl rfl rfl rfl hb1 (by kernel_rfl) (by simp [reqCs, msgCs, verdictCs, Value.cells]) (by simp [Value.oneCell', Value.cells]) ?_; intro w6 hb6 k6 s6; replace hb1 : w6.heap[g]? = some (.cells (msgCs m (.slice A3 nc c3) (.slice A5 nv c5) (.slice Ai ni ci) (.slice Ak nk ck)).toArray 32) := hb6; clear hb6; replace hb2 := k6.heap hb2 (fun e => by have := HG2.out; omega))
    | (refine wpl_load1 rfl rfl rfl hb1 (by kernel_rfl) (v := .slice A5 nv c5) rfl ?_))
  have HS6 := hid ((((HS.out.keep k4 (fun q hq e => by have := HG.out; have := HG2.out; have := hq.1; omega)).keep k5 (fun _ _ q => q)).keep k6 (fun q hq e => by have := HG.out; have := HG2.out; have := hq.1; omega)))
  have z3 := k3.size
  have z5 := k5.size
  have hgB : g < w3.heap.size := by have := HG2.out; omega
  have hg2B : g2 < w3.heap.size := by have := HG2.out; omega
  have ho6 := k6.owns ho5 (fun q hq e => by have := hn5 q hq; omega)
  have HK6 := hid (((k34.trans k5 (fun _ _ q => q.elim)).trans k6 (fun b hb e => by have := HG.out; omega)))
  have H0 : CopyAt voteK 43 w3.heap.size F w4 (.slice A5 nv c5) m.votes 0 w6 := CopyAt.start (S := fun k => k = g) ho6 HNV.out (fun q hq => by have := hn5 q hq; omega) HP0.out ((k5.mono (fun _ _ q => q.elim)).trans k6 (fun _ _ e => e)) (fun q hq e => by have := HFF.out q hq; have := HG.out; omega)
  have K6 := hid k6
  clear HS HP0 ho5 ho6 hn5 k5 k6 k4 k3 k34
  go_loopw [16] (fun i wr => ∃ k : Nat, k ≤ nv ∧ i = .int .i64 k ∧ CopyAt voteK 43 w3.heap.size F w4 (.slice A5 nv c5) m.votes k wr ∧ Keep (fun q => w3.heap.size ≤ q) w6 wr) (fun i _ => nv - (intOf i).toNat)
  case atStart => exact ⟨0, Nat.zero_le _, rfl, H0, Keep.refl _ _⟩
  case round =>
    obtain ⟨k, hk, rfl, hat, hkp⟩ := hrel
    have hbr1 := hkp.heap hb1 (by omega)
    have hbr2 := hkp.heap hb2 (by omega)
    have zr := hkp.size
    by_cases hlt : k < nv
    · obtain ⟨x, hx⟩ : ∃ x, m.votes[k]? = some x := ⟨m.votes[k]'(by rw [HNV.out]; exact hlt), by simp [HNV.out, hlt]⟩
      obtain ⟨gv, cur, cap, v, he, hgv, hbv, hfit, hcell, hsv⟩ := hat.at hx
      simp only [Value.slice.injEq] at he
      obtain ⟨rfl, hlen, rfl⟩ := he
      clear hlen
      obtain ⟨Av', cv', rfl⟩ := hsv.shape
      obtain ⟨nx, hnx⟩ : ∃ nx, nx = (voteK.ch x).length := ⟨_, rfl⟩
      rw [← hnx] at hcell hsv
      have HNX := hid hnx
      have hlx := H5.out x (List.mem_of_getElem? hx)
      have HX := hid hx
      have HAT := hid hat
      have c7 : wr.cell? ⟨g, 17, none⟩ = some (.slice (some ⟨gv, 0, none⟩) nv c5) := cell_at hbr1 17 _ rfl
      have e0 : wr.cell? ⟨gv, k * 13 + 2, none⟩ = some (.int .i64 x.value.kind) := hcell 2 _ rfl
      have e1 : wr.cell? ⟨gv, k * 13 + 3, none⟩ = some (.string x.value.name) := hcell 3 _ rfl
      have e2 : wr.cell? ⟨gv, k * 13 + 4, none⟩ = some (.int .i64 x.value.session) := hcell 4 _ rfl
      have e3 : wr.cell? ⟨gv, k * 13 + 5, none⟩ = some (.int .i64 x.value.seq) := hcell 5 _ rfl
      have e4 : wr.cell? ⟨gv, k * 13 + 6, none⟩ = some (.int .i64 x.value.base) := hcell 6 _ rfl
      have e5 : wr.cell? ⟨gv, k * 13 + 7, none⟩ = some (.string x.value.ref) := hcell 7 _ rfl
      have e6 : wr.cell? ⟨gv, k * 13 + 8, none⟩ = some (.slice Av' nx cv') := hcell 8 _ rfl
      have e7 : wr.cell? ⟨gv, k * 13 + 9, none⟩ = some (.string x.value.path) := hcell 9 _ rfl
      have e8 : wr.cell? ⟨gv, k * 13 + 10, none⟩ = some (.int .i64 x.value.from') := hcell 10 _ rfl
      have e9 : wr.cell? ⟨gv, k * 13 + 11, none⟩ = some (.int .i64 x.value.many) := hcell 11 _ rfl
      have e10 : wr.cell? ⟨gv, k * 13 + 12, none⟩ = some (.int .i64 x.value.member) := hcell 12 _ rfl
      have HSV := hid hsv
      clear hx hat hcell hsv hnx H0
      go_wp2_with fail
      have hfit2 : k * 13 + 2 + 11 ≤ cur.size := by have : (k + 1) * 13 ≤ cur.size := hfit; omega
      go_region_with (first | (go_at_call 44; refine (request_calls (r := x.value) (v := .slice Av' nx cv') (F := F) (HSV.out.keep ((Keep.refl (fun _ => False) _).drewN _) (fun _ _ => id)) hlx).mono ?_; rintro e w7 ⟨v7, rfl, hs7, k7⟩; obtain ⟨A7, c7', rfl⟩ := hs7.shape; have d7 := k7.cell c7 id; have hst := run_stC (P := Try.prog) (vs := reqCs x.value (.slice A7 x.value.changes.length c7')) (k7.heap hbv id) hfit2 (by simp [reqCs, Value.oneCell']); have hl11 : (reqCs x.value (.slice A7 x.value.changes.length c7')).length = 11 := rfl))
      all_goals
        obtain ⟨q1, q2, q3⟩ := HAT.out.step HX.out (w1 := w7) (v1 := .slice A7 x.value.changes.length c7') (((Keep.refl (fun _ => False) wr).drewN 1).trans k7 (fun _ _ q => q)) hs7 (by omega) (fun q hq => by have := HFF.out q hq; have := HG.out; omega) (by rw [HNV.out])
        go_wp2_with fail
        exact ⟨⟨k + 1, by omega, by simp, q1, hkp.trans q2 (fun b hb e => by omega)⟩, by simp [intOf]; omega⟩
    · have hsv := hat.done (by rw [HNV.out]; omega)
      clear hat
      have HSV := hid hsv
      have HS7 := hid (HS6.out.keep hkp (fun q hq e => by have := hq.2; omega))
      have HK7 := hid (HK6.out.trans hkp (fun b hb q => by have := HG.out; omega))
      clear hsv hb1 hb2 H0 hkp
      go_wp2_with (first
        | (refine wpl_load1 rfl rfl rfl hbr1 (by kernel_rfl) (v := .slice Ai ni ci) rfl ?_))
      have hIr := (HI.out.keep HK7.out (fun q hq e => by have := HFF.out q hq; omega)).row
      rw [HNI.out] at hIr
      refine (clone_B (cs := m.image.map U8) hIr (by simp [U8, Value.oneCell']) h3).mono ?_
      rintro e w8 ⟨A8, c8, rfl, ho8, hn8, k8⟩
      replace hbr1 := k8.heap hbr1 id
      replace hbr2 := k8.heap hbr2 id
      clear hIr
      go_wp2_with (first
        | (refine wpl_storeB (v := .slice A8 ni c8) rfl rfl rfl rfl hbr1 (by kernel_rfl) (by simp [reqCs, msgCs, verdictCs, Value.cells]) (by simp [Value.oneCell', Value.cells]) ?_; intro w9 hb9 k9 s9; replace hbr1 : w9.heap[g]? = some (.cells (msgCs m (.slice A3 nc c3) (.slice A5 nv c5) (.slice A8 ni c8) (.slice Ak nk ck)).toArray 32) := hb9; clear hb9; replace hbr2 := k9.heap hbr2 (fun e => by have := HG2.out; omega))
        | (refine wpl_load1 rfl rfl rfl hbr1 (by kernel_rfl) (v := .slice Ak nk ck) rfl ?_))
      have z8 := k8.size
      have ho9 := k9.owns ho8 (fun q hq e => by have := hn8 q hq; omega)
      have HI9 : Hid (Sl .u8 w9 (fun q => wr.heap.size ≤ q ∧ q < w9.heap.size) (.slice A8 ni c8) m.image) := hid (Sl.ofBytes (by rw [HNI.out]; exact (Row.ofOwn ho9).mono (fun q hq => ⟨hn8 q hq.symm, own_lt' ho9 q hq.symm⟩)))
      have HC9 := hid ((HS7.out.keep k8 (fun _ _ q => q)).keep k9 (fun q hq e => by have := hq.1; have := HG.out; have := HG2.out; omega))
      have HV9 := hid ((HSV.out.keep k8 (fun _ _ q => q)).keep k9 (fun q hq e => by have := hq.1; omega))
      have HK9 := hid ((HK7.out.trans k8 (fun _ _ q => q.elim)).trans k9 (fun b hb e => by have := HG.out; omega))
      obtain ⟨ck0, hrowk, hpartsk⟩ := (HK.out.keep HK9.out (fun q hq e => by have := HFF.out q hq; omega)).cells
      rw [HNK.out] at hrowk
      have HPK := hid hpartsk
      have h1k := row_one (by decide) commit_one (by have := hrowk; obtain ⟨_, _, _, q, _⟩ := this; rw [HNK.out]; exact q) hpartsk
      clear hpartsk ho8 hn8 ho9 k8 k9 HS7 HSV
      refine (clone_K hrowk h1k h4).mono ?_
      rintro e w10 ⟨A10, c10, rfl, ho10, hn10, k10⟩
      replace hbr1 := k10.heap hbr1 id
      replace hbr2 := k10.heap hbr2 id
      clear hrowk h1k
      go_wp2_with (first
        | (refine wpl_storeB (v := .slice A10 nk c10) rfl rfl rfl rfl hbr1 (by kernel_rfl) (by simp [reqCs, msgCs, verdictCs, Value.cells]) (by simp [Value.oneCell', Value.cells]) ?_; intro w11 hb11 k11 s11; replace hbr1 : w11.heap[g]? = some (.cells (msgCs m (.slice A3 nc c3) (.slice A5 nv c5) (.slice A8 ni c8) (.slice A10 nk c10)).toArray 32) := hb11; clear hb11; replace hbr2 := k11.heap hbr2 (fun e => by have := HG2.out; omega))
        | (refine wpl_load1 rfl rfl rfl hbr1 (by kernel_rfl) (v := .slice A10 nk c10) rfl ?_))
      have z10 := k10.size
      have ho11 := k11.owns ho10 (fun q hq e => by have := hn10 q hq; omega)
      have HI11 := hid ((HI9.out.keep k10 (fun _ _ q => q)).keep k11 (fun q hq e => by have := hq.1; omega))
      have HC11 := hid ((HC9.out.keep k10 (fun _ _ q => q)).keep k11 (fun q hq e => by have := hq.1; have := HG.out; have := HG2.out; omega))
      have HV11 := hid ((HV9.out.keep k10 (fun _ _ q => q)).keep k11 (fun q hq e => by have := hq.1; omega))
      have HK11 := hid ((HK9.out.trans k10 (fun _ _ q => q.elim)).trans k11 (fun b hb e => by have := HG.out; omega))
      have H1 : CopyAt commitK 73 w9.heap.size F w9 (.slice A10 nk c10) m.verdict.commits 0 w11 := CopyAt.start (S := fun k => k = g) ho11 HNK.out (fun q hq => hn10 q hq) HPK.out ((k10.mono (fun _ _ q => q.elim)).trans k11 (fun _ _ e => e)) (fun q hq e => by have := HFF.out q hq; have := HG.out; omega)
      clear HI9 HC9 HV9 HK9 HPK ho10 ho11 hn10 k10 k11
      go_loopw [46] (fun i wt => ∃ j : Nat, j ≤ nk ∧ i = .int .i64 j ∧ CopyAt commitK 73 w9.heap.size F w9 (.slice A10 nk c10) m.verdict.commits j wt ∧ Keep (fun q => w9.heap.size ≤ q) w11 wt) (fun i _ => nk - (intOf i).toNat)
      case atStart => exact ⟨0, Nat.zero_le _, rfl, H1, Keep.refl _ _⟩
      case round =>
        obtain ⟨j, hj, rfl, hat, hkq⟩ := hrel
        have hbt1 := hkq.heap hbr1 (by omega)
        have hbt2 := hkq.heap hbr2 (by omega)
        have zt := hkq.size
        by_cases hlt2 : j < nk
        · obtain ⟨x, hx⟩ : ∃ x, m.verdict.commits[j]? = some x := ⟨m.verdict.commits[j]'(by rw [HNK.out]; exact hlt2), by simp [HNK.out, hlt2]⟩
          obtain ⟨gk, cur, cap, v, he, hgk, hbk, hfit, hcell, hsv⟩ := hat.at hx
          simp only [Value.slice.injEq] at he
          obtain ⟨rfl, hlen, rfl⟩ := he
          clear hlen
          obtain ⟨Av', cv', rfl⟩ := hsv.shape
          obtain ⟨nx, hnx⟩ : ∃ nx, nx = (commitK.ch x).length := ⟨_, rfl⟩
          rw [← hnx] at hcell hsv
          have HNX := hid hnx
          have hlx := H6.out x (List.mem_of_getElem? hx)
          have HX := hid hx
          have HAT := hid hat
          have c7 : wr.cell? ⟨g, 25, none⟩ = some (.slice (some ⟨gk, 0, none⟩) nk c10) := cell_at hbt1 25 _ rfl
          have e0 : wr.cell? ⟨gk, j * 4 + 3, none⟩ = some (.slice Av' nx cv') := hcell 3 _ rfl
          have HSV := hid hsv
          clear hx hat hcell hsv hnx H1
          have hfit2 : j * 4 + 3 + 1 ≤ cur.size := by have : (j + 1) * 4 ≤ cur.size := hfit; omega
          go_wp2_with fail
          go_region_with (first | (go_at_call 48; refine (cloneC_n HNX.out.symm (HSV.out.keep ((Keep.refl (fun _ => False) _).drewN _) (fun _ _ => id)) (by rw [HNX.out]; exact hlx)).mono ?_; rintro e w12 ⟨A12, c12, rfl, hs12, k12⟩; have d7 := k12.cell c7 id; have d0 := k12.cell e0 id; have hfr := frozen_at (k12.heap hbk id) (j * 4 + 3)))
          all_goals
            obtain ⟨q1, q2, q3⟩ := HAT.out.step HX.out (w1 := w12) (v1 := .slice A12 nx c12) (((Keep.refl (fun _ => False) wr).drewN 1).trans k12 (fun _ _ q => q)) hs12 (by omega) (fun q hq => by have := HFF.out q hq; have := HG.out; omega) (by rw [HNK.out])
            go_wp2_with fail
            exact ⟨⟨j + 1, by omega, by simp, q1, hkq.trans q2 (fun b hb e => by omega)⟩, by simp [intOf]; omega⟩
        · have hsk := hat.done (by rw [HNK.out]; omega)
          have HSK := hid hsk
          have HC12 := hid (HC11.out.keep hkq (fun q hq e => by have := hq.2; omega))
          have HV12 := hid (HV11.out.keep hkq (fun q hq e => by have := hq.2; omega))
          have HI12 := hid (HI11.out.keep hkq (fun q hq e => by have := hq.2; omega))
          have HK12 := hid (HK11.out.trans hkq (fun b hb q => by have := HG.out; omega))
          clear hsk hat hbr1 hbr2 H1 hkq
          go_wp2_with (first
            | (refine wpl_loadA rfl rfl rfl hbt1 (by kernel_rfl) (by kernel_rfl) (msgCs m (.slice A3 nc c3) (.slice A5 nv c5) (.slice A8 ni c8) (.slice A10 nk c10)) rfl rfl ?_)
            | (refine wpl_storeB (v := .agg (msgCs m (.slice A3 nc c3) (.slice A5 nv c5) (.slice A8 ni c8) (.slice A10 nk c10)).toArray) rfl rfl rfl rfl hbt2 (by kernel_rfl) (by simp [reqCs, msgCs, verdictCs, Value.cells]) (by intro u hu; exact one_msgCs m u (by simpa [Value.cells] using hu)) ?_; intro w13 hb13 k13 s13))
          refine bodyPost_ret (res_cell (g := g2) (cs := (msgCs m (.slice A3 nc c3) (.slice A5 nv c5) (.slice A8 ni c8) (.slice A10 nk c10)).toArray) Try.results25 _ rfl hb13 (by kernel_rfl) (by kernel_rfl)) rfl ?_
          have e1 := HG.out
          have e2 := HG2.out
          refine ⟨_, rfl, msg_mk ((HC12.out.keep k13 ?_).mono ?_) ((HV12.out.keep k13 ?_).mono ?_) ((HI12.out.keep k13 ?_).mono ?_) ((HSK.out.keep k13 ?_).mono ?_) HOK.out, (HK12.out.trans k13 ?_).mono ?_⟩
          · intro q hq e; have := hq.1; omega
          · intro q hq; have := hq.1; have := hq.2; exact ⟨by omega, by omega⟩
          · intro q hq e; have := hq.1; omega
          · intro q hq; have := hq.1; have := hq.2; exact ⟨by omega, by omega⟩
          · intro q hq e; have := hq.1; omega
          · intro q hq; have := hq.1; have := hq.2; exact ⟨by omega, by omega⟩
          · intro q hq e; have := hq.1; omega
          · intro q hq; have := hq.1; have := hq.2; exact ⟨by omega, by omega⟩
          · intro b hb e; omega
          · intro b hb e; omega
end
end Go.Proofs.Ytofljidmdabkcaa

/- net.own, and that the copy's changes may be written. -/
import Derived.Test.YtofljidmdabkcaaCp
import Derived.Deep.RegionWith
import Derived.Deep.RegionHeld3
namespace Go.Proofs.Ytofljidmdabkcaa
open Go.RowKit
/-- A row whose cells may be written. -/
def Wr (w : World) (A : Option Addr) (n size : Nat) (e : TypeId) : Prop := n = 0 ∨ ∃ b cur, A = some ⟨b, 0, none⟩ ∧ w.heap[b]? = some (.cells cur e) ∧ n * size ≤ cur.size
theorem Wr.ofOwn {w : World} {A : Option Addr} {n c size : Nat} {e : TypeId} {cs : List Value} (h : w.ownsRow 0 e size (.slice A n c) n cs) : Wr w A n size e := by
  rcases h.2 with ⟨_, h⟩ | ⟨g, cap, cur, he, _, hg, hn, _, hs, _⟩
  · exact .inl h
  · simp only [Value.slice.injEq] at he
    obtain ⟨rfl, _, rfl⟩ := he
    exact .inr ⟨g, cur, rfl, hg, by rw [hs]; exact Nat.mul_le_mul_right _ hn⟩
theorem Wr.keep {S : Nat → Prop} {w w' : World} {A : Option Addr} {n size : Nat} {e : TypeId} (h : Wr w A n size e) (hk : Keep S w w') (hS : ∀ b, A = some ⟨b, 0, none⟩ → ¬ S b) : Wr w' A n size e := by
  rcases h with h | ⟨b, cur, hA, hb, hs⟩
  · exact .inl h
  · exact .inr ⟨b, cur, hA, hk.heap hb (hS b hA), hs⟩
theorem Wr.at {w : World} {A : Option Addr} {n size k : Nat} {e : TypeId} (h : Wr w A n size e) (hk : k < n) (hs : 0 < size) :
    ∃ b v, A = some ⟨b, 0, none⟩ ∧ w.cell? ⟨b, k * size, none⟩ = some v ∧ w.frozen? ⟨b, k * size, none⟩ = false ∧ ∀ u, Wr (w.setCell ⟨b, k * size, none⟩ u) A n size e := by
  rcases h with h | ⟨b, cur, hA, hb, hn⟩
  · omega
  · have hle : (k + 1) * size ≤ n * size := Nat.mul_le_mul_right _ hk
    rw [Nat.succ_mul] at hle
    have hlt : k * size < cur.size := by omega
    exact ⟨b, cur[k * size], hA, cell_at hb _ _ (by simp [hlt]), free_at hb _, fun u => .inr ⟨b, _, hA, heap_set hb _ _, by simpa using hn⟩⟩
theorem Wr.set {w : World} {A : Option Addr} {n size : Nat} {e : TypeId} (h : Wr w A n size e) (b o : Nat) (u : Value) : Wr (w.setCell ⟨b, o, none⟩ u) A n size e := by
  rcases h with h | ⟨b', cur, hA, hb, hn⟩
  · exact .inl h
  · by_cases e : b' = b
    · subst e
      exact .inr ⟨b', _, hA, heap_set hb _ _, by simpa using hn⟩
    · exact .inr ⟨b', cur, hA, heap_set_ne hb _ _ e, hn⟩
/-- A list of changes in a row that may be written, all of it in F. -/
structure SlW (w : World) (F : Nat → Prop) (A : Option Addr) (n c : Nat) (l : List Change) : Prop where
  sl : Sl .change w F (.slice A n c) l
  wr : Wr w A n 3 48
  own : ∀ b, A = some ⟨b, 0, none⟩ → F b
section
variable {F G S : Nat → Prop} {w w' : World} {A : Option Addr} {n c : Nat} {l : List Change}
theorem SlW.keep (h : SlW w F A n c l) (hk : Keep S w w') (hd : ∀ k, F k → ¬ S k) : SlW w' F A n c l := ⟨h.sl.keep hk hd, h.wr.keep hk (fun b hb => hd b (h.own b hb)), h.own⟩
theorem SlW.mono (h : SlW w F A n c l) (hF : ∀ k, F k → G k) : SlW w G A n c l := ⟨h.sl.mono hF, h.wr, fun b hb => hF b (h.own b hb)⟩
set_option maxRecDepth 20000 in
theorem cloneC_w {v : Value} {l : List Change} (hv : Sl .change w F v l) (hl : l.length ≤ 4294967296) :
    Calls Try.prog 48 #[v] w fun e w' => ∃ A' c', e = .returned (.slice A' l.length c') ∧ SlW w' (NewIn w w') A' l.length c' l ∧ Keep (fun _ => False) w w' := by
  have T : SlT Try.prog 22 48 (.agg #[.string ByteArray.empty, .bool false, .int .u64 0]) 3 32 := SlT.mk' Try.underlying22 (by kernel_rfl) rfl (by decide)
  obtain ⟨A, c, rfl⟩ := hv.shape
  obtain ⟨cs, hrow, hcs⟩ := hv.cells
  have HCS := hid hcs
  have h1c : ∀ u ∈ cs, u.oneCell' = true := row_one (by decide) change_one (by obtain ⟨_, _, _, h, _⟩ := hrow; exact h) hcs
  have hlen : cs.length = l.length * 3 := by obtain ⟨_, _, _, h, _⟩ := hrow; exact h
  generalize hn : l.length = n at *
  have HN := hid hn
  clear hcs hn
  rcases A with _ | ⟨b, off, p⟩
  · have hnil := fun w => Lib.run_eql_slice_nil (P := Try.prog) w 22 48 none 0 c 0 0 Try.underlying22
    have hl0 : n = 0 := by
      obtain ⟨_, _, he, _, h, _, h0 | ⟨b, off, hA, _⟩⟩ := hrow
      · simp only [Value.slice.injEq] at he; omega
      · simp only [Value.slice.injEq] at he; rw [← he.1] at hA; cases hA
    go_enter Try.func48, Try.ntmps48
    go_wp2_with fail
    refine bodyPost_ret (v := .slice none 0 0) (by simp [results, Try.results48, go_sem]) rfl ?_
    have hnil : l = [] := List.eq_nil_of_length_eq_zero (by rw [HN.out]; exact hl0)
    subst hnil
    subst hl0
    exact ⟨none, 0, rfl, ⟨⟨none, 0, rfl, Nat.le_refl _, Nat.zero_le _, .inl rfl⟩, .inl rfl, fun b hb => by cases hb⟩, Keep.refl _ _⟩
  · have hnil := fun w => Lib.run_eql_slice_nil (P := Try.prog) w 22 48 (some ⟨b, off, p⟩) n c 0 0 Try.underlying22
    go_enter Try.func48, Try.ntmps48
    have hown : (w.alloc (.cells #[] 48)).ownsRow 0 48 3 (.slice (some ⟨w.heap.size, 0, none⟩) 0 0) 0 [] := ⟨rfl, .inr ⟨w.heap.size, 0, #[], rfl, Nat.zero_le _, heap_alloc_new w _, Nat.le_refl _, Nat.zero_le _, rfl, rfl⟩⟩
    have hrow' : Row F (w.alloc (.cells #[] 48)) (.slice (some ⟨b, off, p⟩) n c) n 3 cs := hrow.keep ((Keep.refl (fun _ => False) w).alloc _) (fun _ _ => id)
    go_wp2_with (at_builtin; refine stopHere ?_)
    refine goOn (wpl_app (v := .slice (some ⟨w.heap.size, 0, none⟩) 0 0) rfl rfl T rfl hown rfl hrow' h1c (by omega) (by omega) ?_)
    intro A1 c1 w1 ho1 hk1 hn1
    have hk : Keep (fun _ => False) w w1 := ((Keep.refl (fun _ => False) w).alloc _).trans hk1 (fun q hq e => by simp only [Value.ownBlock, Option.some.injEq] at e; omega)
    rw [Nat.zero_add, List.nil_append] at ho1
    rw [Nat.zero_add] at hn1
    go_wp2_with fail
    refine bodyPost_ret (v := .slice A1 n c1) (by simp [results, Try.results48, go_sem]) rfl ?_
    have hf : ∀ k, some k = (Value.slice A1 n c1).ownBlock → NewIn w w1 k := fun k hk => ⟨by
      rcases hn1 k hk.symm with q | q
      · simp only [Value.ownBlock, Option.some.injEq] at q; omega
      · simp at q; omega, own_lt' ho1 k hk.symm⟩
    refine ⟨A1, c1, rfl, ⟨?_, Wr.ofOwn ho1, fun b hb => hf b (by rw [hb]; rfl)⟩, hk⟩
    have hr : Row (NewIn w w1) w1 (.slice A1 n c1) n 3 cs := (Row.ofOwn ho1).mono (fun k hk => hf k hk)
    exact Sl.ofRow (by rw [HN.out]; exact hr) (fun i x hx => HCS.out i x hx)
set_option maxRecDepth 20000 in
theorem request_w {r : Req} {v : Value} (hv : Sl .change w F v r.changes) (hl : r.changes.length ≤ 4294967296) :
    Calls Try.prog 44 #[.agg (reqCs r v).toArray] w fun e w' => ∃ A' c', e = .returned (.agg (reqCs r (.slice A' r.changes.length c')).toArray) ∧ SlW w' (NewIn w w') A' r.changes.length c' r.changes ∧ Keep (fun _ => False) w w' := by
  obtain ⟨A, c, rfl⟩ := hv.shape
  have HV := hid hv
  clear hv
  obtain ⟨n, hn⟩ : ∃ n, r.changes.length = n := ⟨_, rfl⟩
  rw [hn] at HV hl ⊢
  have HN := hid hn
  clear hn
  go_enter Try.func44, Try.ntmps44
  go_wp2_with (first
    | (refine wpl_boxB (v := .agg (reqCs r (.slice A n c)).toArray) rfl rfl rfl ?_; intro g w1 hg hb1 k1 s1; have HG := hid hg; clear hg)
    | (refine wpl_allocB (z := .agg (reqCs reqZ' (.slice none 0 0)).toArray) rfl rfl (by kernel_rfl) ?_; intro g2 w2 hg2 hb2 k2 s2; have HG2 := hid hg2; clear hg2; have hb1 := k2.heap hb1 id)
    | (refine wpl_load1 rfl rfl rfl hb1 (by kernel_rfl) (v := .slice A n c) rfl ?_))
  have k02 := k1.trans k2 (fun _ _ q => q)
  refine (cloneC_w (HV.out.keep k02 (fun _ _ => id)) (by rw [HN.out]; exact hl)).mono ?_
  rintro e w3 ⟨A3, c3, rfl, hs3, k3⟩
  rw [HN.out] at hs3 ⊢
  replace hb1 := k3.heap hb1 id
  replace hb2 := k3.heap hb2 id
  have HS := hid hs3
  clear hs3
  go_wp2_with (first
    | (refine wpl_loadA rfl rfl rfl hb1 (by kernel_rfl) (by kernel_rfl) (reqCs r (.slice A3 n c3)) rfl rfl ?_)
    | (refine wpl_storeB (v := .slice A3 n c3) rfl rfl rfl rfl hb1 (by kernel_rfl) (by simp [reqCs, Value.cells]) (by simp [Value.oneCell', Value.cells]) ?_; intro w4 hb4 k4 s4; replace hb1 := hb4; replace hb2 := k4.heap hb2 (fun e => by have := HG2.out; omega))
    | (refine wpl_storeB (v := .agg (reqCs r (.slice A3 n c3)).toArray) rfl rfl rfl rfl hb2 (by kernel_rfl) (by simp [reqCs, Value.cells]) (by simp [Value.oneCell', reqCs, Value.cells]) ?_; intro w5 hb5 k5 s5))
  refine bodyPost_ret (res_cell (g := g2) (cs := (reqCs r (.slice A3 n c3)).toArray) Try.results44 _ rfl hb5 (by kernel_rfl) (by kernel_rfl)) rfl ?_
  have e1 := HG.out
  have e2 := HG2.out
  have q3 := k3.size
  refine ⟨_, _, rfl, ((HS.out.keep k4 ?_).keep k5 ?_).mono ?_, ((k02.trans k3 (fun _ _ q => q)).trans k4 ?_).trans k5 ?_⟩
  · intro k hk e; have := hk.1; omega
  · intro k hk e; have := hk.1; omega
  · intro k hk; have h1 := hk.1; have h2 := hk.2; exact ⟨by omega, by omega⟩
  · intro b hb e; omega
  · intro b hb e; omega
set_option maxRecDepth 20000 in
set_option maxHeartbeats 800000 in
theorem ownM_w {m : Msg} {vc vv vi vk : Value} (hc : Sl .change w F vc m.value.changes) (hv : Sl .vote w F vv m.votes) (hi : Sl .u8 w F vi m.image) (hk : Sl .commit w F vk m.verdict.commits)
    (hF : ∀ q, F q → q < w.heap.size) (hok : m.Ok) (h1 : m.value.changes.length ≤ 4294967296) (h2 : m.votes.length ≤ 4294967296) (h3 : m.image.length ≤ 4294967296) (h4 : m.verdict.commits.length ≤ 4294967296)
    (h5 : ∀ x ∈ m.votes, x.value.changes.length ≤ 4294967296) (h6 : ∀ x ∈ m.verdict.commits, x.changes.length ≤ 4294967296) :
    Calls Try.prog 25 #[.agg (msgCs m vc vv vi vk).toArray] w fun e w' => ∃ A c Av Ai Ak cv ci ck, e = .returned (.agg (msgCs m (.slice A m.value.changes.length c) (.slice Av m.votes.length cv) (.slice Ai m.image.length ci) (.slice Ak m.verdict.commits.length ck)).toArray) ∧ Rep.msg.cells w' (NewIn w w') m (msgCs m (.slice A m.value.changes.length c) (.slice Av m.votes.length cv) (.slice Ai m.image.length ci) (.slice Ak m.verdict.commits.length ck)) ∧ SlW w' (NewIn w w') A m.value.changes.length c m.value.changes ∧ Keep (fun _ => False) w w' := by
  obtain ⟨Ac, cc, rfl⟩ := hc.shape
  obtain ⟨Av, cv, rfl⟩ := hv.shape
  obtain ⟨Ai, ci, rfl⟩ := hi.shape
  obtain ⟨Ak, ck, rfl⟩ := hk.shape
  generalize hnc : m.value.changes.length = nc at *
  generalize hnv : m.votes.length = nv at *
  generalize hni : m.image.length = ni at *
  generalize hnk : m.verdict.commits.length = nk at *
  have HNC := hid hnc
  have HNV := hid hnv
  have HNI := hid hni
  have HNK := hid hnk
  have HC := hid hc
  have HV := hid hv
  have HI := hid hi
  have HK := hid hk
  have H5 := hid h5
  have H6 := hid h6
  have HFF := hid hF
  have HOK := hid hok
  clear hnc hnv hni hnk hc hv hi hk h5 h6 hF hok
  go_enter Try.func25, Try.ntmps25
  go_wp2_with (first
    | (refine wpl_boxB (v := .agg (msgCs m (.slice Ac nc cc) (.slice Av nv cv) (.slice Ai ni ci) (.slice Ak nk ck)).toArray) rfl rfl rfl ?_; intro g w1 hg hb1 k1 s1; have HG := hid hg; clear hg)
    | (refine wpl_allocB (z := .agg (msgCs msgZ nilV nilV nilV nilV).toArray) rfl rfl (by kernel_rfl) ?_; intro g2 w2 hg2 hb2 k2 s2; have HG2 := hid hg2; clear hg2; replace hb1 := k2.heap hb1 id)
    | (refine wpl_loadA rfl rfl rfl hb1 (by kernel_rfl) (by kernel_rfl) (reqCs m.value (.slice Ac nc cc)) rfl rfl ?_))
  have k02 := k1.trans k2 (fun _ _ q => q)
  refine (request_w (r := m.value) (v := .slice Ac nc cc) (F := F) (HC.out.keep k02 (fun _ _ => id)) (by rw [HNC.out]; exact h1)).mono ?_
  rintro e w3 ⟨A3, c3, rfl, hs3, k3⟩
  rw [HNC.out] at hs3 ⊢
  have k03 := k02.trans k3 (fun _ _ q => q)
  replace hb1 := k3.heap hb1 id
  replace hb2 := k3.heap hb2 id
  have HS := hid hs3
  clear hs3
  go_wp2_with (first
    | (refine wpl_storeB (v := .agg (reqCs m.value (.slice A3 nc c3)).toArray) rfl rfl rfl rfl hb1 (by kernel_rfl) (by simp [reqCs, msgCs, verdictCs, Value.cells]) (by simp [reqCs, Value.oneCell', Value.cells]) ?_; intro w4 hb4 k4 s4; replace hb1 : w4.heap[g]? = some (.cells (msgCs m (.slice A3 nc c3) (.slice Av nv cv) (.slice Ai ni ci) (.slice Ak nk ck)).toArray 32) := hb4; clear hb4; replace hb2 := k4.heap hb2 (fun e => by have := HG2.out; omega))
    | (refine wpl_load1 rfl rfl rfl hb1 (by kernel_rfl) (v := .slice Av nv cv) rfl ?_))
  have k34 : Keep (fun k => w.heap.size ≤ k) w w4 := (k03.mono (fun _ _ q => q.elim)).trans k4 (fun b hb e => by have := HG.out; omega)
  obtain ⟨cs0, hrow0, hparts0⟩ := (HV.out.keep k34 (fun q hq e => by have := HFF.out q hq; omega)).cells
  rw [HNV.out] at hrow0
  have HP0 := hid hparts0
  have h1c := row_one (by decide) vote_one (by have := hrow0; obtain ⟨_, _, _, q, _⟩ := this; rw [HNV.out]; exact q) hparts0
  clear hparts0
  refine (clone_V hrow0 h1c h2).mono ?_
  rintro e w5 ⟨A5, c5, rfl, ho5, hn5, k5⟩
  replace hb1 := k5.heap hb1 id
  replace hb2 := k5.heap hb2 id
  clear hrow0 h1c
  go_wp2_with (first
    | (refine wpl_storeB (v := .slice A5 nv c5) rfl rfl rfl rfl hb1 (by kernel_rfl) (by simp [reqCs, msgCs, verdictCs, Value.cells]) (by simp [Value.oneCell', Value.cells]) ?_; intro w6 hb6 k6 s6; replace hb1 : w6.heap[g]? = some (.cells (msgCs m (.slice A3 nc c3) (.slice A5 nv c5) (.slice Ai ni ci) (.slice Ak nk ck)).toArray 32) := hb6; clear hb6; replace hb2 := k6.heap hb2 (fun e => by have := HG2.out; omega))
    | (refine wpl_load1 rfl rfl rfl hb1 (by kernel_rfl) (v := .slice A5 nv c5) rfl ?_))
  have HS6 := hid ((((HS.out.keep k4 (fun q hq e => by have := HG.out; have := HG2.out; have := hq.1; omega)).keep k5 (fun _ _ q => q)).keep k6 (fun q hq e => by have := HG.out; have := HG2.out; have := hq.1; omega)))
  have z3 := k3.size
  have z5 := k5.size
  have hgB : g < w3.heap.size := by have := HG2.out; omega
  have hg2B : g2 < w3.heap.size := by have := HG2.out; omega
  have ho6 := k6.owns ho5 (fun q hq e => by have := hn5 q hq; omega)
  have HK6 := hid (((k34.trans k5 (fun _ _ q => q.elim)).trans k6 (fun b hb e => by have := HG.out; omega)))
  have H0 : CopyAt voteK 43 w3.heap.size F w4 (.slice A5 nv c5) m.votes 0 w6 := CopyAt.start (S := fun k => k = g) ho6 HNV.out (fun q hq => by have := hn5 q hq; omega) HP0.out ((k5.mono (fun _ _ q => q.elim)).trans k6 (fun _ _ e => e)) (fun q hq e => by have := HFF.out q hq; have := HG.out; omega)
  have K6 := hid k6
  clear HS HP0 ho5 ho6 hn5 k5 k6 k4 k3 k34
  go_loopw [16] (fun i wr => ∃ k : Nat, k ≤ nv ∧ i = .int .i64 k ∧ CopyAt voteK 43 w3.heap.size F w4 (.slice A5 nv c5) m.votes k wr ∧ Keep (fun q => w3.heap.size ≤ q) w6 wr) (fun i _ => nv - (intOf i).toNat)
  case atStart => exact ⟨0, Nat.zero_le _, rfl, H0, Keep.refl _ _⟩
  case round =>
    obtain ⟨k, hk, rfl, hat, hkp⟩ := hrel
    have hbr1 := hkp.heap hb1 (by omega)
    have hbr2 := hkp.heap hb2 (by omega)
    have zr := hkp.size
    by_cases hlt : k < nv
    · obtain ⟨x, hx⟩ : ∃ x, m.votes[k]? = some x := ⟨m.votes[k]'(by rw [HNV.out]; exact hlt), by simp [HNV.out, hlt]⟩
      obtain ⟨gv, cur, cap, v, he, hgv, hbv, hfit, hcell, hsv⟩ := hat.at hx
      simp only [Value.slice.injEq] at he
      obtain ⟨rfl, hlen, rfl⟩ := he
      clear hlen
      obtain ⟨Av', cv', rfl⟩ := hsv.shape
      obtain ⟨nx, hnx⟩ : ∃ nx, nx = (voteK.ch x).length := ⟨_, rfl⟩
      rw [← hnx] at hcell hsv
      have HNX := hid hnx
      have hlx := H5.out x (List.mem_of_getElem? hx)
      have HX := hid hx
      have HAT := hid hat
      have c7 : wr.cell? ⟨g, 17, none⟩ = some (.slice (some ⟨gv, 0, none⟩) nv c5) := cell_at hbr1 17 _ rfl
      have e0 : wr.cell? ⟨gv, k * 13 + 2, none⟩ = some (.int .i64 x.value.kind) := hcell 2 _ rfl
      have e1 : wr.cell? ⟨gv, k * 13 + 3, none⟩ = some (.string x.value.name) := hcell 3 _ rfl
      have e2 : wr.cell? ⟨gv, k * 13 + 4, none⟩ = some (.int .i64 x.value.session) := hcell 4 _ rfl
      have e3 : wr.cell? ⟨gv, k * 13 + 5, none⟩ = some (.int .i64 x.value.seq) := hcell 5 _ rfl
      have e4 : wr.cell? ⟨gv, k * 13 + 6, none⟩ = some (.int .i64 x.value.base) := hcell 6 _ rfl
      have e5 : wr.cell? ⟨gv, k * 13 + 7, none⟩ = some (.string x.value.ref) := hcell 7 _ rfl
      have e6 : wr.cell? ⟨gv, k * 13 + 8, none⟩ = some (.slice Av' nx cv') := hcell 8 _ rfl
      have e7 : wr.cell? ⟨gv, k * 13 + 9, none⟩ = some (.string x.value.path) := hcell 9 _ rfl
      have e8 : wr.cell? ⟨gv, k * 13 + 10, none⟩ = some (.int .i64 x.value.from') := hcell 10 _ rfl
      have e9 : wr.cell? ⟨gv, k * 13 + 11, none⟩ = some (.int .i64 x.value.many) := hcell 11 _ rfl
      have e10 : wr.cell? ⟨gv, k * 13 + 12, none⟩ = some (.int .i64 x.value.member) := hcell 12 _ rfl
      have HSV := hid hsv
      clear hx hat hcell hsv hnx H0
      go_wp2_with fail
      have hfit2 : k * 13 + 2 + 11 ≤ cur.size := by have : (k + 1) * 13 ≤ cur.size := hfit; omega
      go_region_with (first | (go_at_call 44; refine (request_calls (r := x.value) (v := .slice Av' nx cv') (F := F) (HSV.out.keep ((Keep.refl (fun _ => False) _).drewN _) (fun _ _ => id)) hlx).mono ?_; rintro e w7 ⟨v7, rfl, hs7, k7⟩; obtain ⟨A7, c7', rfl⟩ := hs7.shape; have d7 := k7.cell c7 id; have hst := run_stC (P := Try.prog) (vs := reqCs x.value (.slice A7 x.value.changes.length c7')) (k7.heap hbv id) hfit2 (by simp [reqCs, Value.oneCell']); have hl11 : (reqCs x.value (.slice A7 x.value.changes.length c7')).length = 11 := rfl))
      all_goals
        obtain ⟨q1, q2, q3⟩ := HAT.out.step HX.out (w1 := w7) (v1 := .slice A7 x.value.changes.length c7') (((Keep.refl (fun _ => False) wr).drewN 1).trans k7 (fun _ _ q => q)) hs7 (by omega) (fun q hq => by have := HFF.out q hq; have := HG.out; omega) (by rw [HNV.out])
        go_wp2_with fail
        exact ⟨⟨k + 1, by omega, by simp, q1, hkp.trans q2 (fun b hb e => by omega)⟩, by simp [intOf]; omega⟩
    · have hsv := hat.done (by rw [HNV.out]; omega)
      clear hat
      have HSV := hid hsv
      have HS7 := hid (HS6.out.keep hkp (fun q hq e => by have := hq.2; omega))
      have HK7 := hid (HK6.out.trans hkp (fun b hb q => by have := HG.out; omega))
      clear hsv hb1 hb2 H0 hkp
      go_wp2_with (first
        | (refine wpl_load1 rfl rfl rfl hbr1 (by kernel_rfl) (v := .slice Ai ni ci) rfl ?_))
      have hIr := (HI.out.keep HK7.out (fun q hq e => by have := HFF.out q hq; omega)).row
      rw [HNI.out] at hIr
      refine (clone_B (cs := m.image.map U8) hIr (by simp [U8, Value.oneCell']) h3).mono ?_
      rintro e w8 ⟨A8, c8, rfl, ho8, hn8, k8⟩
      replace hbr1 := k8.heap hbr1 id
      replace hbr2 := k8.heap hbr2 id
      clear hIr
      go_wp2_with (first
        | (refine wpl_storeB (v := .slice A8 ni c8) rfl rfl rfl rfl hbr1 (by kernel_rfl) (by simp [reqCs, msgCs, verdictCs, Value.cells]) (by simp [Value.oneCell', Value.cells]) ?_; intro w9 hb9 k9 s9; replace hbr1 : w9.heap[g]? = some (.cells (msgCs m (.slice A3 nc c3) (.slice A5 nv c5) (.slice A8 ni c8) (.slice Ak nk ck)).toArray 32) := hb9; clear hb9; replace hbr2 := k9.heap hbr2 (fun e => by have := HG2.out; omega))
        | (refine wpl_load1 rfl rfl rfl hbr1 (by kernel_rfl) (v := .slice Ak nk ck) rfl ?_))
      have z8 := k8.size
      have ho9 := k9.owns ho8 (fun q hq e => by have := hn8 q hq; omega)
      have HI9 : Hid (Sl .u8 w9 (fun q => wr.heap.size ≤ q ∧ q < w9.heap.size) (.slice A8 ni c8) m.image) := hid (Sl.ofBytes (by rw [HNI.out]; exact (Row.ofOwn ho9).mono (fun q hq => ⟨hn8 q hq.symm, own_lt' ho9 q hq.symm⟩)))
      have HC9 := hid ((HS7.out.keep k8 (fun _ _ q => q)).keep k9 (fun q hq e => by have := hq.1; have := HG.out; have := HG2.out; omega))
      have HV9 := hid ((HSV.out.keep k8 (fun _ _ q => q)).keep k9 (fun q hq e => by have := hq.1; omega))
      have HK9 := hid ((HK7.out.trans k8 (fun _ _ q => q.elim)).trans k9 (fun b hb e => by have := HG.out; omega))
      obtain ⟨ck0, hrowk, hpartsk⟩ := (HK.out.keep HK9.out (fun q hq e => by have := HFF.out q hq; omega)).cells
      rw [HNK.out] at hrowk
      have HPK := hid hpartsk
      have h1k := row_one (by decide) commit_one (by have := hrowk; obtain ⟨_, _, _, q, _⟩ := this; rw [HNK.out]; exact q) hpartsk
      clear hpartsk ho8 hn8 ho9 k8 k9 HS7 HSV
      refine (clone_K hrowk h1k h4).mono ?_
      rintro e w10 ⟨A10, c10, rfl, ho10, hn10, k10⟩
      replace hbr1 := k10.heap hbr1 id
      replace hbr2 := k10.heap hbr2 id
      clear hrowk h1k
      go_wp2_with (first
        | (refine wpl_storeB (v := .slice A10 nk c10) rfl rfl rfl rfl hbr1 (by kernel_rfl) (by simp [reqCs, msgCs, verdictCs, Value.cells]) (by simp [Value.oneCell', Value.cells]) ?_; intro w11 hb11 k11 s11; replace hbr1 : w11.heap[g]? = some (.cells (msgCs m (.slice A3 nc c3) (.slice A5 nv c5) (.slice A8 ni c8) (.slice A10 nk c10)).toArray 32) := hb11; clear hb11; replace hbr2 := k11.heap hbr2 (fun e => by have := HG2.out; omega))
        | (refine wpl_load1 rfl rfl rfl hbr1 (by kernel_rfl) (v := .slice A10 nk c10) rfl ?_))
      have z10 := k10.size
      have ho11 := k11.owns ho10 (fun q hq e => by have := hn10 q hq; omega)
      have HI11 := hid ((HI9.out.keep k10 (fun _ _ q => q)).keep k11 (fun q hq e => by have := hq.1; omega))
      have HC11 := hid ((HC9.out.keep k10 (fun _ _ q => q)).keep k11 (fun q hq e => by have := hq.1; have := HG.out; have := HG2.out; omega))
      have HV11 := hid ((HV9.out.keep k10 (fun _ _ q => q)).keep k11 (fun q hq e => by have := hq.1; omega))
      have HK11 := hid ((HK9.out.trans k10 (fun _ _ q => q.elim)).trans k11 (fun b hb e => by have := HG.out; omega))
      have H1 : CopyAt commitK 73 w9.heap.size F w9 (.slice A10 nk c10) m.verdict.commits 0 w11 := CopyAt.start (S := fun k => k = g) ho11 HNK.out (fun q hq => hn10 q hq) HPK.out ((k10.mono (fun _ _ q => q.elim)).trans k11 (fun _ _ e => e)) (fun q hq e => by have := HFF.out q hq; have := HG.out; omega)
      clear HI9 HC9 HV9 HK9 HPK ho10 ho11 hn10 k10 k11
      go_loopw [46] (fun i wt => ∃ j : Nat, j ≤ nk ∧ i = .int .i64 j ∧ CopyAt commitK 73 w9.heap.size F w9 (.slice A10 nk c10) m.verdict.commits j wt ∧ Keep (fun q => w9.heap.size ≤ q) w11 wt) (fun i _ => nk - (intOf i).toNat)
      case atStart => exact ⟨0, Nat.zero_le _, rfl, H1, Keep.refl _ _⟩
      case round =>
        obtain ⟨j, hj, rfl, hat, hkq⟩ := hrel
        have hbt1 := hkq.heap hbr1 (by omega)
        have hbt2 := hkq.heap hbr2 (by omega)
        have zt := hkq.size
        by_cases hlt2 : j < nk
        · obtain ⟨x, hx⟩ : ∃ x, m.verdict.commits[j]? = some x := ⟨m.verdict.commits[j]'(by rw [HNK.out]; exact hlt2), by simp [HNK.out, hlt2]⟩
          obtain ⟨gk, cur, cap, v, he, hgk, hbk, hfit, hcell, hsv⟩ := hat.at hx
          simp only [Value.slice.injEq] at he
          obtain ⟨rfl, hlen, rfl⟩ := he
          clear hlen
          obtain ⟨Av', cv', rfl⟩ := hsv.shape
          obtain ⟨nx, hnx⟩ : ∃ nx, nx = (commitK.ch x).length := ⟨_, rfl⟩
          rw [← hnx] at hcell hsv
          have HNX := hid hnx
          have hlx := H6.out x (List.mem_of_getElem? hx)
          have HX := hid hx
          have HAT := hid hat
          have c7 : wr.cell? ⟨g, 25, none⟩ = some (.slice (some ⟨gk, 0, none⟩) nk c10) := cell_at hbt1 25 _ rfl
          have e0 : wr.cell? ⟨gk, j * 4 + 3, none⟩ = some (.slice Av' nx cv') := hcell 3 _ rfl
          have HSV := hid hsv
          clear hx hat hcell hsv hnx H1
          have hfit2 : j * 4 + 3 + 1 ≤ cur.size := by have : (j + 1) * 4 ≤ cur.size := hfit; omega
          go_wp2_with fail
          go_region_with (first | (go_at_call 48; refine (cloneC_n HNX.out.symm (HSV.out.keep ((Keep.refl (fun _ => False) _).drewN _) (fun _ _ => id)) (by rw [HNX.out]; exact hlx)).mono ?_; rintro e w12 ⟨A12, c12, rfl, hs12, k12⟩; have d7 := k12.cell c7 id; have d0 := k12.cell e0 id; have hfr := frozen_at (k12.heap hbk id) (j * 4 + 3)))
          all_goals
            obtain ⟨q1, q2, q3⟩ := HAT.out.step HX.out (w1 := w12) (v1 := .slice A12 nx c12) (((Keep.refl (fun _ => False) wr).drewN 1).trans k12 (fun _ _ q => q)) hs12 (by omega) (fun q hq => by have := HFF.out q hq; have := HG.out; omega) (by rw [HNK.out])
            go_wp2_with fail
            exact ⟨⟨j + 1, by omega, by simp, q1, hkq.trans q2 (fun b hb e => by omega)⟩, by simp [intOf]; omega⟩
        · have hsk := hat.done (by rw [HNK.out]; omega)
          have HSK := hid hsk
          have HC12 := hid (HC11.out.keep hkq (fun q hq e => by have := hq.2; omega))
          have HV12 := hid (HV11.out.keep hkq (fun q hq e => by have := hq.2; omega))
          have HI12 := hid (HI11.out.keep hkq (fun q hq e => by have := hq.2; omega))
          have HK12 := hid (HK11.out.trans hkq (fun b hb q => by have := HG.out; omega))
          clear hsk hat hbr1 hbr2 H1 hkq
          go_wp2_with (first
            | (refine wpl_loadA rfl rfl rfl hbt1 (by kernel_rfl) (by kernel_rfl) (msgCs m (.slice A3 nc c3) (.slice A5 nv c5) (.slice A8 ni c8) (.slice A10 nk c10)) rfl rfl ?_)
            | (refine wpl_storeB (v := .agg (msgCs m (.slice A3 nc c3) (.slice A5 nv c5) (.slice A8 ni c8) (.slice A10 nk c10)).toArray) rfl rfl rfl rfl hbt2 (by kernel_rfl) (by simp [reqCs, msgCs, verdictCs, Value.cells]) (by intro u hu; exact one_msgCs m u (by simpa [Value.cells] using hu)) ?_; intro w13 hb13 k13 s13))
          refine bodyPost_ret (res_cell (g := g2) (cs := (msgCs m (.slice A3 nc c3) (.slice A5 nv c5) (.slice A8 ni c8) (.slice A10 nk c10)).toArray) Try.results25 _ rfl hb13 (by kernel_rfl) (by kernel_rfl)) rfl ?_
          have e1 := HG.out
          have e2 := HG2.out
          have hcw : SlW w13 (NewIn w w13) A3 nc c3 m.value.changes := (HC12.out.keep k13 (fun q hq e => by have := hq.1; omega)).mono (fun q hq => by have := hq.1; have := hq.2; exact ⟨by omega, by omega⟩)
          refine ⟨A3, c3, A5, A8, A10, c5, c8, c10, rfl, msg_mk ((HC12.out.sl.keep k13 ?_).mono ?_) ((HV12.out.keep k13 ?_).mono ?_) ((HI12.out.keep k13 ?_).mono ?_) ((HSK.out.keep k13 ?_).mono ?_) HOK.out, hcw, (HK12.out.trans k13 ?_).mono ?_⟩
          · intro q hq e; have := hq.1; omega
          · intro q hq; have := hq.1; have := hq.2; exact ⟨by omega, by omega⟩
          · intro q hq e; have := hq.1; omega
          · intro q hq; have := hq.1; have := hq.2; exact ⟨by omega, by omega⟩
          · intro q hq e; have := hq.1; omega
          · intro q hq; have := hq.1; have := hq.2; exact ⟨by omega, by omega⟩
          · intro q hq e; have := hq.1; omega
          · intro q hq; have := hq.1; have := hq.2; exact ⟨by omega, by omega⟩
          · intro b hb e; omega
          · intro b hb e; omega
end
end Go.Proofs.Ytofljidmdabkcaa

/- wapentakeref3.CopyVerdict; wapentakeref11.CopyVotes, Copy. -/
import Derived.Test.YtofljidmdabkcaaCopyR
import Derived.Test.YtofljidmdabkcaaRef1
namespace Go.Proofs.Ytofljidmdabkcaa
open Go.RowKit
section
variable {F G S : Nat → Prop} {w w' : World}
set_option maxRecDepth 20000 in
set_option maxHeartbeats 1600000 in
theorem copyVer_calls {x : Verdict} {v : Value} (hv : Sl .commit w F v x.commits) (hF : ∀ q, F q → q < w.heap.size) (hl : x.commits.length ≤ 1000000) (hm : ∀ y ∈ x.commits, y.changes.length ≤ 4294967296) :
    Calls Try.prog 20 #[.agg (verdictCs x v).toArray] w fun e w' => ∃ A c, e = .returned (.agg (verdictCs x (.slice A x.commits.length c)).toArray) ∧ Sl .commit w' (NewIn w w') (.slice A x.commits.length c) x.commits ∧ Keep (fun _ => False) w w' := by
  obtain ⟨A, c, rfl⟩ := hv.shape
  have HV := hid hv
  have HF := hid hF
  have HM := hid hm
  obtain ⟨n, hn⟩ : ∃ n, n = x.commits.length := ⟨_, rfl⟩
  rw [← hn] at HV ⊢
  have HN := hid hn
  clear hv hF hm hn
  go_enter Try.func20, Try.ntmps20
  go_wp2_with (first
    | (refine wpl_boxB (v := .agg (verdictCs x (.slice A n c)).toArray) rfl rfl rfl ?_; intro g w1 hg hb1 k1 s1; have HG := hid hg; clear hg)
    | (refine wpl_allocB (z := .agg (verdictCs ⟨0, 0, 0, ByteArray.empty, 0, [], 0⟩ (.slice none 0 0)).toArray) rfl rfl (by kernel_rfl) ?_; intro g2 w2 hg2 hb2 k2 s2; have HG2 := hid hg2; have HS2 := hid s2; clear hg2 s2; have hb1 := k2.heap hb1 id; have c5 := cell_at hb1 5 (.slice A n c) rfl))
  have k02 := k1.trans k2 (fun _ _ q => q)
  have hcc := copyComs_calls (HV.out.keep k02 (fun _ _ => id)) (fun q hq => by have := HF.out q hq; have := k02.size; omega) hl HM.out
  rw [← HN.out] at hcc
  refine hcc.mono ?_
  clear hcc
  rintro e w3 ⟨A3, c3, rfl, hs3, k3⟩
  replace hb1 := k3.heap hb1 id
  replace hb2 := k3.heap hb2 id
  have HS := hid hs3
  have hz3 := k3.size
  clear hs3 c5
  go_wp2_with (first
    | (refine wpl_loadA rfl rfl rfl hb1 (by kernel_rfl) (by kernel_rfl) (verdictCs x (.slice A3 n c3)) rfl rfl ?_)
    | (refine wpl_storeB (v := .slice A3 n c3) rfl rfl rfl rfl hb1 (by kernel_rfl) (by simp [verdictCs, Value.cells]) (by simp [Value.oneCell', Value.cells]) ?_; intro w4 hb4 k4 s4; replace hb1 := hb4; replace hb2 := k4.heap hb2 (fun e => by have := HG2.out; omega))
    | (refine wpl_storeB (v := .agg (verdictCs x (.slice A3 n c3)).toArray) rfl rfl rfl rfl hb2 (by kernel_rfl) (by simp [verdictCs, Value.cells]) (by simp [Value.oneCell', verdictCs, Value.cells]) ?_; intro w5 hb5 k5 s5))
  refine bodyPost_ret (res_cell (g := g2) (cs := (verdictCs x (.slice A3 n c3)).toArray) Try.results20 _ rfl hb5 (by kernel_rfl) (by kernel_rfl)) rfl ?_
  have e1 := HG.out
  have e2 := HG2.out
  have e3 := HS2.out
  have k35 : Keep (fun q => q = g ∨ q = g2) w3 w5 := (k4.mono (fun _ _ e => .inl e)).trans k5 (fun _ _ e => .inr e)
  have hs5 := k35.size
  exact ⟨_, _, rfl, (HS.out.keep k35 (fun b hb e => by have := hb.1; omega)).mono (fun b hb => ⟨by have := hb.1; omega, by have := hb.2; omega⟩), (k02.trans k3 (fun _ _ q => q)).trans k35 (fun b hb e => by omega)⟩
theorem row_at {g : Nat} {d : List Value} {e : TypeId} (hb : w.heap[g]? = some (.cells d.toArray e)) : Row (fun q => q = g) w (.slice (some ⟨g, 0, none⟩) 1 1) 1 d.length d :=
  ⟨_, _, rfl, by omega, Nat.le_refl _, by decide, .inr ⟨g, 0, rfl, rfl, lt_heap hb, fun j u hu => by
    rw [Nat.zero_add, cell_of_row _ _ j _ _ (0, 0) hb]
    simpa using hu⟩⟩
/-- Votes that are gathered, in memory of their own. -/
def OwnV (w w' : World) (A : Option Addr) (n c : Nat) (l : List Vote) : Prop :=
  Sl .vote w' (NewIn w w') (.slice A n c) l ∧ (∃ cs, w'.ownsRow 0 43 13 (.slice A n c) n cs) ∧ ∀ b, (Value.slice A n c).ownBlock = some b → w.heap.size ≤ b
set_option maxRecDepth 20000 in
set_option maxHeartbeats 1600000 in
theorem copyVotes_calls {v : Value} {l : List Vote} (hv : Sl .vote w F v l) (hF : ∀ q, F q → q < w.heap.size) (hl : l.length ≤ 1000000) (hm : ∀ x ∈ l, x.value.changes.length ≤ 4294967296) :
    Calls Try.prog 22 #[v] w fun e w' => ∃ A c, e = .returned (.slice A l.length c) ∧ OwnV w w' A l.length c l ∧ Keep (fun _ => False) w w' := by
  obtain ⟨A0, c0, rfl⟩ := hv.shape
  have HV := hid hv
  have HF := hid hF
  have HM := hid hm
  obtain ⟨n, hn⟩ : ∃ n, n = l.length := ⟨_, rfl⟩
  rw [← hn] at HV hl ⊢
  have HN := hid hn
  clear hv hF hm hn
  go_enter Try.func22, Try.ntmps22
  go_wp2_with fail
  go_loopw [3, 4, 5] (fun o i _ wr => ∃ (k : Nat) (A : Option Addr) (c : Nat) (cs : List Value), k ≤ n ∧ i = .int .i64 k ∧ o = .slice A k c ∧ GrownP .vote 43 w.heap.size wr (.slice A k c) k (l.take k) cs ∧ Keep (fun _ => False) w wr) (fun _ i _ _ => n - (intOf i).toNat)
  case atStart => exact ⟨0, none, 0, [], Nat.zero_le _, rfl, rfl, GrownP.nil, Keep.refl _ _⟩
  case round =>
    obtain ⟨k, A, c, cs, hk, rfl, rfl, hgp, hkp⟩ := hrel
    by_cases hlt : k < n
    · obtain ⟨x, hx⟩ : ∃ x, l[k]? = some x := ⟨l[k]'(by rw [← HN.out]; exact hlt), by simp [show k < l.length by rw [← HN.out]; exact hlt]⟩
      have hvk := HV.out.keep hkp (fun _ _ => id)
      obtain ⟨b, off, rfl, hFb, es, hes, hcell⟩ := hvk.elem hx
      obtain ⟨v1, rfl, hs1, hok1⟩ := vote_cells hes
      have HR := hid (fun w' (hk : Keep (fun _ => False) wr w') => copyReq_calls (r := x.value) (hs1.keep hk (fun _ _ => id)) (HM.out x (List.mem_of_getElem? hx)))
      obtain ⟨A1, c1, rfl⟩ := hs1.shape
      have hsz : Rep.vote.size = 13 := rfl
      rw [hsz] at hcell
      obtain ⟨nx, hnx⟩ : ∃ nx, nx = x.value.changes.length := ⟨_, rfl⟩
      rw [← hnx] at hcell HR
      have p0 : wr.cell? ⟨b, off + k * 13, none⟩ = some (.int .i64 x.slot) := hcell 0 _ rfl
      have p1 : wr.cell? ⟨b, off + k * 13 + 1, none⟩ = some (.int .i64 x.ballot) := hcell 1 _ rfl
      have p2 : wr.cell? ⟨b, off + k * 13 + 2, none⟩ = some (.int .i64 x.value.kind) := hcell 2 _ rfl
      have p3 : wr.cell? ⟨b, off + k * 13 + 3, none⟩ = some (.string x.value.name) := hcell 3 _ rfl
      have p4 : wr.cell? ⟨b, off + k * 13 + 4, none⟩ = some (.int .i64 x.value.session) := hcell 4 _ rfl
      have p5 : wr.cell? ⟨b, off + k * 13 + 5, none⟩ = some (.int .i64 x.value.seq) := hcell 5 _ rfl
      have p6 : wr.cell? ⟨b, off + k * 13 + 6, none⟩ = some (.int .i64 x.value.base) := hcell 6 _ rfl
      have p7 : wr.cell? ⟨b, off + k * 13 + 7, none⟩ = some (.string x.value.ref) := hcell 7 _ rfl
      have p8 : wr.cell? ⟨b, off + k * 13 + 8, none⟩ = some (.slice A1 nx c1) := hcell 8 _ rfl
      have p9 : wr.cell? ⟨b, off + k * 13 + 9, none⟩ = some (.string x.value.path) := hcell 9 _ rfl
      have p10 : wr.cell? ⟨b, off + k * 13 + 10, none⟩ = some (.int .i64 x.value.from') := hcell 10 _ rfl
      have p11 : wr.cell? ⟨b, off + k * 13 + 11, none⟩ = some (.int .i64 x.value.many) := hcell 11 _ rfl
      have p12 : wr.cell? ⟨b, off + k * 13 + 12, none⟩ = some (.int .i64 x.value.member) := hcell 12 _ rfl
      have HX := hid hx; have HGP := hid hgp; have HKP := hid hkp; have HOK := hid hok1; have HNX := hid hnx
      have hsr := hkp.size
      clear hcell hs1 hes hx hgp hkp hvk hok1 hsz hnx
      go_upto_region 6 with fail
      have hg := heap_alloc_new wr (.cells (voteCs x (.slice A1 nx c1)).toArray 43)
      have ka : Keep (fun _ => False) wr (wr.alloc (.cells (voteCs x (.slice A1 nx c1)).toArray 43)) := (Keep.refl _ wr).alloc _
      have hsa : (wr.alloc (.cells (voteCs x (.slice A1 nx c1)).toArray 43)).heap.size = wr.heap.size + 1 := by simp
      change Code.wp _ _ _ _ (wr.alloc (.cells (voteCs x (.slice A1 nx c1)).toArray 43))
      generalize wr.alloc (.cells (voteCs x (.slice A1 nx c1)).toArray 43) = wa at *
      obtain ⟨gd, hgd⟩ : ∃ gd, gd = wr.heap.size := ⟨_, rfl⟩
      rw [← hgd] at hg hsa ⊢
      have HGD := hid hgd; have HSA := hid hsa
      have hcr := HR.out wa ka
      have KA := hid ka
      clear p0 p1 p2 p3 p4 p5 p6 p7 p8 p9 p10 p11 p12 HR hgd hsa ka
      simp only [reqCs] at hcr
      go_wp2_with (first
        | (refine wpl_loadA rfl rfl rfl hg (by kernel_rfl) (by kernel_rfl) (reqCs x.value (.slice A1 nx c1)) rfl rfl ?_))
      refine hcr.mono ?_
      rintro e w1 ⟨A5, c5, rfl, hoc, k1⟩
      have HOC := hid hoc; have HK1 := hid k1
      have hg1 := k1.heap hg id
      clear hcr hoc k1 hg
      go_wp2_with (first
        | (refine wpl_storeB (v := .agg (reqCs x.value (.slice A5 nx c5)).toArray) rfl rfl rfl rfl hg1 (by kernel_rfl) (by simp [reqCs, voteCs, Value.cells]) (by simp [reqCs, Value.oneCell', Value.cells]) ?_; intro w2 hb2 k2 s2; have HS2 := hid s2; clear s2; replace hb2 : w2.heap[gd]? = some (.cells (voteCs x (.slice A5 nx c5)).toArray 43) := hb2)
        | (refine wpl_loadA rfl rfl rfl hb2 (by kernel_rfl) (by kernel_rfl) (voteCs x (.slice A5 nx c5)) rfl rfl ?_)
        | (refine wpl_sliceOne (v := .agg (voteCs x (.slice A5 nx c5)).toArray) (z := .agg (voteCs ⟨0, 0, reqZ'⟩ (.slice none 0 0)).toArray) rfl rfl Try.underlying25 (n := 13) (by kernel_rfl) (by decide) (by decide) rfl (by simp [Value.cells, voteCs, reqCs]) ?_; intro g7 w3 hg7 hb3 k3 s3; have HG7 := hid hg7; clear hg7 s3)
        | (at_builtin; refine stopHere ?_))
      have k12 : Keep (fun _ => False) wr w2 := ((KA.out.trans HK1.out (fun _ _ h => h)).trans k2 (fun q hq e => by have := HGD.out; omega))
      have hgp1 := HGP.out.keepF k12
      have hz1 := HK1.out.size
      have hsl2 : Sl .change w2 (fun b => wr.heap.size ≤ b ∧ b < w2.heap.size) (.slice A5 nx c5) x.value.changes := (HOC.out.1.keep k2 (fun b hb e => by have h1 := hb.1; have := HSA.out; omega)).mono (fun b hb => ⟨by have h1 := hb.1; have := HSA.out; have := HGD.out; omega, by have h1 := hb.2; have := HS2.out; omega⟩)
      refine goOn (wpl_app (v := .slice A k c) rfl rfl T_V rfl (k3.owns hgp1.1 (fun _ _ => id)) rfl (row_at (d := voteCs x (.slice A5 nx c5)) hb3) (by simp [voteCs, reqCs, Value.oneCell']) (by omega) (by omega) ?_)
      intro A6 c6 w6 ho6 hk6 hn6
      obtain ⟨hg6, hkw6⟩ := GrownP.more (r := .vote) HGP.out hsr k12 (vote_mk hsl2 HOK.out) k3 ho6 hk6 hn6
      have HG6 := hid hg6
      have HK6 := hid hkw6
      clear hgp1 ho6 hk6 hn6 hg6 hkw6 k12 hsl2 k2 k3 hb3 hb2 hg1
      go_wp2_with fail
      refine ⟨⟨k + 1, A6, c6, _, by omega, by simp, rfl, by rw [List.take_add_one, HX.out]; exact HG6.out, HKP.out.trans HK6.out (fun b hb e => by have := HGP.out.2.2.2 b e.symm; omega)⟩, by simp [intOf]; omega⟩
    · obtain rfl : k = n := by omega
      have HG := hid hgp; have HKP := hid hkp
      clear hgp hkp
      go_wp2_with fail
      go_ret
      have hs := HG.out.sl
      rw [List.take_of_length_le (by rw [← HN.out]; exact Nat.le_refl _)] at hs
      exact ⟨A, c, rfl, ⟨hs, ⟨cs, HG.out.1⟩, HG.out.2.2.2⟩, HKP.out⟩
end
end Go.Proofs.Ytofljidmdabkcaa

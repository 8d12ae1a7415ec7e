/- The tally: Value. -/
import Derived.Test.YthlgnilgjeebaaaTal
namespace Go.Proofs.Ythlgnilgjeebaaa
open Go.RowKit Go.MapKept
def votZ : Vote := ⟨0, 0, reqZ'⟩
def valR (s : TS) (k : Int) : Req := ((look s.best k).getD votZ).value
section
variable {F S : Nat → Prop} {w w' : World} {g m1 m2 m3 : Nat} {s : TS}
def ValPost (w : World) (s : TS) (k : Int) (e : Ending) (w' : World) : Prop :=
  ∃ A c, e = .returned (.tuple #[.agg (reqCs (valR s k) (.slice A (valR s k).changes.length c)).toArray, .bool (look s.best k).isSome]) ∧ Sl .change w' (NewIn w w') (.slice A (valR s k).changes.length c) (valR s k).changes ∧ (valR s k).changes.length ≤ 4294967296 ∧ Keep (fun _ => False) w w'
/-- What stands at a slot, as a lookup tells it. -/
theorem best_look (h : TalM F w g s m1 m2 m3) (k : Int) (hk : (Lit.int .i64 k).wf = true) :
    ∃ x A c ok, (Instr.lookup 60 (.map (some m2)) (.int .i64 k) true).run Try.prog w = .ok (.tuple #[.agg (voteCs x (.slice A x.value.changes.length c)).toArray, .bool ok]) w ∧ Sl .change w F (.slice A x.value.changes.length c) x.value.changes ∧
      x.value.changes.length ≤ 4294967296 ∧ look s.best k = (if ok then some x else none) ∧ (look s.best k).getD votZ = x := by
  have hz : (zeroValue 36).run Try.prog w = .ok (.agg (voteCs votZ (.slice none 0 0)).toArray) w := by kernel_rfl
  rcases h.best.lookup Try.underlying60 Try.underlying3 hk hz true with ⟨hl, hrun⟩ | ⟨x, u0, hl, ⟨u, rfl, hu, hul⟩, hrun⟩
  · exact ⟨votZ, none, 0, false, hrun, ⟨none, 0, rfl, Nat.le_refl _, Nat.zero_le _, .inl rfl⟩, by simp [votZ, reqZ'], hl, by rw [hl]; rfl⟩
  · obtain ⟨A, c, rfl⟩ := hu.shape
    exact ⟨x, A, c, true, hrun, hu.mono (fun _ q => q.1), hul, hl, by rw [hl]; rfl⟩
set_option maxRecDepth 20000 in
set_option maxHeartbeats 800000 in
theorem tval_calls (h : TalAt F w g s) (k : Int) (hk : (Lit.int .i64 k).wf = true) :
    Calls Try.prog 14 #[.pointer (some ⟨g, 0, none⟩), .int .i64 k] w (ValPost w s k) := by
  go_enter Try.func14, Try.ntmps14
  go_wp2_with (first | (refine wpl_allocB rfl rfl (z := .agg (reqCs reqZ' (.slice none 0 0)).toArray) (by kernel_rfl) ?_; intro g1 w1 hg1 hb1 k1 s1; have HG1 := hid hg1; have HS1 := hid s1; clear hg1 s1))
  have h1 := h.keep k1 (fun _ _ => id)
  refine (made_calls h1).mono ?_
  rintro e w' ⟨rfl, rfl⟩
  obtain ⟨m1, m2, m3, hm⟩ := h1
  have c3 := cell_at hm.obj 3 (.map (some m2)) rfl
  obtain ⟨x, A, c, ok, hrun, hu, hul, hlk, hx⟩ := best_look hm k hk
  have HX := hid (show valR s k = x.value by rw [valR, hx])
  have HOK := hid (show (look s.best k).isSome = ok by rw [hlk]; cases ok <;> rfl)
  obtain ⟨n, hn⟩ : ∃ n, n = x.value.changes.length := ⟨_, rfl⟩
  rw [← hn] at hrun hu hul
  have HN := hid hn; have HU := hid hu; have K1 := hid k1
  clear hm hlk hx hn hu k1
  go_wp2_with (first
    | (refine wpl_allocB rfl rfl (z := .agg (voteCs votZ (.slice none 0 0)).toArray) (by kernel_rfl) ?_; intro g2 w2 hg2 hb2 k2 s2; have HG2 := hid hg2; have HS2 := hid s2; clear hg2 s2)
    | (refine wpl_storeB (v := .agg (voteCs x (.slice A n c)).toArray) rfl rfl rfl rfl hb2 (by kernel_rfl) (by simp [reqCs, voteCs, Value.cells]) (by simp [reqCs, voteCs, Value.oneCell', Value.cells]) ?_; intro w3 hb3 k3 s3; have HS3 := hid s3; clear s3; replace hb3 : w3.heap[g2]? = some (.cells (voteCs x (.slice A n c)).toArray 36) := hb3)
    | (refine wpl_loadA rfl rfl rfl hb3 (by kernel_rfl) (by kernel_rfl) (reqCs x.value (.slice A n c)) rfl rfl ?_))
  have k13 : Keep (fun _ => False) w1 w3 := k2.trans k3 (fun b hb e => by have := HG2.out; omega)
  have hb1' := k13.heap hb1 id
  have hul' := hul
  rw [HN.out] at hul'
  have ho := own_calls (r := x.value) (v := .slice A n c) (HU.out.keep k13 (fun _ _ => id)) hul'
  have K13 := hid k13
  clear k13 k2 k3 hb2 hb3 hb1 hul' c3 hrun
  refine ho.mono ?_
  rintro e w4 ⟨v4, rfl, hs4, hk4⟩
  obtain ⟨A4, c4, rfl⟩ := hs4.shape
  have hb4 := hk4.heap hb1' id
  have HS4 := hid hs4; have HK4 := hid hk4
  clear hs4 hk4 hb1'
  generalize hnn : x.value.changes.length = nn
  have HNN := hid hnn
  clear hnn
  go_wp2_with (first
    | (refine wpl_storeB (v := .agg (reqCs x.value (.slice A4 nn c4)).toArray) rfl rfl rfl rfl hb4 (by kernel_rfl) (by simp [reqCs, Value.cells]) (by simp [reqCs, Value.oneCell', Value.cells]) ?_; intro w5 hb5 k5 s5; have HS5 := hid s5; clear s5; replace hb5 : w5.heap[g1]? = some (.cells (reqCs x.value (.slice A4 nn c4)).toArray 34) := hb5))
  refine bodyPost_ret (v := .tuple #[.agg (reqCs x.value (.slice A4 nn c4)).toArray, .bool ok]) (res_cell_tmp (by rw [Try.results14]) _ rfl rfl hb5 (by kernel_rfl) (by kernel_rfl)) rfl ?_
  refine ⟨A4, c4, ?_, ?_, ?_, ?_⟩
  · rw [HX.out, HOK.out, HNN.out]
  · rw [HX.out]
    have := K1.out.size; have := K13.out.size; have := HG1.out; have hs1 := HS1.out
    exact (HS4.out.keep k5 (fun b hb e => by have := hb.1; omega)).mono (fun b hb => ⟨by have := hb.1; omega, by have := hb.2; have := HS5.out; omega⟩)
  · rw [HX.out]; have := HN.out; omega
  · exact ((K1.out.trans K13.out (fun _ _ q => q)).trans HK4.out (fun _ _ q => q)).trans k5 (fun b hb e => by have := HG1.out; omega)
end
end Go.Proofs.Ythlgnilgjeebaaa

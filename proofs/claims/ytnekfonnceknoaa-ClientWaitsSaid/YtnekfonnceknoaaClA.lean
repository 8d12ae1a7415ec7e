/- wapentakelaw23.awake. -/
import Derived.Test.YtnekfonnceknoaaCl6
import Derived.Test.YtnekfonnceknoaaCl8
namespace Go.Proofs.Ytnekfonnceknoaa
open Go.RowKit Go.Lib
def hR : Req := ⟨3, ByteArray.empty, 0, 0, 0, ByteArray.empty, [], ByteArray.empty, 0, 0, 0⟩
theorem hR_ok : hR.Ok := ⟨ok_small (by simp [hR]), ok0, ok0, ok0, ok0, ok0, ok0⟩
def repM (k f t n sl : Int) (v : Verdict) : Msg := ⟨k, f, t, 0, sl, 0, reqZ', [], [], n, v⟩
theorem repM_cells {w : World} {F : Nat → Prop} {k f t n sl : Int} {v : Verdict} (hk : okI k) (hf : okI f) (ht : okI t) (hn : okI n) (hs : okI sl) (hv : v.Ok) (hc : v.commits = []) : Rep.msg.cells w F (repM k f t n sl v) (msgCs (repM k f t n sl v) nilV nilV nilV nilV) :=
  msg_mk (nilSl _ _ _) (nilSl _ _ _) (nilSl _ _ _) (by show Sl .commit w F nilV v.commits; rw [hc]; exact nilSl _ _ _) ⟨hk, hf, ht, ok0, hs, ok0, reqZ_ok, hn, hv⟩
def vd3 (c s r : Int) : Verdict := ⟨c, s, r, ByteArray.empty, 0, [], 0⟩
theorem vd3_ok {c s r : Int} (h1 : okI c) (h2 : okI s) (h3 : okI r) : (vd3 c s r).Ok := ⟨h1, h2, h3, Nat.zero_le _, ok0⟩
theorem vd3_few (c s r : Int) : (vd3 c s r).Few := ⟨Nat.zero_le _, fun x hx => by simp [vd3] at hx⟩
/-- What a message's cells say. -/
theorem msg_get {w : World} {F : Nat → Prop} {m : Msg} {cs : List Value} (h : Rep.msg.cells w F m cs) : cs[0]? = some (.int .i64 m.kind) ∧ cs[1]? = some (.int .i64 m.from') ∧ cs[2]? = some (.int .i64 m.to) ∧ cs[6]? = some (.int .i64 m.value.kind) ∧ cs[8]? = some (.int .i64 m.value.session) ∧ cs[9]? = some (.int .i64 m.value.seq) ∧ cs[19]? = some (.int .i64 m.number) := by
  obtain ⟨vc, vv, vi, vk, rfl, _⟩ := msg_cells h
  exact ⟨rfl, rfl, rfl, rfl, rfl, rfl, rfl⟩
abbrev cN : ByteArray := ⟨#[99]⟩
abbrev xN : ByteArray := ⟨#[120]⟩
def a0 : CS := newS 0 cN 3 5
def a1 : CS := sentS (askS a0 hR)
def aM : Msg := repM 13 0 100 1 0 (vd3 1 4 0)
def a2 : CS := openedS a1 (vd3 1 4 0)
theorem a_ask : askF a0 hR = (a1, some (sentM (askS a0 hR))) := by
  rw [askF, if_neg (by decide +kernel)]
  rfl
theorem a_handle : handleF a1 aM = (sentS a2, some (sentM a2)) := by
  rw [handleF, if_neg (by decide +kernel), if_pos (by decide), if_pos (by decide), openedF, if_pos (by decide)]
  rfl
set_option maxRecDepth 20000 in
set_option maxHeartbeats 8000000 in
theorem awake23_calls (w : World) : Calls Try.prog 7 #[] w fun e w' => e = .returned (.bool true) ∧ Keep (fun _ => False) w w' := by
  go_enter Try.func7, Try.ntmps7
  go_wp2_with fail
  refine (cnew_calls (w := w) name99 (by omega) (by omega) (by omega)).mono ?_
  rintro e w1 ⟨g, rfl, hg, hgl, hm, k1⟩
  have I0 := hid (newS_inv (id := 0) (name := cN) (rep := 3) (pat := 5) (by omega) (by omega) (by omega))
  have HG := hid hg; have HM := hid hm; have K1 := hid k1; have HGL := hid hgl
  have hask := ask_calls (F := fun _ => False) (r := hR) (v := nilV) HM.out I0.out (by omega) hR_ok (nilSl _ _ _) (fun _ f => f.elim) id (Nat.zero_le _)
  rw [show newS 0 cN 3 5 = a0 from rfl, a_ask] at hask
  have HASK := hid hask
  clear hg hm k1 hgl hask
  go_wp2_with (first | (refine wpl_build rfl rfl (reqCs hR nilV).toArray (by kernel_rfl) ?_))
  refine HASK.out.mono ?_
  rintro e w2 ⟨cs, rfl, hcs, hc2, k2⟩
  have HL2 := hid (MsgL.of hcs)
  obtain ⟨e0, _, _, e6, e8, e9, e19⟩ := msg_get hcs
  have E0 := hid (show cs[0]? = some (.int .i64 11) from e0); have E6 := hid (show cs[6]? = some (.int .i64 1) from e6); have E19 := hid (show cs[19]? = some (.int .i64 1) from e19)
  have HC2 := hid hc2; have K2 := hid k2
  have I2 := hid (show CInv 1 a1 from by have := (I0.out.ask hR_ok (by omega)); rw [show newS 0 cN 3 5 = a0 from rfl, a_ask] at this; exact this)
  clear hcs hc2 k2 e0 e6 e8 e9 e19 HASK
  go_upto_region 5 with (first
    | (refine wpl_allocB (ty := 37) rfl rfl (z := zM) (by kernel_rfl) ?_; intro g3 w3 hg3 hb3 k3 s3; have HG3 := hid hg3; have HS3 := hid s3; have K3 := hid k3; have HLT3 := hid (lt_heap hb3); clear hg3 s3 k3)
    | (refine wpl_storeB (v := .agg cs.toArray) rfl rfl rfl rfl hb3 HL2.out.info HL2.out.fit HL2.out.oneA ?_; intro w4 hb4 k4 s4; have K4 := hid k4; have HB4 := hid (hb4.trans (HL2.out.whole rfl)); clear hb4 s4 k4))
  have hgg : g < w2.heap.size := by have := K2.out.size; have := HGL.out; omega
  have HNE := hid (show g3 ≠ g by have := HG3.out; omega)
  have HC4 := hid (((HC2.out.wide (Y := fun k => k = g ∨ k = g3) K3.out (fun _ e => .inl e) (fun k e => e.imp id (fun e => by subst e; exact ⟨Nat.le_of_eq HG3.out.symm, HLT3.out⟩))).keepX K4.out (fun _ e => .inr e) (fun e => HNE.out e.symm)))
  obtain ⟨vw, va, vt, vk, hm4⟩ := HC4.out
  have hhd := handle_calls (m := aM) hm4 I2.out (by omega) (repM_cells (F := fun _ => False) (ok_small (by omega)) (ok_small (by omega)) (ok_small (by omega)) (ok_small (by omega)) (ok_small (by omega)) (vd3_ok (ok_small (by omega)) (ok_small (by omega)) (ok_small (by omega))) rfl) (fun _ f => f.elim) (vd3_few _ _ _)
  rw [a_handle] at hhd
  have HHD := hid hhd
  clear hm4 hhd hb3 hgg
  go_wp2_with (first
    | (refine wpl_build (ty := 35) rfl rfl (verdictCs (vd3 1 4 0) nilV).toArray (by kernel_rfl) ?_)
    | (refine wpl_build (ty := 37) rfl rfl (msgCs aM nilV nilV nilV nilV).toArray (by kernel_rfl) ?_))
  refine HHD.out.mono ?_
  rintro e w5 ⟨ds, rfl, hds, hc5, k5⟩
  have HL5 := hid (MsgL.of hds)
  obtain ⟨_, _, _, e6, e8, e9, e19⟩ := msg_get hds
  have D6 := hid (show ds[6]? = some (.int .i64 3) from e6); have D8 := hid (show ds[8]? = some (.int .i64 4) from e8); have D9 := hid (show ds[9]? = some (.int .i64 1) from e9); have D19 := hid (show ds[19]? = some (.int .i64 2) from e19)
  have K5 := hid k5
  have HB5 := hid (k5.heap HB4.out HNE.out)
  clear hds hc5 k5 e6 e8 e9 e19 HHD
  go_upto_region 6 with (first
    | (refine wpl_allocB (ty := 37) rfl rfl (z := zM) (by kernel_rfl) ?_; intro g6 w6 hg6 hb6 k6 s6; have HG6 := hid hg6; have K6 := hid k6; clear hg6 s6 k6)
    | (refine wpl_storeB (v := .agg ds.toArray) rfl rfl rfl rfl hb6 HL5.out.info HL5.out.fit HL5.out.oneA ?_; intro w7 hb7 k7 s7; have K7 := hid k7; have HB7 := hid (hb7.trans (HL5.out.whole rfl)); clear hb7 s7 k7))
  have z5 := K5.out.size; have z4 := K4.out.size; have z2 := K2.out.size; have z1 := K1.out.size; have z3 := K3.out.size
  have HB37 := hid (K7.out.heap (K6.out.heap HB5.out id) (fun e => by have := HG6.out; have := HLT3.out; omega))
  have p0 := cell_at HB37.out 0 (.int .i64 11) (by simpa using E0.out)
  have p6 := cell_at HB37.out 6 (.int .i64 1) (by simpa using E6.out)
  have p19 := cell_at HB37.out 19 (.int .i64 1) (by simpa using E19.out)
  have r6 := cell_at HB7.out 6 (.int .i64 3) (by simpa using D6.out)
  have r8 := cell_at HB7.out 8 (.int .i64 4) (by simpa using D8.out)
  have r9 := cell_at HB7.out 9 (.int .i64 1) (by simpa using D9.out)
  have r19 := cell_at HB7.out 19 (.int .i64 2) (by simpa using D19.out)
  have kk : Keep (fun _ => False) w w7 := ((((K1.out.trans K2.out (fun b hb e => by have := HG.out; omega)).trans K3.out (fun _ _ f => f)).trans K4.out (fun b hb e => by have := HG3.out; omega)).trans K5.out (fun b hb e => by have := HG.out; omega)).trans (K6.out.trans K7.out (fun b hb e => by have := HG6.out; omega)) (fun _ _ f => f)
  have KK := hid kk
  clear kk hb6 z1 z2 z3 z4 z5
  go_wp2_with fail
  go_ret
  exact ⟨rfl, KK.out⟩
end Go.Proofs.Ytnekfonnceknoaa

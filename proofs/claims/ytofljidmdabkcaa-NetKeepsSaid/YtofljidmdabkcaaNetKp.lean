/- wapentakelaw24.NetKeeps: the walk. -/
import Derived.Test.YtofljidmdabkcaaNetW
import Derived.Test.YtofljidmdabkcaaMsgIs
import Derived.Test.YtofljidmdabkcaaCq
import Derived.Test.YtofljidmdabkcaaMsgSmall
import Derived.Test.YtofljidmdabkcaaMsgSm2
import Derived.Test.YtofljidmdabkcaaRChk4
namespace Go.Proofs.Ytofljidmdabkcaa
open Go.RowKit Go.Lib
theorem rcheck_any {G : Nat → Prop} {w : World} {m : Msg} {ms : List Value} (h : Rep.msg.cells w G m ms) (hG : ∀ q, G q → q < w.heap.size) : Calls Try.prog 10 #[.agg ms.toArray] w fun e w' => e = .returned (.int .i64 (if mchkB m then 0 else 1)) ∧ Keep (fun _ => False) w w' := by
  obtain ⟨vc, vv, vi, vk, rfl, h1, h2, h3, h4, _⟩ := msg_cells h
  obtain ⟨Ac, cc, rfl⟩ := h1.shape
  obtain ⟨Av, cv, rfl⟩ := h2.shape
  obtain ⟨Ai, ci, rfl⟩ := h3.shape
  obtain ⟨Ak, ck, rfl⟩ := h4.shape
  exact rcheck_calls (F := G) ⟨h1, h2, h3, h4, hG⟩
theorem smallM_any {G : Nat → Prop} {w : World} {m : Msg} {ms : List Value} (h : Rep.msg.cells w G m ms) : Calls Try.prog 6 #[.agg ms.toArray] w fun e w' => e = .returned (.bool (smallM m)) ∧ Keep (fun _ => False) w w' := by
  obtain ⟨vc, vv, vi, vk, rfl, h1, h2, h3, h4, _⟩ := msg_cells h
  exact smallM_calls h1 h2 h3 h4
def CopyW (w : World) (m : Msg) (e : Ending) (w' : World) : Prop :=
  ∃ MC Av Ai cv ci, e = .returned (.agg MC.toArray) ∧ Rep.msg.cells w' (NewIn w w') m MC ∧ MC[17]? = some (.slice Av m.votes.length cv) ∧ MC[18]? = some (.slice Ai m.image.length ci) ∧ Wr w' Av m.votes.length 13 43 ∧ Wr w' Ai m.image.length 1 5 ∧ (∀ b, Av = some ⟨b, 0, none⟩ → NewIn w w' b) ∧ (∀ b, Ai = some ⟨b, 0, none⟩ → NewIn w w' b) ∧ Keep (fun _ => False) w w'
theorem copyM_any {G : Nat → Prop} {w : World} {m : Msg} {ms : List Value} (h : Rep.msg.cells w G m ms) (hG : ∀ q, G q → q < w.heap.size) (hf : m.Fits) (hv : m.votes.length ≤ 200) (hk : m.verdict.commits.length ≤ 100) : Calls Try.prog 8 #[.agg ms.toArray] w (CopyW w m) := by
  obtain ⟨vc, vv, vi, vk, rfl, h1, h2, h3, h4, hok⟩ := msg_cells h
  refine (copyM_calls h1 h2 h3 h4 hG hf (by omega) (by omega)).mono ?_
  rintro e w5 ⟨Ac, Av, Ai, Ak, cc, cv, ci, ck, rfl, hom, k5⟩
  refine ⟨_, Av, Ai, cv, ci, rfl, msg_mk hom.1.1 hom.2.1.1 (Sl.ofBytes ((Row.ofOwn hom.2.2.1).mono (fun b hb => ⟨hom.2.2.2.1 b hb.symm, own_lt' hom.2.2.1 b hb.symm⟩))) hom.2.2.2.2 hok, rfl, rfl, ?_, Wr.ofOwn hom.2.2.1, fun b hb => ⟨hom.2.1.2.2 b (by rw [hb]; rfl), ?_⟩, fun b hb => ⟨hom.2.2.2.1 b (by rw [hb]; rfl), own_lt' hom.2.2.1 b (by rw [hb]; rfl)⟩, k5⟩
  · obtain ⟨_, h⟩ := hom.2.1.2.1; exact Wr.ofOwn h
  · obtain ⟨_, h⟩ := hom.2.1.2.1; exact own_lt' h b (by rw [hb]; rfl)
theorem takeM_rep {m : Msg} {n : Nat} {k : Int} (hn : 0 < n) : takeM (List.replicate n m) k = m := by
  have := placeN_lt k (n := (List.replicate n m).length) (by simpa using hn)
  rw [takeM, List.getElem?_eq_getElem this]
  simp
theorem erase_rep {m : Msg} {n i : Nat} (hi : i < n + 1) : (List.replicate (n + 1) m).eraseIdx i = List.replicate n m := by
  rw [List.eraseIdx_replicate, if_pos hi]; rfl
def Wr2 (w : World) (Av Ai : Option Addr) (nv ni : Nat) : Prop := Wr w Av nv 13 43 ∧ Wr w Ai ni 1 5
theorem Wr2.set {w : World} {Av Ai : Option Addr} {nv ni : Nat} (h : Wr2 w Av Ai nv ni) (b o : Nat) (u : Value) : Wr2 (w.setCell ⟨b, o, none⟩ u) Av Ai nv ni := ⟨h.1.set b o u, h.2.set b o u⟩
set_option maxRecDepth 20000 in
set_option maxHeartbeats 8000000 in
theorem netKeeps_calls {w : World} {v0 : Value} {m : Msg} (h0 : MsgIs w v0 m) (a : Int) (ha : (Lit.int .u8 a).wf = true) :
    Calls Try.prog 3 #[v0, .int .u8 a] w fun e w' => e = .returned (.bool true) ∧ Below w.heap.size w w' := by
  have hb : 0 ≤ a ∧ a ≤ 255 := by simp [Lit.wf, IntKind.min, IntKind.max, IntKind.signed, IntKind.bits] at ha; omega
  obtain ⟨t, rfl⟩ : ∃ t : Nat, a = (t : Int) := ⟨a.toNat, by omega⟩
  obtain ⟨kn, hkn⟩ : ∃ kn, kn = t % 20 := ⟨_, rfl⟩
  have hk20 : kn < 20 := by rw [hkn]; exact Nat.mod_lt _ (by decide)
  have hmod : (t : Int).tmod 20 = (kn : Int) := by rw [hkn]; rfl
  have hconv : IntKind.i64.wrap (t : Int) = (t : Int) := by simp [IntKind.wrap, IntKind.signed, IntKind.bits]; omega
  have HMOD := hid hmod; have HKN := hid hkn; have HCV := hid hconv
  obtain ⟨cs, rfl, hm⟩ := h0
  have HM := hid hm
  have HL := hid (MsgL.of hm)
  have hb1 := hb.1; have hb2 := hb.2
  clear hm hkn hmod ha hb hconv
  go_enter Try.func3, Try.ntmps3
  go_wp2_with (first | (refine wpl_boxB (v := .agg cs.toArray) rfl rfl rfl ?_; intro g w1 hg hb1 k1 s1; have HG := hid hg; clear hg s1))
  have HK1 := hid k1
  clear k1
  refine (awake24_calls w1).mono ?_
  rintro e w2 ⟨rfl, k2⟩
  have HK2 := hid (HK1.out.trans k2 (fun _ _ h => h))
  replace hb1 : w2.heap[g]? = some (.cells cs.toArray 32) := k2.heap hb1 id
  clear k2
  have hsm := smallM_any (Rep.msg.keep HM.out HK2.out (fun _ _ => id))
  obtain ⟨sm, hsme⟩ : ∃ sm, sm = smallM m := ⟨_, rfl⟩
  rw [← hsme] at hsm
  have HSM := hid hsme
  clear hsme
  go_wp2_with (first | (refine wpl_loadA rfl rfl rfl hb1 (by kernel_rfl) (by kernel_rfl) cs HL.out.take HL.out.len ?_))
  refine hsm.mono ?_
  rintro e w3 ⟨rfl, k3⟩
  have HK3 := hid (HK2.out.trans k3 (fun _ _ h => h))
  replace hb1 := k3.heap hb1 id
  have hg3 := lt_heap hb1
  clear k3 hsm
  cases sm with
  | false =>
    go_wp2_with fail
    go_ret
    exact ⟨rfl, HK3.out.below (Nat.le_refl _) (fun _ _ h => h)⟩
  | true =>
  have HF := hid (smallM_fits HSM.out.symm)
  have hnb := newNetQ (w := w3) (B := w3.heap.size) 40 (by omega) (by omega) (Nat.le_refl _)
  go_wp2_with fail
  refine hnb.mono ?_
  rintro e w4 ⟨gb, rfl, hbx, k4⟩
  have HK4 := hid (HK3.out.trans k4 (fun _ _ h => h))
  replace hb1 := k4.heap hb1 id
  have HBX := hid hbx
  have z4 := k4.size
  have hg4 : g < w4.heap.size := by omega
  clear hnb k4 hbx
  have hvs : m.votes.length ≤ 200 ∧ m.verdict.commits.length ≤ 100 ∧ m.image.length ≤ 5000 ∧ m.value.changes.length ≤ 200 := by
    have := HSM.out.symm
    simp only [smallM, smallV, Bool.and_eq_true, decide_eq_true_iff] at this
    obtain ⟨a, c, d, ⟨b, _⟩, _⟩ := this
    exact ⟨a, b, c, d⟩
  have hcp := copyM_any (Rep.msg.keep HM.out HK4.out (fun _ _ => id)) (fun q hq => by have := HK4.out.size; omega) HF.out hvs.1 hvs.2.1
  go_wp2_with (first | (refine wpl_loadA rfl rfl rfl hb1 (by kernel_rfl) (by kernel_rfl) cs HL.out.take HL.out.len ?_))
  refine hcp.mono ?_
  rintro e w5 ⟨MC, Av, Ai, cv, ci, rfl, hnm, h17, h18, hwv, hwi, hbv, hbi, k5⟩
  have HK5 := hid k5
  replace hb1 := k5.heap hb1 id
  have z5 := k5.size
  obtain ⟨nv, hnv⟩ : ∃ nv, nv = m.votes.length := ⟨_, rfl⟩
  obtain ⟨ni, hni⟩ : ∃ ni, ni = m.image.length := ⟨_, rfl⟩
  rw [← hnv] at h17 hwv
  rw [← hni] at h18 hwi
  have b1 : nv ≤ 200 := by rw [hnv]; exact hvs.1
  have b2 : ni ≤ 5000 := by rw [hni]; exact hvs.2.2.1
  have HLM := hid (MsgL.of hnm)
  have H17 := hid h17; have H18 := hid h18
  have HWV := hid hwv; have HWI := hid hwi; have HBV := hid hbv; have HBI := hid hbi; have HNM := hid hnm
  clear hcp k5 hnv hni hvs hwv hwi hbv hbi hnm h17 h18
  go_wp2_with (first
    | (refine wpl_allocB (z := zM) rfl rfl (by kernel_rfl) ?_; intro gn w6 hgn0 hbn k6 s6; have hgn : w5.heap.size ≤ gn := Nat.le_of_eq hgn0.symm; clear hgn0; replace hb1 := k6.heap hb1 id)
    | (refine wpl_storeB (v := .agg MC.toArray) rfl rfl rfl rfl hbn HLM.out.info HLM.out.fit HLM.out.oneA ?_; intro w7 hbn7 k7 s7; replace hb1 := k7.heap hb1 (fun e => by omega); replace hbn7 := hbn7.trans (HLM.out.whole rfl))
    | (refine wpl_loadA rfl rfl rfl hbn7 (by kernel_rfl) (by kernel_rfl) MC HLM.out.take HLM.out.len ?_))
  have hgn7 := lt_heap hbn7
  have k57 : Keep (fun q => q = gn) w5 w7 := (k6.mono (fun _ _ f => f.elim)).trans k7 (fun _ _ e => e)
  have k47 : Keep (fun _ => False) w4 w7 := HK5.out.trans k57 (fun b hb e => by omega)
  have z7 := k57.size
  have hq7 : NetQ w3.heap.size (fun q => w4.heap.size ≤ q ∧ q < w7.heap.size) w7 gb 40 [] := HBX.out.withE k47 (fun q hq => .inr hq)
  have hps := hq7.send (by omega) (Rep.msg.keep HNM.out k57 (fun b hb e => by have := hb.2; omega)) (fun q hq => by have := hq.2; omega) HF.out
  have HK57 := hid k57; have HK47 := hid k47
  obtain ⟨sb, hsb⟩ : ∃ sb, sb = mchkB m := ⟨_, rfl⟩
  rw [show sendB 40 [] m = sb by rw [sendB, hsb]; rfl] at hps
  have HSB := hid hsb
  clear k6 k7 k57 k47 hq7 hsb s6 s7
  refine hps.mono ?_
  rintro e w8 ⟨rfl, hq8, k8⟩
  clear hps
  have z8 := k8.size
  replace hb1 := k8.heap hb1 (fun e => by have := e.1; omega)
  have hbn8 := k8.heap hbn7 (fun e => e.2 ⟨by omega, hgn7⟩)
  have KW8 := hid (((HK4.out.trans HK47.out (fun _ _ f => f)).mono (T := fun q => w.heap.size ≤ q) (fun _ _ f => f.elim)).trans k8 (fun b hb e => by have := e.1; have := HK3.out.size; omega))
  have HK8 := hid k8; have HQ8 := hid hq8; have HB18 := hid hb1; have HBN8 := hid hbn8
  have hw3 := HK3.out.size
  clear k8 hq8 hbn7
  cases sb
  · -- it may not be
    have hmk := Rep.msg.keep HM.out KW8.out (fun q hq e => by omega)
    have hrc := rcheck_any hmk (fun q hq => by have := KW8.out.size; omega)
    rw [← HSB.out] at hrc
    have HRC := hid hrc
    clear hmk hrc
    go_wp2_with (first | (refine wpl_loadA rfl rfl rfl hb1 (by kernel_rfl) (by kernel_rfl) cs HL.out.take HL.out.len ?_))
    refine HRC.out.mono ?_
    rintro e w9 ⟨rfl, k9⟩
    have hq9 := HQ8.out.keepF k9
    have HQ9 := hid (show NetQ _ _ w9 gb 40 [] from hq9); have K9 := hid k9
    clear k9 hq9
    go_wp2_with fail
    refine HQ9.out.len.mono ?_
    rintro e w' ⟨rfl, rfl⟩
    go_wp2_with fail
    go_ret
    exact ⟨rfl, (KW8.out.trans K9.out (fun _ _ f => f.elim)).below (Nat.le_refl _) (fun b hb q => by omega)⟩
  have HQ8' := hid (show NetQ w3.heap.size (fun q => w4.heap.size ≤ q ∧ q < w7.heap.size) w8 gb 40 [m] from HQ8.out)
  have hwv8 := (HWV.out.keep (HK57.out) (fun b hb e => by have := (HBV.out b hb).2; omega)).keep HK8.out (fun b hb e => e.2 ⟨(HBV.out b hb).1, by have := (HBV.out b hb).2; omega⟩)
  have hwi8 := (HWI.out.keep (HK57.out) (fun b hb e => by have := (HBI.out b hb).2; omega)).keep HK8.out (fun b hb e => e.2 ⟨(HBI.out b hb).1, by have := (HBI.out b hb).2; omega⟩)
  have HWV8 := hid hwv8; have HWI8 := hid hwi8
  clear hwv8 hwi8 hb1 hbn8
  go_wp2_with fail
  go_loopw [8] (fun i wr => ∃ k : Nat, k ≤ nv ∧ i = .int .i64 k ∧ Wr2 wr Av Ai nv ni ∧ Keep (fun q => w4.heap.size ≤ q ∧ q < w5.heap.size) w8 wr) (fun i _ => nv - (intOf i).toNat)
  case atStart => exact ⟨0, Nat.zero_le _, rfl, ⟨HWV8.out, HWI8.out⟩, Keep.refl _ _⟩
  case round =>
  obtain ⟨k, hk, rfl, hw, hkp⟩ := hrel
  have c17 := cell_at (hkp.heap HBN8.out (fun e => by omega)) 17 (.slice Av nv cv) (by have := H17.out; simpa using this)
  by_cases hlt : k < nv
  case' pos =>
    have HW := hid hw
    obtain ⟨b, v, rfl, hcl, hfz, _⟩ := hw.1.at hlt (by decide)
    have HKP := hid hkp
    have hbb := HBV.out b rfl
    clear hkp hw
    go_wp2_with fail
    exact ⟨⟨k + 1, by omega, by simp, HW.out.set _ _ _, HKP.out.setCell _ _ (fun _ => hbb)⟩, by simp [intOf]; omega⟩
  obtain rfl : nv = k := by omega
  have HK_6 := hid hkp
  have HK_6w := hid hw
  clear hkp hw hlt hk
  go_wp2_with fail
  go_loopw [9] (fun i wr => ∃ k : Nat, k ≤ ni ∧ i = .int .i64 k ∧ Wr2 wr Av Ai nv ni ∧ Keep (fun q => w4.heap.size ≤ q ∧ q < w5.heap.size) w8 wr) (fun i _ => ni - (intOf i).toNat)
  case atStart => exact ⟨0, Nat.zero_le _, rfl, HK_6w.out, HK_6.out⟩
  case round =>
  obtain ⟨k, hk, rfl, hw, hkp⟩ := hrel
  have c17 := cell_at (hkp.heap HBN8.out (fun e => by omega)) 18 (.slice Ai ni ci) (by have := H18.out; simpa using this)
  by_cases hlt : k < ni
  case' pos =>
    have HW := hid hw
    obtain ⟨b, v, rfl, hcl, hfz, _⟩ := hw.2.at hlt (by decide)
    have HKP := hid hkp
    have hbb := HBI.out b rfl
    simp only [Nat.mul_one] at hcl hfz
    clear hkp hw
    go_wp2_with fail
    exact ⟨⟨k + 1, by omega, by simp, HW.out.set _ _ _, HKP.out.setCell _ _ (fun _ => hbb)⟩, by simp [intOf]; omega⟩
  obtain rfl : ni = k := by omega
  obtain ⟨w9, rfl⟩ : ∃ x, x = wr := ⟨_, rfl⟩
  have z9 := hkp.size
  have HQ9 := hid (HQ8'.out.keepE hkp (fun q _ e _ => ⟨e.1, by have := e.2; omega⟩))
  have HB19 := hid (hkp.heap HB18.out (fun e => by omega))
  have KW9 := hid (KW8.out.trans hkp (fun b hb e => by omega))
  clear hkp hw hlt hk HK_6 HK_6w HWV8 HWI8 HWV HWI HBN8
  have hmod := HMOD.out
  have hcv := HCV.out
  go_wp2_with fail
  have hbn10 := hb1
  clear hmod hcv c17 hbn
  have hz3 : w3.heap.size ≤ w9.heap.size := by omega
  have HS1 := hid (show ∀ j : Nat, j < kn → twB 40 (List.replicate (j + 1) m) (j : Int) = true from fun j hj => by
    rw [twB, takeM_rep (by omega), sendB, ← HSB.out, List.length_replicate]
    simp
    omega)
  have HQ9' := hid (show NetQ w3.heap.size (fun q => w4.heap.size ≤ q ∧ q < w7.heap.size) w9 gb 40 (List.replicate 1 m) from HQ9.out)
  generalize hE : (fun q : Nat => w4.heap.size ≤ q ∧ q < w7.heap.size) = E at *
  have HE := hid hE
  clear hE
  go_loopw [11] (fun i wx => ∃ j : Nat, j ≤ kn ∧ i = .int .i64 j ∧ NetQ w3.heap.size E wx gb 40 (List.replicate (j + 1) m) ∧ Keep (OutN w3.heap.size E) w9 wx) (fun i _ => kn - (intOf i).toNat)
  case atStart => exact ⟨0, Nat.zero_le _, rfl, HQ9'.out, Keep.refl _ _⟩
  case round =>
  obtain ⟨wx, rfl⟩ : ∃ x, x = wr := ⟨_, rfl⟩
  obtain ⟨j, hj, rfl, hq, hkp⟩ := hrel
  have zx := hkp.size
  have HQ := hid hq; have HKP := hid hkp
  clear hq hkp
  by_cases hlt : j < kn
  case' pos =>
    have htw := HQ.out.twice (k := (j : Int)) (by omega) ⟨by omega, by omega⟩
    rw [HS1.out j hlt, takeM_rep (by omega)] at htw
    have HTW := hid htw
    clear htw
    go_wp2_with fail
    refine HTW.out.mono ?_
    rintro e wy ⟨rfl, hq, hkp⟩
    have hq' : NetQ w3.heap.size E wy gb 40 (List.replicate (j + 1 + 1) m) := by
      rw [List.replicate_succ' (n := j + 1)]
      exact hq
    have HQ2 := hid hq'; have HK2 := hid (HKP.out.trans hkp (fun _ _ e => e))
    clear hq hq' hkp
    go_wp2_with fail
    exact ⟨⟨j + 1, by omega, by simp, HQ2.out, HK2.out⟩, by simp [intOf]; omega⟩
  obtain rfl : kn = j := by omega
  clear hlt hj HS1 HQ9'
  go_wp2_with fail
  have hall := HQ.out.allW
  rw [List.length_replicate] at hall
  refine hall.mono ?_
  clear hall
  rintro e w11 ⟨A, c, ds, rfl, hrow, hnb, hwr, k11⟩
  obtain ⟨n1, hn1⟩ : ∃ n1, n1 = kn + 1 := ⟨_, rfl⟩
  rw [← hn1] at hrow hnb hwr ⊢
  have z11 := k11.size
  have HQ11 := hid (HQ.out.withE (E' := fun q => E q ∨ (wx.heap.size ≤ q ∧ q < w11.heap.size)) k11 (fun q e => e))
  have HB111 := hid (k11.heap (HKP.out.heap HB19.out (fun e => by have := e.1; omega)) id)
  have KW11 := hid ((KW9.out.trans HKP.out (fun b hb e => by have := e.1; omega)).trans k11 (fun _ _ f => f.elim))
  have HROW := hid hrow; have HNB := hid hnb; have HWR := hid hwr; have HN1 := hid hn1
  clear k11 hrow hnb hwr hn1 HQ
  have hn1b : n1 ≤ 20 := by have := HN1.out; omega
  go_wp2_with fail
  go_loopw [13] (fun i wy => ∃ j : Nat, j ≤ n1 ∧ i = .int .i64 j ∧ wy.ownsRow 0 32 27 (.slice A n1 c) n1 ds ∧ WrRow wy (.slice A n1 c) wx.heap.size ds n1 ∧ Keep (fun q => wx.heap.size ≤ q ∧ q < w11.heap.size) w11 wy) (fun i _ => n1 - (intOf i).toNat)
  case atStart => exact ⟨0, Nat.zero_le _, rfl, HROW.out, HWR.out, Keep.refl _ _⟩
  case round =>
  obtain ⟨wy, rfl⟩ : ∃ x, x = wr := ⟨_, rfl⟩
  obtain ⟨j, hj, rfl, hrow, hwr, hkp⟩ := hrel
  by_cases hlt : j < n1
  case' pos =>
    have HR0 := hid hrow; have HW0 := hid hwr; have HK0 := hid hkp
    rcases hrow.2 with ⟨_, h00⟩ | ⟨rb, cap, cur, he, _, hgb, hnc, hcm, hcs, htk⟩
    · omega
    simp only [Value.slice.injEq, true_and] at he
    obtain ⟨rfl, rfl⟩ := he
    obtain ⟨A', n', c', hd, hn', hw', hb'⟩ := hwr j hlt
    have hrb := HNB.out rb rfl
    have hcell : wy.cell? ⟨rb, j * 27 + 12, none⟩ = some (.slice A' n' c') := (World.ownsRow.cells hrow (g := rb) rfl (j * 27 + 12) _ hd : _).trans rfl |> fun q => by rw [Addr.add_lit, Nat.zero_add] at q; exact q
    have HW' := hid hw'; have HB' := hid hb'; have HCE := hid hcell
    have hj1 : (0 : Int) ≤ (j : Int) := by omega
    have hj2 : (j : Int) < (n1 : Int) := by omega
    clear hrow hwr hkp hgb hnc hcm hcs htk hd hw' hb'
    go_wp2_with fail
    go_loopw [14] (fun i wz => ∃ q : Nat, q ≤ n' ∧ i = .int .i64 q ∧ wz.cell? ⟨rb, j * 27 + 12, none⟩ = some (.slice A' n' c') ∧ wz.ownsRow 0 32 27 (.slice (some ⟨rb, 0, none⟩) n1 c) n1 ds ∧ Wr wz A' n' 3 48 ∧ WrRow wz (.slice (some ⟨rb, 0, none⟩) n1 c) wx.heap.size ds n1 ∧ Keep (fun q => wx.heap.size ≤ q ∧ q < w11.heap.size) w11 wz) (fun i _ => n' - (intOf i).toNat)
    case atStart => exact ⟨0, Nat.zero_le _, rfl, HCE.out, HR0.out, HW'.out, HW0.out, HK0.out⟩
    case round =>
      obtain ⟨wz, rfl⟩ : ∃ x, x = wr := ⟨_, rfl⟩
      obtain ⟨q, hq, rfl, hce, hro, hwa, hwl, hkp⟩ := hrel
      by_cases hlt2 : q < n'
      · have HRO := hid hro; have HWA := hid hwa; have HWL := hid hwl; have HKP := hid hkp
        obtain ⟨b', v', rfl, hcl, hfz, _⟩ := hwa.at hlt2 (by decide)
        have hbz := HB'.out b' rfl
        have hne : b' ≠ rb := fun e => hbz.2.2 (by rw [e]; rfl)
        have hb11 : b' < w11.heap.size ∨ w11.heap.size ≤ b' := by omega
        have HHCE := hid hce
        have hq1 : (0 : Int) ≤ (q : Int) := by omega
        have hq2 : (q : Int) < (n' : Int) := by omega
        have HBZ := hid hbz; have HNEB := hid hne
        clear hro hwa hwl hkp hbz hne
        go_wp2_with fail
        have k1 : ∀ u, Keep (fun x => x = b') wz (wz.setCell ⟨b', q * 3, none⟩ u) := fun u => (Keep.refl _ wz).setCell _ _ (fun _ => rfl)
        exact ⟨⟨q + 1, by omega, by simp, (k1 _).cell HHCE.out (fun e => HNEB.out e.symm), (k1 _).owns HRO.out (fun x hx e => by simp only [Value.ownBlock, Option.some.injEq] at hx; exact HNEB.out (by rw [← e, hx])), HWA.out.set _ _ _, HWL.out.set _ _ _, HKP.out.setCell _ _ (fun h => ⟨HBZ.out.1, h⟩)⟩, by simp [intOf]; omega⟩
      · obtain rfl : n' = q := by omega
        have HRO := hid hro; have HWL := hid hwl; have HKP := hid hkp
        clear hro hwa hwl hkp hq hlt2
        go_wp2_with fail
        exact ⟨⟨j + 1, by omega, by simp, HRO.out, HWL.out, HKP.out⟩, by simp [intOf]; omega⟩
  obtain rfl : n1 = j := by omega
  have z12 := hkp.size
  have HQ12 := hid (HQ11.out.keepE hkp (fun q _ e _ => .inr e))
  have HB112 := hid (hkp.heap HB111.out (fun e => by omega))
  have KW12 := hid (KW11.out.trans hkp (fun b hb e => by omega))
  clear hrow hwr hkp hlt hj HROW HNB HWR
  go_wp2_with fail
  obtain ⟨E2, hE2⟩ : ∃ E2, E2 = (fun q => E q ∨ (wx.heap.size ≤ q ∧ q < w11.heap.size)) := ⟨_, rfl⟩
  rw [← hE2] at HQ12
  clear hE2
  have hn2 : n1 ≤ 20 := by have := HN1.out; omega
  go_loopw [15] (fun i wv => ∃ j : Nat, j ≤ n1 ∧ i = .int .i64 j ∧ NetQ w3.heap.size E2 wv gb 40 (List.replicate (n1 - j) m) ∧ Keep (OutN w3.heap.size E2) wy wv) (fun i _ => n1 - (intOf i).toNat)
  case atStart => exact ⟨0, Nat.zero_le _, rfl, by rw [HN1.out]; exact HQ12.out, Keep.refl _ _⟩
  case round =>
  obtain ⟨wv, rfl⟩ : ∃ x, x = wr := ⟨_, rfl⟩
  obtain ⟨j, hj, rfl, hq, hkp⟩ := hrel
  have zv := hkp.size
  have HQ := hid hq; have HKP := hid hkp
  clear hq hkp
  by_cases hlt : j < n1
  case' pos =>
    have dle : decide ((j : Int) ≤ (kn : Int)) = true := decide_eq_true (by have := HN1.out; omega)
    have dle2 : decide (j ≤ kn) = true := decide_eq_true (by have := HN1.out; omega)
    have dle3 : j ≤ kn := by have := HN1.out; omega
    obtain ⟨p, hp⟩ : ∃ p, n1 - j = p + 1 := ⟨n1 - j - 1, by omega⟩
    have hq2 : n1 - (j + 1) = p := by omega
    have HP := hid hp; have HP2 := hid hq2
    have htk := HQ.out.take (k := (j : Int) * 3) ⟨by omega, by omega⟩
    rw [hp, takeM_rep (by omega), List.length_replicate, erase_rep (placeN_lt _ (by omega)), decide_eq_true (show 0 < p + 1 by omega)] at htk
    have HTK := hid htk
    clear htk hp hq2
    go_wp2_with fail
    refine HTK.out.mono ?_
    rintro e wt ⟨ys, rfl, hmy, hqt, kt⟩
    have HLY := hid (MsgL.of hmy); have HMY := hid hmy; have HQT := hid hqt
    have HB1T := hid (kt.heap (HKP.out.heap HB112.out (fun e => by have := e.1; omega)) (fun e => by have := e.1; omega))
    have HKT := hid (HKP.out.trans kt (fun _ _ e => e))
    have zt := kt.size
    clear hmy hqt kt dle dle2 dle3
    go_wp2_with (first
      | (refine wpl_allocB (z := zM) rfl rfl (by kernel_rfl) ?_; intro gy wu hgy hby ku su; have hgy' : wt.heap.size ≤ gy := Nat.le_of_eq hgy.symm; clear hgy su; have hbg := ku.heap HB1T.out id)
      | (refine wpl_storeB (v := .agg ys.toArray) rfl rfl rfl rfl hby HLY.out.info HLY.out.fit HLY.out.oneA ?_; intro wp hby' kp sp; replace hby' := hby'.trans (HLY.out.whole rfl); have hbg' := kp.heap hbg (fun e => by omega))
      | (refine wpl_loadG (ty := 32) (o := 0) (n := 27) rfl rfl rfl hby' (by kernel_rfl) (by kernel_rfl) ys HLY.out.take HLY.out.len ?_)
      | (refine wpl_loadG (ty := 32) (o := 0) (n := 27) rfl rfl rfl hbg' (by kernel_rfl) (by kernel_rfl) cs HL.out.take HL.out.len ?_))
    have ktp : Keep (fun _ => False) wt wp := (ku.mono (T := fun q => q = gy) (fun _ _ f => f.elim)).trans kp (fun _ _ e => e) |>.mono (fun b hb e => by omega)
    have kwt := KW12.out.trans HKT.out (fun b hb e => by have := e.1; omega)
    have kwp := kwt.trans ktp (fun _ _ f => f.elim)
    have hsame := sameM_calls (Rep.msg.keep HMY.out ktp (fun _ _ => id)) (Rep.msg.keep HM.out kwp (fun b hb e => by omega))
    have HSA := hid hsame; have KTP := hid ktp
    clear hsame ktp kwt kwp hby hby' hbg hbg' ku kp sp
    refine HSA.out.mono ?_
    rintro e wq ⟨rfl, kq⟩
    have HQN := hid (show NetQ w3.heap.size E2 wq gb 40 (List.replicate (n1 - (j + 1)) m) by rw [HP2.out]; exact (HQT.out.keepF KTP.out).keepF kq)
    have HKN := hid ((HKT.out.trans KTP.out (fun _ _ f => f.elim)).trans kq (fun _ _ f => f.elim))
    clear kq
    go_wp2_with fail
    exact ⟨⟨j + 1, by omega, by simp, HQN.out, HKN.out⟩, by simp [intOf]; omega⟩
  obtain rfl : n1 = j := by omega
  have dle : decide ((n1 : Int) ≤ (kn : Int)) = false := decide_eq_false (by have := HN1.out; omega)
  have dle2 : decide (n1 ≤ kn) = false := decide_eq_false (by have := HN1.out; omega)
  have HQ0 := hid (show NetQ w3.heap.size E2 wv gb 40 [] by have := HQ.out; rw [Nat.sub_self] at this; exact this)
  have KWV := hid (KW12.out.trans HKP.out (fun b hb e => by have := e.1; omega))
  clear HQ hlt hj
  go_wp2_with fail
  refine HQ0.out.len.mono ?_
  rintro e w' ⟨rfl, rfl⟩
  go_wp2_with fail
  go_ret
  exact ⟨rfl, KWV.out.below (Nat.le_refl _) (fun b hb q => by omega)⟩
end Go.Proofs.Ytofljidmdabkcaa

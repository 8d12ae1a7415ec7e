/- wapentakelaw20.BoxApart: the walk. -/
import Derived.Test.YtiomeoihekifeaaCopyMM
import Derived.Test.YtiomeoihekifeaaMsgSmall
import Derived.Test.YtiomeoihekifeaaMsgSm2
import Derived.Test.YtiomeoihekifeaaBoxN
import Derived.Test.YtiomeoihekifeaaMsgO
namespace Go.Proofs.Ytiomeoihekifeaa
open Go.RowKit Go.ChangeShapes Go.WideShapes Go.ChangeAt
/-- A struct's cells are loaded, where a guard lets it. -/
theorem wpl_loadW {P : Program} {ops : Array Oper} {rest : List Oper} {op : Oper} {a : Act} {w : World} {Q : Exit → Act → World → Prop} {ty e : TypeId} {x : Operand} {b o n : Nat} {C : Array Value} {fz : Nat × Nat}
    (hgw : Region.wanted op (yielded ops a.tmps) = true) (ho : op.op = .load ty x) (hx : a.eval x = .pointer (some ⟨b, o, none⟩)) (hb : w.heap[b]? = some (.cells C e fz))
    (hd : (P.underlying ty).map TypeDesc.isRow = some true) (hi : (P.info? ty).map (·.size) = some n) (vs : List Value) (hvs : (C.toList.drop o).take n = vs) (hn : vs.length = n)
    (h : wpList P ops Q rest (a.put op.dst (.agg vs.toArray)) w) : wpList P ops Q (op :: rest) a w := by
  obtain ⟨d, hu, hd⟩ : ∃ d, P.underlying ty = some d ∧ d.isRow = true := by
    cases hq : P.underlying ty with
    | none => simp [hq] at hd
    | some d => exact ⟨d, rfl, by simpa [hq] using hd⟩
  refine wpList_step fun K hK => ?_
  rw [if_pos hgw]
  refine wp_load_mid ty x ho b o hx vs d (fun j v hv => ?_) hu hd (by rw [hi, hn]) (hK _ _ h)
  rw [cell_of_row w b (o + j) C e fz hb]
  rw [← hvs, List.getElem?_take] at hv
  split at hv
  · rw [List.getElem?_drop] at hv
    simpa using hv
  · cases hv
/-- A row whose cells may be written. -/
def Wr (w : World) (A : Option Addr) (n size : Nat) (e : TypeId) : Prop := n = 0 ∨ ∃ b cur, A = some ⟨b, 0, none⟩ ∧ w.heap[b]? = some (.cells cur e) ∧ n * size ≤ cur.size
theorem Wr.ofOwn {w : World} {A : Option Addr} {n c size : Nat} {e : TypeId} {cs : List Value} (h : w.ownsRow 0 e size (.slice A n c) n cs) : Wr w A n size e := by
  rcases h.2 with ⟨_, h⟩ | ⟨g, cap, cur, he, _, hg, hn, _, hs, _⟩
  · exact .inl h
  · simp only [Value.slice.injEq] at he
    obtain ⟨rfl, _, rfl⟩ := he
    exact .inr ⟨g, cur, rfl, hg, by rw [hs]; exact Nat.mul_le_mul_right _ hn⟩
theorem Wr.keep {S : Nat → Prop} {w w' : World} {A : Option Addr} {n size : Nat} {e : TypeId} (h : Wr w A n size e) (hk : Keep S w w') (hS : ∀ b, A = some ⟨b, 0, none⟩ → ¬ S b) : Wr w' A n size e := by
  rcases h with h | ⟨b, cur, hA, hb, hs⟩
  · exact .inl h
  · exact .inr ⟨b, cur, hA, hk.heap hb (hS b hA), hs⟩
theorem Wr.at {w : World} {A : Option Addr} {n size k : Nat} {e : TypeId} (h : Wr w A n size e) (hk : k < n) (hs : 0 < size) :
    ∃ b v, A = some ⟨b, 0, none⟩ ∧ w.cell? ⟨b, k * size, none⟩ = some v ∧ w.frozen? ⟨b, k * size, none⟩ = false ∧ ∀ u, Wr (w.setCell ⟨b, k * size, none⟩ u) A n size e := by
  rcases h with h | ⟨b, cur, hA, hb, hn⟩
  · omega
  · have hle : (k + 1) * size ≤ n * size := Nat.mul_le_mul_right _ hk
    rw [Nat.succ_mul] at hle
    have hlt : k * size < cur.size := by omega
    exact ⟨b, cur[k * size], hA, cell_at hb _ _ (by simp [hlt]), free_at hb _, fun u => .inr ⟨b, _, hA, heap_set hb _ _, by simpa using hn⟩⟩
theorem Wr.set {w : World} {A : Option Addr} {n size : Nat} {e : TypeId} (h : Wr w A n size e) (b o : Nat) (u : Value) : Wr (w.setCell ⟨b, o, none⟩ u) A n size e := by
  rcases h with h | ⟨b', cur, hA, hb, hn⟩
  · exact .inl h
  · by_cases e : b' = b
    · subst e
      exact .inr ⟨b', _, hA, heap_set hb _ _, by simpa using hn⟩
    · exact .inr ⟨b', cur, hA, heap_set_ne hb _ _ e, hn⟩
def Wr3 (w : World) (Av Ai Ac : Option Addr) (nv ni nc : Nat) : Prop := Wr w Av nv 13 67 ∧ Wr w Ai ni 1 5 ∧ Wr w Ac nc 3 69
theorem Wr3.set {w : World} {Av Ai Ac : Option Addr} {nv ni nc : Nat} (h : Wr3 w Av Ai Ac nv ni nc) (b o : Nat) (u : Value) : Wr3 (w.setCell ⟨b, o, none⟩ u) Av Ai Ac nv ni nc := ⟨h.1.set b o u, h.2.1.set b o u, h.2.2.set b o u⟩
/-- A message that was handed in. -/
def MsgIs (w : World) (v : Value) (m : Msg) : Prop := ∃ cs, v = .agg cs.toArray ∧ Rep.msg.cells w (fun b => b < w.heap.size) m cs
set_option maxRecDepth 100000 in
theorem open_msg {H : Type} {enc : TypeId × Value → H} {W : World} {base b : Nat} {held : Bool} {v : Value} {d : DataW H} {ps : List MemPlace}
    (_hv : Value.okWide Try.prog W .any b 60 v) (h : DataW.Trod enc Try.prog W base (fun _ => true) held 60 v d ps) : ∃ m, MsgIs W v m := by
  obtain ⟨fuel, hf⟩ := h
  obtain ⟨m, hm⟩ := opens_msg.2 H enc W base held fuel _ _ hf
  have hl := Rep.msg.len hm
  have hsz : Rep.msg.size = 27 := rfl
  rw [hsz] at hl
  refine ⟨m, v.cells.toList, ?_, hm⟩
  cases v <;> simp [Value.cells] at hl ⊢
set_option maxRecDepth 20000 in
set_option maxHeartbeats 4000000 in
theorem boxApart_calls {w : World} {v0 : Value} {m : Msg} (h0 : MsgIs w v0 m) :
    Calls Try.prog 7 #[v0] w fun e w' => e = .returned (.bool true) ∧ Below w.heap.size w w' := by
  obtain ⟨cs, rfl, hm⟩ := h0
  obtain ⟨vc, vv, vi, vk, rfl, hc, hv, hi, hk, hok⟩ := msg_cells hm
  have HM := hid hm
  have HC := hid hc; have HV := hid hv; have HI := hid hi; have HK := hid hk
  have HL := hid (MsgL.of hm)
  clear hm hok hc hv hi hk
  go_enter Try.func7, Try.ntmps7
  go_wp2_with (first | (refine wpl_boxB (v := .agg (msgCs m vc vv vi vk).toArray) rfl rfl rfl ?_; intro g w1 hg hb1 k1 s1; have HG := hid hg; clear hg s1))
  have HK1 := hid k1
  clear k1
  refine (awake20_calls w1).mono ?_
  rintro e w2 ⟨rfl, k2⟩
  have HK2 := hid (HK1.out.trans k2 (fun _ _ h => h))
  replace hb1 := k2.heap hb1 id
  clear k2
  have hsm := smallM_calls (HC.out.keep HK2.out (fun _ _ => id)) (HV.out.keep HK2.out (fun _ _ => id)) (HI.out.keep HK2.out (fun _ _ => id)) (HK.out.keep HK2.out (fun _ _ => id))
  obtain ⟨sm, hsme⟩ : ∃ sm, sm = smallM m := ⟨_, rfl⟩
  rw [← hsme] at hsm
  have HSM := hid hsme
  clear hsme
  go_wp2_with (first | (refine wpl_loadA rfl rfl rfl hb1 (by kernel_rfl) (by kernel_rfl) (msgCs m vc vv vi vk) rfl rfl ?_))
  refine hsm.mono ?_
  rintro e w3 ⟨rfl, k3⟩
  have HK3 := hid (HK2.out.trans k3 (fun _ _ h => h))
  replace hb1 := k3.heap hb1 id
  have hg3 := lt_heap hb1
  clear k3 hsm
  cases sm with
  | false =>
    go_wp2_with fail
    go_ret
    exact ⟨rfl, HK3.out.below (Nat.le_refl _) (fun _ _ h => h)⟩
  | true =>
  have HF := hid (smallM_fits HSM.out.symm)
  have hnb := newBox_calls (w := w3) 2 (by omega) (by omega)
  go_wp2_with fail
  refine hnb.mono ?_
  rintro e w4 ⟨gb, cb, rfl, hbx, k4⟩
  have HK4 := hid (HK3.out.trans k4 (fun _ _ h => h))
  replace hb1 := k4.heap hb1 id
  have HBX := hid hbx
  have z4 := k4.size
  have hg4 : g < w4.heap.size := by omega
  clear hnb k4 hbx
  have hvs : m.votes.length ≤ 200 ∧ m.verdict.commits.length ≤ 100 ∧ m.image.length ≤ 5000 ∧ m.value.changes.length ≤ 200 := by
    have := HSM.out.symm
    simp only [smallM, smallV, Bool.and_eq_true, decide_eq_true_iff] at this
    obtain ⟨a, c, d, ⟨b, _⟩, _⟩ := this
    exact ⟨a, b, c, d⟩
  have hcp := copyM_calls (HC.out.keep HK4.out (fun _ _ => id)) (HV.out.keep HK4.out (fun _ _ => id)) (HI.out.keep HK4.out (fun _ _ => id)) (HK.out.keep HK4.out (fun _ _ => id)) (fun q hq => by have := HK4.out.size; omega) HF.out (by omega) (by omega)
  go_wp2_with (first | (refine wpl_loadA rfl rfl rfl hb1 (by kernel_rfl) (by kernel_rfl) (msgCs m vc vv vi vk) rfl rfl ?_))
  refine hcp.mono ?_
  rintro e w5 ⟨Ac, Av, Ai, Ak, cc, cv, ci, ck, rfl, hom, k5⟩
  have HOM := hid hom
  have HK5 := hid k5
  replace hb1 := k5.heap hb1 id
  have z5 := k5.size
  obtain ⟨nc, hnc⟩ : ∃ nc, nc = m.value.changes.length := ⟨_, rfl⟩
  obtain ⟨nv, hnv⟩ : ∃ nv, nv = m.votes.length := ⟨_, rfl⟩
  obtain ⟨ni, hni⟩ : ∃ ni, ni = m.image.length := ⟨_, rfl⟩
  obtain ⟨nk, hnk⟩ : ∃ nk, nk = m.verdict.commits.length := ⟨_, rfl⟩
  rw [← hnc, ← hnv, ← hni, ← hnk]
  have b1 : nv ≤ 200 := by rw [hnv]; exact hvs.1
  have b2 : ni ≤ 5000 := by rw [hni]; exact hvs.2.2.1
  have b3 : nc ≤ 200 := by rw [hnc]; exact hvs.2.2.2
  have hwc : Wr w5 Ac nc 3 69 := by obtain ⟨_, h⟩ := hom.1.2.1; rw [hnc]; exact Wr.ofOwn h
  have hwv : Wr w5 Av nv 13 67 := by obtain ⟨_, h⟩ := hom.2.1.2.1; rw [hnv]; exact Wr.ofOwn h
  have hwi : Wr w5 Ai ni 1 5 := by rw [hni]; exact Wr.ofOwn hom.2.2.1
  have hbc : ∀ b, Ac = some ⟨b, 0, none⟩ → w4.heap.size ≤ b ∧ b < w5.heap.size := fun b hb => ⟨hom.1.2.2 b (by rw [hb]; rfl), by obtain ⟨_, h⟩ := hom.1.2.1; exact own_lt' h b (by rw [hb]; rfl)⟩
  have hbv : ∀ b, Av = some ⟨b, 0, none⟩ → w4.heap.size ≤ b ∧ b < w5.heap.size := fun b hb => ⟨hom.2.1.2.2 b (by rw [hb]; rfl), by obtain ⟨_, h⟩ := hom.2.1.2.1; exact own_lt' h b (by rw [hb]; rfl)⟩
  have hbi : ∀ b, Ai = some ⟨b, 0, none⟩ → w4.heap.size ≤ b ∧ b < w5.heap.size := fun b hb => ⟨hom.2.2.2.1 b (by rw [hb]; rfl), own_lt' hom.2.2.1 b (by rw [hb]; rfl)⟩
  have hnm : Rep.msg.cells w5 (NewIn w4 w5) m (msgCs m (.slice Ac nc cc) (.slice Av nv cv) (.slice Ai ni ci) (.slice Ak nk ck)) := by
    have hok := (msg_cells HM.out)
    obtain ⟨_, _, _, _, _, _, _, _, _, hok⟩ := hok
    rw [hnc, hnv, hni, hnk]
    exact msg_mk hom.1.1 hom.2.1.1 (Sl.ofBytes ((Row.ofOwn hom.2.2.1).mono (fun b hb => ⟨hom.2.2.2.1 b hb.symm, own_lt' hom.2.2.1 b hb.symm⟩))) hom.2.2.2.2 hok
  have HWC := hid hwc; have HWV := hid hwv; have HWI := hid hwi; have HBC := hid hbc; have HBV := hid hbv; have HBI := hid hbi; have HNM := hid hnm
  have HB5 := hid (HBX.out.keep k5 (fun _ _ => id))
  clear hcp hom k5 hnc hnv hni hnk hvs hwc hwv hwi hbc hbv hbi hnm
  go_wp2_with (first
    | (refine wpl_allocB (z := zM) rfl rfl (by kernel_rfl) ?_; intro gn w6 hgn0 hbn k6 s6; have hgn : w5.heap.size ≤ gn := Nat.le_of_eq hgn0.symm; clear hgn0 s6; replace hb1 := k6.heap hb1 id)
    | (refine wpl_storeB (v := .agg (msgCs m (.slice Ac nc cc) (.slice Av nv cv) (.slice Ai ni ci) (.slice Ak nk ck)).toArray) rfl rfl rfl rfl hbn (by kernel_rfl) (by simp [reqCs, msgCs, verdictCs, Value.cells]) (by simp [Value.cells]; exact one_msgCs m) ?_; intro w7 hbn7 k7 s7; replace hb1 := k7.heap hb1 (fun e => by omega); replace hbn7 : w7.heap[gn]? = some (.cells (msgCs m (.slice Ac nc cc) (.slice Av nv cv) (.slice Ai ni ci) (.slice Ak nk ck)).toArray 60) := hbn7)
    | (refine wpl_loadA rfl rfl rfl hbn7 (by kernel_rfl) (by kernel_rfl) (msgCs m (.slice Ac nc cc) (.slice Av nv cv) (.slice Ai ni ci) (.slice Ak nk ck)) rfl rfl ?_))
  have k57 : Keep (fun q => q = gn) w5 w7 := (k6.mono (fun _ _ f => f.elim)).trans k7 (fun _ _ e => e)
  have z7 := k57.size
  have hps := post_calls (HB5.out.keep k57 (fun b hb e => by have := hb.2; omega)) (fun q hq => by have := hq.2; omega) (Rep.msg.keep HNM.out k57 (fun b hb e => by have := hb.2; omega)) (fun q hq => by have := hq.2; omega) HF.out
  have HK57 := hid k57
  clear k6 k7 k57
  refine hps.mono ?_
  rintro e w8 ⟨rfl, hbx8, k8⟩
  clear hps
  have hcb : cb < w4.heap.size ∧ gb < w4.heap.size ∧ w3.heap.size ≤ cb := by
    obtain ⟨_, _, _, _, _, q1, q2, _⟩ := HBX.out
    exact ⟨q2.2, q1.2, q2.1⟩
  have HCB := hid hcb
  replace hb1 := k8.heap hb1 (fun e => by have := HCB.out; omega)
  have hbn8 := k8.heap hbn7 (fun e => by have := HCB.out; omega)
  have HB8 := hid hbx8
  have hb8 : BoxAt (Grow (NewIn w3 w4) w7 w8) w8 gb cb 2 [m] := hbx8
  have HB8 := hid hb8
  have HBN8 := hid hbn8
  have HB18 := hid hb1
  have k58 : Keep (fun q => q = gn ∨ q = cb) w5 w8 := (HK57.out.mono (fun _ _ e => .inl e)).trans k8 (fun _ _ e => .inr e)
  have hwv8 := HWV.out.keep k58 (fun b hb e => by have := HBV.out b hb; have := HCB.out; omega)
  have hwi8 := HWI.out.keep k58 (fun b hb e => by have := HBI.out b hb; have := HCB.out; omega)
  have hwc8 := HWC.out.keep k58 (fun b hb e => by have := HBC.out b hb; have := HCB.out; omega)
  have HWV8 := hid hwv8; have HWI8 := hid hwi8; have HWC8 := hid hwc8
  have z8 := k8.size
  have K58 := hid k58
  clear hbx8 hb8 hbn8 hb1 hbn7 k58 k8 hwv8 hwi8 hwc8 hbn
  go_wp2_with fail
  go_loopw [6] (fun i wr => ∃ k : Nat, k ≤ nv ∧ i = .int .i64 k ∧ Wr3 wr Av Ai Ac nv ni nc ∧ Keep (fun q => w4.heap.size ≤ q ∧ q < w5.heap.size) w8 wr) (fun i _ => nv - (intOf i).toNat)
  case atStart => exact ⟨0, Nat.zero_le _, rfl, ⟨HWV8.out, HWI8.out, HWC8.out⟩, Keep.refl _ _⟩
  case round =>
  obtain ⟨k, hk, rfl, hw, hkp⟩ := hrel
  have c17 := cell_at (hkp.heap HBN8.out (fun e => by omega)) 17 (.slice Av nv cv) rfl
  by_cases hlt : k < nv
  case' pos =>
    have HW := hid hw
    obtain ⟨b, v, rfl, hcl, hfz, _⟩ := hw.1.at hlt (by decide)
    have HKP := hid hkp
    have hbb := HBV.out b rfl
    clear hkp hw
    go_wp2_with fail
    exact ⟨⟨k + 1, by omega, by simp, HW.out.set _ _ _, HKP.out.setCell _ _ (fun _ => hbb)⟩, by simp [intOf]; omega⟩
  obtain rfl : nv = k := by omega
  have HK_6 := hid hkp
  have HK_6w := hid hw
  clear hkp hw hlt hk
  go_wp2_with fail
  go_loopw [7] (fun i wr => ∃ k : Nat, k ≤ ni ∧ i = .int .i64 k ∧ Wr3 wr Av Ai Ac nv ni nc ∧ Keep (fun q => w4.heap.size ≤ q ∧ q < w5.heap.size) w8 wr) (fun i _ => ni - (intOf i).toNat)
  case atStart => exact ⟨0, Nat.zero_le _, rfl, HK_6w.out, HK_6.out⟩
  case round =>
  obtain ⟨k, hk, rfl, hw, hkp⟩ := hrel
  have c17 := cell_at (hkp.heap HBN8.out (fun e => by omega)) 18 (.slice Ai ni ci) rfl
  by_cases hlt : k < ni
  case' pos =>
    have HW := hid hw
    obtain ⟨b, v, rfl, hcl, hfz, _⟩ := hw.2.1.at hlt (by decide)
    have HKP := hid hkp
    have hbb := HBI.out b rfl
    simp only [Nat.mul_one] at hcl hfz
    clear hkp hw
    go_wp2_with fail
    exact ⟨⟨k + 1, by omega, by simp, HW.out.set _ _ _, HKP.out.setCell _ _ (fun _ => hbb)⟩, by simp [intOf]; omega⟩
  obtain rfl : ni = k := by omega
  have HK_7 := hid hkp
  have HK_7w := hid hw
  clear hkp hw hlt hk
  go_wp2_with fail
  go_loopw [8] (fun i wr => ∃ k : Nat, k ≤ nc ∧ i = .int .i64 k ∧ Wr3 wr Av Ai Ac nv ni nc ∧ Keep (fun q => w4.heap.size ≤ q ∧ q < w5.heap.size) w8 wr) (fun i _ => nc - (intOf i).toNat)
  case atStart => exact ⟨0, Nat.zero_le _, rfl, HK_7w.out, HK_7.out⟩
  case round =>
  obtain ⟨k, hk, rfl, hw, hkp⟩ := hrel
  have c17 := cell_at (hkp.heap HBN8.out (fun e => by omega)) 12 (.slice Ac nc cc) rfl
  by_cases hlt : k < nc
  case' pos =>
    have HW := hid hw
    obtain ⟨b, v, rfl, hcl, hfz, _⟩ := hw.2.2.at hlt (by decide)
    have HKP := hid hkp
    have hbb := HBC.out b rfl
    clear hkp hw
    go_wp2_with fail
    exact ⟨⟨k + 1, by omega, by simp, HW.out.set _ _ _, HKP.out.setCell _ _ (fun _ => hbb)⟩, by simp [intOf]; omega⟩
  obtain rfl : nc = k := by omega
  have HK_8 := hid hkp
  have HK_8w := hid hw
  clear hkp hw hlt hk
  go_wp2_with fail
  have hb9 := HB8.out.keep HK_8.out (fun b hb e => by rcases hb with hb | hb <;> (have h1 := hb.1; have h2 := hb.2; omega))
  have htk := take_calls hb9 (fun q hq => by have := HK_8.out.size; rcases hq with hq | hq <;> (have h1 := hq.1; have h2 := hq.2; omega))
  have z9 := HK_8.out.size
  have hb1 := HK_8.out.heap HB18.out (fun e => by omega)
  clear hb9
  refine htk.mono ?_
  rintro e w10 ⟨cs, rfl, hm10, _, k10⟩
  replace hb1 := k10.heap hb1 (fun e => by have := HCB.out; omega)
  have HL10 := hid (MsgL.of hm10)
  have HM10 := hid hm10
  have z10 := k10.size
  have hw4 := HK4.out.size
  have hw3 := HK3.out.size
  have KW := hid (((((HK4.out.mono (T := fun q => w.heap.size ≤ q) (fun _ _ f => f.elim)).trans HK5.out (fun _ _ f => f.elim)).trans K58.out (fun b hb e => by have := HCB.out; omega)).trans HK_8.out (fun b hb e => by omega)).trans k10 (fun b hb e => by have := HCB.out; omega))
  clear k10 hm10 htk
  go_wp2_with (first
    | (refine wpl_allocB (z := zM) rfl rfl (by kernel_rfl) ?_; intro g9 w11 hg9 hb9 k11 s11; have hg9' : w10.heap.size ≤ g9 := Nat.le_of_eq hg9.symm; clear hg9 s11; replace hb1 := k11.heap hb1 id)
    | (refine wpl_storeB (v := .agg cs.toArray) rfl rfl rfl rfl hb9 HL10.out.info HL10.out.fit HL10.out.oneA ?_; intro w12 hb12 k12 s12; replace hb12 := hb12.trans (HL10.out.whole rfl); replace hb1 := k12.heap hb1 (fun e => by omega))
    | (refine wpl_loadW rfl rfl rfl hb12 (by kernel_rfl) (by kernel_rfl) cs HL10.out.take HL10.out.len ?_)
    | (refine wpl_loadW rfl rfl rfl hb1 (by kernel_rfl) (by kernel_rfl) (msgCs m vc vv vi vk) rfl rfl ?_))
  have k1012 : Keep (fun q => q = g9) w10 w12 := (k11.mono (fun _ _ f => f.elim)).trans k12 (fun _ _ e => e)
  have KW12 := KW.out.trans k1012 (fun b hb e => by omega)
  have hsame := sameM_calls (Rep.msg.keep HM10.out k1012 (fun b hb e => by have hb := hb.1; rcases hb with hb | hb <;> (have h1 := hb.1; have h2 := hb.2; omega))) (Rep.msg.keep HM.out KW12 (fun b hb e => by omega))
  have HKW := hid KW12
  clear k11 k12 k1012 KW12 hb12 hb1
  refine hsame.mono ?_
  rintro e w13 ⟨rfl, k13⟩
  have HK13 := hid (HKW.out.trans k13 (fun _ _ f => f.elim))
  clear hsame k13
  go_wp2_with fail
  go_ret
  exact ⟨rfl, HK13.out.below (Nat.le_refl _) (fun b hb e => by omega)⟩
end Go.Proofs.Ytiomeoihekifeaa

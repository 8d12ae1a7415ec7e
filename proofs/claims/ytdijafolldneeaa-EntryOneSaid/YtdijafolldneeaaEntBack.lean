/- wapentakelaw9.EntryBack: the walk. -/
import Derived.Test.YtdijafolldneeaaEntBackP
import Derived.Test.YtdijafolldneeaaEntAw
import Derived.Test.YtdijafolldneeaaSmall9
import Derived.Test.YtdijafolldneeaaSame9
namespace Go.Proofs.Ytdijafolldneeaa
open Go.RowKit
/-- A request that was handed in. -/
def ReqIs (w : World) (v : Value) (r : Req) : Prop := ∃ u, v = .agg (reqCs r u).toArray ∧ Sl .change w (fun b => b < w.heap.size) u r.changes
abbrev zRq : Value := .agg (reqCs reqE (.slice none 0 0)).toArray
set_option maxRecDepth 100000 in
theorem open_req {H : Type} {enc : TypeId × Value → H} {W : World} {base b : Nat} {held : Bool} {v : Value} {d : DataW H} {ps : List MemPlace}
    (_hv : Value.okWide Try.prog W .any b 29 v) (h : DataW.Trod enc Try.prog W base (fun _ => true) held 29 v d ps) : ∃ r, ReqIs W v r := by
  obtain ⟨fuel, hf⟩ := h
  obtain ⟨r, hr⟩ := opens_req.2 H enc W base held fuel _ _ hf
  have hl := Rep.req.len hr
  have hsz : Rep.req.size = 11 := rfl
  rw [hsz] at hl
  obtain ⟨u, hu, hs, _⟩ := req_cells hr
  refine ⟨r, u, ?_, hs⟩
  have hv : v = .agg v.cells := by cases v <;> simp [Value.cells] at hl ⊢
  rw [hv, ← hu]
set_option maxRecDepth 20000 in
set_option maxHeartbeats 8000000 in
theorem entryBack_calls {w : World} {v0 v1 : Value} {r : Req} {b : List UInt8} (h0 : ReqIs w v0 r) (hb : Row (fun k => k < w.heap.size) w v1 b.length 1 (b.map U8)) (hbl : b.length ≤ 140737488351232) :
    Calls Try.prog 4 #[v0, v1] w fun e w' => e = .returned (.bool true) ∧ Below w.heap.size w w' := by
  obtain ⟨u, rfl, hs⟩ := h0
  have HD := hid (fun c (hc : c ∈ r.changes) => change_small hs hc)
  obtain ⟨A, c, rfl⟩ := hs.shape
  obtain ⟨n, hn⟩ : ∃ n, n = r.changes.length := ⟨_, rfl⟩
  obtain ⟨Ab, cb, rfl⟩ := hb.shape
  obtain ⟨nb, hnb⟩ : ∃ nb, nb = b.length := ⟨_, rfl⟩
  rw [← hn] at hs ⊢
  rw [← hnb] at hb hbl ⊢
  have HS := hid hs; have HB := hid hb; have HNB := hid hnb
  clear hs hb hn hnb
  go_enter Try.func4, Try.ntmps4
  go_wp2_with (first
    | (refine wpl_boxB (v := .agg (reqCs r (.slice A n c)).toArray) rfl rfl rfl ?_; intro g2 w2 hg2 hb2 k2 s2; have K2 := hid k2; have HB2 := hid hb2; clear hg2 k2 s2 hb2))
  refine (awake9_calls w2).mono ?_
  rintro e w3 ⟨rfl, k3⟩
  have hb3 := k3.heap HB2.out id
  have K3 := hid (K2.out.trans k3 (fun _ _ f => f))
  have HB3 := hid hb3
  have HS3 := hid (HS.out.keep K3.out (fun _ _ => id))
  clear k3
  have hsc := small_calls (r := r) HS3.out
  obtain ⟨sm, hsm⟩ : ∃ sm, sm = smallB r := ⟨_, rfl⟩
  rw [← hsm] at hsc
  have HSC := hid hsc
  clear hsc hsm
  go_wp2_with (first
    | (refine wpl_loadA (ty := 29) (o := 0) (n := 11) rfl rfl rfl hb3 (by kernel_rfl) (by kernel_rfl) (reqCs r (.slice A n c)) rfl rfl ?_))
  refine HSC.out.mono ?_
  rintro e w4 ⟨rfl, k4⟩
  have K4 := hid (K3.out.trans k4 (fun _ _ f => f))
  have HB4 := hid (k4.heap HB3.out id)
  clear k4 hb3
  cases sm with
  | false =>
    go_wp2_with fail
    go_ret
    exact ⟨rfl, K4.out.below (Nat.le_refl _) (fun _ _ f => f)⟩
  | true =>
    by_cases hbig : 20000 < nb
    · go_wp2_with fail
      go_ret
      exact ⟨rfl, K4.out.below (Nat.le_refl _) (fun _ _ f => f)⟩
    have hb4 := HB4.out
    have hec := enc_calls (r := r) (HS.out.keep K4.out (fun _ _ => id)) (fun k hk => by have := K4.out.size; omega)
    have HEC := hid hec
    clear hec
    go_wp2_with (first
      | (refine wpl_loadA (ty := 29) (o := 0) (n := 11) rfl rfl rfl hb4 (by kernel_rfl) (by kernel_rfl) (reqCs r (.slice A n c)) rfl rfl ?_))
    refine HEC.out.mono ?_
    rintro e w5 ⟨v5, rfl, ho5, _, k5⟩
    have K5 := hid (K4.out.trans k5 (fun _ _ f => f))
    have HB5 := hid (k5.heap HB4.out id)
    have HO5 := hid ho5
    obtain ⟨A5, c5, rfl⟩ := own_slice ho5
    clear ho5 k5 hb4
    by_cases hm : mayR r
    · rw [if_pos hm]
      have ho5 := HO5.out
      rw [encB, if_pos hm] at ho5
      have hlen := encR_len hm
      have HR5 := hid (Row.ofOwn ho5)
      have hbd := back_dec hm HD.out
      have HN5 := hid (show (encB r).length = (encR r).length by rw [encB, if_pos hm])
      rw [HN5.out]
      have hdc := dec_calls (b := encR r) HR5.out (by omega)
      unfold DecPost at hdc
      rw [hbd] at hdc
      have HDC := hid hdc
      clear ho5 hlen hbd hdc hm
      go_wp2_with fail
      refine HDC.out.mono ?_
      rintro e w6 ⟨A6, c6, rfl, hs6, k6⟩
      have hb6 := k6.heap HB5.out id
      obtain ⟨n6, hn6⟩ : ∃ n6, n6 = r.changes.length := ⟨_, rfl⟩
      simp only at hs6 ⊢
      rw [← hn6] at hs6 ⊢
      have K6 := hid (K5.out.trans k6 (fun _ _ f => f)); have HS6 := hid hs6; have HB6 := hid hb6
      clear hn6 hs6 k6
      go_wp2_with (first
        | (refine wpl_allocB (z := .agg (reqCs reqE (.slice none 0 0)).toArray) rfl rfl (by kernel_rfl) ?_; intro g7 w7 hg7 hb7 k7 s7; have HG7 := hid hg7; have K7 := hid k7; have hb67 := k7.heap HB6.out id; clear hg7 k7 s7)
        | (refine wpl_storeB (v := .agg (reqCs r (.slice A6 n6 c6)).toArray) rfl rfl rfl rfl hb7 (by kernel_rfl) (Nat.le_refl 11) (by simp [Value.oneCell', reqCs, Value.cells]) ?_; intro w8 hb8 k8 s8; rw [show spl (Value.agg (reqCs reqE (.slice none 0 0)).toArray).cells 0 (Value.agg (reqCs r (.slice A6 n6 c6)).toArray).cells.toList = (reqCs r (.slice A6 n6 c6)).toArray from spl_whole _ _ (Nat.le_refl 11)] at hb8; have K8 := hid k8; have hb68 := k8.heap hb67 (fun e => by have := HG7.out; have := lt_heap HB6.out; omega); clear k8 s8 hb7)
        | (refine wpl_loadG (ty := 29) rfl rfl rfl hb8 (by kernel_rfl) (by kernel_rfl) (reqCs r (.slice A6 n6 c6)) rfl rfl ?_)
        | (refine wpl_loadG (ty := 29) rfl rfl rfl hb68 (by kernel_rfl) (by kernel_rfl) (reqCs r (.slice A n c)) rfl rfl ?_))
      have k68 : Keep (fun _ => False) w6 w8 := K7.out.trans K8.out (fun b hb e => by have := HG7.out; omega)
      refine (same9_calls (r := r) (s := r) (HS6.out.keep k68 (fun _ _ => id)) (HS.out.keep (K6.out.trans k68 (fun _ _ f => f)) (fun _ _ => id))).mono ?_
      rintro e w9 ⟨rfl, k9⟩
      have K9 := hid ((K6.out.trans k68 (fun _ _ f => f)).trans k9 (fun _ _ f => f))
      rw [decide_eq_true rfl]
      clear k9 k68 hb8 hb68 hb67 hb6
      go_wp2_with fail
      refine (dec_calls (b := b) (w := w9) (by rw [← HNB.out]; exact HB.out.keep K9.out (fun _ _ => id)) (by rw [← HNB.out]; omega)).mono ?_
      rintro e w10 ⟨A10, c10, rfl, hs10, k10⟩
      obtain ⟨q, hq⟩ : ∃ q, q = (decR b).1 := ⟨_, rfl⟩
      obtain ⟨fe, hfe⟩ : ∃ fe, fe = (decR b).2 := ⟨_, rfl⟩
      rw [← hq] at hs10 ⊢
      rw [← hfe]
      obtain ⟨nq, hnq⟩ : ∃ nq, nq = q.changes.length := ⟨_, rfl⟩
      rw [← hnq] at hs10 ⊢
      have HFD := hid (fun (h : fe = 0) => (by have := forth_dec (b := b) (by rw [← hfe]; exact h); rw [← hq] at this; exact this : mayR q ∧ encR q = b))
      have K10 := hid (K9.out.trans k10 (fun _ _ f => f)); have HS10 := hid hs10
      clear hq hfe hnq hs10 k10
      by_cases hf0 : fe = 0
      · have HM := hid (HFD.out hf0)
        have hfb : (fe != 0) = false := by simp [hf0]
        clear hf0 HFD
        go_wp2_with (first
          | (refine wpl_allocB (z := .agg (reqCs reqE (.slice none 0 0)).toArray) rfl rfl (by kernel_rfl) ?_; intro g11 w11 hg11 hb11 k11 s11; have HG11 := hid hg11; have K11 := hid k11; clear hg11 k11 s11)
          | (refine wpl_storeB (v := .agg (reqCs q (.slice A10 nq c10)).toArray) rfl rfl rfl rfl hb11 (by kernel_rfl) (Nat.le_refl 11) (by simp [Value.oneCell', reqCs, Value.cells]) ?_; intro w12 hb12 k12 s12; rw [show spl (Value.agg (reqCs reqE (.slice none 0 0)).toArray).cells 0 (Value.agg (reqCs q (.slice A10 nq c10)).toArray).cells.toList = (reqCs q (.slice A10 nq c10)).toArray from spl_whole _ _ (Nat.le_refl 11)] at hb12; have K12 := hid k12; clear k12 s12 hb11)
          | (refine wpl_loadA (ty := 29) (o := 0) (n := 11) rfl rfl rfl hb12 (by kernel_rfl) (by kernel_rfl) (reqCs q (.slice A10 nq c10)) rfl rfl ?_))
        have k1012 : Keep (fun _ => False) w10 w12 := K11.out.trans K12.out (fun b hb e => by have := HG11.out; omega)
        refine (enc_calls (r := q) (HS10.out.keep k1012 (fun _ _ => id)) (fun k hk => by have := k1012.size; omega)).mono ?_
        rintro e w13 ⟨v13, rfl, ho13, _, k13⟩
        rw [encB, if_pos HM.out.1, HM.out.2] at ho13
        rw [if_pos HM.out.1]
        obtain ⟨A13, c13, rfl⟩ := own_slice ho13
        have K13 := hid ((K10.out.trans k1012 (fun _ _ f => f)).trans k13 (fun _ _ f => f))
        have HSM := hid (same_calls (a := b) (b := b) (Row.ofOwn ho13) (by rw [← HNB.out]; exact HB.out.keep K13.out (fun _ _ => id)))
        rw [← HNB.out] at HSM
        clear ho13 k13 k1012 hb12
        rw [← HNB.out]
        go_wp2_with fail
        refine HSM.out.mono ?_
        rintro e w14 ⟨rfl, k14⟩
        have K14 := hid (K13.out.trans k14 (fun _ _ f => f))
        simp only [decide_true]
        clear k14
        go_wp2_with fail
        go_ret
        exact ⟨rfl, K14.out.below (Nat.le_refl _) (fun _ _ f => f)⟩
      · have hfb : (fe != 0) = true := by simp [hf0]
        clear hf0 HFD
        go_wp2_with (first
          | (refine wpl_allocB (z := .agg (reqCs reqE (.slice none 0 0)).toArray) rfl rfl (by kernel_rfl) ?_; intro g11 w11 hg11 hb11 k11 s11; have HG11 := hid hg11; have K11 := hid k11; clear hg11 k11 s11)
          | (refine wpl_storeB (v := .agg (reqCs q (.slice A10 nq c10)).toArray) rfl rfl rfl rfl hb11 (by kernel_rfl) (Nat.le_refl 11) (by simp [Value.oneCell', reqCs, Value.cells]) ?_; intro w12 hb12 k12 s12; have K12 := hid k12; clear k12 s12 hb11))
        have k1012 : Keep (fun _ => False) w10 w12 := K11.out.trans K12.out (fun b hb e => by have := HG11.out; omega)
        go_ret
        exact ⟨rfl, (K10.out.trans k1012 (fun _ _ f => f)).below (Nat.le_refl _) (fun _ _ f => f)⟩
    · rw [if_neg hm]
      have hlen : (encB r).length = 0 := by rw [encB, if_neg hm]; rfl
      rw [hlen]
      clear hm hlen
      go_wp2_with fail
      refine (dec_calls (b := b) (w := w5) (by rw [← HNB.out]; exact HB.out.keep K5.out (fun _ _ => id)) (by rw [← HNB.out]; omega)).mono ?_
      rintro e w10 ⟨A10, c10, rfl, hs10, k10⟩
      obtain ⟨q, hq⟩ : ∃ q, q = (decR b).1 := ⟨_, rfl⟩
      obtain ⟨fe, hfe⟩ : ∃ fe, fe = (decR b).2 := ⟨_, rfl⟩
      rw [← hq] at hs10 ⊢
      rw [← hfe]
      obtain ⟨nq, hnq⟩ : ∃ nq, nq = q.changes.length := ⟨_, rfl⟩
      rw [← hnq] at hs10 ⊢
      have HFD := hid (fun (h : fe = 0) => (by have := forth_dec (b := b) (by rw [← hfe]; exact h); rw [← hq] at this; exact this : mayR q ∧ encR q = b))
      have K10 := hid (K5.out.trans k10 (fun _ _ f => f)); have HS10 := hid hs10
      clear hq hfe hnq hs10 k10
      by_cases hf0 : fe = 0
      · have HM := hid (HFD.out hf0)
        have hfb : (fe != 0) = false := by simp [hf0]
        clear hf0 HFD
        go_wp2_with (first
          | (refine wpl_allocB (z := .agg (reqCs reqE (.slice none 0 0)).toArray) rfl rfl (by kernel_rfl) ?_; intro g11 w11 hg11 hb11 k11 s11; have HG11 := hid hg11; have K11 := hid k11; clear hg11 k11 s11)
          | (refine wpl_storeB (v := .agg (reqCs q (.slice A10 nq c10)).toArray) rfl rfl rfl rfl hb11 (by kernel_rfl) (Nat.le_refl 11) (by simp [Value.oneCell', reqCs, Value.cells]) ?_; intro w12 hb12 k12 s12; rw [show spl (Value.agg (reqCs reqE (.slice none 0 0)).toArray).cells 0 (Value.agg (reqCs q (.slice A10 nq c10)).toArray).cells.toList = (reqCs q (.slice A10 nq c10)).toArray from spl_whole _ _ (Nat.le_refl 11)] at hb12; have K12 := hid k12; clear k12 s12 hb11)
          | (refine wpl_loadA (ty := 29) (o := 0) (n := 11) rfl rfl rfl hb12 (by kernel_rfl) (by kernel_rfl) (reqCs q (.slice A10 nq c10)) rfl rfl ?_))
        have k1012 : Keep (fun _ => False) w10 w12 := K11.out.trans K12.out (fun b hb e => by have := HG11.out; omega)
        refine (enc_calls (r := q) (HS10.out.keep k1012 (fun _ _ => id)) (fun k hk => by have := k1012.size; omega)).mono ?_
        rintro e w13 ⟨v13, rfl, ho13, _, k13⟩
        rw [encB, if_pos HM.out.1, HM.out.2] at ho13
        rw [if_pos HM.out.1]
        obtain ⟨A13, c13, rfl⟩ := own_slice ho13
        have K13 := hid ((K10.out.trans k1012 (fun _ _ f => f)).trans k13 (fun _ _ f => f))
        have HSM := hid (same_calls (a := b) (b := b) (Row.ofOwn ho13) (by rw [← HNB.out]; exact HB.out.keep K13.out (fun _ _ => id)))
        rw [← HNB.out] at HSM
        clear ho13 k13 k1012 hb12
        rw [← HNB.out]
        go_wp2_with fail
        refine HSM.out.mono ?_
        rintro e w14 ⟨rfl, k14⟩
        have K14 := hid (K13.out.trans k14 (fun _ _ f => f))
        simp only [decide_true]
        clear k14
        go_wp2_with fail
        go_ret
        exact ⟨rfl, K14.out.below (Nat.le_refl _) (fun _ _ f => f)⟩
      · have hfb : (fe != 0) = true := by simp [hf0]
        clear hf0 HFD
        go_wp2_with (first
          | (refine wpl_allocB (z := .agg (reqCs reqE (.slice none 0 0)).toArray) rfl rfl (by kernel_rfl) ?_; intro g11 w11 hg11 hb11 k11 s11; have HG11 := hid hg11; have K11 := hid k11; clear hg11 k11 s11)
          | (refine wpl_storeB (v := .agg (reqCs q (.slice A10 nq c10)).toArray) rfl rfl rfl rfl hb11 (by kernel_rfl) (Nat.le_refl 11) (by simp [Value.oneCell', reqCs, Value.cells]) ?_; intro w12 hb12 k12 s12; have K12 := hid k12; clear k12 s12 hb11))
        have k1012 : Keep (fun _ => False) w10 w12 := K11.out.trans K12.out (fun b hb e => by have := HG11.out; omega)
        go_ret
        exact ⟨rfl, (K10.out.trans k1012 (fun _ _ f => f)).below (Nat.le_refl _) (fun _ _ f => f)⟩
end Go.Proofs.Ytdijafolldneeaa

/- entry: Encode, Check, Take, Decode. -/
import Derived.Test.YtdijafolldneeaaEntPut2
import Derived.Test.YtdijafolldneeaaEntRParts
namespace Go.Proofs.Ytdijafolldneeaa
open Go.RowKit
section
variable {F G : Nat → Prop} {w : World} {r : Req}
def encB (r : Req) : List UInt8 := if mayR r then encR r else []
def EncPost (w : World) (r : Req) (e : Ending) (w' : World) : Prop :=
  ∃ v, e = .returned (.tuple #[v, .int .i64 (if mayR r then 0 else 1)]) ∧ w'.ownsRow 0 5 1 v (encB r).length ((encB r).map U8) ∧ (∀ k, v.ownBlock = some k → NewIn w w' k) ∧ Keep (fun _ => False) w w'
theorem encR_len {r : Req} (h : mayR r) : (encR r).length ≤ 100000 := by
  have h1 := parts_len r (partsOf r.kind) ⟨encNum r.kind.toNat, 0⟩
  have h2 := partsOf_len r.kind
  have h3 := encNum_small (n := r.kind.toNat) (by have := h.1; omega)
  rcases parts_ways r (partsOf r.kind) (encNum r.kind.toNat) with ⟨_, h4⟩ | ⟨h4, _⟩
  · rw [h4] at h1
    simp only at h1
    rw [encR]; omega
  · exact absurd h.2.2 h4
set_option maxRecDepth 20000 in
set_option maxHeartbeats 4000000 in
theorem enc_calls {v : Value} (hv : Sl .change w G v r.changes) (hG : ∀ k, G k → k < w.heap.size) : Calls Try.prog 9 #[.agg (reqCs r v).toArray] w (EncPost w r) := by
  obtain ⟨A, c, rfl⟩ := hv.shape
  obtain ⟨n, hn⟩ : ∃ n, n = r.changes.length := ⟨_, rfl⟩
  rw [← hn] at hv ⊢
  have HV := hid hv; have HG := hid hG
  clear hv hG hn
  go_enter Try.func9, Try.ntmps9
  go_wp2_with (first
    | (refine wpl_boxB (v := .agg (reqCs r (.slice A n c)).toArray) rfl rfl rfl ?_; intro g1 w1 hg1 hb1 k1 s1; have HB1 := hid hb1; have K1 := hid k1; clear hg1 k1 s1 hb1))
  refine (newWriter_calls w1).mono ?_
  rintro e w2 ⟨rfl, hw2⟩
  have hW := WrAt.fresh w1
  have k2 : Keep (fun _ => False) w1 (w1.alloc (WrObj (.slice none 0 0) 0)) := (Keep.refl _ w1).alloc _
  have hz2 : (w1.alloc (WrObj (.slice none 0 0) 0)).heap.size = w1.heap.size + 1 := by simp
  rw [hw2] at hW k2 hz2
  have hb2 := k2.heap HB1.out id
  have K02 := hid (K1.out.trans k2 (fun _ _ f => f))
  have hpc := put_calls (r := r) (v := .slice A n c) hW (fun k hk => hk.2) (HV.out.keep K02.out (fun _ _ => id)) (fun k hk => ⟨fun e => by have := e.1; have := HG.out k hk; have := K1.out.size; omega, by have := HG.out k hk; have := K02.out.size; omega⟩) (by simp)
  have HPC := hid hpc
  obtain ⟨gw, hgw⟩ : ∃ gw, gw = w1.heap.size := ⟨_, rfl⟩
  rw [← hgw] at HPC ⊢
  have HGW := hid hgw; have HZ2 := hid hz2
  clear hw2 hW k2 hz2 hpc hgw
  go_wp2_with (first
    | (refine wpl_loadA (ty := 29) (o := 0) (n := 11) rfl rfl rfl hb2 (by kernel_rfl) (by kernel_rfl) (reqCs r (.slice A n c)) rfl rfl ?_))
  refine HPC.out.mono ?_
  rintro e w3 ⟨rfl, h3, k3⟩
  have hk03 : Keep (fun _ => False) w w3 := K02.out.trans k3 (fun b hb e => by have := e.1; have := K1.out.size; omega)
  have hdone : (mayR r ∧ ePut ⟨[], 0⟩ r = ⟨encR r, 0⟩) ∨ (¬ mayR r ∧ (ePut ⟨[], 0⟩ r).f = 1) := by
    by_cases hm : mayR r
    · exact .inl ⟨hm, by rw [ePut_good [] hm]; rfl⟩
    · exact .inr ⟨hm, ePut_bad [] hm⟩
  have hlen : (ePut ⟨[], 0⟩ r).b.length ≤ 35184372088832 := by
    unfold ePut
    split
    · have h1 := parts_len r (partsOf r.kind) (wNum ⟨[], 0⟩ r.kind)
      have h2 := partsOf_len r.kind
      have h3 := wNum_len (s := ⟨[], 0⟩) (n := r.kind)
      simp at h3
      omega
    · rw [wRefuse_len]; simp
  have hdc := done_calls h3 hlen
  have hf1 : ∀ x : Int, x = 1 → (x != 0) = true := by intro x hx; simp [hx]
  have HK := hid hk03; have HD := hid hdone; have HDC := hid hdc
  clear h3 k3 hk03 hdone hlen hdc hb2
  go_wp2_with fail
  refine HDC.out.mono ?_
  rintro e w4 ⟨v4, rfl, ho, hn, k4⟩
  have K4 := hid (HK.out.trans k4 (fun _ _ f => f))
  have hz := HK.out.size
  rcases HD.out with ⟨hm, he⟩ | ⟨hm, he⟩
  · rw [he] at ho ⊢
    simp only [if_true] at ho
    have hm' := hid hm
    have HO := hid ho; have HN := hid hn
    clear ho hn he hm k4 HDC hf1
    go_wp2_with fail
    go_ret2
    exact ⟨v4, by rw [if_pos hm'.out]; rfl, by rw [encB, if_pos hm'.out]; exact HO.out, fun k hk => ⟨by have := (HN.out k hk).1; omega, (HN.out k hk).2⟩, K4.out⟩
  · rw [he]
    have hm' := hid hm
    clear ho hn he hm k4 HDC hf1
    go_wp2_with fail
    go_ret2
    exact ⟨.slice none 0 0, by rw [if_neg hm'.out]; rfl, by rw [encB, if_neg hm'.out]; exact World.ownsRow_nil _ 0 _ 1, fun k hk => by simp [Value.ownBlock] at hk, K4.out⟩
set_option maxRecDepth 20000 in
set_option maxHeartbeats 4000000 in
theorem check_calls {v : Value} (hv : Sl .change w G v r.changes) (hG : ∀ k, G k → k < w.heap.size) : Calls Try.prog 15 #[.agg (reqCs r v).toArray] w fun e w' => e = .returned (.int .i64 (if mayR r then 0 else 1)) ∧ Keep (fun _ => False) w w' := by
  obtain ⟨A, c, rfl⟩ := hv.shape
  obtain ⟨n, hn⟩ : ∃ n, n = r.changes.length := ⟨_, rfl⟩
  rw [← hn] at hv ⊢
  have HV := hid hv; have HG := hid hG
  obtain ⟨er, her⟩ : ∃ er : Int, er = if mayR r then 0 else 1 := ⟨_, rfl⟩
  rw [← her]
  have HER := hid her
  clear hv hG hn her
  go_enter Try.func15, Try.ntmps15
  go_wp2_with (first
    | (refine wpl_boxB (v := .agg (reqCs r (.slice A n c)).toArray) rfl rfl rfl ?_; intro g1 w1 hg1 hb1 k1 s1; have HB1 := hid hb1; have K1 := hid k1; clear hg1 k1 s1 hb1))
  refine (newWriter_calls w1).mono ?_
  rintro e w2 ⟨rfl, hw2⟩
  have hW := WrAt.fresh w1
  have k2 : Keep (fun _ => False) w1 (w1.alloc (WrObj (.slice none 0 0) 0)) := (Keep.refl _ w1).alloc _
  have hz2 : (w1.alloc (WrObj (.slice none 0 0) 0)).heap.size = w1.heap.size + 1 := by simp
  rw [hw2] at hW k2 hz2
  have hb2 := k2.heap HB1.out id
  have K02 := hid (K1.out.trans k2 (fun _ _ f => f))
  have hpc := put_calls (r := r) (v := .slice A n c) hW (fun k hk => hk.2) (HV.out.keep K02.out (fun _ _ => id)) (fun k hk => ⟨fun e => by have := e.1; have := HG.out k hk; have := K1.out.size; omega, by have := HG.out k hk; have := K02.out.size; omega⟩) (by simp)
  have HPC := hid hpc
  obtain ⟨gw, hgw⟩ : ∃ gw, gw = w1.heap.size := ⟨_, rfl⟩
  rw [← hgw] at HPC ⊢
  have HGW := hid hgw; have HZ2 := hid hz2
  clear hw2 hW k2 hz2 hpc hgw
  go_wp2_with (first
    | (refine wpl_loadA (ty := 29) (o := 0) (n := 11) rfl rfl rfl hb2 (by kernel_rfl) (by kernel_rfl) (reqCs r (.slice A n c)) rfl rfl ?_))
  refine HPC.out.mono ?_
  rintro e w3 ⟨rfl, h3, k3⟩
  have hk03 : Keep (fun _ => False) w w3 := K02.out.trans k3 (fun b hb e => by have := e.1; have := K1.out.size; omega)
  have hdone : (mayR r ∧ (ePut ⟨[], 0⟩ r).f = 0) ∨ (¬ mayR r ∧ (ePut ⟨[], 0⟩ r).f = 1) := by
    by_cases hm : mayR r
    · exact .inl ⟨hm, by rw [ePut_good [] hm]⟩
    · exact .inr ⟨hm, ePut_bad [] hm⟩
  have hlen : (ePut ⟨[], 0⟩ r).b.length ≤ 35184372088832 := by
    unfold ePut
    split
    · have h1 := parts_len r (partsOf r.kind) (wNum ⟨[], 0⟩ r.kind)
      have h2 := partsOf_len r.kind
      have h3 := wNum_len (s := ⟨[], 0⟩) (n := r.kind)
      simp at h3
      omega
    · rw [wRefuse_len]; simp
  have hdc := done_calls h3 hlen
  have HK := hid hk03; have HD := hid hdone; have HDC := hid hdc
  clear h3 k3 hk03 hdone hlen hdc hb2
  go_wp2_with fail
  refine HDC.out.mono ?_
  rintro e w4 ⟨v4, rfl, ho, hn, k4⟩
  obtain ⟨A4, c4, rfl⟩ := own_slice ho
  have K4 := hid (HK.out.trans k4 (fun _ _ f => f))
  rcases HD.out with ⟨hm, he⟩ | ⟨hm, he⟩
  · rw [he]
    have hm' := hid (show er = 0 by rw [HER.out, if_pos hm])
    clear ho hn he hm k4 HDC
    go_wp2_with fail
    go_ret
    exact ⟨by rw [hm'.out]; rfl, K4.out⟩
  · rw [he]
    have hm' := hid (show er = 1 by rw [HER.out, if_neg hm])
    clear ho hn he hm k4 HDC
    go_wp2_with fail
    go_ret
    exact ⟨by rw [hm'.out]; rfl, K4.out⟩
/-- Take. -/
def TakePost' (F : Nat → Prop) (w : World) (g : Nat) (s : RS) (e : Ending) (w' : World) : Prop :=
  ∃ A c, e = .returned (.agg (reqCs (rTake s).1 (.slice A (rTake s).1.changes.length c)).toArray) ∧ Sl .change w' (NewIn w w') (.slice A (rTake s).1.changes.length c) (rTake s).1.changes ∧ RdAt F w' g (rTake s).2 ∧ Keep (fun k => k = g) w w'
theorem TakePost'.of {w' : World} {g : Nat} {s : RS} {v : Value} {x : Req × RS} (hx : rTake s = x) (hs : Sl .change w' (NewIn w w') v x.1.changes) (hr : RdAt F w' g x.2) (hk : Keep (fun k => k = g) w w') : TakePost' F w g s (.returned (.agg (reqCs x.1 v).toArray)) w' := by
  subst hx
  obtain ⟨A, c, rfl⟩ := hs.shape
  exact ⟨A, c, rfl, hs, hr, hk⟩
theorem foldb (l : List RPart) (x : Req × RS) : (l.foldl rdPart x).2.b.length ≤ x.2.b.length := by
  induction l generalizing x with
  | nil => exact Nat.le_refl _
  | cons p l ih => rw [List.foldl_cons]; exact Nat.le_trans (ih _) (rdPart_b x p)
set_option maxRecDepth 20000 in
set_option maxHeartbeats 8000000 in
theorem take_calls {g : Nat} {s : RS} (h : RdAt F w g s) (hF : ∀ k, F k → k < w.heap.size) (hl : s.b.length ≤ 140737488355328) : Calls Try.prog 26 #[.pointer (some ⟨g, 0, none⟩)] w (TakePost' F w g s) := by
  have hgF : F g := by obtain ⟨_, _, _, q⟩ := h; exact q
  have hgl := hF g hgF
  have H := hid h; have HF := hid hF
  clear h hF
  go_enter Try.func26, Try.ntmps26
  go_wp2_with (first
    | (refine wpl_allocB (z := .agg (reqCs reqE (.slice none 0 0)).toArray) rfl rfl (by kernel_rfl) ?_; intro g2 w2 hg2 hb2 k2 s2; have HG2 := hid hg2; have K2 := hid k2; have HB2 := hid hb2; clear hg2 k2 s2 hb2)
    | (refine wpl_build rfl rfl (.pointer (some ⟨g, 0, none⟩) :: (reqCs reqE (.slice none 0 0) ++ verdictCs vdE (.slice none 0 0))).toArray (by kernel_rfl) ?_)
    | (refine wpl_boxB (v := .agg (.pointer (some ⟨g, 0, none⟩) :: (reqCs reqE (.slice none 0 0) ++ verdictCs vdE (.slice none 0 0))).toArray) rfl rfl rfl ?_; intro gx w3 hgx hb3 k3 s3; have HGX := hid hgx; have K3 := hid (K2.out.trans k3 (fun _ _ f => f)); have HX3 := hid hb3; have HB23 := hid (k3.heap HB2.out id); clear hgx k3 s3 hb3))
  have hz2 := K2.out.size
  have hz3 := K3.out.size
  refine (rnum_calls (H.out.keep K3.out (fun _ _ => id)) (fun k hk => by have := HF.out k hk; omega)).mono ?_
  rintro e w4 ⟨v4, rfl, rfl, h4, k4⟩
  have hgxg : gx ≠ g := by have := HGX.out; omega
  have hx4 := k4.heap HX3.out hgxg
  have HB24 := hid (k4.heap HB23.out (fun e => by have := HG2.out; omega))
  have hrt : rTake s = if ((rpartsOf (rNum s).1).foldl rdPart ({ reqE with kind := (rNum s).1 }, (rNum s).2)).2.f ≠ 0 then (reqE, ((rpartsOf (rNum s).1).foldl rdPart ({ reqE with kind := (rNum s).1 }, (rNum s).2)).2) else (rpartsOf (rNum s).1).foldl rdPart ({ reqE with kind := (rNum s).1 }, (rNum s).2) := rfl
  have hnb := rNum_b s
  obtain ⟨N, hN⟩ : ∃ N, N = (rNum s).1 := ⟨_, rfl⟩
  rw [← hN] at hrt ⊢
  generalize (rNum s).2 = s4 at *
  have HRT := hid hrt
  have c1 := cell_at hx4 1 (.int .i64 0) rfl
  have f1 := free_at hx4 1
  have HX4 := hid hx4; have H4 := hid h4; have K4 := hid ((K3.out.mono (T := fun k => k = g) (fun _ _ f => f.elim)).trans k4 (fun _ _ e => e))
  clear hrt hN hx4 h4 k4
  have hxk : (w4.setCell ⟨gx, 1, none⟩ (.int .i64 N)).heap[gx]? = some (RXObj g { reqE with kind := N } (.slice none 0 0)) := by rw [heap_set HX4.out]; rfl
  have HXK := hid hxk
  clear hxk
  go_wp2_with fail
  have ks : Keep (fun k => k = gx) w4 (w4.setCell ⟨gx, 1, none⟩ (.int .i64 N)) := (Keep.refl _ w4).setCell _ _ (fun _ => rfl)
  have hgxF : ¬ F gx := fun e => by have := HF.out _ e; have := HGX.out; omega
  have hB25 := ks.heap HB24.out (fun e => by have e : g2 = gx := e; have := HG2.out; have := HGX.out; have := lt_heap HB2.out; omega)
  have h5 := H4.out.keep ks (fun b hb e => by have e : b = gx := e; subst e; exact hgxF hb)
  have K5 := hid ((K4.out.mono (T := fun k => k = g ∨ k = gx) (fun _ _ e => .inl e)).trans ks (fun _ _ e => .inr e))
  have hx5 := HXK.out
  generalize w4.setCell ⟨gx, 1, none⟩ (.int .i64 N) = w5 at *
  have hd5 : Rdg F w5 g gx ({ reqE with kind := N }, s4) := ⟨⟨_, hx5, ⟨none, 0, rfl, Nat.le_refl _, Nat.zero_le _, .inl rfl⟩⟩, h5⟩
  have hz5 := K5.out.size
  have HD5 := hid hd5; have HB25 := hid hB25
  have HX5 := hid hx5
  clear hd5 hB25 h5 hx5 ks c1 f1 HXK
  refine (rparts_calls N).mono ?_
  rintro e w6 ⟨A6, c6, n6, hn6, rfl, hr6, k6⟩
  have hd6 : Rdg F w6 g gx ({ reqE with kind := N }, s4) := ⟨⟨_, k6.heap HX5.out id, ⟨none, 0, rfl, Nat.le_refl _, Nat.zero_le _, .inl rfl⟩⟩, HD5.out.2.keep k6 (fun _ _ => id)⟩
  have HD6 := hid hd6; have HR6 := hid hr6; have HN6 := hid hn6; have HB26 := hid (k6.heap HB25.out id); have K6 := hid (K5.out.trans k6 (fun _ _ f => f.elim))
  have hz6 := k6.size
  obtain ⟨x0, hx0⟩ : ∃ x0 : Req × RS, x0 = ({ reqE with kind := N }, s4) := ⟨_, rfl⟩
  rw [← hx0] at HD6 HRT
  have hb0 : x0.2.b.length ≤ s.b.length := by rw [hx0]; exact hnb
  have hgx6 : ¬ F gx ∧ gx < w6.heap.size := ⟨hgxF, by have := lt_heap HX5.out; omega⟩
  have HGX6 := hid hgx6
  have hnl6 : n6 ≤ 100 := by
    rw [hn6, rpartsOf]
    split
    · rw [List.length_map]; have := partsOf_len N; omega
    · simp
  clear hd6 hr6 hn6 k6 hx0 hgx6
  go_wp2_with fail
  go_loopw [23] (fun i wr => ∃ j : Nat, j ≤ n6 ∧ i = .int .i64 j ∧ Rdg F wr g gx (((rpartsOf N).take j).foldl rdPart x0) ∧ Keep (fun k => k = g ∨ k = gx) w6 wr) (fun i _ => n6 - (intOf i).toNat)
  case atStart => exact ⟨0, Nat.zero_le _, rfl, HD6.out, Keep.refl _ _⟩
  case round =>
    obtain ⟨j, hj, rfl, hD, hkp⟩ := hrel
    have hzr := hkp.size
    by_cases hlt : j < n6
    · obtain ⟨p, hp⟩ : ∃ p, (rpartsOf N)[j]? = some p := ⟨(rpartsOf N)[j]'(by rw [← HN6.out]; exact hlt), by simp [show j < (rpartsOf N).length by rw [← HN6.out]; exact hlt]⟩
      obtain ⟨b, off, rfl, hbn, hcell⟩ := (HR6.out).at1 (j := j) (u := rpartV gx p) (by rw [List.getElem?_map, hp]; rfl)
      have d0 := hkp.cell hcell (fun e => by have := hbn.1; have := lt_heap HX5.out; simp only at *; omega)
      have htk : ((rpartsOf N).take (j + 1)).foldl rdPart x0 = rdPart (((rpartsOf N).take j).foldl rdPart x0) p := by rw [List.take_add_one, hp, List.foldl_append]; rfl
      have hpc := rp_calls p hD (fun k hk => by have := HF.out k hk; omega) ⟨HGX6.out.1, by have := HGX6.out.2; omega⟩ (by have := foldb ((rpartsOf N).take j) x0; omega)
      rw [← htk] at hpc
      have HPC := hid hpc; have HKP := hid hkp
      clear hD hkp hcell htk hpc hp
      rcases p with p | _
      · cases p
        all_goals (
          simp only [rpartV, rpartF] at d0
          go_wp2_with fail
          refine HPC.out.mono ?_
          rintro en w9 ⟨rfl, h9, k9⟩
          have H9 := hid h9; have K9 := hid (HKP.out.trans k9 (fun _ _ e => e))
          clear h9 k9
          go_wp2_with fail
          exact ⟨⟨j + 1, by omega, by simp, H9.out, K9.out⟩, by simp [intOf]; omega⟩)
      · simp only [rpartV, rpartF] at d0
        go_wp2_with fail
        refine HPC.out.mono ?_
        rintro en w9 ⟨rfl, h9, k9⟩
        have H9 := hid h9; have K9 := hid (HKP.out.trans k9 (fun _ _ e => e))
        clear h9 k9
        go_wp2_with fail
        exact ⟨⟨j + 1, by omega, by simp, H9.out, K9.out⟩, by simp [intOf]; omega⟩
    · obtain rfl : j = n6 := by omega
      rw [List.take_of_length_le (by rw [← HN6.out]; exact Nat.le_refl _)] at hD
      have hrt := HRT.out
      generalize (rpartsOf N).foldl rdPart x0 = xe at *
      obtain ⟨q, se⟩ := xe
      obtain ⟨⟨ve, hxe, hse⟩, hre⟩ := hD
      simp only at hxe hse hre hrt
      have hb2r := hkp.heap HB26.out (fun e => by have := HG2.out; have := HGX.out; have := lt_heap HB2.out; omega)
      have K07 := hid (K6.out.trans hkp (fun _ _ e => e))
      have HXE := hid hxe; have HSE := hid hse; have HRE := hid hre; have HB2R := hid hb2r; have HRT2 := hid hrt
      have hfl := fail_calls hre
      have HFL := hid hfl
      have hzw := hkp.size
      have hgx7 := HGX6.out
      clear hkp hxe hse hre hb2r hrt hfl
      by_cases hf : se.f = 0
      · have hfe : (se.f != 0) = false := by simpa using hf
        have HT := hid (show rTake s = (q, se) by rw [HRT2.out, if_neg (by simpa using hf)])
        have hxe := HXE.out
        have hb2r := HB2R.out
        clear hf
        obtain ⟨Ae, ce, rfl⟩ := HSE.out.shape
        obtain ⟨ne, hne⟩ : ∃ ne, ne = q.changes.length := ⟨_, rfl⟩
        have hse := HSE.out
        rw [← hne] at hxe hse
        have HSE2 := hid hse
        clear hne hse HSE HXE
        go_wp2_with fail
        refine HFL.out.mono ?_
        rintro e w' ⟨rfl, rfl⟩
        go_wp2_with (first
          | (refine wpl_loadA (ty := 29) (o := 1) (n := 11) rfl rfl rfl hxe (by kernel_rfl) (by kernel_rfl) (reqCs q (.slice Ae ne ce)) rfl rfl ?_)
          | (refine wpl_storeB (v := .agg (reqCs q (.slice Ae ne ce)).toArray) rfl rfl rfl rfl hb2r (by kernel_rfl) (Nat.le_refl 11) (by simp [Value.oneCell', reqCs, Value.cells]) ?_; intro w8 hb8 k8 s8; rw [show spl (Value.agg (reqCs reqE (.slice none 0 0)).toArray).cells 0 (Value.agg (reqCs q (.slice Ae ne ce)).toArray).cells.toList = (reqCs q (.slice Ae ne ce)).toArray from spl_whole _ _ (Nat.le_refl 11)] at hb8; have K8 := hid k8; clear k8 s8))
        refine bodyPost_ret (res_cell (g := g2) (cs := (reqCs q (.slice Ae ne ce)).toArray) Try.results26 _ rfl hb8 (by kernel_rfl) (by kernel_rfl)) rfl ?_
        have hz8 := K8.out.size
        have hl2 := lt_heap HB2.out
        have kz : Keep (fun k => k = g) w w8 := ((K07.out.mono (T := fun k => k = g ∨ k = gx ∨ k = g2) (fun _ _ e => e.elim .inl (fun e => .inr (.inl e)))).trans K8.out (fun b hb e => .inr (.inr e))).mono (fun b hb e => by have := HG2.out; have := HGX.out; omega)
        refine TakePost'.of (x := (q, se)) HT.out ?_ (HRE.out.keep K8.out (fun b hb e => by have e : b = g2 := e; have := HF.out b hb; have := HG2.out; omega)) kz
        exact (HSE2.out.keep K8.out (fun b hb e => by have e : b = g2 := e; have := hb.1; have := HGX.out; omega)).mono (fun b hb => ⟨by have := hb.1; have := HGX.out; omega, by have := hb.2.1; omega⟩)
      · have hfe : (se.f != 0) = true := by simpa using hf
        have HT := hid (show rTake s = (reqE, se) by rw [HRT2.out, if_pos (by simpa using hf)])
        have hb2r := HB2R.out
        clear hf HSE HXE
        go_wp2_with fail
        refine HFL.out.mono ?_
        rintro e w' ⟨rfl, rfl⟩
        go_wp2_with (first
          | (refine wpl_storeB (v := .agg (reqCs reqE (.slice none 0 0)).toArray) rfl rfl rfl rfl hb2r (by kernel_rfl) (Nat.le_refl 11) (by simp [Value.oneCell', reqCs, Value.cells]) ?_; intro w8 hb8 k8 s8; rw [show spl (Value.agg (reqCs reqE (.slice none 0 0)).toArray).cells 0 (Value.agg (reqCs reqE (.slice none 0 0)).toArray).cells.toList = (reqCs reqE (.slice none 0 0)).toArray from spl_whole _ _ (Nat.le_refl 11)] at hb8; have K8 := hid k8; clear k8 s8))
        refine bodyPost_ret (res_cell (g := g2) (cs := (reqCs reqE (.slice none 0 0)).toArray) Try.results26 _ rfl hb8 (by kernel_rfl) (by kernel_rfl)) rfl ?_
        have kz : Keep (fun k => k = g) w w8 := ((K07.out.mono (T := fun k => k = g ∨ k = gx ∨ k = g2) (fun _ _ e => e.elim .inl (fun e => .inr (.inl e)))).trans K8.out (fun b hb e => .inr (.inr e))).mono (fun b hb e => by have := HG2.out; have := HGX.out; omega)
        exact TakePost'.of (x := (reqE, se)) HT.out ⟨none, 0, rfl, Nat.le_refl _, Nat.zero_le _, .inl rfl⟩ (HRE.out.keep K8.out (fun b hb e => by have e : b = g2 := e; have := HF.out b hb; have := HG2.out; omega)) kz
/-- Decode. -/
def DecPost (w : World) (b : List UInt8) (e : Ending) (w' : World) : Prop :=
  ∃ A c, e = .returned (.tuple #[.agg (reqCs (decR b).1 (.slice A (decR b).1.changes.length c)).toArray, .int .i64 (decR b).2]) ∧ Sl .change w' (fun k => k < w'.heap.size) (.slice A (decR b).1.changes.length c) (decR b).1.changes ∧ Keep (fun _ => False) w w'
theorem DecPost.of {w' : World} {b : List UInt8} {v : Value} {q : Req} {n : Int} (hx : decR b = (q, n)) (hs : Sl .change w' (fun k => k < w'.heap.size) v q.changes) (hk : Keep (fun _ => False) w w') : DecPost w b (.returned (.tuple #[.agg (reqCs q v).toArray, .int .i64 n])) w' := by
  obtain ⟨A, c, rfl⟩ := hs.shape
  unfold DecPost
  rw [hx]
  exact ⟨A, c, rfl, hs, hk⟩
set_option maxRecDepth 20000 in
set_option maxHeartbeats 8000000 in
theorem dec_calls {v : Value} {b : List UInt8} (hv : Row G w v b.length 1 (b.map U8)) (hl : b.length ≤ 140737488355328) : Calls Try.prog 10 #[v] w (DecPost w b) := by
  have HV := hid hv
  clear hv
  have hd : decR b = if rEnd (rTake ⟨b, 0⟩).2 ≠ 0 then (reqE, rEnd (rTake ⟨b, 0⟩).2) else ((rTake ⟨b, 0⟩).1, 0) := rfl
  go_enter Try.func10, Try.ntmps10
  go_wp2_with (first
    | (refine wpl_allocB (z := .agg (reqCs reqE (.slice none 0 0)).toArray) rfl rfl (by kernel_rfl) ?_; intro g2 w2 hg2 hb2 k2 s2; have HG2 := hid hg2; have K2 := hid k2; have HB2 := hid hb2; clear hg2 k2 s2 hb2))
  refine (newReader_calls (HV.out.keep K2.out (fun _ _ => id)) hl).mono ?_
  rintro e w3 ⟨g, rfl, h3, k3⟩
  have HB3 := hid (k3.heap HB2.out id)
  have K3 := hid (K2.out.trans k3 (fun _ _ f => f))
  have hgF : NewIn w2 w3 g := by obtain ⟨_, _, _, q⟩ := h3; exact q
  have hz3 := k3.size
  have htc := take_calls h3 (fun k hk => hk.2) hl
  have HTC := hid htc
  clear h3 k3 htc
  go_wp2_with fail
  refine HTC.out.mono ?_
  rintro e w4 ⟨A4, c4, rfl, hs4, hr4, k4⟩
  have hl2 := lt_heap HB2.out
  have HB4 := hid (k4.heap HB3.out (fun e => by have := hgF.1; omega))
  have K4 := hid (K3.out.trans k4 (S := fun _ => False) (fun k hk e => by have := hgF.1; have := K2.out.size; omega))
  generalize rTake ⟨b, 0⟩ = x at *
  obtain ⟨q, se⟩ := x
  simp only at hs4 hr4 hd ⊢
  obtain ⟨n4, hn4⟩ : ∃ n4, n4 = q.changes.length := ⟨_, rfl⟩
  rw [← hn4] at hs4 ⊢
  have HS4 := hid hs4
  have hec := fun w' (hk : Keep (fun _ => False) w4 w') => end_calls (hr4.keep hk (fun _ _ => id))
  have HEC := hid hec; have HD := hid hd
  clear hs4 hr4 k4 hn4 hec hd
  go_wp2_with (first
    | (refine wpl_allocB (z := .agg (reqCs reqE (.slice none 0 0)).toArray) rfl rfl (by kernel_rfl) ?_; intro g5 w5 hg5 hb5 k5 s5; have HG5 := hid hg5; have K5 := hid k5; clear hg5 k5 s5)
    | (refine wpl_storeB (v := .agg (reqCs q (.slice A4 n4 c4)).toArray) rfl rfl rfl rfl hb5 (by kernel_rfl) (Nat.le_refl 11) (by simp [Value.oneCell', reqCs, Value.cells]) ?_; intro w6 hb6 k6 s6; rw [show spl (Value.agg (reqCs reqE (.slice none 0 0)).toArray).cells 0 (Value.agg (reqCs q (.slice A4 n4 c4)).toArray).cells.toList = (reqCs q (.slice A4 n4 c4)).toArray from spl_whole _ _ (Nat.le_refl 11)] at hb6; have K6 := hid k6; have HB6 := hid hb6; clear k6 s6 hb6 hb5))
  have k46 : Keep (fun _ => False) w4 w6 := K5.out.trans K6.out (fun b hb e => by have := HG5.out; omega)
  refine (HEC.out _ k46).mono ?_
  rintro e w' ⟨rfl, rfl⟩
  have hb6 := HB6.out
  have hb2 := k46.heap HB4.out id
  have K46 := hid k46
  clear k46
  have hg25 : g2 < g5 := by have := HG5.out; have := lt_heap HB4.out; omega
  by_cases hf : rEnd se = 0
  · have hfe : (rEnd se != 0) = false := by simpa using hf
    have HT := hid (show decR b = (q, 0) by rw [HD.out, if_neg (by simpa using hf)])
    clear hf
    generalize rEnd se = n at *
    go_wp2_with (first
      | (refine wpl_loadA (ty := 29) (o := 0) (n := 11) rfl rfl rfl hb6 (by kernel_rfl) (by kernel_rfl) (reqCs q (.slice A4 n4 c4)) rfl rfl ?_)
      | (refine wpl_storeB (v := .agg (reqCs q (.slice A4 n4 c4)).toArray) rfl rfl rfl rfl hb2 (by kernel_rfl) (Nat.le_refl 11) (by simp [Value.oneCell', reqCs, Value.cells]) ?_; intro w8 hb8 k8 s8; rw [show spl (Value.agg (reqCs reqE (.slice none 0 0)).toArray).cells 0 (Value.agg (reqCs q (.slice A4 n4 c4)).toArray).cells.toList = (reqCs q (.slice A4 n4 c4)).toArray from spl_whole _ _ (Nat.le_refl 11)] at hb8; have K8 := hid k8; clear k8 s8))
    refine bodyPost_ret (res_cell_tmp (g := g2) (cs := (reqCs q (.slice A4 n4 c4)).toArray) Try.results10 _ rfl rfl hb8 (by kernel_rfl) (by kernel_rfl)) rfl ?_
    have hz8 := K8.out.size
    have kz : Keep (fun _ => False) w w8 := (K4.out.trans K46.out (fun _ _ f => f)).trans K8.out (fun k hk e => by have := HG2.out; omega)
    exact DecPost.of HT.out (((HS4.out.keep K46.out (fun _ _ => id)).keep K8.out (fun k hk e => by have e : k = g2 := e; have := hk.1; omega)).mono (fun k hk => by have := hk.2; have := K46.out.size; omega)) kz
  · have hfe : (rEnd se != 0) = true := by simpa using hf
    have HT := hid (show decR b = (reqE, rEnd se) by rw [HD.out, if_pos (by simpa using hf)])
    clear hf
    generalize rEnd se = n at *
    go_wp2_with (first
      | (refine wpl_storeB (v := .agg (reqCs reqE (.slice none 0 0)).toArray) rfl rfl rfl rfl hb2 (by kernel_rfl) (Nat.le_refl 11) (by simp [Value.oneCell', reqCs, Value.cells]) ?_; intro w8 hb8 k8 s8; rw [show spl (Value.agg (reqCs reqE (.slice none 0 0)).toArray).cells 0 (Value.agg (reqCs reqE (.slice none 0 0)).toArray).cells.toList = (reqCs reqE (.slice none 0 0)).toArray from spl_whole _ _ (Nat.le_refl 11)] at hb8; have K8 := hid k8; clear k8 s8))
    refine bodyPost_ret (res_cell_tmp (g := g2) (cs := (reqCs reqE (.slice none 0 0)).toArray) Try.results10 _ rfl rfl hb8 (by kernel_rfl) (by kernel_rfl)) rfl ?_
    have kz : Keep (fun _ => False) w w8 := (K4.out.trans K46.out (fun _ _ f => f)).trans K8.out (fun k hk e => by have := HG2.out; omega)
    exact DecPost.of HT.out ⟨none, 0, rfl, Nat.le_refl _, Nat.zero_le _, .inl rfl⟩ kz
end
end Go.Proofs.Ytdijafolldneeaa

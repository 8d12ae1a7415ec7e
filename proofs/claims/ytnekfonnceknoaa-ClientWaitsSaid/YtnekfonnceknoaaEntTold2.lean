/- entry.Told, entry.EncodeVerdict. -/
import Derived.Test.YtnekfonnceknoaaEntVPut
import Derived.Test.YtnekfonnceknoaaEntTop
namespace Go.Proofs.Ytnekfonnceknoaa
open Go.RowKit
section
variable {F G : Nat → Prop} {w : World} {gw gx : Nat} {s : WS} {u : Value} {x : Verdict}
set_option maxRecDepth 20000 in
set_option maxHeartbeats 8000000 in
/-- A verdict is written. -/
theorem told_calls (h : WrAt F w gw s) (hF : ∀ k, F k → k < w.heap.size) (hv : Sl .commit w G u x.commits) (hG : ∀ k, G k → ¬ F k ∧ k < w.heap.size) (hl : s.b.length ≤ 10000000000000) :
    Calls Try.prog 87 #[.pointer (some ⟨gw, 0, none⟩), .agg (verdictCs x u).toArray] w (WrPost F w gw (eTold s x)) := by
  obtain ⟨A, c, rfl⟩ := hv.shape
  obtain ⟨nc, hnc⟩ : ∃ nc, nc = x.commits.length := ⟨_, rfl⟩
  rw [← hnc] at hv ⊢
  have HV := hid hv; have HG := hid hG; have HF := hid hF; have HW := hid h
  clear hv hG hF h hnc
  go_enter Try.func87, Try.ntmps87
  go_wp2_with (first
    | (refine wpl_boxB (v := .agg (verdictCs x (.slice A nc c)).toArray) rfl rfl rfl ?_; intro g3 w1 hg1 hb1 k1 s1; have HG3 := hid hg1; have K1 := hid k1; have HB1 := hid hb1; clear hg1 k1 s1)
    | (refine wpl_loadA (ty := 35) (o := 0) (n := 7) rfl rfl rfl hb1 (by kernel_rfl) (by kernel_rfl) (verdictCs x (.slice A nc c)) rfl rfl ?_)
    | (refine wpl_build rfl rfl (.pointer (some ⟨gw, 0, none⟩) :: (reqCs reqZE (.slice none 0 0) ++ verdictCs x (.slice A nc c))).toArray (by kernel_rfl) ?_)
    | (have _f := HB1; refine wpl_boxB (v := .agg (.pointer (some ⟨gw, 0, none⟩) :: (reqCs reqZE (.slice none 0 0) ++ verdictCs x (.slice A nc c))).toArray) rfl rfl rfl ?_; intro gx w2 hgx hb2 k2 s2; have HGX := hid hgx; have K2 := hid k2; have HB2 := hid hb2; have hb12 := k2.heap HB1.out id; have c0 := cell_at hb12 0 (.int .i64 x.code) rfl; have HB12 := hid hb12; clear hgx k2 s2 hb2 hb12 hb1 _f))
  refine (vparts_calls x.code).mono ?_
  rintro e w3 ⟨A3, c3, n3, hn3, rfl, hrow3, k3⟩
  obtain ⟨ok, hok⟩ : ∃ ok, ok = decide (0 ≤ x.code ∧ x.code < 15) := ⟨_, rfl⟩
  rw [← hok]
  have K03 := hid ((K1.out.trans K2.out (fun _ _ f => f)).trans k3 (fun _ _ f => f))
  have hb3 := k3.heap HB12.out id
  have HB3 := hid hb3
  have HX3 := hid (k3.heap HB2.out id)
  have HROW := hid hrow3; have HOK := hid hok; have HN3 := hid hn3
  have HV3 := hid (HV.out.keep K03.out (fun _ _ => id)); have HW3 := hid (HW.out.keep K03.out (fun _ _ => id))
  have hn5 : n3 ≤ 3 := by rw [hn3]; exact vParts_len _
  clear hrow3 k3 hok hn3 c0 HB12 HB2
  cases ok
  · have hput := hid (show eTold s x = wRefuse s by rw [eTold, if_neg (fun h => by have := of_decide_eq_false HOK.out.symm; exact this h.1)])
    have hrf := refuse_calls HW3.out
    go_wp2_with fail
    refine hrf.mono ?_
    rintro e w5 ⟨rfl, h5, k5⟩
    go_wp2_with fail
    go_end0
    rw [hput.out]
    have hz := K03.out.size
    exact ⟨rfl, h5.mono (fun q hq => hq.imp id (fun ⟨a, b⟩ => ⟨Nat.le_trans hz a, b⟩)), (K03.out.mono (fun _ _ f => f.elim)).trans k5 (fun _ _ q => q)⟩
  · have hkd : 0 ≤ x.code ∧ x.code < 15 := of_decide_eq_true HOK.out.symm
    have PC := hid (pureV_calls HV3.out hkd)
    have HKD := hid hkd
    clear hkd
    go_wp2_with (first
      | (refine wpl_loadG (ty := 35) rfl rfl rfl hb3 (by kernel_rfl) (by kernel_rfl) (verdictCs x (.slice A nc c)) rfl rfl ?_))
    refine PC.out.mono ?_
    rintro e w5 ⟨rfl, k5⟩
    have hz5 := k5.size
    have hz3 := K03.out.size
    clear hb3 PC
    by_cases hro : x = onlyV x
    · have hput := hid (show eTold s x = (vParts x.code).foldl (fun s p => vPart x p s) (wNum s x.code) by rw [eTold, if_pos ⟨HKD.out, hro⟩])
      rw [decide_eq_true hro]
      clear hro
      have c0 := k5.cell (cell_at HB3.out 0 (.int .i64 x.code) rfl) id
      have hnc := num_calls (HW3.out.keep k5 (fun _ _ => id)) x.code (by omega)
      have hnl := wNum_len (s := s) (n := x.code)
      have HX5 := hid (k5.heap HX3.out id)
      have HV5 := hid (HV3.out.keep k5 (fun _ _ => id)); have HR5 := hid (HROW.out.keep k5 (fun _ _ => id)); have K5 := hid (K03.out.trans k5 (fun _ _ q => q))
      clear k5
      go_wp2_with fail
      refine hnc.mono ?_
      rintro en w6 ⟨rfl, h6, k6⟩
      generalize wNum s x.code = s1 at *
      have H6 := hid h6; have K6 := hid k6
      clear hnc h6 k6 c0
      go_wp2_with fail
      go_loopw [35] (fun i wr => ∃ j : Nat, j ≤ n3 ∧ i = .int .i64 j ∧ WrAt (Grow F w5 wr) wr gw (((vParts x.code).take j).foldl (fun s p => vPart x p s) s1) ∧ Keep F w5 wr) (fun i _ => n3 - (intOf i).toNat)
      case atStart => exact ⟨0, Nat.zero_le _, rfl, H6.out, K6.out⟩
      case round =>
        obtain ⟨j, hj, rfl, hW, hkp⟩ := hrel
        have hgx5 := lt_heap HX5.out
        have hxF : ¬ F gx := fun e => by have := HF.out _ e; have := HGX.out; have := K1.out.size; omega
        by_cases hlt : j < n3
        · obtain ⟨p, hp⟩ : ∃ p, (vParts x.code)[j]? = some p := ⟨(vParts x.code)[j]'(by rw [← HN3.out]; exact hlt), by simp [show j < (vParts x.code).length by rw [← HN3.out]; exact hlt]⟩
          obtain ⟨b, off, rfl, hbn, hcell⟩ := (HR5.out).at1 (j := j) (u := vpartV gx p) (by rw [List.getElem?_map, hp]; rfl)
          have d0 := hkp.cell hcell (fun e => by have := HF.out _ e; have := hbn.1; have := HGX.out; have := K1.out.size; have := K2.out.size; simp only at *; omega)
          have htk : ((vParts x.code).take (j + 1)).foldl (fun s p => vPart x p s) s1 = vPart x p (((vParts x.code).take j).foldl (fun s p => vPart x p s) s1) := by rw [List.take_add_one, hp, List.foldl_append]; rfl
          have hln := vparts_len x ((vParts x.code).take j) s1
          have hlj : ((vParts x.code).take j).length ≤ 3 := by rw [List.length_take]; omega
          have hpc := vpart_calls (F := Grow F w5 wr) (G := G) (x := x) p (hkp.heap HX5.out hxF) hW (fun e => e.elim hxF (fun e => by have := e.1; omega)) (by omega) (HV5.out.keep hkp (fun q hq => (HG.out q hq).1))
            (fun q hq => ⟨fun e => e.elim (HG.out q hq).1 (fun e => by have := e.1; have := (HG.out q hq).2; omega), by have := (HG.out q hq).2; have := hkp.size; omega⟩) (Grow.lt (fun q hq => by have := HF.out q hq; omega) hkp.size)
          rw [← htk] at hpc
          have HPC := hid hpc; have HKP := hid hkp
          clear hW hkp hcell htk hln hlj hpc hp hxF hgx5
          cases p
          all_goals (
            simp only [vpartV, vpartF] at d0
            go_wp2_with fail
            refine HPC.out.mono ?_
            rintro en w9 hp9
            obtain ⟨rfl, h9, k9⟩ := WrPost.after HKP.out hp9
            clear hp9
            have H9 := hid h9; have K9 := hid k9
            clear h9 k9
            go_wp2_with fail
            exact ⟨⟨j + 1, by omega, by simp, H9.out, K9.out⟩, by simp [intOf]; omega⟩)
        · obtain rfl : j = n3 := by omega
          have H9 := hid hW; have K9 := hid hkp
          clear hW hkp
          go_wp2_with fail
          go_end0
          have h9 := H9.out
          rw [List.take_of_length_le (by rw [← HN3.out]; exact Nat.le_refl _)] at h9
          rw [hput.out]
          have hz := K5.out.size
          exact ⟨rfl, h9.mono (fun q hq => hq.imp id (fun ⟨a, b⟩ => ⟨by omega, b⟩)), (K5.out.mono (fun _ _ f => f.elim)).trans K9.out (fun _ _ q => q)⟩
    · have hput := hid (show eTold s x = wRefuse s by rw [eTold, if_neg (fun h => hro h.2)])
      rw [decide_eq_false hro]
      clear hro
      have hrf := refuse_calls (HW3.out.keep k5 (fun _ _ => id))
      have K5 := hid (K03.out.trans k5 (fun _ _ q => q))
      clear k5
      go_wp2_with fail
      refine hrf.mono ?_
      rintro e w6 ⟨rfl, h6, k6⟩
      go_wp2_with fail
      go_end0
      rw [hput.out]
      have hz := K5.out.size
      exact ⟨rfl, h6.mono (fun q hq => hq.imp id (fun ⟨a, b⟩ => ⟨by omega, b⟩)), (K5.out.mono (fun _ _ f => f.elim)).trans k6 (fun _ _ q => q)⟩
/-- What a verdict's bytes are: the writer's state behind it. -/
def vS (x : Verdict) : WS := eTold ⟨[], 0⟩ x
def vB (x : Verdict) : List UInt8 := if (vS x).f = 0 then (vS x).b else []
def EncVPost (w : World) (x : Verdict) (e : Ending) (w' : World) : Prop :=
  ∃ v, e = .returned (.tuple #[v, .int .i64 (if (vS x).f = 0 then 0 else 1)]) ∧ w'.ownsRow 0 5 1 v (vB x).length ((vB x).map U8) ∧ (∀ k, v.ownBlock = some k → NewIn w w' k) ∧ Keep (fun _ => False) w w'
theorem vS_len (x : Verdict) : (vS x).b.length ≤ 35184372088832 := by
  unfold vS eTold
  split
  · have h1 := vparts_len x (vParts x.code) (wNum ⟨[], 0⟩ x.code)
    have h2 := vParts_len x.code
    have h3 := wNum_len (s := ⟨[], 0⟩) (n := x.code)
    simp at h3
    omega
  · rw [wRefuse_len]; simp
set_option maxRecDepth 20000 in
set_option maxHeartbeats 4000000 in
theorem encV_calls (hv : Sl .commit w G u x.commits) (hG : ∀ k, G k → k < w.heap.size) : Calls Try.prog 72 #[.agg (verdictCs x u).toArray] w (EncVPost w x) := by
  obtain ⟨A, c, rfl⟩ := hv.shape
  obtain ⟨n, hn⟩ : ∃ n, n = x.commits.length := ⟨_, rfl⟩
  rw [← hn] at hv ⊢
  have HV := hid hv; have HG := hid hG
  clear hv hG hn
  go_enter Try.func72, Try.ntmps72
  go_wp2_with (first
    | (refine wpl_boxB (v := .agg (verdictCs x (.slice A n c)).toArray) rfl rfl rfl ?_; intro g1 w1 hg1 hb1 k1 s1; have HB1 := hid hb1; have K1 := hid k1; clear hg1 k1 s1 hb1))
  refine (newWriter_calls w1).mono ?_
  rintro e w2 ⟨rfl, hw2⟩
  have hW := WrAt.fresh w1
  have k2 : Keep (fun _ => False) w1 (w1.alloc (WrObj (.slice none 0 0) 0)) := (Keep.refl _ w1).alloc _
  have hz2 : (w1.alloc (WrObj (.slice none 0 0) 0)).heap.size = w1.heap.size + 1 := by simp
  rw [hw2] at hW k2 hz2
  have hb2 := k2.heap HB1.out id
  have K02 := hid (K1.out.trans k2 (fun _ _ f => f))
  have hpc := told_calls (x := x) (u := .slice A n c) hW (fun k hk => hk.2) (HV.out.keep K02.out (fun _ _ => id)) (fun k hk => ⟨fun e => by have := e.1; have := HG.out k hk; have := K1.out.size; omega, by have := HG.out k hk; have := K02.out.size; omega⟩) (by simp)
  have HPC := hid hpc
  obtain ⟨gw, hgw⟩ : ∃ gw, gw = w1.heap.size := ⟨_, rfl⟩
  rw [← hgw] at HPC ⊢
  have HGW := hid hgw; have HZ2 := hid hz2
  clear hw2 hW k2 hz2 hpc hgw
  go_wp2_with (first
    | (refine wpl_loadA (ty := 35) (o := 0) (n := 7) rfl rfl rfl hb2 (by kernel_rfl) (by kernel_rfl) (verdictCs x (.slice A n c)) rfl rfl ?_))
  refine HPC.out.mono ?_
  rintro e w3 ⟨rfl, h3, k3⟩
  have hk03 : Keep (fun _ => False) w w3 := K02.out.trans k3 (fun b hb e => by have := e.1; have := K1.out.size; omega)
  have hdc := done_calls h3 (vS_len x)
  have HK := hid hk03; have HDC := hid hdc
  clear h3 k3 hk03 hdc hb2
  go_wp2_with fail
  refine HDC.out.mono ?_
  rintro e w4 ⟨v4, rfl, ho, hn, k4⟩
  have K4 := hid (HK.out.trans k4 (fun _ _ f => f))
  have hz := HK.out.size
  obtain ⟨f, hf⟩ : ∃ f, f = (eTold ⟨[], 0⟩ x).f := ⟨_, rfl⟩
  rw [← hf] at ho ⊢
  have HFF := hid (show (vS x).f = f from hf.symm)
  have HO := hid ho; have HN := hid hn
  clear ho hn k4 HDC hf
  by_cases h0 : f = 0
  · subst h0
    go_wp2_with fail
    go_ret2
    refine ⟨v4, by rw [HFF.out]; rfl, ?_, fun k hk => ⟨by have := (HN.out k hk).1; omega, (HN.out k hk).2⟩, K4.out⟩
    have := HO.out
    simp only [if_true] at this
    rw [vB, HFF.out, if_pos rfl]
    exact this
  · have hne : (f != 0) = true := by simpa using h0
    have H0 := hid h0
    clear h0
    go_wp2_with fail
    go_ret2
    refine ⟨.slice none 0 0, by rw [HFF.out, if_neg H0.out]; rfl, ?_, fun k hk => by simp [Value.ownBlock] at hk, K4.out⟩
    rw [vB, HFF.out, if_neg H0.out]
    exact World.ownsRow_nil _ 0 _ 1
end
end Go.Proofs.Ytnekfonnceknoaa

/- entry: Check. -/
import Derived.Test.YtnekfonnceknoaaEntPut2
namespace Go.Proofs.Ytnekfonnceknoaa
open Go.RowKit
section
variable {F G : Nat → Prop} {w : World} {r : Req}
set_option maxRecDepth 20000 in
set_option maxHeartbeats 4000000 in
theorem check_calls {v : Value} (hv : Sl .change w G v r.changes) (hG : ∀ k, G k → k < w.heap.size) : Calls Try.prog 22 #[.agg (reqCs r v).toArray] w fun e w' => e = .returned (.int .i64 (if mayR r then 0 else 1)) ∧ Keep (fun _ => False) w w' := by
  obtain ⟨A, c, rfl⟩ := hv.shape
  obtain ⟨n, hn⟩ : ∃ n, n = r.changes.length := ⟨_, rfl⟩
  rw [← hn] at hv ⊢
  have HV := hid hv; have HG := hid hG
  obtain ⟨er, her⟩ : ∃ er : Int, er = if mayR r then 0 else 1 := ⟨_, rfl⟩
  rw [← her]
  have HER := hid her
  clear hv hG hn her
  go_enter Try.func22, Try.ntmps22
  go_wp2_with (first
    | (refine wpl_boxB (v := .agg (reqCs r (.slice A n c)).toArray) rfl rfl rfl ?_; intro g1 w1 hg1 hb1 k1 s1; have HB1 := hid hb1; have K1 := hid k1; clear hg1 k1 s1 hb1))
  refine (newWriter_calls w1).mono ?_
  rintro e w2 ⟨rfl, hw2⟩
  have hW := WrAt.fresh w1
  have k2 : Keep (fun _ => False) w1 (w1.alloc (WrObj (.slice none 0 0) 0)) := (Keep.refl _ w1).alloc _
  have hz2 : (w1.alloc (WrObj (.slice none 0 0) 0)).heap.size = w1.heap.size + 1 := by simp
  rw [hw2] at hW k2 hz2
  have hb2 := k2.heap HB1.out id
  have K02 := hid (K1.out.trans k2 (fun _ _ f => f))
  have hpc := put_calls (r := r) (v := .slice A n c) hW (fun k hk => hk.2) (HV.out.keep K02.out (fun _ _ => id)) (fun k hk => ⟨fun e => by have := e.1; have := HG.out k hk; have := K1.out.size; omega, by have := HG.out k hk; have := K02.out.size; omega⟩) (by simp)
  have HPC := hid hpc
  obtain ⟨gw, hgw⟩ : ∃ gw, gw = w1.heap.size := ⟨_, rfl⟩
  rw [← hgw] at HPC ⊢
  have HGW := hid hgw; have HZ2 := hid hz2
  clear hw2 hW k2 hz2 hpc hgw
  go_wp2_with (first
    | (refine wpl_loadA (ty := 29) (o := 0) (n := 11) rfl rfl rfl hb2 (by kernel_rfl) (by kernel_rfl) (reqCs r (.slice A n c)) rfl rfl ?_))
  refine HPC.out.mono ?_
  rintro e w3 ⟨rfl, h3, k3⟩
  have hk03 : Keep (fun _ => False) w w3 := K02.out.trans k3 (fun b hb e => by have := e.1; have := K1.out.size; omega)
  have hdone : (mayR r ∧ (ePut ⟨[], 0⟩ r).f = 0) ∨ (¬ mayR r ∧ (ePut ⟨[], 0⟩ r).f = 1) := by
    by_cases hm : mayR r
    · exact .inl ⟨hm, by rw [ePut_good [] hm]⟩
    · exact .inr ⟨hm, ePut_bad [] hm⟩
  have hlen : (ePut ⟨[], 0⟩ r).b.length ≤ 35184372088832 := by
    unfold ePut
    split
    · have h1 := parts_len r (partsOf r.kind) (wNum ⟨[], 0⟩ r.kind)
      have h2 := partsOf_len r.kind
      have h3 := wNum_len (s := ⟨[], 0⟩) (n := r.kind)
      simp at h3
      omega
    · rw [wRefuse_len]; simp
  have hdc := done_calls h3 hlen
  have HK := hid hk03; have HD := hid hdone; have HDC := hid hdc
  clear h3 k3 hk03 hdone hlen hdc hb2
  go_wp2_with fail
  refine HDC.out.mono ?_
  rintro e w4 ⟨v4, rfl, ho, hn, k4⟩
  obtain ⟨A4, c4, rfl⟩ := own_slice ho
  have K4 := hid (HK.out.trans k4 (fun _ _ f => f))
  rcases HD.out with ⟨hm, he⟩ | ⟨hm, he⟩
  · rw [he]
    have hm' := hid (show er = 0 by rw [HER.out, if_pos hm])
    clear ho hn he hm k4 HDC
    go_wp2_with fail
    go_ret
    exact ⟨by rw [hm'.out]; rfl, K4.out⟩
  · rw [he]
    have hm' := hid (show er = 1 by rw [HER.out, if_neg hm])
    clear ho hn he hm k4 HDC
    go_wp2_with fail
    go_ret
    exact ⟨by rw [hm'.out]; rfl, K4.out⟩
end
end Go.Proofs.Ytnekfonnceknoaa

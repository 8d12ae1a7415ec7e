/- msg.Check. -/
import Derived.Test.YtofljidmdabkcaaMChk2
namespace Go.Proofs.Ytofljidmdabkcaa
open Go.RowKit
def thr (l : Nat) (k : Nat) : Bool := bits BinOp.and IntKind.i64 (l : Int) ((2 ^ k : Nat) : Int) != 0
def fieldB (l : Nat) (m : Msg) (k : Nat) : Bool := rightB m (thr l k) k
/-- May a message be? -/
def mchkB (m : Msg) : Bool := decide (hasK m.kind ≠ 0) && (addrB m.from' && (addrB m.to && (List.range 8).all (fieldB (hasK m.kind) m)))
theorem range_all {p : Nat → Bool} {k : Nat} (h : (List.range k).all p = true) (hp : p k = true) : (List.range (k + 1)).all p = true := by
  rw [List.range_succ, List.all_append, h]; simp [hp]
theorem range_bad {p : Nat → Bool} {k n : Nat} (hk : k < n) (hp : p k = false) : (List.range n).all p = false := by
  rw [List.all_eq_false]
  exact ⟨k, List.mem_range.2 hk, by simp [hp]⟩
section
variable {F : Nat → Prop} {w w' : World} {m : Msg} {Ac Av Ai Ak : Option Addr} {cc cv ci ck : Nat}
set_option maxRecDepth 20000 in
set_option maxHeartbeats 8000000 in
/-- Check. -/
theorem mcheck_calls (h : MsgAt F w m Ac Av Ai Ak cc cv ci ck) : Calls Try.prog 24 #[.agg (msgCsA m Ac Av Ai Ak cc cv ci ck).toArray] w fun e w' => e = .returned (.int .i64 (if mchkB m then 0 else 1)) ∧ Keep (fun _ => False) w w' := by
  obtain ⟨nc, hnc⟩ : ∃ nc, nc = m.value.changes.length := ⟨_, rfl⟩
  obtain ⟨nv, hnv⟩ : ∃ nv, nv = m.votes.length := ⟨_, rfl⟩
  obtain ⟨ni, hni⟩ : ∃ ni, ni = m.image.length := ⟨_, rfl⟩
  obtain ⟨nk, hnk⟩ : ∃ nk, nk = m.verdict.commits.length := ⟨_, rfl⟩
  have H := hid h
  obtain ⟨sb, hsb⟩ : ∃ sb, sb = mchkB m := ⟨_, rfl⟩
  unfold msgCsA
  rw [← hnc, ← hnv, ← hni, ← hnk, ← hsb]
  have HNC := hid hnc; have HNV := hid hnv; have HNI := hid hni; have HNK := hid hnk; have HSB := hid hsb
  clear h hnc hnv hni hnk hsb
  go_enter Try.func24, Try.ntmps24
  go_wp2_with (first
    | (refine wpl_boxB (v := .agg (msgCs m (.slice Ac nc cc) (.slice Av nv cv) (.slice Ai ni ci) (.slice Ak nk ck)).toArray) rfl rfl rfl ?_; intro g1 w1 hg1 hb1 k1 s1; have K1 := hid k1; clear hg1 k1 s1; have q0 := cell_at hb1 0 (.int .i64 m.kind) rfl; have q1 := cell_at hb1 1 (.int .i64 m.from') rfl; have q2 := cell_at hb1 2 (.int .i64 m.to) rfl))
  refine (mhas_calls m.kind).mono ?_
  rintro e w' ⟨rfl, rfl⟩
  by_cases h0 : hasK m.kind = 0
  · rw [decide_eq_false (show ¬ hasK m.kind ≠ 0 from fun q => q h0)]
    have hb : sb = false := by rw [HSB.out, mchkB, decide_eq_false (show ¬ hasK m.kind ≠ 0 from fun q => q h0)]; rfl
    subst hb
    clear h0
    generalize hasK m.kind = l at *
    go_wp2_with fail
    go_ret
    exact ⟨rfl, K1.out⟩
  rw [decide_eq_true h0]
  have HK := hid h0
  obtain ⟨l, hl⟩ : ∃ l, l = hasK m.kind := ⟨_, rfl⟩
  rw [← hl]
  have HL := hid hl
  clear h0 hl
  go_wp2_with fail
  refine (addr_calls m.from').mono ?_
  rintro e w' ⟨rfl, rfl⟩
  cases ha : addrB m.from'
  · have hb : sb = false := by rw [HSB.out, mchkB, ha, Bool.false_and, Bool.and_false]
    subst hb
    clear ha
    go_wp2_with fail
    go_ret
    exact ⟨rfl, K1.out⟩
  have HA1 := hid ha
  clear ha
  go_wp2_with fail
  refine (addr_calls m.to).mono ?_
  rintro e w' ⟨rfl, rfl⟩
  cases ha : addrB m.to
  · have hb : sb = false := by rw [HSB.out, mchkB, ha, Bool.false_and, Bool.and_false, Bool.and_false]
    subst hb
    clear ha
    go_wp2_with fail
    go_ret
    exact ⟨rfl, K1.out⟩
  have hs : sb = (List.range 8).all (fieldB l m) := by rw [HSB.out, mchkB, HA1.out, ha, decide_eq_true HK.out, HL.out]; rfl
  have HS := hid hs
  clear ha hs
  go_wp2_with fail
  go_loopw [5] (fun i wr => ∃ (k : Nat) (f : Int), k ≤ 8 ∧ i = .int .i64 f ∧ f = ((2 ^ k : Nat) : Int) ∧ (List.range k).all (fieldB l m) = true ∧ Keep (fun _ => False) w1 wr) (fun i _ => 256 - (intOf i).toNat)
  case atStart => exact ⟨0, 1, Nat.zero_le _, rfl, rfl, rfl, Keep.refl _ _⟩
  case round =>
    obtain ⟨k, f, hk, rfl, hf, hall, hkp⟩ := hrel
    by_cases hlt : k < 8
    · have hp : 2 ^ k ≤ 2 ^ 7 := Nat.pow_le_pow_right (by decide) (by omega)
      have hp1 : 1 ≤ 2 ^ k := Nat.one_le_two_pow
      have hf256 : decide (f < 256) = true := decide_eq_true (by rw [hf]; omega)
      have hf2 : wrap64 (f * 2) = ((2 ^ (k + 1) : Nat) : Int) := by
        rw [show f * 2 = ((2 ^ (k + 1) : Nat) : Int) by rw [hf, Nat.pow_succ]; omega]
        unfold wrap64; rw [Nat.pow_succ]; omega
      have HMEAS := hid (show 256 - (2 ^ (k + 1)) < 256 - 2 ^ k by rw [Nat.pow_succ]; omega)
      have hb2 := hkp.heap hb1 id
      have hm := H.out.keep (K1.out.trans hkp (fun _ _ f => f)) (fun _ _ => id)
      have hr := right_calls hm (thr l k) k hlt
      unfold msgCsA at hr
      rw [← HNC.out, ← HNV.out, ← HNI.out, ← HNK.out, ← hf] at hr
      have hth : thr l k = (bits BinOp.and IntKind.i64 (l : Int) f != 0) := by rw [thr, hf]
      rw [hth] at hr
      have hfb : fieldB l m k = rightB m (bits BinOp.and IntKind.i64 (l : Int) f != 0) k := by rw [fieldB, hth]
      have HR := hid hr; have HF := hid hf; have HF2 := hid hf2; have HALL := hid hall; have HFB := hid hfb; have HKP := hid hkp
      clear hf hb1 q0 q1 q2 hm hr hth hfb hf2 hp hp1 hall hkp
      go_wp2_with (first
        | (refine wpl_loadA (ty := 32) (o := 0) (n := 27) rfl rfl rfl hb2 (by kernel_rfl) (by kernel_rfl) (msgCs m (.slice Ac nc cc) (.slice Av nv cv) (.slice Ai ni ci) (.slice Ak nk ck)) rfl rfl ?_))
      refine HR.out.mono ?_
      rintro e w' ⟨rfl, k2⟩
      rw [← HFB.out]
      have K2 := hid (HKP.out.trans k2 (fun _ _ f => f))
      clear k2 hb2
      cases hfb : fieldB l m k
      · have hb : sb = false := by rw [HS.out]; exact range_bad hlt hfb
        subst hb
        clear hfb
        go_wp2_with fail
        go_ret
        exact ⟨rfl, K1.out.trans K2.out (fun _ _ f => f)⟩
      · have HA2 := hid (range_all HALL.out hfb)
        clear hfb
        go_wp2_with fail
        rw [HF2.out]
        refine ⟨⟨k + 1, _, by omega, rfl, rfl, HA2.out, K2.out⟩, ?_⟩
        have h1 := HMEAS.out
        have h2 := HF.out
        simp only [intOf]
        rw [h2]
        omega
    · obtain rfl : k = 8 := by omega
      have hb : sb = true := by rw [HS.out]; exact hall
      subst hb
      have hf256 : decide (f < 256) = false := decide_eq_false (by rw [hf]; decide)
      clear hall hf
      go_wp2_with fail
      go_ret
      exact ⟨rfl, K1.out.trans hkp (fun _ _ f => f)⟩
end
end Go.Proofs.Ytofljidmdabkcaa

/- msg: voted. -/
import Derived.Test.YtofljidmdabkcaaMChk0
import Derived.Test.YtofljidmdabkcaaEntTold2
namespace Go.Proofs.Ytofljidmdabkcaa
open Go.RowKit
def votedR : Int → List Vote → Bool
  | _, [] => true
  | last, x :: l => (!decide (x.slot ≤ last) && (decide (good x.slot) && (decide (good x.ballot) && decide (mayR x.value)))) && votedR x.slot l
def votedB (l : List Vote) : Bool := votedR (-1) l && decide (l.length ≤ 4096)
theorem votedR_drop {l : List Vote} {k : Nat} {x : Vote} (h : l[k]? = some x) (n : Int) : votedR n (l.drop k) = ((!decide (x.slot ≤ n) && (decide (good x.slot) && (decide (good x.ballot) && decide (mayR x.value)))) && votedR x.slot (l.drop (k + 1))) := by
  have hk := (List.getElem?_eq_some_iff.1 h).1
  rw [List.drop_eq_getElem_cons hk, show l[k] = x from (List.getElem?_eq_some_iff.1 h).2]
  rfl
section
variable {F G : Nat → Prop} {w : World}
set_option maxRecDepth 20000 in
set_option maxHeartbeats 8000000 in
theorem voted_calls {v : Value} {l : List Vote} (hv : Sl .vote w G v l) (hG : ∀ k, G k → k < w.heap.size) : Calls Try.prog 61 #[v] w fun e w' => e = .returned (.bool (votedB l)) ∧ Keep (fun _ => False) w w' := by
  have hmax : l.length ≤ 9223372036854775807 := by obtain ⟨_, _, _, q1, q2, _⟩ := hv; unfold maxLen at q2; omega
  obtain ⟨A, c, rfl⟩ := hv.shape
  have HV := hid hv; have HG := hid hG
  obtain ⟨n, hn⟩ : ∃ n, n = l.length := ⟨_, rfl⟩
  rw [← hn] at HV hmax ⊢
  have HN := hid hn
  obtain ⟨sb, hsb⟩ : ∃ sb, sb = votedB l := ⟨_, rfl⟩
  rw [← hsb]
  have HSB := hid hsb
  clear hv hG hn hsb
  go_enter Try.func61, Try.ntmps61
  go_wp2_with fail
  go_loopw [3, 8] (fun t i wr => ∃ (k : Nat) (last : Int), k ≤ n ∧ i = .int .i64 k ∧ t = .int .i64 last ∧ votedR (-1) l = votedR last (l.drop k) ∧ Keep (fun _ => False) w wr) (fun _ i _ => n - (intOf i).toNat)
  case atStart => exact ⟨0, -1, Nat.zero_le _, rfl, rfl, rfl, Keep.refl _ _⟩
  case round =>
    obtain ⟨k, last, hk, rfl, rfl, hvt, hkp⟩ := hrel
    by_cases hlt : k < n
    · obtain ⟨x, hx⟩ : ∃ x, l[k]? = some x := ⟨l[k]'(by rw [← HN.out]; exact hlt), by simp [show k < l.length by rw [← HN.out]; exact hlt]⟩
      obtain ⟨A', c', b, off, cs, he, rfl, hcs, hcell⟩ := elem_cells7 (HV.out.keep hkp (fun _ _ => id)) HN.out hx
      simp only [Value.slice.injEq, true_and] at he
      obtain ⟨rfl, rfl⟩ := he
      obtain ⟨vc, rfl, hvc, _⟩ := vote_cells hcs
      obtain ⟨Ac, cc, rfl⟩ := hvc.shape
      have hsz : Rep.vote.size = 13 := rfl
      rw [hsz] at hcell
      rw [votedR_drop hx] at hvt
      obtain ⟨nc, hnc⟩ : ∃ nc, nc = x.value.changes.length := ⟨_, rfl⟩
      rw [← hnc] at hvc hcell
      have hal := fun (cs : Array Value) (e : TypeId) => hvc.keep ((Keep.refl (fun _ => False) wr).alloc (.cells cs e)) (fun _ _ => id)
      obtain ⟨mr, hmr⟩ : ∃ mr : Int, mr = if mayR x.value then 0 else 1 := ⟨_, rfl⟩
      have hmr0 : (mr != 0) = !decide (mayR x.value) := by rw [hmr]; split <;> simp [*]
      have HR := hid (show wr.rangeAt b (off + k * 13) (voteCs x (.slice Ac nc cc)) from fun j u hu => hcell j u hu)
      have HU := hid (Try.underlying43)
      have HI := hid (show (Try.prog.info? 43).map (·.size) = some (voteCs x (.slice Ac nc cc)).length from by kernel_rfl)
      have hq13 : (voteCs x (.slice Ac nc cc)).length = 13 := rfl
      have HVC := hid hvc; have HVT := hid hvt; have HKP := hid hkp; have HMR := hid hmr; have HMR0 := hid hmr0; have HNC := hid hnc
      clear hcell hvt hcs hx hsz hvc hkp hmr hmr0 hnc
      go_upto_region 5 with (first
        | (refine wpList_load_mid rfl _ _ rfl b (off + k * 13) rfl (voteCs x (.slice Ac nc cc)) _ HR.out HU.out rfl HI.out ?_)
        | (refine wpl_allocB (ty := 43) rfl rfl (z := .agg (voteCs ⟨0, 0, reqZ'⟩ (.slice none 0 0)).toArray) (by kernel_rfl) ?_; intro g5 w5 hg5 hb5 k5 s5; have HG5 := hid hg5; have HS5 := hid s5; have K5 := hid k5; clear hg5 s5 k5)
        | (refine wpl_storeB (v := .agg (voteCs x (.slice Ac nc cc)).toArray) rfl rfl rfl rfl hb5 (by kernel_rfl) (by simp [reqCs, voteCs, Value.cells]) (by simp [reqCs, voteCs, Value.oneCell', Value.cells]) ?_; intro w6 hb6 k6 s6; have K6 := hid (K5.out.trans k6 (fun q hq e => by have := HG5.out; omega)); clear s6 k6; replace hb6 : w6.heap[g5]? = some (.cells (voteCs x (.slice Ac nc cc)).toArray 43) := hb6))
      have q0 := cell_at hb6 0 (.int .i64 x.slot) rfl
      have q1 := cell_at hb6 1 (.int .i64 x.ballot) rfl
      clear hb5
      by_cases h0 : x.slot ≤ last
      · have hb : sb = false := by rw [HSB.out, votedB, HVT.out, decide_eq_true h0]; rfl
        subst hb
        go_wp2_with fail
        go_ret
        exact ⟨rfl, HKP.out.trans K6.out (fun _ _ f => f)⟩
      · have hvt := HVT.out
        rw [decide_eq_false h0] at hvt
        have HVT1 := hid hvt
        clear hvt
        go_wp2_with fail
        refine (mnum_calls x.slot).mono ?_
        rintro e w' ⟨rfl, rfl⟩
        cases hg1 : decide (good x.slot)
        case false =>
          have hb : sb = false := by rw [HSB.out, votedB, HVT1.out, hg1]; rfl
          subst hb
          clear hg1
          go_wp2_with fail
          go_ret
          exact ⟨rfl, HKP.out.trans K6.out (fun _ _ f => f)⟩
        have HG1 := hid hg1
        clear hg1
        go_wp2_with fail
        refine (mnum_calls x.ballot).mono ?_
        rintro e w' ⟨rfl, rfl⟩
        cases hg2 : decide (good x.ballot)
        case false =>
          have hb : sb = false := by rw [HSB.out, votedB, HVT1.out, HG1.out, hg2]; rfl
          subst hb
          clear hg2
          go_wp2_with fail
          go_ret
          exact ⟨rfl, HKP.out.trans K6.out (fun _ _ f => f)⟩
        have HG2 := hid hg2
        clear hg2
        have hcc := check_calls (r := x.value) (v := .slice Ac nc cc) (by exact HVC.out.keep K6.out (fun _ _ => id)) (fun q hq => by have := HG.out q hq; have := HKP.out.size; have := K6.out.size; omega)
        rw [← HMR.out] at hcc
        go_wp2_with (first
          | (refine wpl_loadG (ty := 24) (o := 2) (n := 11) rfl rfl rfl hb6 (by kernel_rfl) (by kernel_rfl) (reqCs x.value (.slice Ac nc cc)) rfl rfl ?_))
        refine hcc.mono ?_
        rintro e w7 ⟨rfl, k7⟩
        have hb7 := k7.heap hb6 id
        have K7 := hid ((HKP.out.trans K6.out (fun _ _ f => f)).trans k7 (fun _ _ f => f))
        have hmr0 := HMR0.out
        clear hb6 q0 q1 k7 hcc
        have q0 := cell_at hb7 0 (.int .i64 x.slot) rfl
        cases hg3 : decide (mayR x.value)
        case false =>
          have hb : sb = false := by rw [HSB.out, votedB, HVT1.out, HG1.out, HG2.out, hg3]; rfl
          subst hb
          rw [hg3] at hmr0
          clear hg3
          go_wp2_with fail
          go_ret
          exact ⟨rfl, K7.out⟩
        have hvt2 := HVT1.out
        rw [HG1.out, HG2.out, hg3] at hvt2
        rw [hg3] at hmr0
        have HVT2 := hid (show votedR (-1) l = votedR x.slot (l.drop (k + 1)) from hvt2)
        clear hvt2 hg3
        go_wp2_with fail
        exact ⟨⟨k + 1, x.slot, by omega, by simp, rfl, HVT2.out, K7.out⟩, by simp [intOf]; omega⟩
    · obtain rfl : k = n := by omega
      have hd : l.drop k = [] := List.drop_eq_nil_of_le (by rw [HN.out]; exact Nat.le_refl _)
      rw [hd] at hvt
      have hb : sb = decide ((k : Int) ≤ 4096) := by
        rw [HSB.out, votedB, hvt, show votedR last [] = true from rfl, Bool.true_and, ← HN.out]
        by_cases q : k ≤ 4096
        · rw [decide_eq_true q, decide_eq_true (by omega)]
        · rw [decide_eq_false q, decide_eq_false (by omega)]
      have HB := hid hb
      clear hvt hd hb
      go_wp2_with fail
      go_ret
      exact ⟨by rw [HB.out]; rfl, hkp⟩
end
end Go.Proofs.Ytofljidmdabkcaa

/- msg: has, addressed, num, empty, none. msg: voted. -/
import Derived.Test.YtnekfonnceknoaaEntTop
import Derived.Test.YtnekfonnceknoaaEntVPut
import Derived.Test.YtnekfonnceknoaaEntAlike
import Derived.Test.YtnekfonnceknoaaEntPut2
import Derived.Test.YtnekfonnceknoaaMt
import Derived.Test.YtnekfonnceknoaaEntTold2
namespace Go.Proofs.Ytnekfonnceknoaa
open Go.RowKit
/-- The fields of a kind, as bits; 0: there is no such kind. -/
def hasK (k : Int) : Nat :=
  if k = 1 ∨ k = 4 then 3 else if k = 2 then 19 else if k = 3 then 11 else if k = 5 then 1 else if k = 6 then 10 else if k = 7 ∨ k = 8 then 7 else if k = 9 then 2
  else if k = 10 then 34 else if k = 11 ∨ k = 12 then 72 else if k = 13 then 192 else if k = 14 then 66 else 0
def addrB (n : Int) : Bool := decide ((0 ≤ n ∧ n < 15) ∨ (100 ≤ n ∧ n < 200))
def noneB (x : Verdict) : Bool := decide (x = vdZ)
section
variable {F G : Nat → Prop} {w : World}
def HasPost (w : World) (k : Int) (e : Ending) (w' : World) : Prop := e = .returned (.tuple #[.int .i64 (hasK k), .bool (decide (hasK k ≠ 0))]) ∧ w = w'
theorem HasPost.of {k : Int} {n : Nat} {b : Bool} (h : hasK k = n) (hb : decide (n ≠ 0) = b) : HasPost w k (.returned (.tuple #[.int .i64 n, .bool b])) w := by
  subst hb; subst h; exact ⟨rfl, rfl⟩
set_option maxRecDepth 20000 in
theorem mhas_1 : Calls Try.prog 51 #[.int .i64 1] w (HasPost w 1) := by
  go_enter Try.func51, Try.ntmps51
  go_wp2_with fail
  go_ret2
  exact HasPost.of (n := 3) rfl rfl
set_option maxRecDepth 20000 in
theorem mhas_2 : Calls Try.prog 51 #[.int .i64 2] w (HasPost w 2) := by
  go_enter Try.func51, Try.ntmps51
  go_wp2_with fail
  go_ret2
  exact HasPost.of (n := 19) rfl rfl
set_option maxRecDepth 20000 in
theorem mhas_3 : Calls Try.prog 51 #[.int .i64 3] w (HasPost w 3) := by
  go_enter Try.func51, Try.ntmps51
  go_wp2_with fail
  go_ret2
  exact HasPost.of (n := 11) rfl rfl
set_option maxRecDepth 20000 in
theorem mhas_4 : Calls Try.prog 51 #[.int .i64 4] w (HasPost w 4) := by
  go_enter Try.func51, Try.ntmps51
  go_wp2_with fail
  go_ret2
  exact HasPost.of (n := 3) rfl rfl
set_option maxRecDepth 20000 in
theorem mhas_5 : Calls Try.prog 51 #[.int .i64 5] w (HasPost w 5) := by
  go_enter Try.func51, Try.ntmps51
  go_wp2_with fail
  go_ret2
  exact HasPost.of (n := 1) rfl rfl
set_option maxRecDepth 20000 in
theorem mhas_6 : Calls Try.prog 51 #[.int .i64 6] w (HasPost w 6) := by
  go_enter Try.func51, Try.ntmps51
  go_wp2_with fail
  go_ret2
  exact HasPost.of (n := 10) rfl rfl
set_option maxRecDepth 20000 in
theorem mhas_7 : Calls Try.prog 51 #[.int .i64 7] w (HasPost w 7) := by
  go_enter Try.func51, Try.ntmps51
  go_wp2_with fail
  go_ret2
  exact HasPost.of (n := 7) rfl rfl
set_option maxRecDepth 20000 in
theorem mhas_8 : Calls Try.prog 51 #[.int .i64 8] w (HasPost w 8) := by
  go_enter Try.func51, Try.ntmps51
  go_wp2_with fail
  go_ret2
  exact HasPost.of (n := 7) rfl rfl
set_option maxRecDepth 20000 in
theorem mhas_9 : Calls Try.prog 51 #[.int .i64 9] w (HasPost w 9) := by
  go_enter Try.func51, Try.ntmps51
  go_wp2_with fail
  go_ret2
  exact HasPost.of (n := 2) rfl rfl
set_option maxRecDepth 20000 in
theorem mhas_10 : Calls Try.prog 51 #[.int .i64 10] w (HasPost w 10) := by
  go_enter Try.func51, Try.ntmps51
  go_wp2_with fail
  go_ret2
  exact HasPost.of (n := 34) rfl rfl
set_option maxRecDepth 20000 in
theorem mhas_11 : Calls Try.prog 51 #[.int .i64 11] w (HasPost w 11) := by
  go_enter Try.func51, Try.ntmps51
  go_wp2_with fail
  go_ret2
  exact HasPost.of (n := 72) rfl rfl
set_option maxRecDepth 20000 in
theorem mhas_12 : Calls Try.prog 51 #[.int .i64 12] w (HasPost w 12) := by
  go_enter Try.func51, Try.ntmps51
  go_wp2_with fail
  go_ret2
  exact HasPost.of (n := 72) rfl rfl
set_option maxRecDepth 20000 in
theorem mhas_13 : Calls Try.prog 51 #[.int .i64 13] w (HasPost w 13) := by
  go_enter Try.func51, Try.ntmps51
  go_wp2_with fail
  go_ret2
  exact HasPost.of (n := 192) rfl rfl
set_option maxRecDepth 20000 in
theorem mhas_14 : Calls Try.prog 51 #[.int .i64 14] w (HasPost w 14) := by
  go_enter Try.func51, Try.ntmps51
  go_wp2_with fail
  go_ret2
  exact HasPost.of (n := 66) rfl rfl
set_option maxRecDepth 20000 in
theorem mhas_none {k : Int} (hk : ¬ (1 ≤ k ∧ k ≤ 14)) : Calls Try.prog 51 #[.int .i64 k] w (HasPost w k) := by
  have h : hasK k = 0 := by unfold hasK; rw [if_neg (by omega), if_neg (by omega), if_neg (by omega), if_neg (by omega), if_neg (by omega), if_neg (by omega), if_neg (by omega), if_neg (by omega), if_neg (by omega), if_neg (by omega), if_neg (by omega)]
  have n1 : (k == 1) = false := by simp; omega
  have n2 : (k == 2) = false := by simp; omega
  have n3 : (k == 3) = false := by simp; omega
  have n4 : (k == 4) = false := by simp; omega
  have n5 : (k == 5) = false := by simp; omega
  have n6 : (k == 6) = false := by simp; omega
  have n7 : (k == 7) = false := by simp; omega
  have n8 : (k == 8) = false := by simp; omega
  have n9 : (k == 9) = false := by simp; omega
  have n10 : (k == 10) = false := by simp; omega
  have n11 : (k == 11) = false := by simp; omega
  have n12 : (k == 12) = false := by simp; omega
  have n13 : (k == 13) = false := by simp; omega
  have n14 : (k == 14) = false := by simp; omega
  go_enter Try.func51, Try.ntmps51
  go_wp2_with fail
  go_ret2
  exact HasPost.of h rfl
theorem mhas_calls (k : Int) : Calls Try.prog 51 #[.int .i64 k] w (HasPost w k) := by
  by_cases hk : 1 ≤ k ∧ k ≤ 14
  · obtain ⟨h1, h2⟩ := hk
    rcases (show k = 1 ∨ k = 2 ∨ k = 3 ∨ k = 4 ∨ k = 5 ∨ k = 6 ∨ k = 7 ∨ k = 8 ∨ k = 9 ∨ k = 10 ∨ k = 11 ∨ k = 12 ∨ k = 13 ∨ k = 14 by omega) with rfl | rfl | rfl | rfl | rfl | rfl | rfl | rfl | rfl | rfl | rfl | rfl | rfl | rfl
    · exact mhas_1
    · exact mhas_2
    · exact mhas_3
    · exact mhas_4
    · exact mhas_5
    · exact mhas_6
    · exact mhas_7
    · exact mhas_8
    · exact mhas_9
    · exact mhas_10
    · exact mhas_11
    · exact mhas_12
    · exact mhas_13
    · exact mhas_14
  · exact mhas_none hk
theorem addr_calls (t : Int) : Calls Try.prog 52 #[.int .i64 t] w fun e w' => e = .returned (.bool (addrB t)) ∧ w = w' := by
  rw [addrB]
  by_cases h0 : 0 ≤ t
  · by_cases h1 : t < 15
    · rw [decide_eq_true (.inl ⟨h0, h1⟩)]
      go_enter Try.func52, Try.ntmps52
      go_wp2_with fail
      go_ret
      exact ⟨rfl, rfl⟩
    · by_cases h2 : 100 ≤ t
      · by_cases h3 : t < 200
        · rw [decide_eq_true (.inr ⟨h2, h3⟩)]
          go_enter Try.func52, Try.ntmps52
          go_wp2_with fail
          go_ret
          exact ⟨rfl, rfl⟩
        · rw [decide_eq_false (by omega)]
          go_enter Try.func52, Try.ntmps52
          go_wp2_with fail
          go_ret
          exact ⟨rfl, rfl⟩
      · rw [decide_eq_false (by omega)]
        go_enter Try.func52, Try.ntmps52
        go_wp2_with fail
        go_ret
        exact ⟨rfl, rfl⟩
  · have h2 : ¬ 100 ≤ t := by omega
    rw [decide_eq_false (by omega)]
    go_enter Try.func52, Try.ntmps52
    go_wp2_with fail
    go_ret
    exact ⟨rfl, rfl⟩
theorem mnum_calls (t : Int) : Calls Try.prog 68 #[.int .i64 t] w fun e w' => e = .returned (.bool (decide (good t))) ∧ w = w' := by
  by_cases h0 : 0 ≤ t
  · by_cases h1 : t ≤ 1099511627776
    · rw [decide_eq_true (show good t from ⟨h0, h1⟩)]
      go_enter Try.func68, Try.ntmps68
      go_wp2_with fail
      go_ret
      exact ⟨rfl, rfl⟩
    · rw [decide_eq_false (show ¬ good t from fun q => h1 q.2)]
      go_enter Try.func68, Try.ntmps68
      go_wp2_with fail
      go_ret
      exact ⟨rfl, rfl⟩
  · rw [decide_eq_false (show ¬ good t from fun q => h0 q.1)]
    go_enter Try.func68, Try.ntmps68
    go_wp2_with fail
    go_ret
    exact ⟨rfl, rfl⟩
def none7 (b0 b1 b2 b3 b4 b5 b6 : Bool) : Bool := b0 && (b1 && (b2 && (b3 && (b4 && (b5 && b6)))))
set_option maxRecDepth 20000 in
set_option maxHeartbeats 4000000 in
theorem mnone7 {k ses rev : Int} {path : ByteArray} {dig n c : Nat} {A : Option Addr} {mem : Int} : Calls Try.prog 71 #[.agg #[.int .i64 k, .int .i64 ses, .int .i64 rev, .string path, .int .u64 dig, .slice A n c, .int .i64 mem]] w fun e w' => e = .returned (.bool (none7 (k == 0) (ses == 0) (rev == 0) path.toList.isEmpty ((dig : Int) == 0) ((n : Int) == 0) (mem == 0))) ∧ Keep (fun _ => False) w w' := by
  cases hb0 : (k == 0)
  case' false =>
    rw [show none7 false (ses == 0) (rev == 0) path.toList.isEmpty ((dig : Int) == 0) ((n : Int) == 0) (mem == 0) = false from by simp [none7]]
    go_enter Try.func71, Try.ntmps71
    go_wp2_with fail
    go_ret
    exact ⟨rfl, (Keep.refl _ w).alloc _⟩
  cases hb1 : (ses == 0)
  case' false =>
    rw [show none7 true false (rev == 0) path.toList.isEmpty ((dig : Int) == 0) ((n : Int) == 0) (mem == 0) = false from by simp [none7]]
    go_enter Try.func71, Try.ntmps71
    go_wp2_with fail
    go_ret
    exact ⟨rfl, (Keep.refl _ w).alloc _⟩
  cases hb2 : (rev == 0)
  case' false =>
    rw [show none7 true true false path.toList.isEmpty ((dig : Int) == 0) ((n : Int) == 0) (mem == 0) = false from by simp [none7]]
    go_enter Try.func71, Try.ntmps71
    go_wp2_with fail
    go_ret
    exact ⟨rfl, (Keep.refl _ w).alloc _⟩
  cases hb3 : path.toList.isEmpty
  case' false =>
    rw [show none7 true true true false ((dig : Int) == 0) ((n : Int) == 0) (mem == 0) = false from by simp [none7]]
    go_enter Try.func71, Try.ntmps71
    go_wp2_with fail
    go_ret
    exact ⟨rfl, (Keep.refl _ w).alloc _⟩
  cases hb4 : ((dig : Int) == 0)
  case' false =>
    rw [show none7 true true true true false ((n : Int) == 0) (mem == 0) = false from by simp [none7]]
    go_enter Try.func71, Try.ntmps71
    go_wp2_with fail
    go_ret
    exact ⟨rfl, (Keep.refl _ w).alloc _⟩
  cases hb5 : ((n : Int) == 0)
  case' false =>
    rw [show none7 true true true true true false (mem == 0) = false from by simp [none7]]
    go_enter Try.func71, Try.ntmps71
    go_wp2_with fail
    go_ret
    exact ⟨rfl, (Keep.refl _ w).alloc _⟩
  cases hb6 : (mem == 0)
  case' false =>
    rw [show none7 true true true true true true false = false from by simp [none7]]
    go_enter Try.func71, Try.ntmps71
    go_wp2_with fail
    go_ret
    exact ⟨rfl, (Keep.refl _ w).alloc _⟩
  rw [show none7 true true true true true true true = true from rfl]
  go_enter Try.func71, Try.ntmps71
  go_wp2_with fail
  go_ret
  exact ⟨rfl, (Keep.refl _ w).alloc _⟩
theorem none7_is (x : Verdict) : none7 (x.code == 0) (x.session == 0) (x.rev == 0) x.path.toList.isEmpty ((x.digest : Int) == 0) ((x.commits.length : Int) == 0) (x.member == 0) = noneB x := by
  obtain ⟨k, ses, rev, path, dig, coms, mem⟩ := x
  simp only
  rw [isE]
  have hd : ((dig : Int) == 0) = decide (dig = 0) := by by_cases q : dig = 0 <;> simp [q]
  have hc : ((coms.length : Int) == 0) = decide (coms = []) := by cases coms <;> simp; omega
  rw [hd, hc, Bool.eq_iff_iff]
  simp [none7, noneB, vdZ]
theorem mnone_calls {x : Verdict} {u : Value} (hu : Sl .commit w G u x.commits) : Calls Try.prog 71 #[.agg (verdictCs x u).toArray] w fun e w' => e = .returned (.bool (noneB x)) ∧ Keep (fun _ => False) w w' := by
  obtain ⟨A, c, rfl⟩ := hu.shape
  rw [← none7_is]
  exact mnone7
set_option maxRecDepth 20000 in
set_option maxHeartbeats 4000000 in
theorem mempty_calls {r : Req} {v : Value} (hv : Sl .change w F v r.changes) : Calls Try.prog 69 #[reqV r v] w fun e w' => e = .returned (.bool (decide (r = reqZ'))) ∧ Keep (fun _ => False) w w' := by
  obtain ⟨A, c, rfl⟩ := hv.shape
  obtain ⟨n, hn⟩ : ∃ n, n = r.changes.length := ⟨_, rfl⟩
  rw [← hn] at hv ⊢
  have HV := hid hv
  clear hv hn
  go_enter Try.func69, Try.ntmps69
  go_wp2_with (first
    | (refine wpl_boxB (v := .agg (reqCs r (.slice A n c)).toArray) rfl rfl rfl ?_; intro g1 w1 hg1 hb1 k1 s1; have K1 := hid k1; clear hg1 k1 s1)
    | (refine wpl_loadA (ty := 29) (o := 0) (n := 11) rfl rfl rfl hb1 (by kernel_rfl) (by kernel_rfl) (reqCs r (.slice A n c)) rfl rfl ?_))
  refine (sameR_calls (r := r) (s := reqZ') (HV.out.keep K1.out (fun _ _ => id)) (show Sl .change w1 F (.slice none 0 0) ([] : List Change) from ⟨none, 0, rfl, Nat.le_refl _, Nat.zero_le _, .inl rfl⟩)).mono ?_
  rintro e w2 ⟨rfl, k2⟩
  have K2 := hid (K1.out.trans k2 (fun _ _ f => f))
  obtain ⟨bb, hbb⟩ : ∃ bb, bb = decide (r = reqZ') := ⟨_, rfl⟩
  rw [← hbb]
  have HBB := hid hbb
  clear hb1 k2 hbb
  go_wp2_with fail
  go_ret
  exact ⟨by rw [← HBB.out]; rfl, K2.out⟩
end
end Go.Proofs.Ytnekfonnceknoaa
namespace Go.Proofs.Ytnekfonnceknoaa
open Go.RowKit
def votedR : Int → List Vote → Bool
  | _, [] => true
  | last, x :: l => (!decide (x.slot ≤ last) && (decide (good x.slot) && (decide (good x.ballot) && decide (mayR x.value)))) && votedR x.slot l
def votedB (l : List Vote) : Bool := votedR (-1) l && decide (l.length ≤ 4096)
theorem votedR_drop {l : List Vote} {k : Nat} {x : Vote} (h : l[k]? = some x) (n : Int) : votedR n (l.drop k) = ((!decide (x.slot ≤ n) && (decide (good x.slot) && (decide (good x.ballot) && decide (mayR x.value)))) && votedR x.slot (l.drop (k + 1))) := by
  have hk := (List.getElem?_eq_some_iff.1 h).1
  rw [List.drop_eq_getElem_cons hk, show l[k] = x from (List.getElem?_eq_some_iff.1 h).2]
  rfl
section
variable {F G : Nat → Prop} {w : World}
set_option maxRecDepth 20000 in
set_option maxHeartbeats 8000000 in
theorem voted_calls {v : Value} {l : List Vote} (hv : Sl .vote w G v l) (hG : ∀ k, G k → k < w.heap.size) : Calls Try.prog 70 #[v] w fun e w' => e = .returned (.bool (votedB l)) ∧ Keep (fun _ => False) w w' := by
  have hmax : l.length ≤ 9223372036854775807 := by obtain ⟨_, _, _, q1, q2, _⟩ := hv; unfold maxLen at q2; omega
  obtain ⟨A, c, rfl⟩ := hv.shape
  have HV := hid hv; have HG := hid hG
  obtain ⟨n, hn⟩ : ∃ n, n = l.length := ⟨_, rfl⟩
  rw [← hn] at HV hmax ⊢
  have HN := hid hn
  obtain ⟨sb, hsb⟩ : ∃ sb, sb = votedB l := ⟨_, rfl⟩
  rw [← hsb]
  have HSB := hid hsb
  clear hv hG hn hsb
  go_enter Try.func70, Try.ntmps70
  go_wp2_with fail
  go_loopw [3, 8] (fun t i wr => ∃ (k : Nat) (last : Int), k ≤ n ∧ i = .int .i64 k ∧ t = .int .i64 last ∧ votedR (-1) l = votedR last (l.drop k) ∧ Keep (fun _ => False) w wr) (fun _ i _ => n - (intOf i).toNat)
  case atStart => exact ⟨0, -1, Nat.zero_le _, rfl, rfl, rfl, Keep.refl _ _⟩
  case round =>
    obtain ⟨k, last, hk, rfl, rfl, hvt, hkp⟩ := hrel
    by_cases hlt : k < n
    · obtain ⟨x, hx⟩ : ∃ x, l[k]? = some x := ⟨l[k]'(by rw [← HN.out]; exact hlt), by simp [show k < l.length by rw [← HN.out]; exact hlt]⟩
      obtain ⟨A', c', b, off, cs, he, rfl, hcs, hcell⟩ := elem_cells7 (HV.out.keep hkp (fun _ _ => id)) HN.out hx
      simp only [Value.slice.injEq, true_and] at he
      obtain ⟨rfl, rfl⟩ := he
      obtain ⟨vc, rfl, hvc, _⟩ := vote_cells hcs
      obtain ⟨Ac, cc, rfl⟩ := hvc.shape
      have hsz : Rep.vote.size = 13 := rfl
      rw [hsz] at hcell
      rw [votedR_drop hx] at hvt
      obtain ⟨nc, hnc⟩ : ∃ nc, nc = x.value.changes.length := ⟨_, rfl⟩
      rw [← hnc] at hvc hcell
      have hal := fun (cs : Array Value) (e : TypeId) => hvc.keep ((Keep.refl (fun _ => False) wr).alloc (.cells cs e)) (fun _ _ => id)
      obtain ⟨mr, hmr⟩ : ∃ mr : Int, mr = if mayR x.value then 0 else 1 := ⟨_, rfl⟩
      have hmr0 : (mr != 0) = !decide (mayR x.value) := by rw [hmr]; split <;> simp [*]
      have HR := hid (show wr.rangeAt b (off + k * 13) (voteCs x (.slice Ac nc cc)) from fun j u hu => hcell j u hu)
      have HU := hid (Try.underlying76)
      have HI := hid (show (Try.prog.info? 76).map (·.size) = some (voteCs x (.slice Ac nc cc)).length from by kernel_rfl)
      have hq13 : (voteCs x (.slice Ac nc cc)).length = 13 := rfl
      have HVC := hid hvc; have HVT := hid hvt; have HKP := hid hkp; have HMR := hid hmr; have HMR0 := hid hmr0; have HNC := hid hnc
      clear hcell hvt hcs hx hsz hvc hkp hmr hmr0 hnc
      go_upto_region 5 with (first
        | (refine wpList_load_mid rfl _ _ rfl b (off + k * 13) rfl (voteCs x (.slice Ac nc cc)) _ HR.out HU.out rfl HI.out ?_)
        | (refine wpl_allocB (ty := 76) rfl rfl (z := .agg (voteCs ⟨0, 0, reqZ'⟩ (.slice none 0 0)).toArray) (by kernel_rfl) ?_; intro g5 w5 hg5 hb5 k5 s5; have HG5 := hid hg5; have HS5 := hid s5; have K5 := hid k5; clear hg5 s5 k5)
        | (refine wpl_storeB (v := .agg (voteCs x (.slice Ac nc cc)).toArray) rfl rfl rfl rfl hb5 (by kernel_rfl) (by simp [reqCs, voteCs, Value.cells]) (by simp [reqCs, voteCs, Value.oneCell', Value.cells]) ?_; intro w6 hb6 k6 s6; have K6 := hid (K5.out.trans k6 (fun q hq e => by have := HG5.out; omega)); clear s6 k6; replace hb6 : w6.heap[g5]? = some (.cells (voteCs x (.slice Ac nc cc)).toArray 76) := hb6))
      have q0 := cell_at hb6 0 (.int .i64 x.slot) rfl
      have q1 := cell_at hb6 1 (.int .i64 x.ballot) rfl
      clear hb5
      by_cases h0 : x.slot ≤ last
      · have hb : sb = false := by rw [HSB.out, votedB, HVT.out, decide_eq_true h0]; rfl
        subst hb
        go_wp2_with fail
        go_ret
        exact ⟨rfl, HKP.out.trans K6.out (fun _ _ f => f)⟩
      · have hvt := HVT.out
        rw [decide_eq_false h0] at hvt
        have HVT1 := hid hvt
        clear hvt
        go_wp2_with fail
        refine (mnum_calls x.slot).mono ?_
        rintro e w' ⟨rfl, rfl⟩
        cases hg1 : decide (good x.slot)
        case false =>
          have hb : sb = false := by rw [HSB.out, votedB, HVT1.out, hg1]; rfl
          subst hb
          clear hg1
          go_wp2_with fail
          go_ret
          exact ⟨rfl, HKP.out.trans K6.out (fun _ _ f => f)⟩
        have HG1 := hid hg1
        clear hg1
        go_wp2_with fail
        refine (mnum_calls x.ballot).mono ?_
        rintro e w' ⟨rfl, rfl⟩
        cases hg2 : decide (good x.ballot)
        case false =>
          have hb : sb = false := by rw [HSB.out, votedB, HVT1.out, HG1.out, hg2]; rfl
          subst hb
          clear hg2
          go_wp2_with fail
          go_ret
          exact ⟨rfl, HKP.out.trans K6.out (fun _ _ f => f)⟩
        have HG2 := hid hg2
        clear hg2
        have hcc := check_calls (r := x.value) (v := .slice Ac nc cc) (by exact HVC.out.keep K6.out (fun _ _ => id)) (fun q hq => by have := HG.out q hq; have := HKP.out.size; have := K6.out.size; omega)
        rw [← HMR.out] at hcc
        go_wp2_with (first
          | (refine wpl_loadG (ty := 29) (o := 2) (n := 11) rfl rfl rfl hb6 (by kernel_rfl) (by kernel_rfl) (reqCs x.value (.slice Ac nc cc)) rfl rfl ?_))
        refine hcc.mono ?_
        rintro e w7 ⟨rfl, k7⟩
        have hb7 := k7.heap hb6 id
        have K7 := hid ((HKP.out.trans K6.out (fun _ _ f => f)).trans k7 (fun _ _ f => f))
        have hmr0 := HMR0.out
        clear hb6 q0 q1 k7 hcc
        have q0 := cell_at hb7 0 (.int .i64 x.slot) rfl
        cases hg3 : decide (mayR x.value)
        case false =>
          have hb : sb = false := by rw [HSB.out, votedB, HVT1.out, HG1.out, HG2.out, hg3]; rfl
          subst hb
          rw [hg3] at hmr0
          clear hg3
          go_wp2_with fail
          go_ret
          exact ⟨rfl, K7.out⟩
        have hvt2 := HVT1.out
        rw [HG1.out, HG2.out, hg3] at hvt2
        rw [hg3] at hmr0
        have HVT2 := hid (show votedR (-1) l = votedR x.slot (l.drop (k + 1)) from hvt2)
        clear hvt2 hg3
        go_wp2_with fail
        exact ⟨⟨k + 1, x.slot, by omega, by simp, rfl, HVT2.out, K7.out⟩, by simp [intOf]; omega⟩
    · obtain rfl : k = n := by omega
      have hd : l.drop k = [] := List.drop_eq_nil_of_le (by rw [HN.out]; exact Nat.le_refl _)
      rw [hd] at hvt
      have hb : sb = decide ((k : Int) ≤ 4096) := by
        rw [HSB.out, votedB, hvt, show votedR last [] = true from rfl, Bool.true_and, ← HN.out]
        by_cases q : k ≤ 4096
        · rw [decide_eq_true q, decide_eq_true (by omega)]
        · rw [decide_eq_false q, decide_eq_false (by omega)]
      have HB := hid hb
      clear hvt hd hb
      go_wp2_with fail
      go_ret
      exact ⟨by rw [HB.out]; rfl, hkp⟩
end
end Go.Proofs.Ytnekfonnceknoaa

/- msg: has, addressed, num, empty, none. -/
import Derived.Test.YtofljidmdabkcaaEntTop
import Derived.Test.YtofljidmdabkcaaEntVPut
import Derived.Test.YtofljidmdabkcaaEntAlike
import Derived.Test.YtofljidmdabkcaaEntPut2
import Derived.Test.YtofljidmdabkcaaSlc
import Derived.Test.YtofljidmdabkcaaBlk
namespace Go.Proofs.Ytofljidmdabkcaa
open Go.RowKit
/-- The fields of a kind, as bits; 0: there is no such kind. -/
def hasK (k : Int) : Nat :=
  if k = 1 ∨ k = 4 then 3 else if k = 2 then 19 else if k = 3 then 11 else if k = 5 then 1 else if k = 6 then 10 else if k = 7 ∨ k = 8 then 7 else if k = 9 then 2
  else if k = 10 then 34 else if k = 11 ∨ k = 12 then 72 else if k = 13 then 192 else if k = 14 then 66 else 0
def addrB (n : Int) : Bool := decide ((0 ≤ n ∧ n < 15) ∨ (100 ≤ n ∧ n < 200))
def noneB (x : Verdict) : Bool := decide (x = vdZ)
section
variable {F G : Nat → Prop} {w : World}
def HasPost (w : World) (k : Int) (e : Ending) (w' : World) : Prop := e = .returned (.tuple #[.int .i64 (hasK k), .bool (decide (hasK k ≠ 0))]) ∧ w = w'
theorem HasPost.of {k : Int} {n : Nat} {b : Bool} (h : hasK k = n) (hb : decide (n ≠ 0) = b) : HasPost w k (.returned (.tuple #[.int .i64 n, .bool b])) w := by
  subst hb; subst h; exact ⟨rfl, rfl⟩
set_option maxRecDepth 20000 in
theorem mhas_1 : Calls Try.prog 41 #[.int .i64 1] w (HasPost w 1) := by
  go_enter Try.func41, Try.ntmps41
  go_wp2_with fail
  go_ret2
  exact HasPost.of (n := 3) rfl rfl
set_option maxRecDepth 20000 in
theorem mhas_2 : Calls Try.prog 41 #[.int .i64 2] w (HasPost w 2) := by
  go_enter Try.func41, Try.ntmps41
  go_wp2_with fail
  go_ret2
  exact HasPost.of (n := 19) rfl rfl
set_option maxRecDepth 20000 in
theorem mhas_3 : Calls Try.prog 41 #[.int .i64 3] w (HasPost w 3) := by
  go_enter Try.func41, Try.ntmps41
  go_wp2_with fail
  go_ret2
  exact HasPost.of (n := 11) rfl rfl
set_option maxRecDepth 20000 in
theorem mhas_4 : Calls Try.prog 41 #[.int .i64 4] w (HasPost w 4) := by
  go_enter Try.func41, Try.ntmps41
  go_wp2_with fail
  go_ret2
  exact HasPost.of (n := 3) rfl rfl
set_option maxRecDepth 20000 in
theorem mhas_5 : Calls Try.prog 41 #[.int .i64 5] w (HasPost w 5) := by
  go_enter Try.func41, Try.ntmps41
  go_wp2_with fail
  go_ret2
  exact HasPost.of (n := 1) rfl rfl
set_option maxRecDepth 20000 in
theorem mhas_6 : Calls Try.prog 41 #[.int .i64 6] w (HasPost w 6) := by
  go_enter Try.func41, Try.ntmps41
  go_wp2_with fail
  go_ret2
  exact HasPost.of (n := 10) rfl rfl
set_option maxRecDepth 20000 in
theorem mhas_7 : Calls Try.prog 41 #[.int .i64 7] w (HasPost w 7) := by
  go_enter Try.func41, Try.ntmps41
  go_wp2_with fail
  go_ret2
  exact HasPost.of (n := 7) rfl rfl
set_option maxRecDepth 20000 in
theorem mhas_8 : Calls Try.prog 41 #[.int .i64 8] w (HasPost w 8) := by
  go_enter Try.func41, Try.ntmps41
  go_wp2_with fail
  go_ret2
  exact HasPost.of (n := 7) rfl rfl
set_option maxRecDepth 20000 in
theorem mhas_9 : Calls Try.prog 41 #[.int .i64 9] w (HasPost w 9) := by
  go_enter Try.func41, Try.ntmps41
  go_wp2_with fail
  go_ret2
  exact HasPost.of (n := 2) rfl rfl
set_option maxRecDepth 20000 in
theorem mhas_10 : Calls Try.prog 41 #[.int .i64 10] w (HasPost w 10) := by
  go_enter Try.func41, Try.ntmps41
  go_wp2_with fail
  go_ret2
  exact HasPost.of (n := 34) rfl rfl
set_option maxRecDepth 20000 in
theorem mhas_11 : Calls Try.prog 41 #[.int .i64 11] w (HasPost w 11) := by
  go_enter Try.func41, Try.ntmps41
  go_wp2_with fail
  go_ret2
  exact HasPost.of (n := 72) rfl rfl
set_option maxRecDepth 20000 in
theorem mhas_12 : Calls Try.prog 41 #[.int .i64 12] w (HasPost w 12) := by
  go_enter Try.func41, Try.ntmps41
  go_wp2_with fail
  go_ret2
  exact HasPost.of (n := 72) rfl rfl
set_option maxRecDepth 20000 in
theorem mhas_13 : Calls Try.prog 41 #[.int .i64 13] w (HasPost w 13) := by
  go_enter Try.func41, Try.ntmps41
  go_wp2_with fail
  go_ret2
  exact HasPost.of (n := 192) rfl rfl
set_option maxRecDepth 20000 in
theorem mhas_14 : Calls Try.prog 41 #[.int .i64 14] w (HasPost w 14) := by
  go_enter Try.func41, Try.ntmps41
  go_wp2_with fail
  go_ret2
  exact HasPost.of (n := 66) rfl rfl
set_option maxRecDepth 20000 in
theorem mhas_none {k : Int} (hk : ¬ (1 ≤ k ∧ k ≤ 14)) : Calls Try.prog 41 #[.int .i64 k] w (HasPost w k) := by
  have h : hasK k = 0 := by unfold hasK; rw [if_neg (by omega), if_neg (by omega), if_neg (by omega), if_neg (by omega), if_neg (by omega), if_neg (by omega), if_neg (by omega), if_neg (by omega), if_neg (by omega), if_neg (by omega), if_neg (by omega)]
  have n1 : (k == 1) = false := by simp; omega
  have n2 : (k == 2) = false := by simp; omega
  have n3 : (k == 3) = false := by simp; omega
  have n4 : (k == 4) = false := by simp; omega
  have n5 : (k == 5) = false := by simp; omega
  have n6 : (k == 6) = false := by simp; omega
  have n7 : (k == 7) = false := by simp; omega
  have n8 : (k == 8) = false := by simp; omega
  have n9 : (k == 9) = false := by simp; omega
  have n10 : (k == 10) = false := by simp; omega
  have n11 : (k == 11) = false := by simp; omega
  have n12 : (k == 12) = false := by simp; omega
  have n13 : (k == 13) = false := by simp; omega
  have n14 : (k == 14) = false := by simp; omega
  go_enter Try.func41, Try.ntmps41
  go_wp2_with fail
  go_ret2
  exact HasPost.of h rfl
theorem mhas_calls (k : Int) : Calls Try.prog 41 #[.int .i64 k] w (HasPost w k) := by
  by_cases hk : 1 ≤ k ∧ k ≤ 14
  · obtain ⟨h1, h2⟩ := hk
    rcases (show k = 1 ∨ k = 2 ∨ k = 3 ∨ k = 4 ∨ k = 5 ∨ k = 6 ∨ k = 7 ∨ k = 8 ∨ k = 9 ∨ k = 10 ∨ k = 11 ∨ k = 12 ∨ k = 13 ∨ k = 14 by omega) with rfl | rfl | rfl | rfl | rfl | rfl | rfl | rfl | rfl | rfl | rfl | rfl | rfl | rfl
    · exact mhas_1
    · exact mhas_2
    · exact mhas_3
    · exact mhas_4
    · exact mhas_5
    · exact mhas_6
    · exact mhas_7
    · exact mhas_8
    · exact mhas_9
    · exact mhas_10
    · exact mhas_11
    · exact mhas_12
    · exact mhas_13
    · exact mhas_14
  · exact mhas_none hk
theorem addr_calls (t : Int) : Calls Try.prog 42 #[.int .i64 t] w fun e w' => e = .returned (.bool (addrB t)) ∧ w = w' := by
  rw [addrB]
  by_cases h0 : 0 ≤ t
  · by_cases h1 : t < 15
    · rw [decide_eq_true (.inl ⟨h0, h1⟩)]
      go_enter Try.func42, Try.ntmps42
      go_wp2_with fail
      go_ret
      exact ⟨rfl, rfl⟩
    · by_cases h2 : 100 ≤ t
      · by_cases h3 : t < 200
        · rw [decide_eq_true (.inr ⟨h2, h3⟩)]
          go_enter Try.func42, Try.ntmps42
          go_wp2_with fail
          go_ret
          exact ⟨rfl, rfl⟩
        · rw [decide_eq_false (by omega)]
          go_enter Try.func42, Try.ntmps42
          go_wp2_with fail
          go_ret
          exact ⟨rfl, rfl⟩
      · rw [decide_eq_false (by omega)]
        go_enter Try.func42, Try.ntmps42
        go_wp2_with fail
        go_ret
        exact ⟨rfl, rfl⟩
  · have h2 : ¬ 100 ≤ t := by omega
    rw [decide_eq_false (by omega)]
    go_enter Try.func42, Try.ntmps42
    go_wp2_with fail
    go_ret
    exact ⟨rfl, rfl⟩
theorem mnum_calls (t : Int) : Calls Try.prog 58 #[.int .i64 t] w fun e w' => e = .returned (.bool (decide (good t))) ∧ w = w' := by
  by_cases h0 : 0 ≤ t
  · by_cases h1 : t ≤ 1099511627776
    · rw [decide_eq_true (show good t from ⟨h0, h1⟩)]
      go_enter Try.func58, Try.ntmps58
      go_wp2_with fail
      go_ret
      exact ⟨rfl, rfl⟩
    · rw [decide_eq_false (show ¬ good t from fun q => h1 q.2)]
      go_enter Try.func58, Try.ntmps58
      go_wp2_with fail
      go_ret
      exact ⟨rfl, rfl⟩
  · rw [decide_eq_false (show ¬ good t from fun q => h0 q.1)]
    go_enter Try.func58, Try.ntmps58
    go_wp2_with fail
    go_ret
    exact ⟨rfl, rfl⟩
def none7 (b0 b1 b2 b3 b4 b5 b6 : Bool) : Bool := b0 && (b1 && (b2 && (b3 && (b4 && (b5 && b6)))))
set_option maxRecDepth 20000 in
set_option maxHeartbeats 4000000 in
theorem mnone7 {k ses rev : Int} {path : ByteArray} {dig n c : Nat} {A : Option Addr} {mem : Int} : Calls Try.prog 62 #[.agg #[.int .i64 k, .int .i64 ses, .int .i64 rev, .string path, .int .u64 dig, .slice A n c, .int .i64 mem]] w fun e w' => e = .returned (.bool (none7 (k == 0) (ses == 0) (rev == 0) path.toList.isEmpty ((dig : Int) == 0) ((n : Int) == 0) (mem == 0))) ∧ Keep (fun _ => False) w w' := by
  cases hb0 : (k == 0)
  case' false =>
    rw [show none7 false (ses == 0) (rev == 0) path.toList.isEmpty ((dig : Int) == 0) ((n : Int) == 0) (mem == 0) = false from by simp [none7]]
    go_enter Try.func62, Try.ntmps62
    go_wp2_with fail
    go_ret
    exact ⟨rfl, (Keep.refl _ w).alloc _⟩
  cases hb1 : (ses == 0)
  case' false =>
    rw [show none7 true false (rev == 0) path.toList.isEmpty ((dig : Int) == 0) ((n : Int) == 0) (mem == 0) = false from by simp [none7]]
    go_enter Try.func62, Try.ntmps62
    go_wp2_with fail
    go_ret
    exact ⟨rfl, (Keep.refl _ w).alloc _⟩
  cases hb2 : (rev == 0)
  case' false =>
    rw [show none7 true true false path.toList.isEmpty ((dig : Int) == 0) ((n : Int) == 0) (mem == 0) = false from by simp [none7]]
    go_enter Try.func62, Try.ntmps62
    go_wp2_with fail
    go_ret
    exact ⟨rfl, (Keep.refl _ w).alloc _⟩
  cases hb3 : path.toList.isEmpty
  case' false =>
    rw [show none7 true true true false ((dig : Int) == 0) ((n : Int) == 0) (mem == 0) = false from by simp [none7]]
    go_enter Try.func62, Try.ntmps62
    go_wp2_with fail
    go_ret
    exact ⟨rfl, (Keep.refl _ w).alloc _⟩
  cases hb4 : ((dig : Int) == 0)
  case' false =>
    rw [show none7 true true true true false ((n : Int) == 0) (mem == 0) = false from by simp [none7]]
    go_enter Try.func62, Try.ntmps62
    go_wp2_with fail
    go_ret
    exact ⟨rfl, (Keep.refl _ w).alloc _⟩
  cases hb5 : ((n : Int) == 0)
  case' false =>
    rw [show none7 true true true true true false (mem == 0) = false from by simp [none7]]
    go_enter Try.func62, Try.ntmps62
    go_wp2_with fail
    go_ret
    exact ⟨rfl, (Keep.refl _ w).alloc _⟩
  cases hb6 : (mem == 0)
  case' false =>
    rw [show none7 true true true true true true false = false from by simp [none7]]
    go_enter Try.func62, Try.ntmps62
    go_wp2_with fail
    go_ret
    exact ⟨rfl, (Keep.refl _ w).alloc _⟩
  rw [show none7 true true true true true true true = true from rfl]
  go_enter Try.func62, Try.ntmps62
  go_wp2_with fail
  go_ret
  exact ⟨rfl, (Keep.refl _ w).alloc _⟩
theorem none7_is (x : Verdict) : none7 (x.code == 0) (x.session == 0) (x.rev == 0) x.path.toList.isEmpty ((x.digest : Int) == 0) ((x.commits.length : Int) == 0) (x.member == 0) = noneB x := by
  obtain ⟨k, ses, rev, path, dig, coms, mem⟩ := x
  simp only
  rw [isE]
  have hd : ((dig : Int) == 0) = decide (dig = 0) := by by_cases q : dig = 0 <;> simp [q]
  have hc : ((coms.length : Int) == 0) = decide (coms = []) := by cases coms <;> simp; omega
  rw [hd, hc, Bool.eq_iff_iff]
  simp [none7, noneB, vdZ]
theorem mnone_calls {x : Verdict} {u : Value} (hu : Sl .commit w G u x.commits) : Calls Try.prog 62 #[.agg (verdictCs x u).toArray] w fun e w' => e = .returned (.bool (noneB x)) ∧ Keep (fun _ => False) w w' := by
  obtain ⟨A, c, rfl⟩ := hu.shape
  rw [← none7_is]
  exact mnone7
set_option maxRecDepth 20000 in
set_option maxHeartbeats 4000000 in
theorem mempty_calls {r : Req} {v : Value} (hv : Sl .change w F v r.changes) : Calls Try.prog 60 #[reqV r v] w fun e w' => e = .returned (.bool (decide (r = reqZ'))) ∧ Keep (fun _ => False) w w' := by
  obtain ⟨A, c, rfl⟩ := hv.shape
  obtain ⟨n, hn⟩ : ∃ n, n = r.changes.length := ⟨_, rfl⟩
  rw [← hn] at hv ⊢
  have HV := hid hv
  clear hv hn
  go_enter Try.func60, Try.ntmps60
  go_wp2_with (first
    | (refine wpl_boxB (v := .agg (reqCs r (.slice A n c)).toArray) rfl rfl rfl ?_; intro g1 w1 hg1 hb1 k1 s1; have K1 := hid k1; clear hg1 k1 s1)
    | (refine wpl_loadA (ty := 24) (o := 0) (n := 11) rfl rfl rfl hb1 (by kernel_rfl) (by kernel_rfl) (reqCs r (.slice A n c)) rfl rfl ?_))
  refine (sameR_calls (r := r) (s := reqZ') (HV.out.keep K1.out (fun _ _ => id)) (show Sl .change w1 F (.slice none 0 0) ([] : List Change) from ⟨none, 0, rfl, Nat.le_refl _, Nat.zero_le _, .inl rfl⟩)).mono ?_
  rintro e w2 ⟨rfl, k2⟩
  have K2 := hid (K1.out.trans k2 (fun _ _ f => f))
  obtain ⟨bb, hbb⟩ : ∃ bb, bb = decide (r = reqZ') := ⟨_, rfl⟩
  rw [← hbb]
  have HBB := hid hbb
  clear hb1 k2 hbb
  go_wp2_with fail
  go_ret
  exact ⟨by rw [← HBB.out]; rfl, K2.out⟩
end
end Go.Proofs.Ytofljidmdabkcaa

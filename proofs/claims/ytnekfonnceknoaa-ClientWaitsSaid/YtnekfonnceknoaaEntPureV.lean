/- entry.pure: has a verdict the fields of its code alone? -/
import Derived.Test.YtnekfonnceknoaaE2
import Derived.Deep.CutBlock
import Derived.Deep.CutRange
import Derived.Deep.DeepCutAuto
namespace Go.Proofs.Ytnekfonnceknoaa
open Go.RowKit
def pureB (k : Int) (b1 b2 b3 b4 b5 b6 : Bool) : Bool :=
  (decide (k = 1) || b1) && ((decide (k = 2 ∨ k = 4 ∨ k = 8 ∨ k = 3 ∨ k = 9) || b2) && ((decide (k = 3 ∨ k = 9 ∨ k = 10) || b3) && ((decide (k = 9) || b4) && ((decide (k = 11) || b5) && (decide (k = 12 ∨ k = 13 ∨ k = 14) || b6)))))
section
variable {w : World}
set_option maxRecDepth 20000 in
set_option maxHeartbeats 2000000 in
theorem pure_0 {ses rev : Int} {path : ByteArray} {dig n c : Nat} {A : Option Addr} {mem : Int} : Calls Try.prog 92 #[.agg #[.int .i64 0, .int .i64 ses, .int .i64 rev, .string path, .int .u64 dig, .slice A n c, .int .i64 mem]] w fun e w' => e = .returned (.bool (pureB 0 (ses == 0) (rev == 0) path.toList.isEmpty ((dig : Int) == 0) ((n : Int) == 0) (mem == 0))) ∧ Keep (fun _ => False) w w' := by
  go_enter Try.func92, Try.ntmps92
  go_wp2_with fail
  go_quiet (fail)
  go_upto_region 21 with fail
  cases hb1 : (ses == 0)
  case' false =>
    have HB1 := hid hb1
    clear hb1
    go_wp2_with fail
    go_ret
    exact ⟨by rw [HB1.out]; simp [pureB], ((Keep.refl _ w).alloc _).drewN _⟩
  have HB1 := hid hb1
  clear hb1
  cases hb2 : (rev == 0)
  case' false =>
    have HB2 := hid hb2
    clear hb2
    go_wp2_with fail
    go_ret
    exact ⟨by rw [HB1.out, HB2.out]; simp [pureB], ((Keep.refl _ w).alloc _).drewN _⟩
  have HB2 := hid hb2
  clear hb2
  cases hb3 : path.toList.isEmpty
  case' false =>
    have HB3 := hid hb3
    clear hb3
    go_wp2_with fail
    go_ret
    exact ⟨by rw [HB1.out, HB2.out, HB3.out]; simp [pureB], ((Keep.refl _ w).alloc _).drewN _⟩
  have HB3 := hid hb3
  clear hb3
  cases hb4 : ((dig : Int) == 0)
  case' false =>
    have HB4 := hid hb4
    clear hb4
    go_wp2_with fail
    go_ret
    exact ⟨by rw [HB1.out, HB2.out, HB3.out, HB4.out]; simp [pureB], ((Keep.refl _ w).alloc _).drewN _⟩
  have HB4 := hid hb4
  clear hb4
  cases hb5 : ((n : Int) == 0)
  case' false =>
    have HB5 := hid hb5
    clear hb5
    go_wp2_with fail
    go_ret
    exact ⟨by rw [HB1.out, HB2.out, HB3.out, HB4.out, HB5.out]; simp [pureB], ((Keep.refl _ w).alloc _).drewN _⟩
  have HB5 := hid hb5
  clear hb5
  cases hb6 : (mem == 0)
  case' false =>
    have HB6 := hid hb6
    clear hb6
    go_wp2_with fail
    go_ret
    exact ⟨by rw [HB1.out, HB2.out, HB3.out, HB4.out, HB5.out, HB6.out]; simp [pureB], ((Keep.refl _ w).alloc _).drewN _⟩
  have HB6 := hid hb6
  clear hb6
  go_wp2_with fail
  go_ret
  exact ⟨by rw [HB1.out, HB2.out, HB3.out, HB4.out, HB5.out, HB6.out]; simp [pureB], ((Keep.refl _ w).alloc _).drewN _⟩
set_option maxRecDepth 20000 in
set_option maxHeartbeats 2000000 in
theorem pure_1 {ses rev : Int} {path : ByteArray} {dig n c : Nat} {A : Option Addr} {mem : Int} : Calls Try.prog 92 #[.agg #[.int .i64 1, .int .i64 ses, .int .i64 rev, .string path, .int .u64 dig, .slice A n c, .int .i64 mem]] w fun e w' => e = .returned (.bool (pureB 1 (ses == 0) (rev == 0) path.toList.isEmpty ((dig : Int) == 0) ((n : Int) == 0) (mem == 0))) ∧ Keep (fun _ => False) w w' := by
  go_enter Try.func92, Try.ntmps92
  go_wp2_with fail
  go_quiet (fail)
  go_upto_region 21 with fail
  cases hb2 : (rev == 0)
  case' false =>
    have HB2 := hid hb2
    clear hb2
    go_wp2_with fail
    go_ret
    exact ⟨by rw [HB2.out]; simp [pureB], ((Keep.refl _ w).alloc _).drewN _⟩
  have HB2 := hid hb2
  clear hb2
  cases hb3 : path.toList.isEmpty
  case' false =>
    have HB3 := hid hb3
    clear hb3
    go_wp2_with fail
    go_ret
    exact ⟨by rw [HB2.out, HB3.out]; simp [pureB], ((Keep.refl _ w).alloc _).drewN _⟩
  have HB3 := hid hb3
  clear hb3
  cases hb4 : ((dig : Int) == 0)
  case' false =>
    have HB4 := hid hb4
    clear hb4
    go_wp2_with fail
    go_ret
    exact ⟨by rw [HB2.out, HB3.out, HB4.out]; simp [pureB], ((Keep.refl _ w).alloc _).drewN _⟩
  have HB4 := hid hb4
  clear hb4
  cases hb5 : ((n : Int) == 0)
  case' false =>
    have HB5 := hid hb5
    clear hb5
    go_wp2_with fail
    go_ret
    exact ⟨by rw [HB2.out, HB3.out, HB4.out, HB5.out]; simp [pureB], ((Keep.refl _ w).alloc _).drewN _⟩
  have HB5 := hid hb5
  clear hb5
  cases hb6 : (mem == 0)
  case' false =>
    have HB6 := hid hb6
    clear hb6
    go_wp2_with fail
    go_ret
    exact ⟨by rw [HB2.out, HB3.out, HB4.out, HB5.out, HB6.out]; simp [pureB], ((Keep.refl _ w).alloc _).drewN _⟩
  have HB6 := hid hb6
  clear hb6
  go_wp2_with fail
  go_ret
  exact ⟨by rw [HB2.out, HB3.out, HB4.out, HB5.out, HB6.out]; simp [pureB], ((Keep.refl _ w).alloc _).drewN _⟩
set_option maxRecDepth 20000 in
set_option maxHeartbeats 2000000 in
theorem pure_2 {ses rev : Int} {path : ByteArray} {dig n c : Nat} {A : Option Addr} {mem : Int} : Calls Try.prog 92 #[.agg #[.int .i64 2, .int .i64 ses, .int .i64 rev, .string path, .int .u64 dig, .slice A n c, .int .i64 mem]] w fun e w' => e = .returned (.bool (pureB 2 (ses == 0) (rev == 0) path.toList.isEmpty ((dig : Int) == 0) ((n : Int) == 0) (mem == 0))) ∧ Keep (fun _ => False) w w' := by
  go_enter Try.func92, Try.ntmps92
  go_wp2_with fail
  go_quiet (fail)
  go_upto_region 21 with fail
  cases hb1 : (ses == 0)
  case' false =>
    have HB1 := hid hb1
    clear hb1
    go_wp2_with fail
    go_ret
    exact ⟨by rw [HB1.out]; simp [pureB], ((Keep.refl _ w).alloc _).drewN _⟩
  have HB1 := hid hb1
  clear hb1
  cases hb3 : path.toList.isEmpty
  case' false =>
    have HB3 := hid hb3
    clear hb3
    go_wp2_with fail
    go_ret
    exact ⟨by rw [HB1.out, HB3.out]; simp [pureB], ((Keep.refl _ w).alloc _).drewN _⟩
  have HB3 := hid hb3
  clear hb3
  cases hb4 : ((dig : Int) == 0)
  case' false =>
    have HB4 := hid hb4
    clear hb4
    go_wp2_with fail
    go_ret
    exact ⟨by rw [HB1.out, HB3.out, HB4.out]; simp [pureB], ((Keep.refl _ w).alloc _).drewN _⟩
  have HB4 := hid hb4
  clear hb4
  cases hb5 : ((n : Int) == 0)
  case' false =>
    have HB5 := hid hb5
    clear hb5
    go_wp2_with fail
    go_ret
    exact ⟨by rw [HB1.out, HB3.out, HB4.out, HB5.out]; simp [pureB], ((Keep.refl _ w).alloc _).drewN _⟩
  have HB5 := hid hb5
  clear hb5
  cases hb6 : (mem == 0)
  case' false =>
    have HB6 := hid hb6
    clear hb6
    go_wp2_with fail
    go_ret
    exact ⟨by rw [HB1.out, HB3.out, HB4.out, HB5.out, HB6.out]; simp [pureB], ((Keep.refl _ w).alloc _).drewN _⟩
  have HB6 := hid hb6
  clear hb6
  go_wp2_with fail
  go_ret
  exact ⟨by rw [HB1.out, HB3.out, HB4.out, HB5.out, HB6.out]; simp [pureB], ((Keep.refl _ w).alloc _).drewN _⟩
set_option maxRecDepth 20000 in
set_option maxHeartbeats 2000000 in
theorem pure_3 {ses rev : Int} {path : ByteArray} {dig n c : Nat} {A : Option Addr} {mem : Int} : Calls Try.prog 92 #[.agg #[.int .i64 3, .int .i64 ses, .int .i64 rev, .string path, .int .u64 dig, .slice A n c, .int .i64 mem]] w fun e w' => e = .returned (.bool (pureB 3 (ses == 0) (rev == 0) path.toList.isEmpty ((dig : Int) == 0) ((n : Int) == 0) (mem == 0))) ∧ Keep (fun _ => False) w w' := by
  go_enter Try.func92, Try.ntmps92
  go_wp2_with fail
  go_quiet (fail)
  go_upto_region 21 with fail
  cases hb1 : (ses == 0)
  case' false =>
    have HB1 := hid hb1
    clear hb1
    go_wp2_with fail
    go_ret
    exact ⟨by rw [HB1.out]; simp [pureB], ((Keep.refl _ w).alloc _).drewN _⟩
  have HB1 := hid hb1
  clear hb1
  cases hb4 : ((dig : Int) == 0)
  case' false =>
    have HB4 := hid hb4
    clear hb4
    go_wp2_with fail
    go_ret
    exact ⟨by rw [HB1.out, HB4.out]; simp [pureB], ((Keep.refl _ w).alloc _).drewN _⟩
  have HB4 := hid hb4
  clear hb4
  cases hb5 : ((n : Int) == 0)
  case' false =>
    have HB5 := hid hb5
    clear hb5
    go_wp2_with fail
    go_ret
    exact ⟨by rw [HB1.out, HB4.out, HB5.out]; simp [pureB], ((Keep.refl _ w).alloc _).drewN _⟩
  have HB5 := hid hb5
  clear hb5
  cases hb6 : (mem == 0)
  case' false =>
    have HB6 := hid hb6
    clear hb6
    go_wp2_with fail
    go_ret
    exact ⟨by rw [HB1.out, HB4.out, HB5.out, HB6.out]; simp [pureB], ((Keep.refl _ w).alloc _).drewN _⟩
  have HB6 := hid hb6
  clear hb6
  go_wp2_with fail
  go_ret
  exact ⟨by rw [HB1.out, HB4.out, HB5.out, HB6.out]; simp [pureB], ((Keep.refl _ w).alloc _).drewN _⟩
set_option maxRecDepth 20000 in
set_option maxHeartbeats 2000000 in
theorem pure_4 {ses rev : Int} {path : ByteArray} {dig n c : Nat} {A : Option Addr} {mem : Int} : Calls Try.prog 92 #[.agg #[.int .i64 4, .int .i64 ses, .int .i64 rev, .string path, .int .u64 dig, .slice A n c, .int .i64 mem]] w fun e w' => e = .returned (.bool (pureB 4 (ses == 0) (rev == 0) path.toList.isEmpty ((dig : Int) == 0) ((n : Int) == 0) (mem == 0))) ∧ Keep (fun _ => False) w w' := by
  go_enter Try.func92, Try.ntmps92
  go_wp2_with fail
  go_quiet (fail)
  go_upto_region 21 with fail
  cases hb1 : (ses == 0)
  case' false =>
    have HB1 := hid hb1
    clear hb1
    go_wp2_with fail
    go_ret
    exact ⟨by rw [HB1.out]; simp [pureB], ((Keep.refl _ w).alloc _).drewN _⟩
  have HB1 := hid hb1
  clear hb1
  cases hb3 : path.toList.isEmpty
  case' false =>
    have HB3 := hid hb3
    clear hb3
    go_wp2_with fail
    go_ret
    exact ⟨by rw [HB1.out, HB3.out]; simp [pureB], ((Keep.refl _ w).alloc _).drewN _⟩
  have HB3 := hid hb3
  clear hb3
  cases hb4 : ((dig : Int) == 0)
  case' false =>
    have HB4 := hid hb4
    clear hb4
    go_wp2_with fail
    go_ret
    exact ⟨by rw [HB1.out, HB3.out, HB4.out]; simp [pureB], ((Keep.refl _ w).alloc _).drewN _⟩
  have HB4 := hid hb4
  clear hb4
  cases hb5 : ((n : Int) == 0)
  case' false =>
    have HB5 := hid hb5
    clear hb5
    go_wp2_with fail
    go_ret
    exact ⟨by rw [HB1.out, HB3.out, HB4.out, HB5.out]; simp [pureB], ((Keep.refl _ w).alloc _).drewN _⟩
  have HB5 := hid hb5
  clear hb5
  cases hb6 : (mem == 0)
  case' false =>
    have HB6 := hid hb6
    clear hb6
    go_wp2_with fail
    go_ret
    exact ⟨by rw [HB1.out, HB3.out, HB4.out, HB5.out, HB6.out]; simp [pureB], ((Keep.refl _ w).alloc _).drewN _⟩
  have HB6 := hid hb6
  clear hb6
  go_wp2_with fail
  go_ret
  exact ⟨by rw [HB1.out, HB3.out, HB4.out, HB5.out, HB6.out]; simp [pureB], ((Keep.refl _ w).alloc _).drewN _⟩
set_option maxRecDepth 20000 in
set_option maxHeartbeats 2000000 in
theorem pure_5 {ses rev : Int} {path : ByteArray} {dig n c : Nat} {A : Option Addr} {mem : Int} : Calls Try.prog 92 #[.agg #[.int .i64 5, .int .i64 ses, .int .i64 rev, .string path, .int .u64 dig, .slice A n c, .int .i64 mem]] w fun e w' => e = .returned (.bool (pureB 5 (ses == 0) (rev == 0) path.toList.isEmpty ((dig : Int) == 0) ((n : Int) == 0) (mem == 0))) ∧ Keep (fun _ => False) w w' := by
  go_enter Try.func92, Try.ntmps92
  go_wp2_with fail
  go_quiet (fail)
  go_upto_region 21 with fail
  cases hb1 : (ses == 0)
  case' false =>
    have HB1 := hid hb1
    clear hb1
    go_wp2_with fail
    go_ret
    exact ⟨by rw [HB1.out]; simp [pureB], ((Keep.refl _ w).alloc _).drewN _⟩
  have HB1 := hid hb1
  clear hb1
  cases hb2 : (rev == 0)
  case' false =>
    have HB2 := hid hb2
    clear hb2
    go_wp2_with fail
    go_ret
    exact ⟨by rw [HB1.out, HB2.out]; simp [pureB], ((Keep.refl _ w).alloc _).drewN _⟩
  have HB2 := hid hb2
  clear hb2
  cases hb3 : path.toList.isEmpty
  case' false =>
    have HB3 := hid hb3
    clear hb3
    go_wp2_with fail
    go_ret
    exact ⟨by rw [HB1.out, HB2.out, HB3.out]; simp [pureB], ((Keep.refl _ w).alloc _).drewN _⟩
  have HB3 := hid hb3
  clear hb3
  cases hb4 : ((dig : Int) == 0)
  case' false =>
    have HB4 := hid hb4
    clear hb4
    go_wp2_with fail
    go_ret
    exact ⟨by rw [HB1.out, HB2.out, HB3.out, HB4.out]; simp [pureB], ((Keep.refl _ w).alloc _).drewN _⟩
  have HB4 := hid hb4
  clear hb4
  cases hb5 : ((n : Int) == 0)
  case' false =>
    have HB5 := hid hb5
    clear hb5
    go_wp2_with fail
    go_ret
    exact ⟨by rw [HB1.out, HB2.out, HB3.out, HB4.out, HB5.out]; simp [pureB], ((Keep.refl _ w).alloc _).drewN _⟩
  have HB5 := hid hb5
  clear hb5
  cases hb6 : (mem == 0)
  case' false =>
    have HB6 := hid hb6
    clear hb6
    go_wp2_with fail
    go_ret
    exact ⟨by rw [HB1.out, HB2.out, HB3.out, HB4.out, HB5.out, HB6.out]; simp [pureB], ((Keep.refl _ w).alloc _).drewN _⟩
  have HB6 := hid hb6
  clear hb6
  go_wp2_with fail
  go_ret
  exact ⟨by rw [HB1.out, HB2.out, HB3.out, HB4.out, HB5.out, HB6.out]; simp [pureB], ((Keep.refl _ w).alloc _).drewN _⟩
set_option maxRecDepth 20000 in
set_option maxHeartbeats 2000000 in
theorem pure_6 {ses rev : Int} {path : ByteArray} {dig n c : Nat} {A : Option Addr} {mem : Int} : Calls Try.prog 92 #[.agg #[.int .i64 6, .int .i64 ses, .int .i64 rev, .string path, .int .u64 dig, .slice A n c, .int .i64 mem]] w fun e w' => e = .returned (.bool (pureB 6 (ses == 0) (rev == 0) path.toList.isEmpty ((dig : Int) == 0) ((n : Int) == 0) (mem == 0))) ∧ Keep (fun _ => False) w w' := by
  go_enter Try.func92, Try.ntmps92
  go_wp2_with fail
  go_quiet (fail)
  go_upto_region 21 with fail
  cases hb1 : (ses == 0)
  case' false =>
    have HB1 := hid hb1
    clear hb1
    go_wp2_with fail
    go_ret
    exact ⟨by rw [HB1.out]; simp [pureB], ((Keep.refl _ w).alloc _).drewN _⟩
  have HB1 := hid hb1
  clear hb1
  cases hb2 : (rev == 0)
  case' false =>
    have HB2 := hid hb2
    clear hb2
    go_wp2_with fail
    go_ret
    exact ⟨by rw [HB1.out, HB2.out]; simp [pureB], ((Keep.refl _ w).alloc _).drewN _⟩
  have HB2 := hid hb2
  clear hb2
  cases hb3 : path.toList.isEmpty
  case' false =>
    have HB3 := hid hb3
    clear hb3
    go_wp2_with fail
    go_ret
    exact ⟨by rw [HB1.out, HB2.out, HB3.out]; simp [pureB], ((Keep.refl _ w).alloc _).drewN _⟩
  have HB3 := hid hb3
  clear hb3
  cases hb4 : ((dig : Int) == 0)
  case' false =>
    have HB4 := hid hb4
    clear hb4
    go_wp2_with fail
    go_ret
    exact ⟨by rw [HB1.out, HB2.out, HB3.out, HB4.out]; simp [pureB], ((Keep.refl _ w).alloc _).drewN _⟩
  have HB4 := hid hb4
  clear hb4
  cases hb5 : ((n : Int) == 0)
  case' false =>
    have HB5 := hid hb5
    clear hb5
    go_wp2_with fail
    go_ret
    exact ⟨by rw [HB1.out, HB2.out, HB3.out, HB4.out, HB5.out]; simp [pureB], ((Keep.refl _ w).alloc _).drewN _⟩
  have HB5 := hid hb5
  clear hb5
  cases hb6 : (mem == 0)
  case' false =>
    have HB6 := hid hb6
    clear hb6
    go_wp2_with fail
    go_ret
    exact ⟨by rw [HB1.out, HB2.out, HB3.out, HB4.out, HB5.out, HB6.out]; simp [pureB], ((Keep.refl _ w).alloc _).drewN _⟩
  have HB6 := hid hb6
  clear hb6
  go_wp2_with fail
  go_ret
  exact ⟨by rw [HB1.out, HB2.out, HB3.out, HB4.out, HB5.out, HB6.out]; simp [pureB], ((Keep.refl _ w).alloc _).drewN _⟩
set_option maxRecDepth 20000 in
set_option maxHeartbeats 2000000 in
theorem pure_7 {ses rev : Int} {path : ByteArray} {dig n c : Nat} {A : Option Addr} {mem : Int} : Calls Try.prog 92 #[.agg #[.int .i64 7, .int .i64 ses, .int .i64 rev, .string path, .int .u64 dig, .slice A n c, .int .i64 mem]] w fun e w' => e = .returned (.bool (pureB 7 (ses == 0) (rev == 0) path.toList.isEmpty ((dig : Int) == 0) ((n : Int) == 0) (mem == 0))) ∧ Keep (fun _ => False) w w' := by
  go_enter Try.func92, Try.ntmps92
  go_wp2_with fail
  go_quiet (fail)
  go_upto_region 21 with fail
  cases hb1 : (ses == 0)
  case' false =>
    have HB1 := hid hb1
    clear hb1
    go_wp2_with fail
    go_ret
    exact ⟨by rw [HB1.out]; simp [pureB], ((Keep.refl _ w).alloc _).drewN _⟩
  have HB1 := hid hb1
  clear hb1
  cases hb2 : (rev == 0)
  case' false =>
    have HB2 := hid hb2
    clear hb2
    go_wp2_with fail
    go_ret
    exact ⟨by rw [HB1.out, HB2.out]; simp [pureB], ((Keep.refl _ w).alloc _).drewN _⟩
  have HB2 := hid hb2
  clear hb2
  cases hb3 : path.toList.isEmpty
  case' false =>
    have HB3 := hid hb3
    clear hb3
    go_wp2_with fail
    go_ret
    exact ⟨by rw [HB1.out, HB2.out, HB3.out]; simp [pureB], ((Keep.refl _ w).alloc _).drewN _⟩
  have HB3 := hid hb3
  clear hb3
  cases hb4 : ((dig : Int) == 0)
  case' false =>
    have HB4 := hid hb4
    clear hb4
    go_wp2_with fail
    go_ret
    exact ⟨by rw [HB1.out, HB2.out, HB3.out, HB4.out]; simp [pureB], ((Keep.refl _ w).alloc _).drewN _⟩
  have HB4 := hid hb4
  clear hb4
  cases hb5 : ((n : Int) == 0)
  case' false =>
    have HB5 := hid hb5
    clear hb5
    go_wp2_with fail
    go_ret
    exact ⟨by rw [HB1.out, HB2.out, HB3.out, HB4.out, HB5.out]; simp [pureB], ((Keep.refl _ w).alloc _).drewN _⟩
  have HB5 := hid hb5
  clear hb5
  cases hb6 : (mem == 0)
  case' false =>
    have HB6 := hid hb6
    clear hb6
    go_wp2_with fail
    go_ret
    exact ⟨by rw [HB1.out, HB2.out, HB3.out, HB4.out, HB5.out, HB6.out]; simp [pureB], ((Keep.refl _ w).alloc _).drewN _⟩
  have HB6 := hid hb6
  clear hb6
  go_wp2_with fail
  go_ret
  exact ⟨by rw [HB1.out, HB2.out, HB3.out, HB4.out, HB5.out, HB6.out]; simp [pureB], ((Keep.refl _ w).alloc _).drewN _⟩
set_option maxRecDepth 20000 in
set_option maxHeartbeats 2000000 in
theorem pure_8 {ses rev : Int} {path : ByteArray} {dig n c : Nat} {A : Option Addr} {mem : Int} : Calls Try.prog 92 #[.agg #[.int .i64 8, .int .i64 ses, .int .i64 rev, .string path, .int .u64 dig, .slice A n c, .int .i64 mem]] w fun e w' => e = .returned (.bool (pureB 8 (ses == 0) (rev == 0) path.toList.isEmpty ((dig : Int) == 0) ((n : Int) == 0) (mem == 0))) ∧ Keep (fun _ => False) w w' := by
  go_enter Try.func92, Try.ntmps92
  go_wp2_with fail
  go_quiet (fail)
  go_upto_region 21 with fail
  cases hb1 : (ses == 0)
  case' false =>
    have HB1 := hid hb1
    clear hb1
    go_wp2_with fail
    go_ret
    exact ⟨by rw [HB1.out]; simp [pureB], ((Keep.refl _ w).alloc _).drewN _⟩
  have HB1 := hid hb1
  clear hb1
  cases hb3 : path.toList.isEmpty
  case' false =>
    have HB3 := hid hb3
    clear hb3
    go_wp2_with fail
    go_ret
    exact ⟨by rw [HB1.out, HB3.out]; simp [pureB], ((Keep.refl _ w).alloc _).drewN _⟩
  have HB3 := hid hb3
  clear hb3
  cases hb4 : ((dig : Int) == 0)
  case' false =>
    have HB4 := hid hb4
    clear hb4
    go_wp2_with fail
    go_ret
    exact ⟨by rw [HB1.out, HB3.out, HB4.out]; simp [pureB], ((Keep.refl _ w).alloc _).drewN _⟩
  have HB4 := hid hb4
  clear hb4
  cases hb5 : ((n : Int) == 0)
  case' false =>
    have HB5 := hid hb5
    clear hb5
    go_wp2_with fail
    go_ret
    exact ⟨by rw [HB1.out, HB3.out, HB4.out, HB5.out]; simp [pureB], ((Keep.refl _ w).alloc _).drewN _⟩
  have HB5 := hid hb5
  clear hb5
  cases hb6 : (mem == 0)
  case' false =>
    have HB6 := hid hb6
    clear hb6
    go_wp2_with fail
    go_ret
    exact ⟨by rw [HB1.out, HB3.out, HB4.out, HB5.out, HB6.out]; simp [pureB], ((Keep.refl _ w).alloc _).drewN _⟩
  have HB6 := hid hb6
  clear hb6
  go_wp2_with fail
  go_ret
  exact ⟨by rw [HB1.out, HB3.out, HB4.out, HB5.out, HB6.out]; simp [pureB], ((Keep.refl _ w).alloc _).drewN _⟩
set_option maxRecDepth 20000 in
set_option maxHeartbeats 2000000 in
theorem pure_9 {ses rev : Int} {path : ByteArray} {dig n c : Nat} {A : Option Addr} {mem : Int} : Calls Try.prog 92 #[.agg #[.int .i64 9, .int .i64 ses, .int .i64 rev, .string path, .int .u64 dig, .slice A n c, .int .i64 mem]] w fun e w' => e = .returned (.bool (pureB 9 (ses == 0) (rev == 0) path.toList.isEmpty ((dig : Int) == 0) ((n : Int) == 0) (mem == 0))) ∧ Keep (fun _ => False) w w' := by
  go_enter Try.func92, Try.ntmps92
  go_wp2_with fail
  go_quiet (fail)
  go_upto_region 21 with fail
  cases hb1 : (ses == 0)
  case' false =>
    have HB1 := hid hb1
    clear hb1
    go_wp2_with fail
    go_ret
    exact ⟨by rw [HB1.out]; simp [pureB], ((Keep.refl _ w).alloc _).drewN _⟩
  have HB1 := hid hb1
  clear hb1
  cases hb5 : ((n : Int) == 0)
  case' false =>
    have HB5 := hid hb5
    clear hb5
    go_wp2_with fail
    go_ret
    exact ⟨by rw [HB1.out, HB5.out]; simp [pureB], ((Keep.refl _ w).alloc _).drewN _⟩
  have HB5 := hid hb5
  clear hb5
  cases hb6 : (mem == 0)
  case' false =>
    have HB6 := hid hb6
    clear hb6
    go_wp2_with fail
    go_ret
    exact ⟨by rw [HB1.out, HB5.out, HB6.out]; simp [pureB], ((Keep.refl _ w).alloc _).drewN _⟩
  have HB6 := hid hb6
  clear hb6
  go_wp2_with fail
  go_ret
  exact ⟨by rw [HB1.out, HB5.out, HB6.out]; simp [pureB], ((Keep.refl _ w).alloc _).drewN _⟩
set_option maxRecDepth 20000 in
set_option maxHeartbeats 2000000 in
theorem pure_10 {ses rev : Int} {path : ByteArray} {dig n c : Nat} {A : Option Addr} {mem : Int} : Calls Try.prog 92 #[.agg #[.int .i64 10, .int .i64 ses, .int .i64 rev, .string path, .int .u64 dig, .slice A n c, .int .i64 mem]] w fun e w' => e = .returned (.bool (pureB 10 (ses == 0) (rev == 0) path.toList.isEmpty ((dig : Int) == 0) ((n : Int) == 0) (mem == 0))) ∧ Keep (fun _ => False) w w' := by
  go_enter Try.func92, Try.ntmps92
  go_wp2_with fail
  go_quiet (fail)
  go_upto_region 21 with fail
  cases hb1 : (ses == 0)
  case' false =>
    have HB1 := hid hb1
    clear hb1
    go_wp2_with fail
    go_ret
    exact ⟨by rw [HB1.out]; simp [pureB], ((Keep.refl _ w).alloc _).drewN _⟩
  have HB1 := hid hb1
  clear hb1
  cases hb2 : (rev == 0)
  case' false =>
    have HB2 := hid hb2
    clear hb2
    go_wp2_with fail
    go_ret
    exact ⟨by rw [HB1.out, HB2.out]; simp [pureB], ((Keep.refl _ w).alloc _).drewN _⟩
  have HB2 := hid hb2
  clear hb2
  cases hb4 : ((dig : Int) == 0)
  case' false =>
    have HB4 := hid hb4
    clear hb4
    go_wp2_with fail
    go_ret
    exact ⟨by rw [HB1.out, HB2.out, HB4.out]; simp [pureB], ((Keep.refl _ w).alloc _).drewN _⟩
  have HB4 := hid hb4
  clear hb4
  cases hb5 : ((n : Int) == 0)
  case' false =>
    have HB5 := hid hb5
    clear hb5
    go_wp2_with fail
    go_ret
    exact ⟨by rw [HB1.out, HB2.out, HB4.out, HB5.out]; simp [pureB], ((Keep.refl _ w).alloc _).drewN _⟩
  have HB5 := hid hb5
  clear hb5
  cases hb6 : (mem == 0)
  case' false =>
    have HB6 := hid hb6
    clear hb6
    go_wp2_with fail
    go_ret
    exact ⟨by rw [HB1.out, HB2.out, HB4.out, HB5.out, HB6.out]; simp [pureB], ((Keep.refl _ w).alloc _).drewN _⟩
  have HB6 := hid hb6
  clear hb6
  go_wp2_with fail
  go_ret
  exact ⟨by rw [HB1.out, HB2.out, HB4.out, HB5.out, HB6.out]; simp [pureB], ((Keep.refl _ w).alloc _).drewN _⟩
set_option maxRecDepth 20000 in
set_option maxHeartbeats 2000000 in
theorem pure_11 {ses rev : Int} {path : ByteArray} {dig n c : Nat} {A : Option Addr} {mem : Int} : Calls Try.prog 92 #[.agg #[.int .i64 11, .int .i64 ses, .int .i64 rev, .string path, .int .u64 dig, .slice A n c, .int .i64 mem]] w fun e w' => e = .returned (.bool (pureB 11 (ses == 0) (rev == 0) path.toList.isEmpty ((dig : Int) == 0) ((n : Int) == 0) (mem == 0))) ∧ Keep (fun _ => False) w w' := by
  go_enter Try.func92, Try.ntmps92
  go_wp2_with fail
  go_quiet (fail)
  go_upto_region 21 with fail
  cases hb1 : (ses == 0)
  case' false =>
    have HB1 := hid hb1
    clear hb1
    go_wp2_with fail
    go_ret
    exact ⟨by rw [HB1.out]; simp [pureB], ((Keep.refl _ w).alloc _).drewN _⟩
  have HB1 := hid hb1
  clear hb1
  cases hb2 : (rev == 0)
  case' false =>
    have HB2 := hid hb2
    clear hb2
    go_wp2_with fail
    go_ret
    exact ⟨by rw [HB1.out, HB2.out]; simp [pureB], ((Keep.refl _ w).alloc _).drewN _⟩
  have HB2 := hid hb2
  clear hb2
  cases hb3 : path.toList.isEmpty
  case' false =>
    have HB3 := hid hb3
    clear hb3
    go_wp2_with fail
    go_ret
    exact ⟨by rw [HB1.out, HB2.out, HB3.out]; simp [pureB], ((Keep.refl _ w).alloc _).drewN _⟩
  have HB3 := hid hb3
  clear hb3
  cases hb4 : ((dig : Int) == 0)
  case' false =>
    have HB4 := hid hb4
    clear hb4
    go_wp2_with fail
    go_ret
    exact ⟨by rw [HB1.out, HB2.out, HB3.out, HB4.out]; simp [pureB], ((Keep.refl _ w).alloc _).drewN _⟩
  have HB4 := hid hb4
  clear hb4
  cases hb6 : (mem == 0)
  case' false =>
    have HB6 := hid hb6
    clear hb6
    go_wp2_with fail
    go_ret
    exact ⟨by rw [HB1.out, HB2.out, HB3.out, HB4.out, HB6.out]; simp [pureB], ((Keep.refl _ w).alloc _).drewN _⟩
  have HB6 := hid hb6
  clear hb6
  go_wp2_with fail
  go_ret
  exact ⟨by rw [HB1.out, HB2.out, HB3.out, HB4.out, HB6.out]; simp [pureB], ((Keep.refl _ w).alloc _).drewN _⟩
set_option maxRecDepth 20000 in
set_option maxHeartbeats 2000000 in
theorem pure_12 {ses rev : Int} {path : ByteArray} {dig n c : Nat} {A : Option Addr} {mem : Int} : Calls Try.prog 92 #[.agg #[.int .i64 12, .int .i64 ses, .int .i64 rev, .string path, .int .u64 dig, .slice A n c, .int .i64 mem]] w fun e w' => e = .returned (.bool (pureB 12 (ses == 0) (rev == 0) path.toList.isEmpty ((dig : Int) == 0) ((n : Int) == 0) (mem == 0))) ∧ Keep (fun _ => False) w w' := by
  go_enter Try.func92, Try.ntmps92
  go_wp2_with fail
  go_quiet (fail)
  go_upto_region 21 with fail
  cases hb1 : (ses == 0)
  case' false =>
    have HB1 := hid hb1
    clear hb1
    go_wp2_with fail
    go_ret
    exact ⟨by rw [HB1.out]; simp [pureB], ((Keep.refl _ w).alloc _).drewN _⟩
  have HB1 := hid hb1
  clear hb1
  cases hb2 : (rev == 0)
  case' false =>
    have HB2 := hid hb2
    clear hb2
    go_wp2_with fail
    go_ret
    exact ⟨by rw [HB1.out, HB2.out]; simp [pureB], ((Keep.refl _ w).alloc _).drewN _⟩
  have HB2 := hid hb2
  clear hb2
  cases hb3 : path.toList.isEmpty
  case' false =>
    have HB3 := hid hb3
    clear hb3
    go_wp2_with fail
    go_ret
    exact ⟨by rw [HB1.out, HB2.out, HB3.out]; simp [pureB], ((Keep.refl _ w).alloc _).drewN _⟩
  have HB3 := hid hb3
  clear hb3
  cases hb4 : ((dig : Int) == 0)
  case' false =>
    have HB4 := hid hb4
    clear hb4
    go_wp2_with fail
    go_ret
    exact ⟨by rw [HB1.out, HB2.out, HB3.out, HB4.out]; simp [pureB], ((Keep.refl _ w).alloc _).drewN _⟩
  have HB4 := hid hb4
  clear hb4
  cases hb5 : ((n : Int) == 0)
  case' false =>
    have HB5 := hid hb5
    clear hb5
    go_wp2_with fail
    go_ret
    exact ⟨by rw [HB1.out, HB2.out, HB3.out, HB4.out, HB5.out]; simp [pureB], ((Keep.refl _ w).alloc _).drewN _⟩
  have HB5 := hid hb5
  clear hb5
  go_wp2_with fail
  go_ret
  exact ⟨by rw [HB1.out, HB2.out, HB3.out, HB4.out, HB5.out]; simp [pureB], ((Keep.refl _ w).alloc _).drewN _⟩
set_option maxRecDepth 20000 in
set_option maxHeartbeats 2000000 in
theorem pure_13 {ses rev : Int} {path : ByteArray} {dig n c : Nat} {A : Option Addr} {mem : Int} : Calls Try.prog 92 #[.agg #[.int .i64 13, .int .i64 ses, .int .i64 rev, .string path, .int .u64 dig, .slice A n c, .int .i64 mem]] w fun e w' => e = .returned (.bool (pureB 13 (ses == 0) (rev == 0) path.toList.isEmpty ((dig : Int) == 0) ((n : Int) == 0) (mem == 0))) ∧ Keep (fun _ => False) w w' := by
  go_enter Try.func92, Try.ntmps92
  go_wp2_with fail
  go_quiet (fail)
  go_upto_region 21 with fail
  cases hb1 : (ses == 0)
  case' false =>
    have HB1 := hid hb1
    clear hb1
    go_wp2_with fail
    go_ret
    exact ⟨by rw [HB1.out]; simp [pureB], ((Keep.refl _ w).alloc _).drewN _⟩
  have HB1 := hid hb1
  clear hb1
  cases hb2 : (rev == 0)
  case' false =>
    have HB2 := hid hb2
    clear hb2
    go_wp2_with fail
    go_ret
    exact ⟨by rw [HB1.out, HB2.out]; simp [pureB], ((Keep.refl _ w).alloc _).drewN _⟩
  have HB2 := hid hb2
  clear hb2
  cases hb3 : path.toList.isEmpty
  case' false =>
    have HB3 := hid hb3
    clear hb3
    go_wp2_with fail
    go_ret
    exact ⟨by rw [HB1.out, HB2.out, HB3.out]; simp [pureB], ((Keep.refl _ w).alloc _).drewN _⟩
  have HB3 := hid hb3
  clear hb3
  cases hb4 : ((dig : Int) == 0)
  case' false =>
    have HB4 := hid hb4
    clear hb4
    go_wp2_with fail
    go_ret
    exact ⟨by rw [HB1.out, HB2.out, HB3.out, HB4.out]; simp [pureB], ((Keep.refl _ w).alloc _).drewN _⟩
  have HB4 := hid hb4
  clear hb4
  cases hb5 : ((n : Int) == 0)
  case' false =>
    have HB5 := hid hb5
    clear hb5
    go_wp2_with fail
    go_ret
    exact ⟨by rw [HB1.out, HB2.out, HB3.out, HB4.out, HB5.out]; simp [pureB], ((Keep.refl _ w).alloc _).drewN _⟩
  have HB5 := hid hb5
  clear hb5
  go_wp2_with fail
  go_ret
  exact ⟨by rw [HB1.out, HB2.out, HB3.out, HB4.out, HB5.out]; simp [pureB], ((Keep.refl _ w).alloc _).drewN _⟩
set_option maxRecDepth 20000 in
set_option maxHeartbeats 2000000 in
theorem pure_14 {ses rev : Int} {path : ByteArray} {dig n c : Nat} {A : Option Addr} {mem : Int} : Calls Try.prog 92 #[.agg #[.int .i64 14, .int .i64 ses, .int .i64 rev, .string path, .int .u64 dig, .slice A n c, .int .i64 mem]] w fun e w' => e = .returned (.bool (pureB 14 (ses == 0) (rev == 0) path.toList.isEmpty ((dig : Int) == 0) ((n : Int) == 0) (mem == 0))) ∧ Keep (fun _ => False) w w' := by
  go_enter Try.func92, Try.ntmps92
  go_wp2_with fail
  go_quiet (fail)
  go_upto_region 21 with fail
  cases hb1 : (ses == 0)
  case' false =>
    have HB1 := hid hb1
    clear hb1
    go_wp2_with fail
    go_ret
    exact ⟨by rw [HB1.out]; simp [pureB], ((Keep.refl _ w).alloc _).drewN _⟩
  have HB1 := hid hb1
  clear hb1
  cases hb2 : (rev == 0)
  case' false =>
    have HB2 := hid hb2
    clear hb2
    go_wp2_with fail
    go_ret
    exact ⟨by rw [HB1.out, HB2.out]; simp [pureB], ((Keep.refl _ w).alloc _).drewN _⟩
  have HB2 := hid hb2
  clear hb2
  cases hb3 : path.toList.isEmpty
  case' false =>
    have HB3 := hid hb3
    clear hb3
    go_wp2_with fail
    go_ret
    exact ⟨by rw [HB1.out, HB2.out, HB3.out]; simp [pureB], ((Keep.refl _ w).alloc _).drewN _⟩
  have HB3 := hid hb3
  clear hb3
  cases hb4 : ((dig : Int) == 0)
  case' false =>
    have HB4 := hid hb4
    clear hb4
    go_wp2_with fail
    go_ret
    exact ⟨by rw [HB1.out, HB2.out, HB3.out, HB4.out]; simp [pureB], ((Keep.refl _ w).alloc _).drewN _⟩
  have HB4 := hid hb4
  clear hb4
  cases hb5 : ((n : Int) == 0)
  case' false =>
    have HB5 := hid hb5
    clear hb5
    go_wp2_with fail
    go_ret
    exact ⟨by rw [HB1.out, HB2.out, HB3.out, HB4.out, HB5.out]; simp [pureB], ((Keep.refl _ w).alloc _).drewN _⟩
  have HB5 := hid hb5
  clear hb5
  go_wp2_with fail
  go_ret
  exact ⟨by rw [HB1.out, HB2.out, HB3.out, HB4.out, HB5.out]; simp [pureB], ((Keep.refl _ w).alloc _).drewN _⟩
end
end Go.Proofs.Ytnekfonnceknoaa

/- wapentakeref3: SameCommits, Alike; wapentakeref9: ownVerdict, MayVerdict. -/
import Derived.Test.YtofljidmdabkcaaGreatMk2
import Derived.Test.YtofljidmdabkcaaGreatEntRef
import Derived.Test.YtofljidmdabkcaaGreatMsgSm
import Derived.Test.YtofljidmdabkcaaGreatReg2
namespace Go.Proofs.YtofljidmdabkcaaGreat
open Go.RowKit Go.Lib
section
variable {F G : Nat → Prop} {w : World}
set_option maxRecDepth 20000 in
theorem sameKs_len {A B : Option Addr} {n m c d : Nat} (h : n ≠ m) : Calls Tryz.prog 54 #[.slice A n c, .slice B m d] w fun e w' => e = .returned (.bool false) ∧ Keep (fun _ => False) w w' := by
  have hb : ((n : Int) != (m : Int)) = true := by simp; omega
  clear h
  go_enter Tryz.func54, Tryz.ntmps54
  go_wp2_with fail
  go_ret
  exact ⟨rfl, Keep.refl _ _⟩
theorem sameKs_gen {v u : Value} {l l' : List Commit} (hv : Sl .commit w F v l) (hu : Sl .commit w G u l') (hl : l' = l ∨ l' = []) :
    Calls Tryz.prog 54 #[v, u] w fun e w' => e = .returned (.bool (decide (l = l'))) ∧ Keep (fun _ => False) w w' := by
  by_cases h : l = l'
  · subst h
    rw [decide_eq_true rfl]
    exact sameKs_calls hv hu
  · rw [decide_eq_false h]
    obtain ⟨A, c, rfl⟩ := hv.shape
    obtain ⟨B, d, rfl⟩ := hu.shape
    refine sameKs_len (fun e => h ?_)
    rcases hl with rfl | rfl
    · rfl
    · exact List.eq_nil_of_length_eq_zero (by simpa using e)
def alike7 (b0 b1 b2 b3 b4 b5 b6 : Bool) : Bool := b0 && (b1 && (b2 && (b3 && (b4 && (b5 && b6)))))
set_option maxRecDepth 20000 in
set_option maxHeartbeats 8000000 in
theorem alike7_calls {k ses rev mem k' ses' rev' mem' : Int} {path path' : ByteArray} {dig dig' n c m d : Nat} {A B : Option Addr} {b6 : Bool}
    (HS : ∀ w', Keep (fun _ => False) w w' → Calls Tryz.prog 54 #[.slice A n c, .slice B m d] w' fun e w'' => e = .returned (.bool b6) ∧ Keep (fun _ => False) w' w'') :
    Calls Tryz.prog 29 #[.agg #[.int .i64 k, .int .i64 ses, .int .i64 rev, .string path, .int .u64 dig, .slice A n c, .int .i64 mem], .agg #[.int .i64 k', .int .i64 ses', .int .i64 rev', .string path', .int .u64 dig', .slice B m d, .int .i64 mem']] w
      fun e w' => e = .returned (.bool (alike7 (k == k') (ses == ses') (rev == rev') (path.toList == path'.toList) ((dig : Int) == dig') (mem == mem') b6)) ∧ Keep (fun _ => False) w w' := by
  cases hb0 : (k == k')
  case' false =>
    rw [show alike7  false (ses == ses') (rev == rev') (path.toList == path'.toList) ((dig : Int) == dig') (mem == mem') b6 = false from by simp [alike7]]
    go_enter Tryz.func29, Tryz.ntmps29
    go_wp2_with fail
    go_ret
    exact ⟨rfl, ((Keep.refl _ w).alloc _).alloc _⟩
  cases hb1 : (ses == ses')
  case' false =>
    rw [show alike7 true false (rev == rev') (path.toList == path'.toList) ((dig : Int) == dig') (mem == mem') b6 = false from by simp [alike7]]
    go_enter Tryz.func29, Tryz.ntmps29
    go_wp2_with fail
    go_ret
    exact ⟨rfl, ((Keep.refl _ w).alloc _).alloc _⟩
  cases hb2 : (rev == rev')
  case' false =>
    rw [show alike7 true true false (path.toList == path'.toList) ((dig : Int) == dig') (mem == mem') b6 = false from by simp [alike7]]
    go_enter Tryz.func29, Tryz.ntmps29
    go_wp2_with fail
    go_ret
    exact ⟨rfl, ((Keep.refl _ w).alloc _).alloc _⟩
  cases hb3 : (path.toList == path'.toList)
  case' false =>
    rw [show alike7 true true true false ((dig : Int) == dig') (mem == mem') b6 = false from by simp [alike7]]
    go_enter Tryz.func29, Tryz.ntmps29
    go_wp2_with fail
    go_ret
    exact ⟨rfl, ((Keep.refl _ w).alloc _).alloc _⟩
  cases hb4 : ((dig : Int) == dig')
  case' false =>
    rw [show alike7 true true true true false (mem == mem') b6 = false from by simp [alike7]]
    go_enter Tryz.func29, Tryz.ntmps29
    go_wp2_with fail
    go_ret
    exact ⟨rfl, ((Keep.refl _ w).alloc _).alloc _⟩
  cases hb5 : (mem == mem')
  case' false =>
    rw [show alike7 true true true true true false b6 = false from by simp [alike7]]
    go_enter Tryz.func29, Tryz.ntmps29
    go_wp2_with fail
    go_ret
    exact ⟨rfl, ((Keep.refl _ w).alloc _).alloc _⟩
  rw [show alike7 true true true true true true b6 = b6 from rfl]
  have HS := hid HS
  go_enter Tryz.func29, Tryz.ntmps29
  go_wp2_with fail
  refine (HS.out _ (((Keep.refl _ w).alloc _).alloc _)).mono ?_
  rintro e w' ⟨rfl, hk⟩
  go_wp2_with fail
  go_ret
  exact ⟨rfl, (((Keep.refl _ w).alloc _).alloc _).trans hk (fun _ _ f => f)⟩
theorem toL_eq (a b : ByteArray) : (a.toList == b.toList) = decide (a = b) := by
  rw [Bool.eq_iff_iff, beq_iff_eq, decide_eq_true_iff]
  exact path_iff a b
theorem alike7_is (x y : Verdict) : alike7 (x.code == y.code) (x.session == y.session) (x.rev == y.rev) (x.path.toList == y.path.toList) ((x.digest : Int) == y.digest) (x.member == y.member) (decide (x.commits = y.commits)) = decide (x = y) := by
  obtain ⟨k, ses, rev, path, dig, coms, mem⟩ := x
  obtain ⟨k', ses', rev', path', dig', coms', mem'⟩ := y
  simp only
  rw [toL_eq]
  have hd : ((dig : Int) == (dig' : Int)) = decide (dig = dig') := by by_cases q : dig = dig' <;> simp [q]; omega
  rw [hd, Bool.eq_iff_iff]
  simp only [alike7, Bool.and_eq_true, beq_iff_eq, decide_eq_true_iff, Verdict.mk.injEq]
  constructor
  · rintro ⟨a, b, c, d, e, f, g⟩; exact ⟨a, b, c, d, e, g, f⟩
  · rintro ⟨a, b, c, d, e, g, f⟩; exact ⟨a, b, c, d, e, f, g⟩
/-- Two verdicts of which the second has the first one's commits, or none. -/
theorem alike_gen {x y : Verdict} {v u : Value} (hv : Sl .commit w F v x.commits) (hu : Sl .commit w G u y.commits) (hl : y.commits = x.commits ∨ y.commits = []) :
    Calls Tryz.prog 29 #[.agg (verdictCs x v).toArray, .agg (verdictCs y u).toArray] w fun e w' => e = .returned (.bool (decide (x = y))) ∧ Keep (fun _ => False) w w' := by
  obtain ⟨A, c, rfl⟩ := hv.shape
  obtain ⟨B, d, rfl⟩ := hu.shape
  rw [← alike7_is]
  exact alike7_calls (fun w' hk => sameKs_gen (hv.keep hk (fun _ _ => id)) (hu.keep hk (fun _ _ => id)) hl)
def OwnVPost (F : Nat → Prop) (w : World) (x : Verdict) (e : Ending) (w' : World) : Prop :=
  ∃ u, e = .returned (.agg (verdictCs (onlyV x) u).toArray) ∧ Sl .commit w' F u (onlyV x).commits ∧ Keep (fun _ => False) w w'
theorem OwnVPost.of {x y : Verdict} {w' : World} {u : Value} (hy : onlyV x = y) (hs : Sl .commit w' F u y.commits) (hk : Keep (fun _ => False) w w') : OwnVPost F w x (.returned (.agg (verdictCs y u).toArray)) w' := by
  subst hy; exact ⟨u, rfl, hs, hk⟩
theorem sl_nilK {w : World} : Sl .commit w F (.slice none 0 0) ([] : List Commit) := ⟨none, 0, rfl, Nat.le_refl _, Nat.zero_le _, .inl rfl⟩
set_option maxRecDepth 20000 in
set_option maxHeartbeats 4000000 in
theorem ownV_1 {ses rev mem : Int} {path : ByteArray} {dig : Nat} {coms : List Commit} {u : Value} (hu : Sl .commit w F u coms) : Calls Tryz.prog 66 #[.agg (verdictCs ⟨1, ses, rev, path, dig, coms, mem⟩ u).toArray] w (OwnVPost F w ⟨1, ses, rev, path, dig, coms, mem⟩) := by
  obtain ⟨A, c, rfl⟩ := hu.shape
  obtain ⟨n, hn⟩ : ∃ n, n = coms.length := ⟨_, rfl⟩
  rw [← hn] at hu ⊢
  have HU := hid hu; have HN := hid hn
  clear hu hn
  go_enter Tryz.func66, Tryz.ntmps66
  go_wp2_with (first
    | (refine wpl_boxB (v := .agg #[.int .i64 1, .int .i64 ses, .int .i64 rev, .string path, .int .u64 dig, .slice A n c, .int .i64 mem]) rfl rfl rfl ?_; intro g1 w1 hg1 hb1 k1 s1; have HG1 := hid hg1; have K1 := hid k1; clear hg1 k1 s1)
    | (refine wpl_allocB (ty := 40) (z := .agg #[.int .i64 0, .int .i64 0, .int .i64 0, .string ByteArray.empty, .int .u64 0, .slice none 0 0, .int .i64 0]) rfl rfl (by kernel_rfl) ?_; intro g2 w2 hg2 hb2 k2 s2; have HG2 := hid hg2; have hb12 := k2.heap hb1 id; have K2 := hid (K1.out.trans k2 (fun _ _ f => f)); clear hg2 k2 s2; have q0 := cell_at hb12 0 (.int .i64 1) rfl; refine stopHere ?_))
  refine goOn ?_
  go_wp2_with (first
    | (refine wpl_load1 rfl rfl rfl hb12 (by kernel_rfl) (v := .int .i64 1) (o := 0) rfl ?_)
    | (refine wpl_build rfl rfl #[.int .i64 1, .int .i64 0, .int .i64 0, .string ByteArray.empty, .int .u64 0, .slice none 0 0, .int .i64 0] (by kernel_rfl) ?_)
    | (refine wpl_allocB (ty := 40) (z := .agg #[.int .i64 0, .int .i64 0, .int .i64 0, .string ByteArray.empty, .int .u64 0, .slice none 0 0, .int .i64 0]) rfl rfl (by kernel_rfl) ?_; intro g3 w3 hg3 hb3 k3 s3; have HG3 := hid hg3; have hb13 := k3.heap hb12 id; have hb23 := k3.heap hb2 id; have K3 := hid (K2.out.trans k3 (fun _ _ f => f)); have HNE := hid (show g1 ≠ g3 ∧ g2 ≠ g3 from ⟨by have := lt_heap hb12; have := HG3.out; omega, by have := lt_heap hb2; have := HG3.out; omega⟩); clear hg3 k3 s3)
    | (refine wpl_storeB (v := .agg #[.int .i64 1, .int .i64 0, .int .i64 0, .string ByteArray.empty, .int .u64 0, .slice none 0 0, .int .i64 0]) (b := g3) (o := 0) rfl rfl rfl rfl hb3 (by kernel_rfl) (of_decide_eq_true (by kernel_rfl)) (by simp [Value.cells, Value.oneCell']) ?_; intro w4 hb34 k4 s4; have hb14 := k4.heap hb13 HNE.out.1; have hb24 := k4.heap hb23 HNE.out.2; have K4 := hid k4; clear s4 k4; replace hb34 : w4.heap[g3]? = some (.cells #[.int .i64 1, .int .i64 0, .int .i64 0, .string ByteArray.empty, .int .u64 0, .slice none 0 0, .int .i64 0] 40) := hb34; have q0 := cell_at hb14 0 (.int .i64 1) rfl)
    | (refine wpl_load1 rfl rfl rfl hb14 (by kernel_rfl) (v := .int .i64 ses) (o := 1) rfl ?_)
    | (refine wpl_storeB (v := .int .i64 ses) (o := 1) (b := g3) rfl rfl rfl rfl hb34 (by kernel_rfl) (of_decide_eq_true (by kernel_rfl)) (by simp [Value.cells, Value.oneCell']) ?_; intro w5 hb35 k5 s5; have hb15 := k5.heap hb14 HNE.out.1; have hb25 := k5.heap hb24 HNE.out.2; have K5 := hid (K4.out.trans k5 (fun _ _ e => e)); clear s5 k5; replace hb35 : w5.heap[g3]? = some (.cells #[.int .i64 1, .int .i64 ses, .int .i64 0, .string ByteArray.empty, .int .u64 0, .slice none 0 0, .int .i64 0] 40) := hb35)
    | (refine wpl_loadA (ty := 40) (o := 0) (n := 7) rfl rfl rfl hb35 (by kernel_rfl) (by kernel_rfl) #[.int .i64 1, .int .i64 ses, .int .i64 0, .string ByteArray.empty, .int .u64 0, .slice none 0 0, .int .i64 0].toList rfl rfl ?_)
    | (refine wpl_storeB (v := .agg #[.int .i64 1, .int .i64 ses, .int .i64 0, .string ByteArray.empty, .int .u64 0, .slice none 0 0, .int .i64 0]) (o := 0) (b := g2) rfl rfl rfl rfl hb25 (by kernel_rfl) (of_decide_eq_true (by kernel_rfl)) (by simp [Value.cells, Value.oneCell']) ?_; intro wz hbz kz sz; replace hbz : wz.heap[g2]? = some (.cells #[.int .i64 1, .int .i64 ses, .int .i64 0, .string ByteArray.empty, .int .u64 0, .slice none 0 0, .int .i64 0] 40) := hbz))
  refine bodyPost_ret (res_cell (g := g2) (cs := #[.int .i64 1, .int .i64 ses, .int .i64 0, .string ByteArray.empty, .int .u64 0, .slice none 0 0, .int .i64 0]) Tryz.results66 _ rfl hbz (by kernel_rfl) (by kernel_rfl)) rfl ?_
  have e1 := HG1.out; have e2 := HG2.out; have e3 := HG3.out
  have z1 := K1.out.size; have z2 := K2.out.size
  have kk : Keep (fun _ => False) w wz := ((K3.out.mono (T := fun q => q = g2 ∨ q = g3) (fun _ _ f => f.elim)).trans K5.out (fun _ _ e => .inr e)).trans kz (fun _ _ e => .inl e) |>.mono (fun b hb e => by omega)
  refine OwnVPost.of (u := .slice none 0 0) (y := ⟨1, ses, 0, ByteArray.empty, 0, [], 0⟩) rfl sl_nilK kk
set_option maxRecDepth 20000 in
set_option maxHeartbeats 4000000 in
theorem ownV_2 {ses rev mem : Int} {path : ByteArray} {dig : Nat} {coms : List Commit} {u : Value} (hu : Sl .commit w F u coms) : Calls Tryz.prog 66 #[.agg (verdictCs ⟨2, ses, rev, path, dig, coms, mem⟩ u).toArray] w (OwnVPost F w ⟨2, ses, rev, path, dig, coms, mem⟩) := by
  obtain ⟨A, c, rfl⟩ := hu.shape
  obtain ⟨n, hn⟩ : ∃ n, n = coms.length := ⟨_, rfl⟩
  rw [← hn] at hu ⊢
  have HU := hid hu; have HN := hid hn
  clear hu hn
  go_enter Tryz.func66, Tryz.ntmps66
  go_wp2_with (first
    | (refine wpl_boxB (v := .agg #[.int .i64 2, .int .i64 ses, .int .i64 rev, .string path, .int .u64 dig, .slice A n c, .int .i64 mem]) rfl rfl rfl ?_; intro g1 w1 hg1 hb1 k1 s1; have HG1 := hid hg1; have K1 := hid k1; clear hg1 k1 s1)
    | (refine wpl_allocB (ty := 40) (z := .agg #[.int .i64 0, .int .i64 0, .int .i64 0, .string ByteArray.empty, .int .u64 0, .slice none 0 0, .int .i64 0]) rfl rfl (by kernel_rfl) ?_; intro g2 w2 hg2 hb2 k2 s2; have HG2 := hid hg2; have hb12 := k2.heap hb1 id; have K2 := hid (K1.out.trans k2 (fun _ _ f => f)); clear hg2 k2 s2; have q0 := cell_at hb12 0 (.int .i64 2) rfl; refine stopHere ?_))
  refine goOn ?_
  go_wp2_with (first
    | (refine wpl_load1 rfl rfl rfl hb12 (by kernel_rfl) (v := .int .i64 2) (o := 0) rfl ?_)
    | (refine wpl_build rfl rfl #[.int .i64 2, .int .i64 0, .int .i64 0, .string ByteArray.empty, .int .u64 0, .slice none 0 0, .int .i64 0] (by kernel_rfl) ?_)
    | (refine wpl_allocB (ty := 40) (z := .agg #[.int .i64 0, .int .i64 0, .int .i64 0, .string ByteArray.empty, .int .u64 0, .slice none 0 0, .int .i64 0]) rfl rfl (by kernel_rfl) ?_; intro g3 w3 hg3 hb3 k3 s3; have HG3 := hid hg3; have hb13 := k3.heap hb12 id; have hb23 := k3.heap hb2 id; have K3 := hid (K2.out.trans k3 (fun _ _ f => f)); have HNE := hid (show g1 ≠ g3 ∧ g2 ≠ g3 from ⟨by have := lt_heap hb12; have := HG3.out; omega, by have := lt_heap hb2; have := HG3.out; omega⟩); clear hg3 k3 s3)
    | (refine wpl_storeB (v := .agg #[.int .i64 2, .int .i64 0, .int .i64 0, .string ByteArray.empty, .int .u64 0, .slice none 0 0, .int .i64 0]) (b := g3) (o := 0) rfl rfl rfl rfl hb3 (by kernel_rfl) (of_decide_eq_true (by kernel_rfl)) (by simp [Value.cells, Value.oneCell']) ?_; intro w4 hb34 k4 s4; have hb14 := k4.heap hb13 HNE.out.1; have hb24 := k4.heap hb23 HNE.out.2; have K4 := hid k4; clear s4 k4; replace hb34 : w4.heap[g3]? = some (.cells #[.int .i64 2, .int .i64 0, .int .i64 0, .string ByteArray.empty, .int .u64 0, .slice none 0 0, .int .i64 0] 40) := hb34; have q0 := cell_at hb14 0 (.int .i64 2) rfl)
    | (refine wpl_load1 rfl rfl rfl hb14 (by kernel_rfl) (v := .int .i64 rev) (o := 2) rfl ?_)
    | (refine wpl_storeB (v := .int .i64 rev) (o := 2) (b := g3) rfl rfl rfl rfl hb34 (by kernel_rfl) (of_decide_eq_true (by kernel_rfl)) (by simp [Value.cells, Value.oneCell']) ?_; intro w5 hb35 k5 s5; have hb15 := k5.heap hb14 HNE.out.1; have hb25 := k5.heap hb24 HNE.out.2; have K5 := hid (K4.out.trans k5 (fun _ _ e => e)); clear s5 k5; replace hb35 : w5.heap[g3]? = some (.cells #[.int .i64 2, .int .i64 0, .int .i64 rev, .string ByteArray.empty, .int .u64 0, .slice none 0 0, .int .i64 0] 40) := hb35)
    | (refine wpl_loadA (ty := 40) (o := 0) (n := 7) rfl rfl rfl hb35 (by kernel_rfl) (by kernel_rfl) #[.int .i64 2, .int .i64 0, .int .i64 rev, .string ByteArray.empty, .int .u64 0, .slice none 0 0, .int .i64 0].toList rfl rfl ?_)
    | (refine wpl_storeB (v := .agg #[.int .i64 2, .int .i64 0, .int .i64 rev, .string ByteArray.empty, .int .u64 0, .slice none 0 0, .int .i64 0]) (o := 0) (b := g2) rfl rfl rfl rfl hb25 (by kernel_rfl) (of_decide_eq_true (by kernel_rfl)) (by simp [Value.cells, Value.oneCell']) ?_; intro wz hbz kz sz; replace hbz : wz.heap[g2]? = some (.cells #[.int .i64 2, .int .i64 0, .int .i64 rev, .string ByteArray.empty, .int .u64 0, .slice none 0 0, .int .i64 0] 40) := hbz))
  refine bodyPost_ret (res_cell (g := g2) (cs := #[.int .i64 2, .int .i64 0, .int .i64 rev, .string ByteArray.empty, .int .u64 0, .slice none 0 0, .int .i64 0]) Tryz.results66 _ rfl hbz (by kernel_rfl) (by kernel_rfl)) rfl ?_
  have e1 := HG1.out; have e2 := HG2.out; have e3 := HG3.out
  have z1 := K1.out.size; have z2 := K2.out.size
  have kk : Keep (fun _ => False) w wz := ((K3.out.mono (T := fun q => q = g2 ∨ q = g3) (fun _ _ f => f.elim)).trans K5.out (fun _ _ e => .inr e)).trans kz (fun _ _ e => .inl e) |>.mono (fun b hb e => by omega)
  refine OwnVPost.of (u := .slice none 0 0) (y := ⟨2, 0, rev, ByteArray.empty, 0, [], 0⟩) rfl sl_nilK kk
set_option maxRecDepth 20000 in
set_option maxHeartbeats 4000000 in
theorem ownV_4 {ses rev mem : Int} {path : ByteArray} {dig : Nat} {coms : List Commit} {u : Value} (hu : Sl .commit w F u coms) : Calls Tryz.prog 66 #[.agg (verdictCs ⟨4, ses, rev, path, dig, coms, mem⟩ u).toArray] w (OwnVPost F w ⟨4, ses, rev, path, dig, coms, mem⟩) := by
  obtain ⟨A, c, rfl⟩ := hu.shape
  obtain ⟨n, hn⟩ : ∃ n, n = coms.length := ⟨_, rfl⟩
  rw [← hn] at hu ⊢
  have HU := hid hu; have HN := hid hn
  clear hu hn
  go_enter Tryz.func66, Tryz.ntmps66
  go_wp2_with (first
    | (refine wpl_boxB (v := .agg #[.int .i64 4, .int .i64 ses, .int .i64 rev, .string path, .int .u64 dig, .slice A n c, .int .i64 mem]) rfl rfl rfl ?_; intro g1 w1 hg1 hb1 k1 s1; have HG1 := hid hg1; have K1 := hid k1; clear hg1 k1 s1)
    | (refine wpl_allocB (ty := 40) (z := .agg #[.int .i64 0, .int .i64 0, .int .i64 0, .string ByteArray.empty, .int .u64 0, .slice none 0 0, .int .i64 0]) rfl rfl (by kernel_rfl) ?_; intro g2 w2 hg2 hb2 k2 s2; have HG2 := hid hg2; have hb12 := k2.heap hb1 id; have K2 := hid (K1.out.trans k2 (fun _ _ f => f)); clear hg2 k2 s2; have q0 := cell_at hb12 0 (.int .i64 4) rfl; refine stopHere ?_))
  refine goOn ?_
  go_wp2_with (first
    | (refine wpl_load1 rfl rfl rfl hb12 (by kernel_rfl) (v := .int .i64 4) (o := 0) rfl ?_)
    | (refine wpl_build rfl rfl #[.int .i64 4, .int .i64 0, .int .i64 0, .string ByteArray.empty, .int .u64 0, .slice none 0 0, .int .i64 0] (by kernel_rfl) ?_)
    | (refine wpl_allocB (ty := 40) (z := .agg #[.int .i64 0, .int .i64 0, .int .i64 0, .string ByteArray.empty, .int .u64 0, .slice none 0 0, .int .i64 0]) rfl rfl (by kernel_rfl) ?_; intro g3 w3 hg3 hb3 k3 s3; have HG3 := hid hg3; have hb13 := k3.heap hb12 id; have hb23 := k3.heap hb2 id; have K3 := hid (K2.out.trans k3 (fun _ _ f => f)); have HNE := hid (show g1 ≠ g3 ∧ g2 ≠ g3 from ⟨by have := lt_heap hb12; have := HG3.out; omega, by have := lt_heap hb2; have := HG3.out; omega⟩); clear hg3 k3 s3)
    | (refine wpl_storeB (v := .agg #[.int .i64 4, .int .i64 0, .int .i64 0, .string ByteArray.empty, .int .u64 0, .slice none 0 0, .int .i64 0]) (b := g3) (o := 0) rfl rfl rfl rfl hb3 (by kernel_rfl) (of_decide_eq_true (by kernel_rfl)) (by simp [Value.cells, Value.oneCell']) ?_; intro w4 hb34 k4 s4; have hb14 := k4.heap hb13 HNE.out.1; have hb24 := k4.heap hb23 HNE.out.2; have K4 := hid k4; clear s4 k4; replace hb34 : w4.heap[g3]? = some (.cells #[.int .i64 4, .int .i64 0, .int .i64 0, .string ByteArray.empty, .int .u64 0, .slice none 0 0, .int .i64 0] 40) := hb34; have q0 := cell_at hb14 0 (.int .i64 4) rfl)
    | (refine wpl_load1 rfl rfl rfl hb14 (by kernel_rfl) (v := .int .i64 rev) (o := 2) rfl ?_)
    | (refine wpl_storeB (v := .int .i64 rev) (o := 2) (b := g3) rfl rfl rfl rfl hb34 (by kernel_rfl) (of_decide_eq_true (by kernel_rfl)) (by simp [Value.cells, Value.oneCell']) ?_; intro w5 hb35 k5 s5; have hb15 := k5.heap hb14 HNE.out.1; have hb25 := k5.heap hb24 HNE.out.2; have K5 := hid (K4.out.trans k5 (fun _ _ e => e)); clear s5 k5; replace hb35 : w5.heap[g3]? = some (.cells #[.int .i64 4, .int .i64 0, .int .i64 rev, .string ByteArray.empty, .int .u64 0, .slice none 0 0, .int .i64 0] 40) := hb35)
    | (refine wpl_loadA (ty := 40) (o := 0) (n := 7) rfl rfl rfl hb35 (by kernel_rfl) (by kernel_rfl) #[.int .i64 4, .int .i64 0, .int .i64 rev, .string ByteArray.empty, .int .u64 0, .slice none 0 0, .int .i64 0].toList rfl rfl ?_)
    | (refine wpl_storeB (v := .agg #[.int .i64 4, .int .i64 0, .int .i64 rev, .string ByteArray.empty, .int .u64 0, .slice none 0 0, .int .i64 0]) (o := 0) (b := g2) rfl rfl rfl rfl hb25 (by kernel_rfl) (of_decide_eq_true (by kernel_rfl)) (by simp [Value.cells, Value.oneCell']) ?_; intro wz hbz kz sz; replace hbz : wz.heap[g2]? = some (.cells #[.int .i64 4, .int .i64 0, .int .i64 rev, .string ByteArray.empty, .int .u64 0, .slice none 0 0, .int .i64 0] 40) := hbz))
  refine bodyPost_ret (res_cell (g := g2) (cs := #[.int .i64 4, .int .i64 0, .int .i64 rev, .string ByteArray.empty, .int .u64 0, .slice none 0 0, .int .i64 0]) Tryz.results66 _ rfl hbz (by kernel_rfl) (by kernel_rfl)) rfl ?_
  have e1 := HG1.out; have e2 := HG2.out; have e3 := HG3.out
  have z1 := K1.out.size; have z2 := K2.out.size
  have kk : Keep (fun _ => False) w wz := ((K3.out.mono (T := fun q => q = g2 ∨ q = g3) (fun _ _ f => f.elim)).trans K5.out (fun _ _ e => .inr e)).trans kz (fun _ _ e => .inl e) |>.mono (fun b hb e => by omega)
  refine OwnVPost.of (u := .slice none 0 0) (y := ⟨4, 0, rev, ByteArray.empty, 0, [], 0⟩) rfl sl_nilK kk
set_option maxRecDepth 20000 in
set_option maxHeartbeats 4000000 in
theorem ownV_8 {ses rev mem : Int} {path : ByteArray} {dig : Nat} {coms : List Commit} {u : Value} (hu : Sl .commit w F u coms) : Calls Tryz.prog 66 #[.agg (verdictCs ⟨8, ses, rev, path, dig, coms, mem⟩ u).toArray] w (OwnVPost F w ⟨8, ses, rev, path, dig, coms, mem⟩) := by
  obtain ⟨A, c, rfl⟩ := hu.shape
  obtain ⟨n, hn⟩ : ∃ n, n = coms.length := ⟨_, rfl⟩
  rw [← hn] at hu ⊢
  have HU := hid hu; have HN := hid hn
  clear hu hn
  go_enter Tryz.func66, Tryz.ntmps66
  go_wp2_with (first
    | (refine wpl_boxB (v := .agg #[.int .i64 8, .int .i64 ses, .int .i64 rev, .string path, .int .u64 dig, .slice A n c, .int .i64 mem]) rfl rfl rfl ?_; intro g1 w1 hg1 hb1 k1 s1; have HG1 := hid hg1; have K1 := hid k1; clear hg1 k1 s1)
    | (refine wpl_allocB (ty := 40) (z := .agg #[.int .i64 0, .int .i64 0, .int .i64 0, .string ByteArray.empty, .int .u64 0, .slice none 0 0, .int .i64 0]) rfl rfl (by kernel_rfl) ?_; intro g2 w2 hg2 hb2 k2 s2; have HG2 := hid hg2; have hb12 := k2.heap hb1 id; have K2 := hid (K1.out.trans k2 (fun _ _ f => f)); clear hg2 k2 s2; have q0 := cell_at hb12 0 (.int .i64 8) rfl; refine stopHere ?_))
  refine goOn ?_
  go_wp2_with (first
    | (refine wpl_load1 rfl rfl rfl hb12 (by kernel_rfl) (v := .int .i64 8) (o := 0) rfl ?_)
    | (refine wpl_build rfl rfl #[.int .i64 8, .int .i64 0, .int .i64 0, .string ByteArray.empty, .int .u64 0, .slice none 0 0, .int .i64 0] (by kernel_rfl) ?_)
    | (refine wpl_allocB (ty := 40) (z := .agg #[.int .i64 0, .int .i64 0, .int .i64 0, .string ByteArray.empty, .int .u64 0, .slice none 0 0, .int .i64 0]) rfl rfl (by kernel_rfl) ?_; intro g3 w3 hg3 hb3 k3 s3; have HG3 := hid hg3; have hb13 := k3.heap hb12 id; have hb23 := k3.heap hb2 id; have K3 := hid (K2.out.trans k3 (fun _ _ f => f)); have HNE := hid (show g1 ≠ g3 ∧ g2 ≠ g3 from ⟨by have := lt_heap hb12; have := HG3.out; omega, by have := lt_heap hb2; have := HG3.out; omega⟩); clear hg3 k3 s3)
    | (refine wpl_storeB (v := .agg #[.int .i64 8, .int .i64 0, .int .i64 0, .string ByteArray.empty, .int .u64 0, .slice none 0 0, .int .i64 0]) (b := g3) (o := 0) rfl rfl rfl rfl hb3 (by kernel_rfl) (of_decide_eq_true (by kernel_rfl)) (by simp [Value.cells, Value.oneCell']) ?_; intro w4 hb34 k4 s4; have hb14 := k4.heap hb13 HNE.out.1; have hb24 := k4.heap hb23 HNE.out.2; have K4 := hid k4; clear s4 k4; replace hb34 : w4.heap[g3]? = some (.cells #[.int .i64 8, .int .i64 0, .int .i64 0, .string ByteArray.empty, .int .u64 0, .slice none 0 0, .int .i64 0] 40) := hb34; have q0 := cell_at hb14 0 (.int .i64 8) rfl)
    | (refine wpl_load1 rfl rfl rfl hb14 (by kernel_rfl) (v := .int .i64 rev) (o := 2) rfl ?_)
    | (refine wpl_storeB (v := .int .i64 rev) (o := 2) (b := g3) rfl rfl rfl rfl hb34 (by kernel_rfl) (of_decide_eq_true (by kernel_rfl)) (by simp [Value.cells, Value.oneCell']) ?_; intro w5 hb35 k5 s5; have hb15 := k5.heap hb14 HNE.out.1; have hb25 := k5.heap hb24 HNE.out.2; have K5 := hid (K4.out.trans k5 (fun _ _ e => e)); clear s5 k5; replace hb35 : w5.heap[g3]? = some (.cells #[.int .i64 8, .int .i64 0, .int .i64 rev, .string ByteArray.empty, .int .u64 0, .slice none 0 0, .int .i64 0] 40) := hb35)
    | (refine wpl_loadA (ty := 40) (o := 0) (n := 7) rfl rfl rfl hb35 (by kernel_rfl) (by kernel_rfl) #[.int .i64 8, .int .i64 0, .int .i64 rev, .string ByteArray.empty, .int .u64 0, .slice none 0 0, .int .i64 0].toList rfl rfl ?_)
    | (refine wpl_storeB (v := .agg #[.int .i64 8, .int .i64 0, .int .i64 rev, .string ByteArray.empty, .int .u64 0, .slice none 0 0, .int .i64 0]) (o := 0) (b := g2) rfl rfl rfl rfl hb25 (by kernel_rfl) (of_decide_eq_true (by kernel_rfl)) (by simp [Value.cells, Value.oneCell']) ?_; intro wz hbz kz sz; replace hbz : wz.heap[g2]? = some (.cells #[.int .i64 8, .int .i64 0, .int .i64 rev, .string ByteArray.empty, .int .u64 0, .slice none 0 0, .int .i64 0] 40) := hbz))
  refine bodyPost_ret (res_cell (g := g2) (cs := #[.int .i64 8, .int .i64 0, .int .i64 rev, .string ByteArray.empty, .int .u64 0, .slice none 0 0, .int .i64 0]) Tryz.results66 _ rfl hbz (by kernel_rfl) (by kernel_rfl)) rfl ?_
  have e1 := HG1.out; have e2 := HG2.out; have e3 := HG3.out
  have z1 := K1.out.size; have z2 := K2.out.size
  have kk : Keep (fun _ => False) w wz := ((K3.out.mono (T := fun q => q = g2 ∨ q = g3) (fun _ _ f => f.elim)).trans K5.out (fun _ _ e => .inr e)).trans kz (fun _ _ e => .inl e) |>.mono (fun b hb e => by omega)
  refine OwnVPost.of (u := .slice none 0 0) (y := ⟨8, 0, rev, ByteArray.empty, 0, [], 0⟩) rfl sl_nilK kk
set_option maxRecDepth 20000 in
set_option maxHeartbeats 4000000 in
theorem ownV_3 {ses rev mem : Int} {path : ByteArray} {dig : Nat} {coms : List Commit} {u : Value} (hu : Sl .commit w F u coms) : Calls Tryz.prog 66 #[.agg (verdictCs ⟨3, ses, rev, path, dig, coms, mem⟩ u).toArray] w (OwnVPost F w ⟨3, ses, rev, path, dig, coms, mem⟩) := by
  obtain ⟨A, c, rfl⟩ := hu.shape
  obtain ⟨n, hn⟩ : ∃ n, n = coms.length := ⟨_, rfl⟩
  rw [← hn] at hu ⊢
  have HU := hid hu; have HN := hid hn
  clear hu hn
  go_enter Tryz.func66, Tryz.ntmps66
  go_wp2_with (first
    | (refine wpl_boxB (v := .agg #[.int .i64 3, .int .i64 ses, .int .i64 rev, .string path, .int .u64 dig, .slice A n c, .int .i64 mem]) rfl rfl rfl ?_; intro g1 w1 hg1 hb1 k1 s1; have HG1 := hid hg1; have K1 := hid k1; clear hg1 k1 s1)
    | (refine wpl_allocB (ty := 40) (z := .agg #[.int .i64 0, .int .i64 0, .int .i64 0, .string ByteArray.empty, .int .u64 0, .slice none 0 0, .int .i64 0]) rfl rfl (by kernel_rfl) ?_; intro g2 w2 hg2 hb2 k2 s2; have HG2 := hid hg2; have hb12 := k2.heap hb1 id; have K2 := hid (K1.out.trans k2 (fun _ _ f => f)); clear hg2 k2 s2; have q0 := cell_at hb12 0 (.int .i64 3) rfl; refine stopHere ?_))
  refine goOn ?_
  go_wp2_with (first
    | (refine wpl_load1 rfl rfl rfl hb12 (by kernel_rfl) (v := .int .i64 3) (o := 0) rfl ?_)
    | (refine wpl_build rfl rfl #[.int .i64 3, .int .i64 0, .int .i64 0, .string ByteArray.empty, .int .u64 0, .slice none 0 0, .int .i64 0] (by kernel_rfl) ?_)
    | (refine wpl_allocB (ty := 40) (z := .agg #[.int .i64 0, .int .i64 0, .int .i64 0, .string ByteArray.empty, .int .u64 0, .slice none 0 0, .int .i64 0]) rfl rfl (by kernel_rfl) ?_; intro g3 w3 hg3 hb3 k3 s3; have HG3 := hid hg3; have hb13 := k3.heap hb12 id; have hb23 := k3.heap hb2 id; have K3 := hid (K2.out.trans k3 (fun _ _ f => f)); have HNE := hid (show g1 ≠ g3 ∧ g2 ≠ g3 from ⟨by have := lt_heap hb12; have := HG3.out; omega, by have := lt_heap hb2; have := HG3.out; omega⟩); clear hg3 k3 s3)
    | (refine wpl_storeB (v := .agg #[.int .i64 3, .int .i64 0, .int .i64 0, .string ByteArray.empty, .int .u64 0, .slice none 0 0, .int .i64 0]) (b := g3) (o := 0) rfl rfl rfl rfl hb3 (by kernel_rfl) (of_decide_eq_true (by kernel_rfl)) (by simp [Value.cells, Value.oneCell']) ?_; intro w4 hb34 k4 s4; have hb14 := k4.heap hb13 HNE.out.1; have hb24 := k4.heap hb23 HNE.out.2; have K4 := hid k4; clear s4 k4; replace hb34 : w4.heap[g3]? = some (.cells #[.int .i64 3, .int .i64 0, .int .i64 0, .string ByteArray.empty, .int .u64 0, .slice none 0 0, .int .i64 0] 40) := hb34; have q0 := cell_at hb14 0 (.int .i64 3) rfl)
    | (refine wpl_load1 rfl rfl rfl hb14 (by kernel_rfl) (v := .string path) (o := 3) rfl ?_)
    | (refine wpl_storeB (v := .string path) (o := 3) (b := g3) rfl rfl rfl rfl hb34 (by kernel_rfl) (of_decide_eq_true (by kernel_rfl)) (by simp [Value.cells, Value.oneCell']) ?_; intro w5 hb35 k5 s5; have hb15 := k5.heap hb14 HNE.out.1; have hb25 := k5.heap hb24 HNE.out.2; have K5 := hid (K4.out.trans k5 (fun _ _ e => e)); clear s5 k5; replace hb35 : w5.heap[g3]? = some (.cells #[.int .i64 3, .int .i64 0, .int .i64 0, .string path, .int .u64 0, .slice none 0 0, .int .i64 0] 40) := hb35)
    | (refine wpl_load1 rfl rfl rfl hb15 (by kernel_rfl) (v := .int .i64 rev) (o := 2) rfl ?_)
    | (refine wpl_storeB (v := .int .i64 rev) (o := 2) (b := g3) rfl rfl rfl rfl hb35 (by kernel_rfl) (of_decide_eq_true (by kernel_rfl)) (by simp [Value.cells, Value.oneCell']) ?_; intro w6 hb36 k6 s6; have hb16 := k6.heap hb15 HNE.out.1; have hb26 := k6.heap hb25 HNE.out.2; have K6 := hid (K5.out.trans k6 (fun _ _ e => e)); clear s6 k6; replace hb36 : w6.heap[g3]? = some (.cells #[.int .i64 3, .int .i64 0, .int .i64 rev, .string path, .int .u64 0, .slice none 0 0, .int .i64 0] 40) := hb36)
    | (refine wpl_loadA (ty := 40) (o := 0) (n := 7) rfl rfl rfl hb36 (by kernel_rfl) (by kernel_rfl) #[.int .i64 3, .int .i64 0, .int .i64 rev, .string path, .int .u64 0, .slice none 0 0, .int .i64 0].toList rfl rfl ?_)
    | (refine wpl_storeB (v := .agg #[.int .i64 3, .int .i64 0, .int .i64 rev, .string path, .int .u64 0, .slice none 0 0, .int .i64 0]) (o := 0) (b := g2) rfl rfl rfl rfl hb26 (by kernel_rfl) (of_decide_eq_true (by kernel_rfl)) (by simp [Value.cells, Value.oneCell']) ?_; intro wz hbz kz sz; replace hbz : wz.heap[g2]? = some (.cells #[.int .i64 3, .int .i64 0, .int .i64 rev, .string path, .int .u64 0, .slice none 0 0, .int .i64 0] 40) := hbz))
  refine bodyPost_ret (res_cell (g := g2) (cs := #[.int .i64 3, .int .i64 0, .int .i64 rev, .string path, .int .u64 0, .slice none 0 0, .int .i64 0]) Tryz.results66 _ rfl hbz (by kernel_rfl) (by kernel_rfl)) rfl ?_
  have e1 := HG1.out; have e2 := HG2.out; have e3 := HG3.out
  have z1 := K1.out.size; have z2 := K2.out.size
  have kk : Keep (fun _ => False) w wz := ((K3.out.mono (T := fun q => q = g2 ∨ q = g3) (fun _ _ f => f.elim)).trans K6.out (fun _ _ e => .inr e)).trans kz (fun _ _ e => .inl e) |>.mono (fun b hb e => by omega)
  refine OwnVPost.of (u := .slice none 0 0) (y := ⟨3, 0, rev, path, 0, [], 0⟩) rfl sl_nilK kk
set_option maxRecDepth 20000 in
set_option maxHeartbeats 4000000 in
theorem ownV_9 {ses rev mem : Int} {path : ByteArray} {dig : Nat} {coms : List Commit} {u : Value} (hu : Sl .commit w F u coms) : Calls Tryz.prog 66 #[.agg (verdictCs ⟨9, ses, rev, path, dig, coms, mem⟩ u).toArray] w (OwnVPost F w ⟨9, ses, rev, path, dig, coms, mem⟩) := by
  obtain ⟨A, c, rfl⟩ := hu.shape
  obtain ⟨n, hn⟩ : ∃ n, n = coms.length := ⟨_, rfl⟩
  rw [← hn] at hu ⊢
  have HU := hid hu; have HN := hid hn
  clear hu hn
  go_enter Tryz.func66, Tryz.ntmps66
  go_wp2_with (first
    | (refine wpl_boxB (v := .agg #[.int .i64 9, .int .i64 ses, .int .i64 rev, .string path, .int .u64 dig, .slice A n c, .int .i64 mem]) rfl rfl rfl ?_; intro g1 w1 hg1 hb1 k1 s1; have HG1 := hid hg1; have K1 := hid k1; clear hg1 k1 s1)
    | (refine wpl_allocB (ty := 40) (z := .agg #[.int .i64 0, .int .i64 0, .int .i64 0, .string ByteArray.empty, .int .u64 0, .slice none 0 0, .int .i64 0]) rfl rfl (by kernel_rfl) ?_; intro g2 w2 hg2 hb2 k2 s2; have HG2 := hid hg2; have hb12 := k2.heap hb1 id; have K2 := hid (K1.out.trans k2 (fun _ _ f => f)); clear hg2 k2 s2; have q0 := cell_at hb12 0 (.int .i64 9) rfl; refine stopHere ?_))
  refine goOn ?_
  go_wp2_with (first
    | (refine wpl_load1 rfl rfl rfl hb12 (by kernel_rfl) (v := .int .i64 9) (o := 0) rfl ?_)
    | (refine wpl_build rfl rfl #[.int .i64 9, .int .i64 0, .int .i64 0, .string ByteArray.empty, .int .u64 0, .slice none 0 0, .int .i64 0] (by kernel_rfl) ?_)
    | (refine wpl_allocB (ty := 40) (z := .agg #[.int .i64 0, .int .i64 0, .int .i64 0, .string ByteArray.empty, .int .u64 0, .slice none 0 0, .int .i64 0]) rfl rfl (by kernel_rfl) ?_; intro g3 w3 hg3 hb3 k3 s3; have HG3 := hid hg3; have hb13 := k3.heap hb12 id; have hb23 := k3.heap hb2 id; have K3 := hid (K2.out.trans k3 (fun _ _ f => f)); have HNE := hid (show g1 ≠ g3 ∧ g2 ≠ g3 from ⟨by have := lt_heap hb12; have := HG3.out; omega, by have := lt_heap hb2; have := HG3.out; omega⟩); clear hg3 k3 s3)
    | (refine wpl_storeB (v := .agg #[.int .i64 9, .int .i64 0, .int .i64 0, .string ByteArray.empty, .int .u64 0, .slice none 0 0, .int .i64 0]) (b := g3) (o := 0) rfl rfl rfl rfl hb3 (by kernel_rfl) (of_decide_eq_true (by kernel_rfl)) (by simp [Value.cells, Value.oneCell']) ?_; intro w4 hb34 k4 s4; have hb14 := k4.heap hb13 HNE.out.1; have hb24 := k4.heap hb23 HNE.out.2; have K4 := hid k4; clear s4 k4; replace hb34 : w4.heap[g3]? = some (.cells #[.int .i64 9, .int .i64 0, .int .i64 0, .string ByteArray.empty, .int .u64 0, .slice none 0 0, .int .i64 0] 40) := hb34; have q0 := cell_at hb14 0 (.int .i64 9) rfl)
    | (refine wpl_load1 rfl rfl rfl hb14 (by kernel_rfl) (v := .string path) (o := 3) rfl ?_)
    | (refine wpl_storeB (v := .string path) (o := 3) (b := g3) rfl rfl rfl rfl hb34 (by kernel_rfl) (of_decide_eq_true (by kernel_rfl)) (by simp [Value.cells, Value.oneCell']) ?_; intro w5 hb35 k5 s5; have hb15 := k5.heap hb14 HNE.out.1; have hb25 := k5.heap hb24 HNE.out.2; have K5 := hid (K4.out.trans k5 (fun _ _ e => e)); clear s5 k5; replace hb35 : w5.heap[g3]? = some (.cells #[.int .i64 9, .int .i64 0, .int .i64 0, .string path, .int .u64 0, .slice none 0 0, .int .i64 0] 40) := hb35)
    | (refine wpl_load1 rfl rfl rfl hb15 (by kernel_rfl) (v := .int .u64 dig) (o := 4) rfl ?_)
    | (refine wpl_storeB (v := .int .u64 dig) (o := 4) (b := g3) rfl rfl rfl rfl hb35 (by kernel_rfl) (of_decide_eq_true (by kernel_rfl)) (by simp [Value.cells, Value.oneCell']) ?_; intro w6 hb36 k6 s6; have hb16 := k6.heap hb15 HNE.out.1; have hb26 := k6.heap hb25 HNE.out.2; have K6 := hid (K5.out.trans k6 (fun _ _ e => e)); clear s6 k6; replace hb36 : w6.heap[g3]? = some (.cells #[.int .i64 9, .int .i64 0, .int .i64 0, .string path, .int .u64 dig, .slice none 0 0, .int .i64 0] 40) := hb36)
    | (refine wpl_load1 rfl rfl rfl hb16 (by kernel_rfl) (v := .int .i64 rev) (o := 2) rfl ?_)
    | (refine wpl_storeB (v := .int .i64 rev) (o := 2) (b := g3) rfl rfl rfl rfl hb36 (by kernel_rfl) (of_decide_eq_true (by kernel_rfl)) (by simp [Value.cells, Value.oneCell']) ?_; intro w7 hb37 k7 s7; have hb17 := k7.heap hb16 HNE.out.1; have hb27 := k7.heap hb26 HNE.out.2; have K7 := hid (K6.out.trans k7 (fun _ _ e => e)); clear s7 k7; replace hb37 : w7.heap[g3]? = some (.cells #[.int .i64 9, .int .i64 0, .int .i64 rev, .string path, .int .u64 dig, .slice none 0 0, .int .i64 0] 40) := hb37)
    | (refine wpl_loadA (ty := 40) (o := 0) (n := 7) rfl rfl rfl hb37 (by kernel_rfl) (by kernel_rfl) #[.int .i64 9, .int .i64 0, .int .i64 rev, .string path, .int .u64 dig, .slice none 0 0, .int .i64 0].toList rfl rfl ?_)
    | (refine wpl_storeB (v := .agg #[.int .i64 9, .int .i64 0, .int .i64 rev, .string path, .int .u64 dig, .slice none 0 0, .int .i64 0]) (o := 0) (b := g2) rfl rfl rfl rfl hb27 (by kernel_rfl) (of_decide_eq_true (by kernel_rfl)) (by simp [Value.cells, Value.oneCell']) ?_; intro wz hbz kz sz; replace hbz : wz.heap[g2]? = some (.cells #[.int .i64 9, .int .i64 0, .int .i64 rev, .string path, .int .u64 dig, .slice none 0 0, .int .i64 0] 40) := hbz))
  refine bodyPost_ret (res_cell (g := g2) (cs := #[.int .i64 9, .int .i64 0, .int .i64 rev, .string path, .int .u64 dig, .slice none 0 0, .int .i64 0]) Tryz.results66 _ rfl hbz (by kernel_rfl) (by kernel_rfl)) rfl ?_
  have e1 := HG1.out; have e2 := HG2.out; have e3 := HG3.out
  have z1 := K1.out.size; have z2 := K2.out.size
  have kk : Keep (fun _ => False) w wz := ((K3.out.mono (T := fun q => q = g2 ∨ q = g3) (fun _ _ f => f.elim)).trans K7.out (fun _ _ e => .inr e)).trans kz (fun _ _ e => .inl e) |>.mono (fun b hb e => by omega)
  refine OwnVPost.of (u := .slice none 0 0) (y := ⟨9, 0, rev, path, dig, [], 0⟩) rfl sl_nilK kk
set_option maxRecDepth 20000 in
set_option maxHeartbeats 4000000 in
theorem ownV_10 {ses rev mem : Int} {path : ByteArray} {dig : Nat} {coms : List Commit} {u : Value} (hu : Sl .commit w F u coms) : Calls Tryz.prog 66 #[.agg (verdictCs ⟨10, ses, rev, path, dig, coms, mem⟩ u).toArray] w (OwnVPost F w ⟨10, ses, rev, path, dig, coms, mem⟩) := by
  obtain ⟨A, c, rfl⟩ := hu.shape
  obtain ⟨n, hn⟩ : ∃ n, n = coms.length := ⟨_, rfl⟩
  rw [← hn] at hu ⊢
  have HU := hid hu; have HN := hid hn
  clear hu hn
  go_enter Tryz.func66, Tryz.ntmps66
  go_wp2_with (first
    | (refine wpl_boxB (v := .agg #[.int .i64 10, .int .i64 ses, .int .i64 rev, .string path, .int .u64 dig, .slice A n c, .int .i64 mem]) rfl rfl rfl ?_; intro g1 w1 hg1 hb1 k1 s1; have HG1 := hid hg1; have K1 := hid k1; clear hg1 k1 s1)
    | (refine wpl_allocB (ty := 40) (z := .agg #[.int .i64 0, .int .i64 0, .int .i64 0, .string ByteArray.empty, .int .u64 0, .slice none 0 0, .int .i64 0]) rfl rfl (by kernel_rfl) ?_; intro g2 w2 hg2 hb2 k2 s2; have HG2 := hid hg2; have hb12 := k2.heap hb1 id; have K2 := hid (K1.out.trans k2 (fun _ _ f => f)); clear hg2 k2 s2; have q0 := cell_at hb12 0 (.int .i64 10) rfl; refine stopHere ?_))
  refine goOn ?_
  go_wp2_with (first
    | (refine wpl_load1 rfl rfl rfl hb12 (by kernel_rfl) (v := .int .i64 10) (o := 0) rfl ?_)
    | (refine wpl_build rfl rfl #[.int .i64 10, .int .i64 0, .int .i64 0, .string ByteArray.empty, .int .u64 0, .slice none 0 0, .int .i64 0] (by kernel_rfl) ?_)
    | (refine wpl_allocB (ty := 40) (z := .agg #[.int .i64 0, .int .i64 0, .int .i64 0, .string ByteArray.empty, .int .u64 0, .slice none 0 0, .int .i64 0]) rfl rfl (by kernel_rfl) ?_; intro g3 w3 hg3 hb3 k3 s3; have HG3 := hid hg3; have hb13 := k3.heap hb12 id; have hb23 := k3.heap hb2 id; have K3 := hid (K2.out.trans k3 (fun _ _ f => f)); have HNE := hid (show g1 ≠ g3 ∧ g2 ≠ g3 from ⟨by have := lt_heap hb12; have := HG3.out; omega, by have := lt_heap hb2; have := HG3.out; omega⟩); clear hg3 k3 s3)
    | (refine wpl_storeB (v := .agg #[.int .i64 10, .int .i64 0, .int .i64 0, .string ByteArray.empty, .int .u64 0, .slice none 0 0, .int .i64 0]) (b := g3) (o := 0) rfl rfl rfl rfl hb3 (by kernel_rfl) (of_decide_eq_true (by kernel_rfl)) (by simp [Value.cells, Value.oneCell']) ?_; intro w4 hb34 k4 s4; have hb14 := k4.heap hb13 HNE.out.1; have hb24 := k4.heap hb23 HNE.out.2; have K4 := hid k4; clear s4 k4; replace hb34 : w4.heap[g3]? = some (.cells #[.int .i64 10, .int .i64 0, .int .i64 0, .string ByteArray.empty, .int .u64 0, .slice none 0 0, .int .i64 0] 40) := hb34; have q0 := cell_at hb14 0 (.int .i64 10) rfl)
    | (refine wpl_load1 rfl rfl rfl hb14 (by kernel_rfl) (v := .string path) (o := 3) rfl ?_)
    | (refine wpl_storeB (v := .string path) (o := 3) (b := g3) rfl rfl rfl rfl hb34 (by kernel_rfl) (of_decide_eq_true (by kernel_rfl)) (by simp [Value.cells, Value.oneCell']) ?_; intro w5 hb35 k5 s5; have hb15 := k5.heap hb14 HNE.out.1; have hb25 := k5.heap hb24 HNE.out.2; have K5 := hid (K4.out.trans k5 (fun _ _ e => e)); clear s5 k5; replace hb35 : w5.heap[g3]? = some (.cells #[.int .i64 10, .int .i64 0, .int .i64 0, .string path, .int .u64 0, .slice none 0 0, .int .i64 0] 40) := hb35)
    | (refine wpl_loadA (ty := 40) (o := 0) (n := 7) rfl rfl rfl hb35 (by kernel_rfl) (by kernel_rfl) #[.int .i64 10, .int .i64 0, .int .i64 0, .string path, .int .u64 0, .slice none 0 0, .int .i64 0].toList rfl rfl ?_)
    | (refine wpl_storeB (v := .agg #[.int .i64 10, .int .i64 0, .int .i64 0, .string path, .int .u64 0, .slice none 0 0, .int .i64 0]) (o := 0) (b := g2) rfl rfl rfl rfl hb25 (by kernel_rfl) (of_decide_eq_true (by kernel_rfl)) (by simp [Value.cells, Value.oneCell']) ?_; intro wz hbz kz sz; replace hbz : wz.heap[g2]? = some (.cells #[.int .i64 10, .int .i64 0, .int .i64 0, .string path, .int .u64 0, .slice none 0 0, .int .i64 0] 40) := hbz))
  refine bodyPost_ret (res_cell (g := g2) (cs := #[.int .i64 10, .int .i64 0, .int .i64 0, .string path, .int .u64 0, .slice none 0 0, .int .i64 0]) Tryz.results66 _ rfl hbz (by kernel_rfl) (by kernel_rfl)) rfl ?_
  have e1 := HG1.out; have e2 := HG2.out; have e3 := HG3.out
  have z1 := K1.out.size; have z2 := K2.out.size
  have kk : Keep (fun _ => False) w wz := ((K3.out.mono (T := fun q => q = g2 ∨ q = g3) (fun _ _ f => f.elim)).trans K5.out (fun _ _ e => .inr e)).trans kz (fun _ _ e => .inl e) |>.mono (fun b hb e => by omega)
  refine OwnVPost.of (u := .slice none 0 0) (y := ⟨10, 0, 0, path, 0, [], 0⟩) rfl sl_nilK kk
set_option maxRecDepth 20000 in
set_option maxHeartbeats 4000000 in
theorem ownV_11 {ses rev mem : Int} {path : ByteArray} {dig : Nat} {coms : List Commit} {u : Value} (hu : Sl .commit w F u coms) : Calls Tryz.prog 66 #[.agg (verdictCs ⟨11, ses, rev, path, dig, coms, mem⟩ u).toArray] w (OwnVPost F w ⟨11, ses, rev, path, dig, coms, mem⟩) := by
  obtain ⟨A, c, rfl⟩ := hu.shape
  obtain ⟨n, hn⟩ : ∃ n, n = coms.length := ⟨_, rfl⟩
  rw [← hn] at hu ⊢
  have HU := hid hu; have HN := hid hn
  clear hu hn
  go_enter Tryz.func66, Tryz.ntmps66
  go_wp2_with (first
    | (refine wpl_boxB (v := .agg #[.int .i64 11, .int .i64 ses, .int .i64 rev, .string path, .int .u64 dig, .slice A n c, .int .i64 mem]) rfl rfl rfl ?_; intro g1 w1 hg1 hb1 k1 s1; have HG1 := hid hg1; have K1 := hid k1; clear hg1 k1 s1)
    | (refine wpl_allocB (ty := 40) (z := .agg #[.int .i64 0, .int .i64 0, .int .i64 0, .string ByteArray.empty, .int .u64 0, .slice none 0 0, .int .i64 0]) rfl rfl (by kernel_rfl) ?_; intro g2 w2 hg2 hb2 k2 s2; have HG2 := hid hg2; have hb12 := k2.heap hb1 id; have K2 := hid (K1.out.trans k2 (fun _ _ f => f)); clear hg2 k2 s2; have q0 := cell_at hb12 0 (.int .i64 11) rfl; refine stopHere ?_))
  refine goOn ?_
  go_wp2_with (first
    | (refine wpl_load1 rfl rfl rfl hb12 (by kernel_rfl) (v := .int .i64 11) (o := 0) rfl ?_)
    | (refine wpl_build rfl rfl #[.int .i64 11, .int .i64 0, .int .i64 0, .string ByteArray.empty, .int .u64 0, .slice none 0 0, .int .i64 0] (by kernel_rfl) ?_)
    | (refine wpl_allocB (ty := 40) (z := .agg #[.int .i64 0, .int .i64 0, .int .i64 0, .string ByteArray.empty, .int .u64 0, .slice none 0 0, .int .i64 0]) rfl rfl (by kernel_rfl) ?_; intro g3 w3 hg3 hb3 k3 s3; have HG3 := hid hg3; have hb13 := k3.heap hb12 id; have hb23 := k3.heap hb2 id; have K3 := hid (K2.out.trans k3 (fun _ _ f => f)); have HNE := hid (show g1 ≠ g3 ∧ g2 ≠ g3 from ⟨by have := lt_heap hb12; have := HG3.out; omega, by have := lt_heap hb2; have := HG3.out; omega⟩); clear hg3 k3 s3)
    | (refine wpl_storeB (v := .agg #[.int .i64 11, .int .i64 0, .int .i64 0, .string ByteArray.empty, .int .u64 0, .slice none 0 0, .int .i64 0]) (b := g3) (o := 0) rfl rfl rfl rfl hb3 (by kernel_rfl) (of_decide_eq_true (by kernel_rfl)) (by simp [Value.cells, Value.oneCell']) ?_; intro w4 hb34 k4 s4; have hb14 := k4.heap hb13 HNE.out.1; have hb24 := k4.heap hb23 HNE.out.2; have K4 := hid k4; clear s4 k4; replace hb34 : w4.heap[g3]? = some (.cells #[.int .i64 11, .int .i64 0, .int .i64 0, .string ByteArray.empty, .int .u64 0, .slice none 0 0, .int .i64 0] 40) := hb34; have q0 := cell_at hb14 0 (.int .i64 11) rfl)
    | (refine wpl_load1 rfl rfl rfl hb14 (by kernel_rfl) (v := .slice A n c) (o := 5) rfl ?_)
    | (refine wpl_storeB (v := .slice A n c) (o := 5) (b := g3) rfl rfl rfl rfl hb34 (by kernel_rfl) (of_decide_eq_true (by kernel_rfl)) (by simp [Value.cells, Value.oneCell']) ?_; intro w5 hb35 k5 s5; have hb15 := k5.heap hb14 HNE.out.1; have hb25 := k5.heap hb24 HNE.out.2; have K5 := hid (K4.out.trans k5 (fun _ _ e => e)); clear s5 k5; replace hb35 : w5.heap[g3]? = some (.cells #[.int .i64 11, .int .i64 0, .int .i64 0, .string ByteArray.empty, .int .u64 0, .slice A n c, .int .i64 0] 40) := hb35)
    | (refine wpl_loadA (ty := 40) (o := 0) (n := 7) rfl rfl rfl hb35 (by kernel_rfl) (by kernel_rfl) #[.int .i64 11, .int .i64 0, .int .i64 0, .string ByteArray.empty, .int .u64 0, .slice A n c, .int .i64 0].toList rfl rfl ?_)
    | (refine wpl_storeB (v := .agg #[.int .i64 11, .int .i64 0, .int .i64 0, .string ByteArray.empty, .int .u64 0, .slice A n c, .int .i64 0]) (o := 0) (b := g2) rfl rfl rfl rfl hb25 (by kernel_rfl) (of_decide_eq_true (by kernel_rfl)) (by simp [Value.cells, Value.oneCell']) ?_; intro wz hbz kz sz; replace hbz : wz.heap[g2]? = some (.cells #[.int .i64 11, .int .i64 0, .int .i64 0, .string ByteArray.empty, .int .u64 0, .slice A n c, .int .i64 0] 40) := hbz))
  refine bodyPost_ret (res_cell (g := g2) (cs := #[.int .i64 11, .int .i64 0, .int .i64 0, .string ByteArray.empty, .int .u64 0, .slice A n c, .int .i64 0]) Tryz.results66 _ rfl hbz (by kernel_rfl) (by kernel_rfl)) rfl ?_
  have e1 := HG1.out; have e2 := HG2.out; have e3 := HG3.out
  have z1 := K1.out.size; have z2 := K2.out.size
  have kk : Keep (fun _ => False) w wz := ((K3.out.mono (T := fun q => q = g2 ∨ q = g3) (fun _ _ f => f.elim)).trans K5.out (fun _ _ e => .inr e)).trans kz (fun _ _ e => .inl e) |>.mono (fun b hb e => by omega)
  refine OwnVPost.of (u := .slice A n c) (y := ⟨11, 0, 0, ByteArray.empty, 0, coms, 0⟩) rfl (HU.out.keep kk (fun _ _ => id)) kk
set_option maxRecDepth 20000 in
set_option maxHeartbeats 4000000 in
theorem ownV_12 {ses rev mem : Int} {path : ByteArray} {dig : Nat} {coms : List Commit} {u : Value} (hu : Sl .commit w F u coms) : Calls Tryz.prog 66 #[.agg (verdictCs ⟨12, ses, rev, path, dig, coms, mem⟩ u).toArray] w (OwnVPost F w ⟨12, ses, rev, path, dig, coms, mem⟩) := by
  obtain ⟨A, c, rfl⟩ := hu.shape
  obtain ⟨n, hn⟩ : ∃ n, n = coms.length := ⟨_, rfl⟩
  rw [← hn] at hu ⊢
  have HU := hid hu; have HN := hid hn
  clear hu hn
  go_enter Tryz.func66, Tryz.ntmps66
  go_wp2_with (first
    | (refine wpl_boxB (v := .agg #[.int .i64 12, .int .i64 ses, .int .i64 rev, .string path, .int .u64 dig, .slice A n c, .int .i64 mem]) rfl rfl rfl ?_; intro g1 w1 hg1 hb1 k1 s1; have HG1 := hid hg1; have K1 := hid k1; clear hg1 k1 s1)
    | (refine wpl_allocB (ty := 40) (z := .agg #[.int .i64 0, .int .i64 0, .int .i64 0, .string ByteArray.empty, .int .u64 0, .slice none 0 0, .int .i64 0]) rfl rfl (by kernel_rfl) ?_; intro g2 w2 hg2 hb2 k2 s2; have HG2 := hid hg2; have hb12 := k2.heap hb1 id; have K2 := hid (K1.out.trans k2 (fun _ _ f => f)); clear hg2 k2 s2; have q0 := cell_at hb12 0 (.int .i64 12) rfl; refine stopHere ?_))
  refine goOn ?_
  go_wp2_with (first
    | (refine wpl_load1 rfl rfl rfl hb12 (by kernel_rfl) (v := .int .i64 12) (o := 0) rfl ?_)
    | (refine wpl_build rfl rfl #[.int .i64 12, .int .i64 0, .int .i64 0, .string ByteArray.empty, .int .u64 0, .slice none 0 0, .int .i64 0] (by kernel_rfl) ?_)
    | (refine wpl_allocB (ty := 40) (z := .agg #[.int .i64 0, .int .i64 0, .int .i64 0, .string ByteArray.empty, .int .u64 0, .slice none 0 0, .int .i64 0]) rfl rfl (by kernel_rfl) ?_; intro g3 w3 hg3 hb3 k3 s3; have HG3 := hid hg3; have hb13 := k3.heap hb12 id; have hb23 := k3.heap hb2 id; have K3 := hid (K2.out.trans k3 (fun _ _ f => f)); have HNE := hid (show g1 ≠ g3 ∧ g2 ≠ g3 from ⟨by have := lt_heap hb12; have := HG3.out; omega, by have := lt_heap hb2; have := HG3.out; omega⟩); clear hg3 k3 s3)
    | (refine wpl_storeB (v := .agg #[.int .i64 12, .int .i64 0, .int .i64 0, .string ByteArray.empty, .int .u64 0, .slice none 0 0, .int .i64 0]) (b := g3) (o := 0) rfl rfl rfl rfl hb3 (by kernel_rfl) (of_decide_eq_true (by kernel_rfl)) (by simp [Value.cells, Value.oneCell']) ?_; intro w4 hb34 k4 s4; have hb14 := k4.heap hb13 HNE.out.1; have hb24 := k4.heap hb23 HNE.out.2; have K4 := hid k4; clear s4 k4; replace hb34 : w4.heap[g3]? = some (.cells #[.int .i64 12, .int .i64 0, .int .i64 0, .string ByteArray.empty, .int .u64 0, .slice none 0 0, .int .i64 0] 40) := hb34; have q0 := cell_at hb14 0 (.int .i64 12) rfl)
    | (refine wpl_load1 rfl rfl rfl hb14 (by kernel_rfl) (v := .int .i64 mem) (o := 6) rfl ?_)
    | (refine wpl_storeB (v := .int .i64 mem) (o := 6) (b := g3) rfl rfl rfl rfl hb34 (by kernel_rfl) (of_decide_eq_true (by kernel_rfl)) (by simp [Value.cells, Value.oneCell']) ?_; intro w5 hb35 k5 s5; have hb15 := k5.heap hb14 HNE.out.1; have hb25 := k5.heap hb24 HNE.out.2; have K5 := hid (K4.out.trans k5 (fun _ _ e => e)); clear s5 k5; replace hb35 : w5.heap[g3]? = some (.cells #[.int .i64 12, .int .i64 0, .int .i64 0, .string ByteArray.empty, .int .u64 0, .slice none 0 0, .int .i64 mem] 40) := hb35)
    | (refine wpl_loadA (ty := 40) (o := 0) (n := 7) rfl rfl rfl hb35 (by kernel_rfl) (by kernel_rfl) #[.int .i64 12, .int .i64 0, .int .i64 0, .string ByteArray.empty, .int .u64 0, .slice none 0 0, .int .i64 mem].toList rfl rfl ?_)
    | (refine wpl_storeB (v := .agg #[.int .i64 12, .int .i64 0, .int .i64 0, .string ByteArray.empty, .int .u64 0, .slice none 0 0, .int .i64 mem]) (o := 0) (b := g2) rfl rfl rfl rfl hb25 (by kernel_rfl) (of_decide_eq_true (by kernel_rfl)) (by simp [Value.cells, Value.oneCell']) ?_; intro wz hbz kz sz; replace hbz : wz.heap[g2]? = some (.cells #[.int .i64 12, .int .i64 0, .int .i64 0, .string ByteArray.empty, .int .u64 0, .slice none 0 0, .int .i64 mem] 40) := hbz))
  refine bodyPost_ret (res_cell (g := g2) (cs := #[.int .i64 12, .int .i64 0, .int .i64 0, .string ByteArray.empty, .int .u64 0, .slice none 0 0, .int .i64 mem]) Tryz.results66 _ rfl hbz (by kernel_rfl) (by kernel_rfl)) rfl ?_
  have e1 := HG1.out; have e2 := HG2.out; have e3 := HG3.out
  have z1 := K1.out.size; have z2 := K2.out.size
  have kk : Keep (fun _ => False) w wz := ((K3.out.mono (T := fun q => q = g2 ∨ q = g3) (fun _ _ f => f.elim)).trans K5.out (fun _ _ e => .inr e)).trans kz (fun _ _ e => .inl e) |>.mono (fun b hb e => by omega)
  refine OwnVPost.of (u := .slice none 0 0) (y := ⟨12, 0, 0, ByteArray.empty, 0, [], mem⟩) rfl sl_nilK kk
set_option maxRecDepth 20000 in
set_option maxHeartbeats 4000000 in
theorem ownV_13 {ses rev mem : Int} {path : ByteArray} {dig : Nat} {coms : List Commit} {u : Value} (hu : Sl .commit w F u coms) : Calls Tryz.prog 66 #[.agg (verdictCs ⟨13, ses, rev, path, dig, coms, mem⟩ u).toArray] w (OwnVPost F w ⟨13, ses, rev, path, dig, coms, mem⟩) := by
  obtain ⟨A, c, rfl⟩ := hu.shape
  obtain ⟨n, hn⟩ : ∃ n, n = coms.length := ⟨_, rfl⟩
  rw [← hn] at hu ⊢
  have HU := hid hu; have HN := hid hn
  clear hu hn
  go_enter Tryz.func66, Tryz.ntmps66
  go_wp2_with (first
    | (refine wpl_boxB (v := .agg #[.int .i64 13, .int .i64 ses, .int .i64 rev, .string path, .int .u64 dig, .slice A n c, .int .i64 mem]) rfl rfl rfl ?_; intro g1 w1 hg1 hb1 k1 s1; have HG1 := hid hg1; have K1 := hid k1; clear hg1 k1 s1)
    | (refine wpl_allocB (ty := 40) (z := .agg #[.int .i64 0, .int .i64 0, .int .i64 0, .string ByteArray.empty, .int .u64 0, .slice none 0 0, .int .i64 0]) rfl rfl (by kernel_rfl) ?_; intro g2 w2 hg2 hb2 k2 s2; have HG2 := hid hg2; have hb12 := k2.heap hb1 id; have K2 := hid (K1.out.trans k2 (fun _ _ f => f)); clear hg2 k2 s2; have q0 := cell_at hb12 0 (.int .i64 13) rfl; refine stopHere ?_))
  refine goOn ?_
  go_wp2_with (first
    | (refine wpl_load1 rfl rfl rfl hb12 (by kernel_rfl) (v := .int .i64 13) (o := 0) rfl ?_)
    | (refine wpl_build rfl rfl #[.int .i64 13, .int .i64 0, .int .i64 0, .string ByteArray.empty, .int .u64 0, .slice none 0 0, .int .i64 0] (by kernel_rfl) ?_)
    | (refine wpl_allocB (ty := 40) (z := .agg #[.int .i64 0, .int .i64 0, .int .i64 0, .string ByteArray.empty, .int .u64 0, .slice none 0 0, .int .i64 0]) rfl rfl (by kernel_rfl) ?_; intro g3 w3 hg3 hb3 k3 s3; have HG3 := hid hg3; have hb13 := k3.heap hb12 id; have hb23 := k3.heap hb2 id; have K3 := hid (K2.out.trans k3 (fun _ _ f => f)); have HNE := hid (show g1 ≠ g3 ∧ g2 ≠ g3 from ⟨by have := lt_heap hb12; have := HG3.out; omega, by have := lt_heap hb2; have := HG3.out; omega⟩); clear hg3 k3 s3)
    | (refine wpl_storeB (v := .agg #[.int .i64 13, .int .i64 0, .int .i64 0, .string ByteArray.empty, .int .u64 0, .slice none 0 0, .int .i64 0]) (b := g3) (o := 0) rfl rfl rfl rfl hb3 (by kernel_rfl) (of_decide_eq_true (by kernel_rfl)) (by simp [Value.cells, Value.oneCell']) ?_; intro w4 hb34 k4 s4; have hb14 := k4.heap hb13 HNE.out.1; have hb24 := k4.heap hb23 HNE.out.2; have K4 := hid k4; clear s4 k4; replace hb34 : w4.heap[g3]? = some (.cells #[.int .i64 13, .int .i64 0, .int .i64 0, .string ByteArray.empty, .int .u64 0, .slice none 0 0, .int .i64 0] 40) := hb34; have q0 := cell_at hb14 0 (.int .i64 13) rfl)
    | (refine wpl_load1 rfl rfl rfl hb14 (by kernel_rfl) (v := .int .i64 mem) (o := 6) rfl ?_)
    | (refine wpl_storeB (v := .int .i64 mem) (o := 6) (b := g3) rfl rfl rfl rfl hb34 (by kernel_rfl) (of_decide_eq_true (by kernel_rfl)) (by simp [Value.cells, Value.oneCell']) ?_; intro w5 hb35 k5 s5; have hb15 := k5.heap hb14 HNE.out.1; have hb25 := k5.heap hb24 HNE.out.2; have K5 := hid (K4.out.trans k5 (fun _ _ e => e)); clear s5 k5; replace hb35 : w5.heap[g3]? = some (.cells #[.int .i64 13, .int .i64 0, .int .i64 0, .string ByteArray.empty, .int .u64 0, .slice none 0 0, .int .i64 mem] 40) := hb35)
    | (refine wpl_loadA (ty := 40) (o := 0) (n := 7) rfl rfl rfl hb35 (by kernel_rfl) (by kernel_rfl) #[.int .i64 13, .int .i64 0, .int .i64 0, .string ByteArray.empty, .int .u64 0, .slice none 0 0, .int .i64 mem].toList rfl rfl ?_)
    | (refine wpl_storeB (v := .agg #[.int .i64 13, .int .i64 0, .int .i64 0, .string ByteArray.empty, .int .u64 0, .slice none 0 0, .int .i64 mem]) (o := 0) (b := g2) rfl rfl rfl rfl hb25 (by kernel_rfl) (of_decide_eq_true (by kernel_rfl)) (by simp [Value.cells, Value.oneCell']) ?_; intro wz hbz kz sz; replace hbz : wz.heap[g2]? = some (.cells #[.int .i64 13, .int .i64 0, .int .i64 0, .string ByteArray.empty, .int .u64 0, .slice none 0 0, .int .i64 mem] 40) := hbz))
  refine bodyPost_ret (res_cell (g := g2) (cs := #[.int .i64 13, .int .i64 0, .int .i64 0, .string ByteArray.empty, .int .u64 0, .slice none 0 0, .int .i64 mem]) Tryz.results66 _ rfl hbz (by kernel_rfl) (by kernel_rfl)) rfl ?_
  have e1 := HG1.out; have e2 := HG2.out; have e3 := HG3.out
  have z1 := K1.out.size; have z2 := K2.out.size
  have kk : Keep (fun _ => False) w wz := ((K3.out.mono (T := fun q => q = g2 ∨ q = g3) (fun _ _ f => f.elim)).trans K5.out (fun _ _ e => .inr e)).trans kz (fun _ _ e => .inl e) |>.mono (fun b hb e => by omega)
  refine OwnVPost.of (u := .slice none 0 0) (y := ⟨13, 0, 0, ByteArray.empty, 0, [], mem⟩) rfl sl_nilK kk
set_option maxRecDepth 20000 in
set_option maxHeartbeats 4000000 in
theorem ownV_14 {ses rev mem : Int} {path : ByteArray} {dig : Nat} {coms : List Commit} {u : Value} (hu : Sl .commit w F u coms) : Calls Tryz.prog 66 #[.agg (verdictCs ⟨14, ses, rev, path, dig, coms, mem⟩ u).toArray] w (OwnVPost F w ⟨14, ses, rev, path, dig, coms, mem⟩) := by
  obtain ⟨A, c, rfl⟩ := hu.shape
  obtain ⟨n, hn⟩ : ∃ n, n = coms.length := ⟨_, rfl⟩
  rw [← hn] at hu ⊢
  have HU := hid hu; have HN := hid hn
  clear hu hn
  go_enter Tryz.func66, Tryz.ntmps66
  go_wp2_with (first
    | (refine wpl_boxB (v := .agg #[.int .i64 14, .int .i64 ses, .int .i64 rev, .string path, .int .u64 dig, .slice A n c, .int .i64 mem]) rfl rfl rfl ?_; intro g1 w1 hg1 hb1 k1 s1; have HG1 := hid hg1; have K1 := hid k1; clear hg1 k1 s1)
    | (refine wpl_allocB (ty := 40) (z := .agg #[.int .i64 0, .int .i64 0, .int .i64 0, .string ByteArray.empty, .int .u64 0, .slice none 0 0, .int .i64 0]) rfl rfl (by kernel_rfl) ?_; intro g2 w2 hg2 hb2 k2 s2; have HG2 := hid hg2; have hb12 := k2.heap hb1 id; have K2 := hid (K1.out.trans k2 (fun _ _ f => f)); clear hg2 k2 s2; have q0 := cell_at hb12 0 (.int .i64 14) rfl; refine stopHere ?_))
  refine goOn ?_
  go_wp2_with (first
    | (refine wpl_load1 rfl rfl rfl hb12 (by kernel_rfl) (v := .int .i64 14) (o := 0) rfl ?_)
    | (refine wpl_build rfl rfl #[.int .i64 14, .int .i64 0, .int .i64 0, .string ByteArray.empty, .int .u64 0, .slice none 0 0, .int .i64 0] (by kernel_rfl) ?_)
    | (refine wpl_allocB (ty := 40) (z := .agg #[.int .i64 0, .int .i64 0, .int .i64 0, .string ByteArray.empty, .int .u64 0, .slice none 0 0, .int .i64 0]) rfl rfl (by kernel_rfl) ?_; intro g3 w3 hg3 hb3 k3 s3; have HG3 := hid hg3; have hb13 := k3.heap hb12 id; have hb23 := k3.heap hb2 id; have K3 := hid (K2.out.trans k3 (fun _ _ f => f)); have HNE := hid (show g1 ≠ g3 ∧ g2 ≠ g3 from ⟨by have := lt_heap hb12; have := HG3.out; omega, by have := lt_heap hb2; have := HG3.out; omega⟩); clear hg3 k3 s3)
    | (refine wpl_storeB (v := .agg #[.int .i64 14, .int .i64 0, .int .i64 0, .string ByteArray.empty, .int .u64 0, .slice none 0 0, .int .i64 0]) (b := g3) (o := 0) rfl rfl rfl rfl hb3 (by kernel_rfl) (of_decide_eq_true (by kernel_rfl)) (by simp [Value.cells, Value.oneCell']) ?_; intro w4 hb34 k4 s4; have hb14 := k4.heap hb13 HNE.out.1; have hb24 := k4.heap hb23 HNE.out.2; have K4 := hid k4; clear s4 k4; replace hb34 : w4.heap[g3]? = some (.cells #[.int .i64 14, .int .i64 0, .int .i64 0, .string ByteArray.empty, .int .u64 0, .slice none 0 0, .int .i64 0] 40) := hb34; have q0 := cell_at hb14 0 (.int .i64 14) rfl)
    | (refine wpl_load1 rfl rfl rfl hb14 (by kernel_rfl) (v := .int .i64 mem) (o := 6) rfl ?_)
    | (refine wpl_storeB (v := .int .i64 mem) (o := 6) (b := g3) rfl rfl rfl rfl hb34 (by kernel_rfl) (of_decide_eq_true (by kernel_rfl)) (by simp [Value.cells, Value.oneCell']) ?_; intro w5 hb35 k5 s5; have hb15 := k5.heap hb14 HNE.out.1; have hb25 := k5.heap hb24 HNE.out.2; have K5 := hid (K4.out.trans k5 (fun _ _ e => e)); clear s5 k5; replace hb35 : w5.heap[g3]? = some (.cells #[.int .i64 14, .int .i64 0, .int .i64 0, .string ByteArray.empty, .int .u64 0, .slice none 0 0, .int .i64 mem] 40) := hb35)
    | (refine wpl_loadA (ty := 40) (o := 0) (n := 7) rfl rfl rfl hb35 (by kernel_rfl) (by kernel_rfl) #[.int .i64 14, .int .i64 0, .int .i64 0, .string ByteArray.empty, .int .u64 0, .slice none 0 0, .int .i64 mem].toList rfl rfl ?_)
    | (refine wpl_storeB (v := .agg #[.int .i64 14, .int .i64 0, .int .i64 0, .string ByteArray.empty, .int .u64 0, .slice none 0 0, .int .i64 mem]) (o := 0) (b := g2) rfl rfl rfl rfl hb25 (by kernel_rfl) (of_decide_eq_true (by kernel_rfl)) (by simp [Value.cells, Value.oneCell']) ?_; intro wz hbz kz sz; replace hbz : wz.heap[g2]? = some (.cells #[.int .i64 14, .int .i64 0, .int .i64 0, .string ByteArray.empty, .int .u64 0, .slice none 0 0, .int .i64 mem] 40) := hbz))
  refine bodyPost_ret (res_cell (g := g2) (cs := #[.int .i64 14, .int .i64 0, .int .i64 0, .string ByteArray.empty, .int .u64 0, .slice none 0 0, .int .i64 mem]) Tryz.results66 _ rfl hbz (by kernel_rfl) (by kernel_rfl)) rfl ?_
  have e1 := HG1.out; have e2 := HG2.out; have e3 := HG3.out
  have z1 := K1.out.size; have z2 := K2.out.size
  have kk : Keep (fun _ => False) w wz := ((K3.out.mono (T := fun q => q = g2 ∨ q = g3) (fun _ _ f => f.elim)).trans K5.out (fun _ _ e => .inr e)).trans kz (fun _ _ e => .inl e) |>.mono (fun b hb e => by omega)
  refine OwnVPost.of (u := .slice none 0 0) (y := ⟨14, 0, 0, ByteArray.empty, 0, [], mem⟩) rfl sl_nilK kk
set_option maxRecDepth 20000 in
set_option maxHeartbeats 4000000 in
theorem ownV_n {k ses rev mem : Int} {path : ByteArray} {dig : Nat} {coms : List Commit} {u : Value} (hk : ¬ (k = 1 ∨ k = 2 ∨ k = 3 ∨ k = 4 ∨ k = 8 ∨ k = 9 ∨ k = 10 ∨ k = 11 ∨ k = 12 ∨ k = 13 ∨ k = 14)) (hu : Sl .commit w F u coms) : Calls Tryz.prog 66 #[.agg (verdictCs ⟨k, ses, rev, path, dig, coms, mem⟩ u).toArray] w (OwnVPost F w ⟨k, ses, rev, path, dig, coms, mem⟩) := by
  obtain ⟨A, c, rfl⟩ := hu.shape
  obtain ⟨n, hn⟩ : ∃ n, n = coms.length := ⟨_, rfl⟩
  rw [← hn] at hu ⊢
  have HU := hid hu; have HN := hid hn
  have n1 : (k == 1) = false := by simp; omega
  have n2 : (k == 2) = false := by simp; omega
  have n3 : (k == 3) = false := by simp; omega
  have n4 : (k == 4) = false := by simp; omega
  have n8 : (k == 8) = false := by simp; omega
  have n9 : (k == 9) = false := by simp; omega
  have n10 : (k == 10) = false := by simp; omega
  have n11 : (k == 11) = false := by simp; omega
  have n12 : (k == 12) = false := by simp; omega
  have n13 : (k == 13) = false := by simp; omega
  have n14 : (k == 14) = false := by simp; omega
  have HK := hid hk
  clear hk
  clear hu hn
  go_enter Tryz.func66, Tryz.ntmps66
  go_wp2_with (first
    | (refine wpl_boxB (v := .agg #[.int .i64 k, .int .i64 ses, .int .i64 rev, .string path, .int .u64 dig, .slice A n c, .int .i64 mem]) rfl rfl rfl ?_; intro g1 w1 hg1 hb1 k1 s1; have HG1 := hid hg1; have K1 := hid k1; clear hg1 k1 s1)
    | (refine wpl_allocB (ty := 40) (z := .agg #[.int .i64 0, .int .i64 0, .int .i64 0, .string ByteArray.empty, .int .u64 0, .slice none 0 0, .int .i64 0]) rfl rfl (by kernel_rfl) ?_; intro g2 w2 hg2 hb2 k2 s2; have HG2 := hid hg2; have hb12 := k2.heap hb1 id; have K2 := hid (K1.out.trans k2 (fun _ _ f => f)); clear hg2 k2 s2; have q0 := cell_at hb12 0 (.int .i64 k) rfl; refine stopHere ?_))
  refine goOn ?_
  go_wp2_with (first
    | (refine wpl_load1 rfl rfl rfl hb12 (by kernel_rfl) (v := .int .i64 k) (o := 0) rfl ?_)
    | (refine wpl_build rfl rfl #[.int .i64 k, .int .i64 0, .int .i64 0, .string ByteArray.empty, .int .u64 0, .slice none 0 0, .int .i64 0] (by kernel_rfl) ?_)
    | (refine wpl_allocB (ty := 40) (z := .agg #[.int .i64 0, .int .i64 0, .int .i64 0, .string ByteArray.empty, .int .u64 0, .slice none 0 0, .int .i64 0]) rfl rfl (by kernel_rfl) ?_; intro g3 w3 hg3 hb3 k3 s3; have HG3 := hid hg3; have hb13 := k3.heap hb12 id; have hb23 := k3.heap hb2 id; have K3 := hid (K2.out.trans k3 (fun _ _ f => f)); have HNE := hid (show g1 ≠ g3 ∧ g2 ≠ g3 from ⟨by have := lt_heap hb12; have := HG3.out; omega, by have := lt_heap hb2; have := HG3.out; omega⟩); clear hg3 k3 s3)
    | (refine wpl_storeB (v := .agg #[.int .i64 k, .int .i64 0, .int .i64 0, .string ByteArray.empty, .int .u64 0, .slice none 0 0, .int .i64 0]) (b := g3) (o := 0) rfl rfl rfl rfl hb3 (by kernel_rfl) (of_decide_eq_true (by kernel_rfl)) (by simp [Value.cells, Value.oneCell']) ?_; intro w4 hb34 k4 s4; have hb14 := k4.heap hb13 HNE.out.1; have hb24 := k4.heap hb23 HNE.out.2; have K4 := hid k4; clear s4 k4; replace hb34 : w4.heap[g3]? = some (.cells #[.int .i64 k, .int .i64 0, .int .i64 0, .string ByteArray.empty, .int .u64 0, .slice none 0 0, .int .i64 0] 40) := hb34; have q0 := cell_at hb14 0 (.int .i64 k) rfl)
    | (refine wpl_loadA (ty := 40) (o := 0) (n := 7) rfl rfl rfl hb34 (by kernel_rfl) (by kernel_rfl) #[.int .i64 k, .int .i64 0, .int .i64 0, .string ByteArray.empty, .int .u64 0, .slice none 0 0, .int .i64 0].toList rfl rfl ?_)
    | (refine wpl_storeB (v := .agg #[.int .i64 k, .int .i64 0, .int .i64 0, .string ByteArray.empty, .int .u64 0, .slice none 0 0, .int .i64 0]) (o := 0) (b := g2) rfl rfl rfl rfl hb24 (by kernel_rfl) (of_decide_eq_true (by kernel_rfl)) (by simp [Value.cells, Value.oneCell']) ?_; intro wz hbz kz sz; replace hbz : wz.heap[g2]? = some (.cells #[.int .i64 k, .int .i64 0, .int .i64 0, .string ByteArray.empty, .int .u64 0, .slice none 0 0, .int .i64 0] 40) := hbz))
  refine bodyPost_ret (res_cell (g := g2) (cs := #[.int .i64 k, .int .i64 0, .int .i64 0, .string ByteArray.empty, .int .u64 0, .slice none 0 0, .int .i64 0]) Tryz.results66 _ rfl hbz (by kernel_rfl) (by kernel_rfl)) rfl ?_
  have e1 := HG1.out; have e2 := HG2.out; have e3 := HG3.out
  have z1 := K1.out.size; have z2 := K2.out.size
  have kk : Keep (fun _ => False) w wz := ((K3.out.mono (T := fun q => q = g2 ∨ q = g3) (fun _ _ f => f.elim)).trans K4.out (fun _ _ e => .inr e)).trans kz (fun _ _ e => .inl e) |>.mono (fun b hb e => by omega)
  refine OwnVPost.of (u := .slice none 0 0) (y := ⟨k, 0, 0, ByteArray.empty, 0, [], 0⟩) (by have hk := HK.out; simp only [onlyV]; rw [if_neg (by omega), if_neg (by omega), if_neg (by omega), if_neg (by omega), if_neg (by omega), if_neg (by omega)]) sl_nilK kk
theorem ownV_calls (x : Verdict) {u : Value} (hu : Sl .commit w F u x.commits) : Calls Tryz.prog 66 #[.agg (verdictCs x u).toArray] w (OwnVPost F w x) := by
  obtain ⟨k, ses, rev, path, dig, coms, mem⟩ := x
  by_cases hk : k = 1 ∨ k = 2 ∨ k = 3 ∨ k = 4 ∨ k = 8 ∨ k = 9 ∨ k = 10 ∨ k = 11 ∨ k = 12 ∨ k = 13 ∨ k = 14
  · rcases hk with rfl | rfl | rfl | rfl | rfl | rfl | rfl | rfl | rfl | rfl | rfl
    · exact ownV_1 hu
    · exact ownV_2 hu
    · exact ownV_3 hu
    · exact ownV_4 hu
    · exact ownV_8 hu
    · exact ownV_9 hu
    · exact ownV_10 hu
    · exact ownV_11 hu
    · exact ownV_12 hu
    · exact ownV_13 hu
    · exact ownV_14 hu
  · exact ownV_n hk hu
end
end Go.Proofs.YtofljidmdabkcaaGreat

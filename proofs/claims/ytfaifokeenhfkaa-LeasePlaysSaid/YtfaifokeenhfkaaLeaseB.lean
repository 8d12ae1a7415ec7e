/- wapentakelaw18.LeaseBinds: the plain law, the terms' opening, two leases side by side. -/
import Derived.Test.YtfaifokeenhfkaaLeaseDrops
import Derived.Test.YtfaifokeenhfkaaOpenR
namespace Go.Proofs.Ytfaifokeenhfkaa
open Go.RowKit Go.ChangeShapes Go.WideShapes Go.ChangeAt
theorem opens_terms : Opens Try.prog (Rep.pair Rep.int (Rep.pair Rep.int Rep.int)) 23 :=
  Opens.struct Try.underlying23 (by kernel_rfl) (.cons rfl (Opens.int Try.underlying3 (by kernel_rfl)) (.cons rfl (Opens.int Try.underlying3 (by kernel_rfl)) (.one rfl (Opens.int Try.underlying3 (by kernel_rfl)))))
def TermsIs (v : Value) (t : Int × Int × Int) : Prop := v = .agg #[.int .i64 t.1, .int .i64 t.2.1, .int .i64 t.2.2] ∧ okI t.1 ∧ okI t.2.1 ∧ okI t.2.2
theorem open_terms {H : Type} {enc : TypeId × Value → H} {W : World} {base b : Nat} {held : Bool} {v : Value} {d : DataW H} {ps : List MemPlace}
    (_hv : Value.okWide Try.prog W .any b 23 v) (h : DataW.Trod enc Try.prog W base (fun _ => true) held 23 v d ps) : ∃ t, TermsIs v t := by
  obtain ⟨fuel, hf⟩ := h
  obtain ⟨t, c, d, hcs, ⟨h1, h2⟩, c', d', hcd, ⟨h3, h4⟩, ⟨h5, h6⟩⟩ := opens_terms.2 H enc W base held fuel _ _ hf
  have h1 : c = [.int .i64 t.1] := h1
  have h3 : c' = [.int .i64 t.2.1] := h3
  have h5 : d' = [.int .i64 t.2.2] := h5
  subst h1 h3 h5 hcd
  refine ⟨t, ?_, h2, h4, h6⟩
  cases v <;> simp [Value.cells] at hcs
  rename_i cs
  exact congrArg Value.agg (Array.ext' hcs)
/-- How far the follower's clock may have gone. -/
def wentI (N D a : Int) : Int := a * N / D
theorem went_bound {N D a : Int} (h1 : 1 ≤ N) (h2 : N ≤ 1000) (h3 : 1 ≤ D) (ha : 0 ≤ a) (hb : a ≤ 100000) : 0 ≤ a * N ∧ a * N ≤ 100000000 ∧ 0 ≤ wentI N D a ∧ wentI N D a ≤ a * N := by
  have p0 : 0 ≤ a * N := Int.mul_nonneg ha (by omega)
  have p1 : a * N ≤ 100000 * 1000 := Int.mul_le_mul hb h2 (by omega) (by omega)
  refine ⟨p0, by omega, Int.ediv_nonneg p0 (by omega), ?_⟩
  exact Int.ediv_le_self _ p0
/-- While the leader counts on it the follower has not gone as far as it is bound. -/
theorem went_lt {L N D a : Int} (_hL : 0 ≤ L) (hN : 1 ≤ N) (hD : 1 ≤ D) (hDN : D ≤ N) (_ha : 0 ≤ a) (h : a < L * D / N) : wentI N D a < L := by
  have h1 : (a + 1) * N ≤ L * D := by
    have : a + 1 ≤ L * D / N := by omega
    exact (Int.le_ediv_iff_mul_le (by omega)).1 this
  have h2 : a * N ≤ (L - 1) * D := by
    rw [Int.add_mul, Int.one_mul] at h1
    rw [Int.sub_mul, Int.one_mul]
    omega
  have h3 : a * N < L * D := by
    rw [Int.sub_mul, Int.one_mul] at h2
    omega
  exact Int.ediv_lt_of_lt_mul (by omega) h3
def gS (L N D : Int) : LeS := ⟨L, N, D, [(0, 100)], false, 0, 0⟩
def yS (L N D T : Int) : LeS := ⟨L, N, D, [], true, 16, T⟩
/-- The leader's lease: not given, or given once. -/
def xS (L N D : Int) (b : Bool) : LeS := if b then gS L N D else s0 L N D
theorem x_give {L N D : Int} (b : Bool) : giveS (xS L N D b) 0 100 = gS L N D := by
  cases b
  · rfl
  · rfl
theorem g_holds {L N D lead : Int} : holdsB (gS L N D) lead [0] = decide (100 ≤ lead ∧ lead - 100 < L * D / N) := by
  rw [holdsB_one, Bool.eq_iff_iff]
  simp [freshIds, gS, freshB, shortP]
  try (intro _; exact decide_eq_true_iff)
theorem y_bind {L N D f : Int} (h : 0 ≤ f ∧ f ≤ 1099511627776) (hL : 0 ≤ L) : bindS (s0 L N D) 16 f = yS L N D (f + L) := by
  rw [bindS, if_pos h]
  simp [s0, yS]; omega
theorem y_free {L N D T f : Int} (h : f < T) : freeB (yS L N D T) 32 f = false := by
  have h1 : ¬ T ≤ f := by omega
  simp [freeB, yS, h1]
theorem and15 (x : Nat) : ∃ s : Nat, s ≤ 15 ∧ bits .and .u8 (x : Int) 15 = (s : Int) := by
  have h : (BitVec.ofInt 8 (x : Int) &&& 15#8).toNat ≤ 15 := by rw [BitVec.toNat_and]; exact Nat.and_le_right
  have e : bits .and .u8 (x : Int) 15 = IntKind.u8.wrap ((BitVec.ofInt 8 (x : Int) &&& 15#8).toNat : Int) := rfl
  refine ⟨_, h, ?_⟩
  rw [e]
  generalize (BitVec.ofInt 8 (x : Int) &&& 15#8).toNat = q at *
  simp [IntKind.wrap, IntKind.signed, IntKind.bits]
  omega
theorem and1023 (x : Int) : ∃ s : Nat, s ≤ 1023 ∧ bits .and .i64 x 1023 = (s : Int) := by
  have h : (BitVec.ofInt 64 x &&& 1023#64).toNat ≤ 1023 := by rw [BitVec.toNat_and]; exact Nat.and_le_right
  have e : bits .and .i64 x 1023 = IntKind.i64.wrap ((BitVec.ofInt 64 x &&& 1023#64).toNat : Int) := rfl
  refine ⟨_, h, ?_⟩
  rw [e]
  generalize (BitVec.ofInt 64 x &&& 1023#64).toNat = q at *
  simp [IntKind.wrap, IntKind.signed, IntKind.bits]
  omega
end Go.Proofs.Ytfaifokeenhfkaa

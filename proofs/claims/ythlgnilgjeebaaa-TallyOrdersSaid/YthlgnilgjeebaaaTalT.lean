/- wapentakeref15.Tally: Base, Top, Further, Ready, Won. -/
import Derived.Test.YthlgnilgjeebaaaTalS
import Derived.Test.YthlgnilgjeebaaaTalB
namespace Go.Proofs.Ythlgnilgjeebaaa
open Go.RowKit Go.ChangeShapes Go.WideShapes Go.ChangeAt
theorem rgood_calls {w : World} (t : Int) : Calls Try.prog 56 #[.int .i64 t] w fun e w' => e = .returned (.bool (goodS t)) ∧ w = w' := by
  rw [goodS]
  by_cases h0 : 0 ≤ t
  · by_cases h1 : t ≤ 1099511627776
    · rw [decide_eq_true ⟨h0, h1⟩]
      go_enter Try.func56, Try.ntmps56
      go_wp2_with fail
      go_ret
      exact ⟨rfl, rfl⟩
    · rw [decide_eq_false (fun q => h1 q.2)]
      go_enter Try.func56, Try.ntmps56
      go_wp2_with fail
      go_ret
      exact ⟨rfl, rfl⟩
  · rw [decide_eq_false (fun q => h0 q.1)]
    go_enter Try.func56, Try.ntmps56
    go_wp2_with fail
    go_ret
    exact ⟨rfl, rfl⟩
def rbaseR (s : RS) : Int := if s.P = [] then 0 else Go.Lib.maxOf (s.P.map (·.base))
def topStep (t : Int) (x : Vote) : Int := if goodS x.slot then max t (x.slot + 1) else t
def rtopR (s : RS) : Int := (s.P.flatMap (·.v)).foldl topStep s.from'
section
variable {F G : Nat → Prop} {w : World} {g : Nat} {s : RS} {AP AC : Option Addr} {cP cC : Nat} {vm : Value} {M : List Int}
set_option maxRecDepth 20000 in
set_option maxHeartbeats 4000000 in
theorem rbase_calls (h : RV F w g s AP AC cP cC) :
    Calls Try.prog 31 #[.pointer (some ⟨g, 0, none⟩)] w fun e w' => e = .returned (.int .i64 (rbaseR s)) ∧ w = w' := by
  have H := hid h
  have hmax := h.P.cap
  obtain ⟨m, hm⟩ : ∃ m, m = s.P.length := ⟨_, rfl⟩
  have c2 := cell_at h.obj 2 (.slice AP s.P.length cP) rfl
  rw [← hm] at c2 hmax
  have HM := hid hm
  clear h hm
  by_cases h0 : m = 0
  · have hb : rbaseR s = 0 := by rw [rbaseR, if_pos (List.eq_nil_of_length_eq_zero (by rw [← HM.out]; exact h0))]
    have HB := hid hb
    subst h0
    clear hb
    go_enter Try.func31, Try.ntmps31
    go_wp2_with fail
    go_ret
    exact ⟨by rw [HB.out]; rfl, rfl⟩
  · have hne : s.P ≠ [] := fun e => h0 (by rw [HM.out, e]; rfl)
    have hz : ((m : Int) == 0) = false := by
      have : (m : Int) ≠ 0 := by omega
      simpa using this
    have hcellB : ∀ j, j < m → ∃ b off x, AP = some ⟨b, off, none⟩ ∧ s.P[j]? = some x ∧ w.cell? ⟨b, off + j * 3 + 1, none⟩ = some (.int .i64 x.base) := fun j hj => by
      obtain ⟨x, hx⟩ : ∃ x, s.P[j]? = some x := ⟨s.P[j]'(by rw [← HM.out]; exact hj), by simp [show j < s.P.length by rw [← HM.out]; exact hj]⟩
      obtain ⟨A', c', b, off, cs, he, hb, _, hcs, hcell⟩ := elem_cells7 H.out.P rfl hx
      simp only [Value.slice.injEq, true_and] at he
      obtain ⟨rfl, rfl⟩ := he
      obtain ⟨vc, rfl, _⟩ := prom_cells hcs
      exact ⟨b, off, x, hb, hx, hcell 1 _ rfl⟩
    obtain ⟨b, off, x0, rfl, hx0, d0⟩ := hcellB 0 (by omega)
    have d0' : w.cell? ⟨b, off + 1, none⟩ = some (.int .i64 x0.base) := by simpa using d0
    have hR : rbaseR s = (s.P.map (·.base)).foldl max x0.base := by
      rw [rbaseR, if_neg hne, Go.Lib.maxOf]
      congr 1
      cases hq : s.P with
      | nil => exact absurd hq hne
      | cons p l => rw [hq] at hx0; simp at hx0; rw [← hx0]; rfl
    have HR := hid hR; have HCB := hid hcellB
    clear hne hcellB hx0 d0 hR
    go_enter Try.func31, Try.ntmps31
    go_wp2_with fail
    go_loopw [3, 4] (fun v i wr => ∃ k : Nat, k ≤ m ∧ i = .int .i64 k ∧ v = .int .i64 (((s.P.take k).map (·.base)).foldl max x0.base) ∧ w = wr) (fun _ i _ => m - (intOf i).toNat)
    case atStart => exact ⟨0, Nat.zero_le _, rfl, rfl, rfl⟩
    case round =>
      obtain ⟨k, hk, rfl, rfl, rfl⟩ := hrel
      by_cases hlt : k < m
      · obtain ⟨b', off', x, he, hx, d1⟩ := HCB.out k hlt
        simp only [Option.some.injEq, Addr.mk.injEq, and_true] at he
        obtain ⟨rfl, rfl⟩ := he
        have hnx : ((s.P.take (k + 1)).map (·.base)).foldl max x0.base = max (((s.P.take k).map (·.base)).foldl max x0.base) x.base := by
          rw [List.take_add_one, hx, List.map_append, List.foldl_append]; rfl
        have HNX := hid hnx
        clear hnx hx
        generalize ((s.P.take k).map (·.base)).foldl max x0.base = mx at *
        go_wp2_with fail
        refine ⟨⟨k + 1, by omega, by simp, ?_, trivial⟩, by simp [intOf]; omega⟩
        rw [HNX.out]
      · obtain rfl : k = m := by omega
        have et : s.P.take k = s.P := List.take_of_length_le (by rw [HM.out]; exact Nat.le_refl _)
        rw [et, ← HR.out]
        obtain ⟨r, hr⟩ : ∃ r, r = rbaseR s := ⟨_, rfl⟩
        rw [← hr]
        have HRR := hid hr
        clear hr
        go_wp2_with fail
        go_ret
        exact ⟨by rw [← HRR.out]; rfl, rfl⟩
theorem rfurther_calls (h : RV F w g s AP AC cP cC) (hl : s.P.length ≤ 100000) (slot : Int) :
    Calls Try.prog 32 #[.pointer (some ⟨g, 0, none⟩), .int .i64 slot] w fun e w' => ∃ u, e = .returned u ∧ Gat w w' u (gth (fun (n : Int) (p : TProm) => p.id == n && (decide (slot < p.base) == true)) s.P 15) := by
  go_enter Try.func32, Try.ntmps32
  go_wp2_with fail
  refine (rby_calls h hl slot true).mono ?_
  rintro e w1 ⟨u, rfl, hg⟩
  have HG := hid hg
  clear hg
  go_wp2_with fail
  go_ret
  exact ⟨_, rfl, HG.out⟩
def rreadyB (s : RS) (slot : Int) (M : List Int) : Bool := mostB M (gth (fun (n : Int) (p : TProm) => p.id == n && (decide (slot < p.base) == false)) s.P 15)
def rwonB (s : RS) (slot : Int) (M : List Int) : Bool := mostB M (gth (fun (n : Int) (p : Int × Int) => p.1 == slot && p.2 == n) s.C 15)
theorem rready_calls (h : RV F w g s AP AC cP cC) (hl : s.P.length ≤ 100000) (slot : Int) (hM : Row G w vm M.length 1 (M.map I64)) (hml : M.length ≤ 1000000) :
    Calls Try.prog 34 #[.pointer (some ⟨g, 0, none⟩), .int .i64 slot, vm] w fun e w' => e = .returned (.bool (rreadyB s slot M)) ∧ Keep (fun _ => False) w w' := by
  obtain ⟨A, c, rfl⟩ := hM.shape
  have HM := hid hM
  clear hM
  obtain ⟨r, hr⟩ : ∃ r, r = rreadyB s slot M := ⟨_, rfl⟩
  rw [← hr]
  have HR := hid hr
  clear hr
  go_enter Try.func34, Try.ntmps34
  go_wp2_with fail
  refine (rby_calls h hl slot false).mono ?_
  rintro e w1 ⟨u, rfl, hg⟩
  have HG := hid hg
  clear hg
  go_wp2_with fail
  refine (rmost_calls (HM.out.keep HG.out.kp (fun _ _ => id)) hml HG.out.row).mono ?_
  rintro e w2 ⟨rfl, hk⟩
  have HK := hid (HG.out.kp.trans hk (fun _ _ q => q))
  clear hk
  rw [mostB_ref, show mostB M _ = rreadyB s slot M from rfl, ← HR.out]
  go_wp2_with fail
  go_ret
  exact ⟨rfl, HK.out⟩
theorem rwon_calls (h : RV F w g s AP AC cP cC) (hl : s.C.length ≤ 100000) (slot : Int) (hM : Row G w vm M.length 1 (M.map I64)) (hml : M.length ≤ 1000000) :
    Calls Try.prog 36 #[.pointer (some ⟨g, 0, none⟩), .int .i64 slot, vm] w fun e w' => e = .returned (.bool (rwonB s slot M)) ∧ Keep (fun _ => False) w w' := by
  obtain ⟨A, c, rfl⟩ := hM.shape
  have HM := hid hM
  clear hM
  obtain ⟨r, hr⟩ : ∃ r, r = rwonB s slot M := ⟨_, rfl⟩
  rw [← hr]
  have HR := hid hr
  clear hr
  go_enter Try.func36, Try.ntmps36
  go_wp2_with fail
  refine (rvoters_calls h hl slot).mono ?_
  rintro e w1 ⟨u, rfl, hg⟩
  have HG := hid hg
  clear hg
  go_wp2_with fail
  refine (rmost_calls (HM.out.keep HG.out.kp (fun _ _ => id)) hml HG.out.row).mono ?_
  rintro e w2 ⟨rfl, hk⟩
  have HK := hid (HG.out.kp.trans hk (fun _ _ q => q))
  clear hk
  rw [mostB_ref, show mostB M _ = rwonB s slot M from rfl, ← HR.out]
  go_wp2_with fail
  go_ret
  exact ⟨rfl, HK.out⟩
set_option maxRecDepth 20000 in
set_option maxHeartbeats 4000000 in
theorem rtop_calls (h : RV F w g s AP AC cP cC) :
    Calls Try.prog 33 #[.pointer (some ⟨g, 0, none⟩)] w fun e w' => e = .returned (.int .i64 (rtopR s)) ∧ w = w' := by
  have H := hid h
  have hmax := h.P.cap
  obtain ⟨m, hm⟩ : ∃ m, m = s.P.length := ⟨_, rfl⟩
  have c1 := cell_at h.obj 1 (.int .i64 s.from') rfl
  have c2 := cell_at h.obj 2 (.slice AP s.P.length cP) rfl
  rw [← hm] at c2 hmax
  have HM := hid hm
  clear h hm
  go_enter Try.func33, Try.ntmps33
  go_wp2_with fail
  go_loopw [3, 4] (fun v i wr => ∃ k : Nat, k ≤ m ∧ i = .int .i64 k ∧ v = .int .i64 (((s.P.take k).flatMap (·.v)).foldl topStep s.from') ∧ w = wr) (fun _ i _ => m - (intOf i).toNat)
  case atStart => exact ⟨0, Nat.zero_le _, rfl, rfl, rfl⟩
  case round =>
    obtain ⟨k, hk, rfl, rfl, rfl⟩ := hrel
    by_cases hlt : k < m
    · have hkm : decide ((k : Int) < (m : Int)) = true := decide_eq_true (by omega)
      obtain ⟨x, hx⟩ : ∃ x, s.P[k]? = some x := ⟨s.P[k]'(by rw [← HM.out]; exact hlt), by simp [show k < s.P.length by rw [← HM.out]; exact hlt]⟩
      obtain ⟨A', c', b, off, cs, he, hb, _, hcs, hcell⟩ := elem_cells7 H.out.P HM.out hx
      rw [← HM.out] at he
      simp only [Value.slice.injEq, true_and] at he
      obtain ⟨rfl, rfl⟩ := he
      subst hb
      obtain ⟨vc, rfl, hvc, _⟩ := prom_cells hcs
      obtain ⟨Av, cv, rfl⟩ := hvc.shape
      have hsz : Rep.prom.size = 3 := rfl
      rw [hsz] at hcell
      have d2 := hcell 2 (.slice Av x.v.length cv) rfl
      have hvmax := hvc.cap
      obtain ⟨nv, hnv⟩ : ∃ nv, nv = x.v.length := ⟨_, rfl⟩
      rw [← hnv] at d2 hvmax
      have HNV := hid hnv; have HVC := hid hvc
      have hnx : ((s.P.take (k + 1)).flatMap (·.v)).foldl topStep s.from' = x.v.foldl topStep (((s.P.take k).flatMap (·.v)).foldl topStep s.from') := by
        rw [List.take_add_one, hx, List.flatMap_append, List.foldl_append]
        simp
      have HNX := hid hnx
      clear hcell hcs hx hsz hnv hvc hnx
      generalize ((s.P.take k).flatMap (·.v)).foldl topStep s.from' = t0 at *
      go_wp2_with fail
      go_loopw [3, 5] (fun v i wr => ∃ j : Nat, j ≤ nv ∧ i = .int .i64 j ∧ v = .int .i64 ((x.v.take j).foldl topStep t0) ∧ w = wr) (fun _ i _ => nv - (intOf i).toNat)
      case atStart => exact ⟨0, Nat.zero_le _, rfl, rfl, rfl⟩
      case round =>
        obtain ⟨j, hj, rfl, rfl, rfl⟩ := hrel
        by_cases hjt : j < nv
        · obtain ⟨y, hy⟩ : ∃ y, x.v[j]? = some y := ⟨x.v[j]'(by rw [← HNV.out]; exact hjt), by simp [show j < x.v.length by rw [← HNV.out]; exact hjt]⟩
          obtain ⟨A2, c2', b2, off2, cs2, he2, hb2, _, hcs2, hcell2⟩ := elem_cells7 HVC.out HNV.out hy
          rw [← HNV.out] at he2
          simp only [Value.slice.injEq, true_and] at he2
          obtain ⟨rfl, rfl⟩ := he2
          subst hb2
          obtain ⟨v2, rfl, _⟩ := vote_cells hcs2
          have hsz2 : Rep.vote.size = 13 := rfl
          rw [hsz2] at hcell2
          have e0 := hcell2 0 (.int .i64 y.slot) rfl
          rw [Nat.add_zero] at e0
          have hnx2 : (x.v.take (j + 1)).foldl topStep t0 = topStep ((x.v.take j).foldl topStep t0) y := by
            rw [List.take_add_one, hy, List.foldl_append]; rfl
          have HNX2 := hid hnx2
          clear hcell2 hcs2 hy hsz2 hnx2
          generalize (x.v.take j).foldl topStep t0 = t1 at *
          cases hgd : goodS y.slot with
          | false =>
            go_wp2_with fail
            refine (rgood_calls y.slot).mono ?_
            rintro e w' ⟨rfl, rfl⟩
            rw [hgd]
            have HTS := hid (show topStep t1 y = t1 by rw [topStep, hgd]; rfl)
            clear hgd
            go_wp2_with fail
            exact ⟨⟨j + 1, by omega, by simp, by rw [HNX2.out, HTS.out], trivial⟩, by simp [intOf]; omega⟩
          | true =>
            have hyb : 0 ≤ y.slot ∧ y.slot ≤ 1099511627776 := by simpa [goodS] using hgd
            have hwr : IntKind.i64.wrap (y.slot + 1) = y.slot + 1 := by rw [IntKind.wrap_i64]; omega
            go_wp2_with fail
            refine (rgood_calls y.slot).mono ?_
            rintro e w' ⟨rfl, rfl⟩
            rw [hgd]
            have HTS := hid (show topStep t1 y = max t1 (y.slot + 1) by rw [topStep, hgd]; rfl)
            clear hgd hyb
            go_wp2_with fail
            exact ⟨⟨j + 1, by omega, by simp, by rw [HNX2.out, HTS.out], trivial⟩, by simp [intOf]; omega⟩
        · obtain rfl : j = nv := by omega
          have hfin : (x.v.take j).foldl topStep t0 = ((s.P.take (k + 1)).flatMap (·.v)).foldl topStep s.from' := by
            rw [HNX.out, List.take_of_length_le (by rw [HNV.out]; exact Nat.le_refl _)]
          rw [hfin]
          clear hfin
          go_wp2_with fail
          exact ⟨⟨k + 1, by omega, by simp, rfl, trivial⟩, by simp [intOf]; omega⟩
    · obtain rfl : k = m := by omega
      have et : s.P.take k = s.P := List.take_of_length_le (by rw [HM.out]; exact Nat.le_refl _)
      rw [et, show (s.P.flatMap (·.v)).foldl topStep s.from' = rtopR s from rfl]
      obtain ⟨r, hr⟩ : ∃ r, r = rtopR s := ⟨_, rfl⟩
      rw [← hr]
      have HRR := hid hr
      clear hr
      go_wp2_with fail
      go_ret
      exact ⟨by rw [← HRR.out]; rfl, rfl⟩
end
end Go.Proofs.Ythlgnilgjeebaaa

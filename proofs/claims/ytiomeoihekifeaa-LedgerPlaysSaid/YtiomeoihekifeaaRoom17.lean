/- wapentakelaw17: Deed, room. -/
import Derived.Test.YtiomeoihekifeaaMsgSmall
import Derived.Test.YtiomeoihekifeaaMsgT
namespace Go.Proofs.Ytiomeoihekifeaa
open Go.RowKit Go.ChangeShapes Go.WideShapes Go.ChangeAt
structure LDeed where
  do_ : Int
  slot : Int
  v : Req
def Rep.ldeed : Rep LDeed := (Rep.pair .int (.pair .int .req)).as fun d => (d.do_, d.slot, d.v)
theorem opens_ldeed : Opens Try.prog Rep.ldeed 45 :=
  Opens.as (Opens.struct Try.underlying45 (by kernel_rfl) (.cons rfl opens_int (.cons rfl opens_int (.one rfl opens_req)))) _ (fun p => ⟨p.1, p.2.1, p.2.2⟩) (fun _ => rfl)
theorem opens_ldeeds : Opens Try.prog Rep.ldeed.slice 40 := Opens.slice Try.underlying40 (by kernel_rfl) opens_ldeed (by decide)
theorem ldeed_cells {w : World} {F : Nat → Prop} {d : LDeed} {cs : List Value} (h : Rep.ldeed.cells w F d cs) : ∃ v, cs = .int .i64 d.do_ :: .int .i64 d.slot :: reqCs d.v v ∧ okI d.do_ ∧ okI d.slot ∧ Sl .change w F v d.v.changes := by
  obtain ⟨a, b, rfl, ⟨h1, h2⟩, c, e, rfl, ⟨h3, h4⟩, h5⟩ := h
  have h1 : a = [.int .i64 d.do_] := h1
  have h3 : c = [.int .i64 d.slot] := h3
  subst h1 h3
  obtain ⟨v, rfl, h6, _⟩ := req_cells h5
  exact ⟨v, rfl, h2, h4, h6⟩
def roomL (l : List LDeed) : Bool := decide (l.length ≤ 150) && l.all (fun d => decide (d.v.changes.length ≤ 30))
section
variable {F : Nat → Prop} {w : World} {l : List LDeed}
set_option maxRecDepth 20000 in
set_option maxHeartbeats 4000000 in
theorem room17_calls {v : Value} (hv : Sl .ldeed w F v l) : Calls Try.prog 22 #[v] w fun e w' => e = .returned (.bool (roomL l)) ∧ w = w' := by
  have hmax : l.length ≤ 9223372036854775807 := by obtain ⟨_, _, _, q1, q2, _⟩ := hv; unfold maxLen at q2; omega
  obtain ⟨A, c, rfl⟩ := hv.shape
  have HV := hid hv
  obtain ⟨n, hn⟩ : ∃ n, n = l.length := ⟨_, rfl⟩
  rw [← hn] at HV hmax ⊢
  have HN := hid hn
  obtain ⟨sb, hsb⟩ : ∃ sb, sb = roomL l := ⟨_, rfl⟩
  rw [← hsb]
  have HSB := hid hsb
  clear hv hn hsb
  by_cases b0 : 150 < n
  · have hb : sb = false := by
      rw [HSB.out]
      simp only [roomL, Bool.and_eq_false_iff, decide_eq_false_iff_not]
      rw [← HN.out]; omega
    subst hb
    go_enter Try.func22, Try.ntmps22
    go_wp2_with fail
    go_ret
    exact ⟨rfl, rfl⟩
  go_enter Try.func22, Try.ntmps22
  go_wp2_with fail
  go_loopw [3] (fun i wr => ∃ k : Nat, k ≤ n ∧ i = .int .i64 k ∧ (l.take k).all (fun d => decide (d.v.changes.length ≤ 30)) = true ∧ w = wr) (fun i _ => n - (intOf i).toNat)
  case atStart => exact ⟨0, Nat.zero_le _, rfl, rfl, rfl⟩
  case round =>
    obtain ⟨k, hk, rfl, hall, rfl⟩ := hrel
    have HALL := hid hall
    clear hall
    by_cases hlt : k < n
    · obtain ⟨x, hx⟩ : ∃ x, l[k]? = some x := ⟨l[k]'(by rw [← HN.out]; exact hlt), by simp [show k < l.length by rw [← HN.out]; exact hlt]⟩
      obtain ⟨A', c', b, off, cs, he, rfl, hcs, hcell⟩ := elem_cells7 HV.out HN.out hx
      simp only [Value.slice.injEq, true_and] at he
      obtain ⟨rfl, rfl⟩ := he
      obtain ⟨vc, rfl, _, _, hvc⟩ := ldeed_cells hcs
      obtain ⟨Ac, cc, rfl⟩ := hvc.shape
      have hsz : Rep.ldeed.size = 13 := rfl
      rw [hsz] at hcell
      have d8 := hcell 8 (.slice Ac x.v.changes.length cc) rfl
      obtain ⟨nc, hnc⟩ : ∃ nc, nc = x.v.changes.length := ⟨_, rfl⟩
      rw [← hnc] at d8
      have hncm : nc ≤ 9223372036854775807 := by rw [hnc]; obtain ⟨_, _, _, q1, q2, _⟩ := hvc; unfold maxLen at q2; omega
      have HX := hid hx; have HNC := hid hnc
      clear hcell hcs hx hsz hvc hnc
      by_cases h30 : 30 < nc
      · have hb : sb = false := by
          rw [HSB.out]
          simp only [roomL, all_false (p := fun d : LDeed => decide (d.v.changes.length ≤ 30)) HX.out (decide_eq_false (by rw [← HNC.out]; omega)), Bool.and_false]
        subst hb
        go_wp2_with fail
        go_ret
        exact ⟨rfl, rfl⟩
      · have HT := hid (take_all (p := fun d : LDeed => decide (d.v.changes.length ≤ 30)) HX.out HALL.out (decide_eq_true (by rw [← HNC.out]; omega)))
        go_wp2_with fail
        exact ⟨⟨k + 1, by omega, by simp, HT.out, trivial⟩, by simp [intOf]; omega⟩
    · have hb : sb = true := by
        rw [HSB.out]
        simp only [roomL, all_true (l := l) (k := k) (by rw [← HN.out]; omega) HALL.out, Bool.and_true, decide_eq_true_iff]
        rw [← HN.out]; omega
      subst hb
      go_wp2_with fail
      go_ret
      exact ⟨rfl, rfl⟩
end
end Go.Proofs.Ytiomeoihekifeaa

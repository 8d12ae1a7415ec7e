/- wapentakelaw20: Deed, room. -/
import Derived.Test.YtiomeoihekifeaaBoxApart
import Derived.Test.YtiomeoihekifeaaFirst
namespace Go.Proofs.Ytiomeoihekifeaa
open Go.RowKit Go.ChangeShapes Go.WideShapes Go.ChangeAt
structure BDeed where
  do_ : Int
  n : Int
  m : Msg
def Rep.bdeed : Rep BDeed := (Rep.pair .int (.pair .int .msg)).as fun d => (d.do_, d.n, d.m)
theorem opens_bdeed : Opens Try.prog Rep.bdeed 81 :=
  Opens.as (Opens.struct Try.underlying81 (by kernel_rfl) (.cons rfl opens_int (.cons rfl opens_int (.one rfl opens_msg)))) _ (fun p => ⟨p.1, p.2.1, p.2.2⟩) (fun _ => rfl)
theorem opens_bdeeds : Opens Try.prog Rep.bdeed.slice 78 := Opens.slice Try.underlying78 (by kernel_rfl) opens_bdeed (by decide)
theorem bdeed_cells {w : World} {F : Nat → Prop} {d : BDeed} {cs : List Value} (h : Rep.bdeed.cells w F d cs) : ∃ ms, cs = .int .i64 d.do_ :: .int .i64 d.n :: ms ∧ okI d.do_ ∧ okI d.n ∧ Rep.msg.cells w F d.m ms := by
  obtain ⟨a, b, rfl, ⟨h1, h2⟩, c, e, rfl, ⟨h3, h4⟩, h5⟩ := h
  have h1 : a = [.int .i64 d.do_] := h1
  have h3 : c = [.int .i64 d.n] := h3
  subst h1 h3
  exact ⟨e, rfl, h2, h4, h5⟩
def roomB (l : List BDeed) : Bool := decide (l.length ≤ 200) && l.all (fun d => smallM d.m)
section
variable {F : Nat → Prop} {w : World} {l : List BDeed}
set_option maxRecDepth 20000 in
set_option maxHeartbeats 4000000 in
theorem room20_calls {v : Value} (hv : Sl .bdeed w F v l) : Calls Try.prog 44 #[v] w fun e w' => e = .returned (.bool (roomB l)) ∧ Keep (fun _ => False) w w' := by
  have hmax : l.length ≤ 9223372036854775807 := by obtain ⟨_, _, _, q1, q2, _⟩ := hv; unfold maxLen at q2; omega
  obtain ⟨A, c, rfl⟩ := hv.shape
  have HV := hid hv
  obtain ⟨n, hn⟩ : ∃ n, n = l.length := ⟨_, rfl⟩
  rw [← hn] at HV hmax ⊢
  have HN := hid hn
  obtain ⟨sb, hsb⟩ : ∃ sb, sb = roomB l := ⟨_, rfl⟩
  rw [← hsb]
  have HSB := hid hsb
  clear hv hn hsb
  by_cases b0 : 200 < n
  · have hb : sb = false := by
      rw [HSB.out]
      simp only [roomB, Bool.and_eq_false_iff, decide_eq_false_iff_not]
      rw [← HN.out]; omega
    subst hb
    go_enter Try.func44, Try.ntmps44
    go_wp2_with fail
    go_ret
    exact ⟨rfl, Keep.refl _ _⟩
  go_enter Try.func44, Try.ntmps44
  go_wp2_with fail
  go_loopw [3] (fun i wr => ∃ k : Nat, k ≤ n ∧ i = .int .i64 k ∧ (l.take k).all (fun d => smallM d.m) = true ∧ Keep (fun _ => False) w wr) (fun i _ => n - (intOf i).toNat)
  case atStart => exact ⟨0, Nat.zero_le _, rfl, rfl, Keep.refl _ _⟩
  case round =>
    obtain ⟨k, hk, rfl, hall, hkp⟩ := hrel
    have HALL := hid hall
    have HKP := hid hkp
    clear hall
    by_cases hlt : k < n
    · obtain ⟨x, hx⟩ : ∃ x, l[k]? = some x := ⟨l[k]'(by rw [← HN.out]; exact hlt), by simp [show k < l.length by rw [← HN.out]; exact hlt]⟩
      have hvk := HV.out.keep hkp (fun _ _ => id)
      obtain ⟨A', c', b, off, cs, he, rfl, hcs, hcell⟩ := elem_cells7 hvk HN.out hx
      simp only [Value.slice.injEq, true_and] at he
      obtain ⟨rfl, rfl⟩ := he
      obtain ⟨ms, rfl, _, _, hms⟩ := bdeed_cells hcs
      obtain ⟨vc, vv, vi, vk, rfl, e1, e2, e3, e4, _⟩ := msg_cells hms
      have hsm := smallM_calls e1 e2 e3 e4
      have hsz : Rep.bdeed.size = 29 := rfl
      rw [hsz] at hcell
      have hr : wr.rangeAt b (off + k * 29 + 2) (msgCs x.m vc vv vi vk) := fun j u hu => by
        have := hcell (j + 2) u (by simpa using hu)
        rw [show off + k * 29 + 2 + j = off + k * 29 + (j + 2) by omega]
        exact this
      obtain ⟨dM, hu, hd⟩ : ∃ d, Try.prog.underlying 60 = some d ∧ d.isRow = true := ⟨_, Try.underlying60, rfl⟩
      have hi : (Try.prog.info? 60).map (·.size) = some (msgCs x.m vc vv vi vk).length := by kernel_rfl
      have HX := hid hx; have HR := hid hr; have HU := hid hu; have HD := hid hd; have HI := hid hi
      obtain ⟨s, hs⟩ : ∃ s, s = smallM x.m := ⟨_, rfl⟩
      rw [← hs] at hsm
      have HS := hid hs
      clear hcell hcs hx hsz hvk hms e1 e2 e3 e4 hs hr hu hd hi hkp
      go_wp2_with (refine wpList_load_mid rfl _ _ rfl b (off + k * 29 + 2) rfl (msgCs x.m vc vv vi vk) dM HR.out HU.out HD.out HI.out ?_)
      refine hsm.mono ?_
      rintro e w6 ⟨rfl, hk6⟩
      clear hsm
      cases s with
      | false =>
        have hb : sb = false := by
          rw [HSB.out]
          simp only [roomB, all_false (p := fun d : BDeed => smallM d.m) HX.out HS.out.symm, Bool.and_false]
        subst hb
        go_wp2_with fail
        go_ret
        exact ⟨rfl, HKP.out.trans hk6 (fun _ _ h => h)⟩
      | true =>
        have HT := hid (take_all (p := fun d : BDeed => smallM d.m) HX.out HALL.out HS.out.symm)
        go_wp2_with fail
        exact ⟨⟨k + 1, by omega, by simp, HT.out, HKP.out.trans hk6 (fun _ _ h => h)⟩, by simp [intOf]; omega⟩
    · have hb : sb = true := by
        rw [HSB.out]
        simp only [roomB, all_true (l := l) (k := k) (by rw [← HN.out]; omega) HALL.out, Bool.and_true, decide_eq_true_iff]
        rw [← HN.out]; omega
      subst hb
      go_wp2_with fail
      go_ret
      exact ⟨rfl, HKP.out⟩
end
end Go.Proofs.Ytiomeoihekifeaa

/- The tally: Voters, Won; wapentakelaw16.valid. -/
import Derived.Test.YthlgnilgjeebaaaTalW
import Derived.Test.YthlgnilgjeebaaaGat
namespace Go.Proofs.Ythlgnilgjeebaaa
open Go.RowKit Go.MapKept
section
variable {F G S : Nat → Prop} {w w' : World} {g m1 m2 m3 : Nat} {s : TS} {vm : Value} {M : List Int}
def votersR (s : TS) (slot : Int) : List Int := upIds (fun id => decide (0 < vtAt s (slot, id))) 15
set_option maxRecDepth 20000 in
set_option maxHeartbeats 2000000 in
theorem voters_calls (h : TalAt F w g s) (slot : Int) (hs : okI slot) :
    Calls Try.prog 29 #[.pointer (some ⟨g, 0, none⟩), .int .i64 slot] w fun e w' => ∃ u, e = .returned u ∧ Gat w w' u (votersR s slot) := by
  have H := hid h
  obtain ⟨m1, m2, m3, hm⟩ := h
  have HM := hid hm
  clear hm
  go_enter Try.func29, Try.ntmps29
  go_wp2_with fail
  refine (made_calls H.out).mono ?_
  rintro e w' ⟨rfl, rfl⟩
  go_wp2_with fail
  go_loopw [5, 10] (fun u i wr => ∃ k : Nat, k ≤ 15 ∧ i = .int .i64 k ∧ Gat w wr u (upIds (fun id => decide (0 < vtAt s (slot, id))) k)) (fun _ i _ => 15 - (intOf i).toNat)
  case atStart => exact ⟨0, by omega, rfl, Gat.nil w⟩
  case round =>
    obtain ⟨k, hk, rfl, hg⟩ := hrel
    by_cases hlt : k < 15
    · have hmk := HM.out.keep hg.kp (fun _ _ => id)
      have hlook := vt_look hmk (slot, k) ⟨hs.wf, okI.wf ⟨by omega, by omega⟩⟩
      simp only [plV] at hlook
      have c5 := cell_at hmk.obj 5 (.map (some m3)) rfl
      have hnext : upIds (fun id => decide (0 < vtAt s (slot, id))) (k + 1) = upIds (fun id => decide (0 < vtAt s (slot, id))) k ++ if decide (0 < vtAt s (slot, k)) then [(k : Int)] else [] := upIds_succ _ k
      have hlen := upIds_le (fun id => decide (0 < vtAt s (slot, id))) k
      generalize vtAt s (slot, (k : Int)) = q at *
      generalize upIds (fun id => decide (0 < vtAt s (slot, id))) k = l at *
      have HNX := hid hnext; have HG := hid hg
      clear hnext hmk hg
      by_cases hq : 0 < q
      · have hd : decide (0 < q) = true := by simpa using hq
        have ho := HG.out.own
        clear hq
        go_wp2_with (at_builtin; refine stopHere ?_)
        refine goOn (wpl_app (v := u5) rfl rfl TI rfl (ownsAlloc ho _) rfl (Row.one wr _ _) (by simp [Value.oneCell']) (by omega) (by omega) ?_)
        intro A c w6 ho6 hk6 hn6
        have hp := HG.out.push _ ho6 hk6 hn6
        have HP := hid hp
        clear hp ho6 hk6 hn6 ho
        go_wp2
        refine ⟨⟨k + 1, by omega, by simp, ?_⟩, by simp [intOf]; omega⟩
        rw [HNX.out, if_pos hd]
        exact HP.out
      · have hd : decide (0 < q) = false := by simpa using hq
        clear hq
        go_wp2_with fail
        refine ⟨⟨k + 1, by omega, by simp, ?_⟩, by simp [intOf]; omega⟩
        rw [HNX.out, hd]
        simpa using HG.out
    · obtain rfl : k = 15 := by omega
      have HG := hid hg
      clear hg
      go_wp2_with fail
      go_ret
      exact ⟨_, rfl, HG.out⟩
set_option maxRecDepth 20000 in
theorem won_calls (h : TalAt F w g s) (slot : Int) (hs : okI slot) (hM : Row G w vm M.length 1 (M.map I64)) (hl : M.length ≤ 1000000) :
    Calls Try.prog 35 #[.pointer (some ⟨g, 0, none⟩), .int .i64 slot, vm] w fun e w' => e = .returned (.bool (mostB M (votersR s slot))) ∧ Keep (fun _ => False) w w' := by
  obtain ⟨A, c, rfl⟩ := hM.shape
  have HM := hid hM
  clear hM
  generalize hr : mostB M (votersR s slot) = r
  have HR := hid hr
  clear hr
  go_enter Try.func35, Try.ntmps35
  go_wp2_with fail
  refine (made_calls h).mono ?_
  rintro e w' ⟨rfl, rfl⟩
  go_wp2_with fail
  refine (voters_calls h slot hs).mono ?_
  rintro e w1 ⟨u, rfl, hg⟩
  have HG := hid hg
  clear hg
  go_wp2_with fail
  refine (most_any (HM.out.keep HG.out.kp (fun _ _ => id)) hl HG.out.row).mono ?_
  rintro e w2 ⟨rfl, hk⟩
  have HK := hid (HG.out.kp.trans hk (fun _ _ q => q))
  clear hk
  rw [HR.out]
  go_wp2_with fail
  go_ret
  exact ⟨rfl, HK.out⟩
end
end Go.Proofs.Ythlgnilgjeebaaa

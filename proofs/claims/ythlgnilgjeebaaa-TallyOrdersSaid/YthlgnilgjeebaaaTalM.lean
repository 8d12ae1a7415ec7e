/- Plain laws of the tally: who is among whom. -/
import Derived.Test.YthlgnilgjeebaaaTalN
import Derived.Test.YthlgnilgjeebaaaMostR
namespace Go.Proofs.Ythlgnilgjeebaaa
open Go.RowKit
theorem mostB_mem {M I J : List Int} (h : ∀ x, x ∈ I ↔ x ∈ J) : mostB M I = mostB M J := by
  unfold mostB cntM
  have e : (fun x => I.contains x) = (fun x => J.contains x) := by
    funext x
    have := h x
    by_cases hx : x ∈ J
    · simp [hx, this.2 hx]
    · have : ¬ x ∈ I := fun q => hx (this.1 q)
      simp [hx, this]
  rw [e]
theorem byR_mem (s : TS) (ab : Bool) (slot x : Int) : x ∈ byR s ab slot ↔ x ∈ s.pr.map Prod.fst ∧ soB ab slot (prAt s x) = true := by
  rw [byR, List.mem_filter, keysS, List.mem_mergeSort]
theorem readyB_is (s : TS) (slot : Int) (M : List Int) : readyB s slot M = decide (quoN M ≤ cntR M ((s.pr.map Prod.fst).filter (fun k => soB false slot (prAt s k))) M.length) := by
  rw [mostB_ref, readyB]
  exact mostB_mem (fun x => by rw [byR_mem, List.mem_filter])
theorem mostB_is (M I : List Int) : mostB M I = decide (quoN M ≤ cntR M I M.length) := (mostB_ref M I).symm
end Go.Proofs.Ythlgnilgjeebaaa

/- A message that is small enough to be copied; net.own. -/
import Derived.Test.YtofljidmdabkcaaOwnM
namespace Go.Proofs.Ytofljidmdabkcaa
open Go.RowKit
section
variable {G : Nat → Prop} {w : World}
/-- A message that is small enough to be copied. -/
structure Msg.Fits (m : Msg) : Prop where
  c : m.value.changes.length ≤ 4294967296
  v : m.votes.length ≤ 4294967296
  i : m.image.length ≤ 4294967296
  k : m.verdict.commits.length ≤ 4294967296
  vc : ∀ x ∈ m.votes, x.value.changes.length ≤ 4294967296
  kc : ∀ x ∈ m.verdict.commits, x.changes.length ≤ 4294967296
theorem own_calls' {m : Msg} {cs : List Value} (hm : Rep.msg.cells w G m cs) (hG : ∀ q, G q → q < w.heap.size) (hf : m.Fits) :
    Calls Try.prog 25 #[.agg cs.toArray] w fun e w' => ∃ vs, e = .returned (.agg vs.toArray) ∧ Rep.msg.cells w' (NewIn w w') m vs ∧ Keep (fun _ => False) w w' := by
  obtain ⟨vc, vv, vi, vk, rfl, h1, h2, h3, h4, h5⟩ := msg_cells hm
  exact ownM_calls h1 h2 h3 h4 hG h5 hf.c hf.v hf.i hf.k hf.vc hf.kc
end
end Go.Proofs.Ytofljidmdabkcaa

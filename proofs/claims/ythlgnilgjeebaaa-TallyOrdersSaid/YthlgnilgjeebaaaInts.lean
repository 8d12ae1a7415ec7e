/- Numbers of 64 bits; rows of numbers. -/
import Derived.Test.YthlgnilgjeebaaaMostZ
import Derived.Test.YthlgnilgjeebaaaMsgT
import Derived.Carry
import Derived.Deep.QuietTactic
import Derived.BigQuiet
import Derived.Laws.Cover3
import Derived.BigRegion
namespace Go.Proofs.Ythlgnilgjeebaaa
open Go.RowKit
theorem okI.of {n : Int} (h : (Lit.int .i64 n).wf = true) : okI n := by
  simp [Lit.wf, IntKind.min, IntKind.max, IntKind.signed, IntKind.bits] at h
  exact ⟨by omega, by omega⟩
instance (n : Int) : Decidable (okI n) := inferInstanceAs (Decidable (_ ∧ _))
theorem okI_wrap (x : Int) : okI (IntKind.i64.wrap x) := by
  rw [IntKind.wrap_i64]
  exact ⟨by omega, by omega⟩
theorem okI_wrap64 (x : Int) : okI (wrap64 x) := by
  unfold wrap64
  exact ⟨by omega, by omega⟩
theorem row_elem {F : Nat → Prop} {w : World} {v : Value} {l : List Int} (h : Row F w v l.length 1 (l.map I64)) (hwf : ∀ n ∈ l, (Lit.int .i64 n).wf = true) :
    ∃ A c, v = .slice A l.length c ∧ (0 < l.length → ∃ b off, A = some ⟨b, off, none⟩ ∧ ∀ j, j < l.length → w.cell? ⟨b, off + j, none⟩ = some (.int .i64 (l.getD j 0)) ∧ l.getD j 0 ∈ l ∧ okI (l.getD j 0)) := by
  obtain ⟨A, c, hv, hc⟩ := h.int'
  refine ⟨A, c, hv, fun h0 => ?_⟩
  obtain ⟨b, off, hA, _, hcc⟩ := hc h0
  refine ⟨b, off, hA, fun j hj => ?_⟩
  have hm : l.getD j 0 ∈ l := by simp [hj]
  exact ⟨hcc j hj, hm, okI.of (hwf _ hm)⟩
end Go.Proofs.Ythlgnilgjeebaaa

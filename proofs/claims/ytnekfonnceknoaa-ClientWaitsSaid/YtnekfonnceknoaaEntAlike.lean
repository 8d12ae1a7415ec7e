/- A verdict's cells. -/
import Derived.Test.YtnekfonnceknoaaMt
import Derived.Test.YtnekfonnceknoaaReqSame
namespace Go.Proofs.Ytnekfonnceknoaa
open Go.RowKit
def cmZ : Commit := ⟨0, 0, ByteArray.empty, []⟩
abbrev vdV (x : Verdict) (v : Value) : Value := .agg #[.int .i64 x.code, .int .i64 x.session, .int .i64 x.rev, .string x.path, .int .u64 x.digest, v, .int .i64 x.member]
def reqZ' : Req := ⟨0, ByteArray.empty, 0, 0, 0, ByteArray.empty, [], ByteArray.empty, 0, 0, 0⟩
theorem elem_cells7 {F : Nat → Prop} {w : World} {α : Type} {r : Rep α} {n : Nat} {v : Value} {l : List α} (h : Sl r w F v l) (hn : n = l.length) {i : Nat} {x : α} (hx : l[i]? = some x) : ∃ A c b off cs, v = .slice A n c ∧ A = some ⟨b, off, none⟩ ∧ r.cells w F x cs ∧ ∀ k u, cs[k]? = some u → w.cell? ⟨b, off + i * r.size + k, none⟩ = some u := by
  obtain ⟨A, c, rfl⟩ := h.shape
  obtain ⟨b, off, hA, hbl, cs, hcs, hcell⟩ := h.elem hx
  exact ⟨A, c, b, off, cs, by rw [hn], hA, hcs, hcell⟩
end Go.Proofs.Ytnekfonnceknoaa

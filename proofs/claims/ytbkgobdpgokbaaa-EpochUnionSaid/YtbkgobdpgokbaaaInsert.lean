/- slices.Insert of one number into a row of the call's own: out of the library's contracts. -/
import Derived.Shelf.Spec.SlicesInsert
import Derived.Shelf.Spec.SlicesInsertGrow
import Derived.Test.YtbkgobdpgokbaaaApp
import Derived.Test.YtbkgobdpgokbaaaProg
namespace Go.Proofs.Ytbkgobdpgokbaaa
open Go.RowKit Go.Shelf Go.Proofs
def insRen : Ren := ⟨fun | 21 => 37 | 27 => 49 | 28 => 50 | 35 => 57 | 39 => 68 | n => n, fun | 22 => 22 | 3 => 3 | 4 => 4 | 0 => 0 | n => n, fun | n => n⟩
theorem insLays : Lays2.n21 Try.prog insRen := {
  mixed := by kernel_rfl
  f21 := Try.func37.trans (congrArg some (by kernel_rfl))
  f27 := Try.func49.trans (congrArg some (by kernel_rfl))
  f28 := Try.func50.trans (congrArg some (by kernel_rfl))
  f35 := Try.func57.trans (congrArg some (by kernel_rfl))
  f39 := Try.func68.trans (congrArg some (by kernel_rfl))
  t0 := Try.underlying0
  a0 := Try.isAgg0
  z0 := Try.sizeOf0
  v0 := Try.zeroValue0
  t3 := Try.underlying3
  a3 := Try.isAgg3
  z3 := Try.sizeOf3
  v3 := Try.zeroValue3
  t4 := Try.underlying4
  a4 := Try.isAgg4
  z4 := Try.sizeOf4
  v4 := Try.zeroValue4
  t22 := Try.underlying22
  a22 := Try.isAgg22
  z22 := Try.sizeOf22
  v22 := Try.zeroValue22
  i3 := by kernel_rfl }
end Go.Proofs.Ytbkgobdpgokbaaa

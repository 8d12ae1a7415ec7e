/- wapentakelaw18.LeasePlays: the deeds' opening. (Begun.) -/
import Derived.Test.YtfaifokeenhfkaaOpenR
import Derived.Test.YtfaifokeenhfkaaProg
namespace Go.Proofs.Ytfaifokeenhfkaa
open Go.RowKit Go.ChangeShapes Go.WideShapes Go.ChangeAt
structure Deed where
  do_ : Int
  id : Int
  time : Int
  ballot : Int
def Rep.deed : Rep Deed := (Rep.pair Rep.int (Rep.pair Rep.int (Rep.pair Rep.int Rep.int))).as fun d => (d.do_, d.id, d.time, d.ballot)
theorem opens_int18 : Opens Try.prog Rep.int 3 := Opens.int Try.underlying3 (by kernel_rfl)
theorem opens_deed : Opens Try.prog Rep.deed 45 :=
  Opens.as (Opens.struct Try.underlying45 (by kernel_rfl) (.cons rfl opens_int18 (.cons rfl opens_int18 (.cons rfl opens_int18 (.one rfl opens_int18))))) _ (fun p => ⟨p.1, p.2.1, p.2.2.1, p.2.2.2⟩) (fun _ => rfl)
theorem opens_deeds : Opens Try.prog Rep.deed.slice 40 := Opens.slice Try.underlying40 (by kernel_rfl) opens_deed (by decide)
/-- A deed's cells. -/
theorem deed_cells {w : World} {F : Nat → Prop} {d : Deed} {cs : List Value} (h : Rep.deed.cells w F d cs) : cs = [.int .i64 d.do_, .int .i64 d.id, .int .i64 d.time, .int .i64 d.ballot] ∧ (-9223372036854775808 ≤ d.id ∧ d.id ≤ 9223372036854775807) ∧ (-9223372036854775808 ≤ d.time ∧ d.time ≤ 9223372036854775807) ∧ (-9223372036854775808 ≤ d.ballot ∧ d.ballot ≤ 9223372036854775807) := by
  obtain ⟨a, b, rfl, ⟨h1, _⟩, c, e, rfl, ⟨h3, h4⟩, f, g, rfl, ⟨h5, h6⟩, ⟨h7, h8⟩⟩ := h
  have h1 : a = [.int .i64 d.do_] := h1
  have h3 : c = [.int .i64 d.id] := h3
  have h5 : f = [.int .i64 d.time] := h5
  have h7 : g = [.int .i64 d.ballot] := h7
  subst h1 h3 h5 h7
  exact ⟨rfl, h4, h6, h8⟩
end Go.Proofs.Ytfaifokeenhfkaa

/- wapentakelaw7.Deed: how it opens. -/
import Derived.Test.YtbkgobdpgokbaaaOpenR
import Derived.Test.YtbkgobdpgokbaaaEpN
namespace Go.Proofs.Ytbkgobdpgokbaaa
open Go.RowKit Go.ChangeShapes Go.WideShapes Go.ChangeAt
structure EDeed where
  do_ : Int
  slot : Int
  mem : Int
  add : Bool
def Rep.edeed : Rep EDeed := (Rep.pair Rep.int (Rep.pair Rep.int (Rep.pair Rep.int Rep.bool))).as fun d => (d.do_, d.slot, d.mem, d.add)
theorem opens_int7 : Opens Try.prog Rep.int 3 := Opens.int Try.underlying3 (by kernel_rfl)
theorem opens_edeed : Opens Try.prog Rep.edeed 24 :=
  Opens.as (Opens.struct Try.underlying24 (by kernel_rfl) (.cons rfl opens_int7 (.cons rfl opens_int7 (.cons rfl opens_int7 (.one rfl (Opens.bool Try.underlying4 (by kernel_rfl))))))) _ (fun p => ⟨p.1, p.2.1, p.2.2.1, p.2.2.2⟩) (fun _ => rfl)
theorem opens_edeeds : Opens Try.prog Rep.edeed.slice 38 := Opens.slice Try.underlying38 (by kernel_rfl) opens_edeed (by decide)
def edeedCs (d : EDeed) : List Value := [.int .i64 d.do_, .int .i64 d.slot, .int .i64 d.mem, .bool d.add]
theorem edeed_cells {w : World} {F : Nat → Prop} {d : EDeed} {cs : List Value} (h : Rep.edeed.cells w F d cs) : cs = edeedCs d ∧ okI d.do_ ∧ okI d.slot ∧ okI d.mem := by
  obtain ⟨a, b, rfl, ⟨h1, h2⟩, c, e, rfl, ⟨h3, h4⟩, f, g, rfl, ⟨h5, h6⟩, h7⟩ := h
  have h1 : a = [.int .i64 d.do_] := h1
  have h3 : c = [.int .i64 d.slot] := h3
  have h5 : f = [.int .i64 d.mem] := h5
  have h7 : g = [.bool d.add] := h7
  subst h1 h3 h5 h7
  exact ⟨rfl, h2, h4, h6⟩
def EDeedIs (v : Value) (d : EDeed) : Prop := v = .agg (edeedCs d).toArray ∧ okI d.slot ∧ okI d.mem
theorem open_edeed {H : Type} {enc : TypeId × Value → H} {W : World} {base b : Nat} {held : Bool} {v : Value} {d : DataW H} {ps : List MemPlace}
    (_hv : Value.okWide Try.prog W .any b 24 v) (h : DataW.Trod enc Try.prog W base (fun _ => true) held 24 v d ps) : ∃ t, EDeedIs v t := by
  obtain ⟨fuel, hf⟩ := h
  obtain ⟨t, ht⟩ := opens_edeed.2 H enc W base held fuel _ _ hf
  obtain ⟨hcs, h1, h2, h3⟩ := edeed_cells ht
  refine ⟨t, ?_, h2, h3⟩
  cases v <;> simp [Value.cells, edeedCs] at hcs
  rename_i cs
  exact congrArg Value.agg (Array.ext' hcs)
end Go.Proofs.Ytbkgobdpgokbaaa

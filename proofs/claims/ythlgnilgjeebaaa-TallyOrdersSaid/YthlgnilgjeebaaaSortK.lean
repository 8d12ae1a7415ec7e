/- slices.Sorted(maps.Keys(m)) at a map keyed by numbers. -/
import Derived.Test.YthlgnilgjeebaaaKeysShelf
import Derived.Test.YthlgnilgjeebaaaMap
namespace Go.Proofs.Ythlgnilgjeebaaa
open Go.RowKit Go.Sort Go.Shelf
open Go.Maps (int_keyed keyOf_int_mk)
open Go.WideShapes (sorted_perm)

theorem sortsA (m : Nat) : AnyZI.SortsIn Try.prog Try.sortedA_ren Fence.wide m :=
  ⟨fun blk off cap ss W hH hblk hsz => callsIn_wide.2 (AnyM.slices_Sort_int Try.sortA blk off cap ss W hH hblk hsz),
   fun p cap W => callsIn_wide.2 (AnyM.slices_Sort_int_none Try.sortA p cap W)⟩
def anyR (_ : Value) : Option (DataW Unit × List MemPlace) := some (.nil, [])
/-- A map's keys in order. -/
def keysS {α : Type} (l : List (Int × α)) : List Int := (l.map Prod.fst).mergeSort leI
section
variable {α : Type} {E : World → α → Value → Prop} {w W : World} {b : Nat} {l : List (Int × α)} {P : Program} {K : TypeId}
theorem keysS_length (l : List (Int × α)) : (keysS l).length = l.length := by rw [keysS, List.length_mergeSort, List.length_map]
theorem MapI.owns (hK : P.underlying K = some (.int .i64)) (h : MapI E w b l) (hl : l.length ≤ maxLen) :
    ∃ D0 : DataW Unit, w.ownsMap P K anyR b l.length D0 ∧ Maps.size D0 = l.length ∧ (intKeys D0).Perm (l.map Prod.fst) := by
  obtain ⟨es, clock, h1, h2, h3, h4, h5⟩ := h
  have hent : ∀ (i : Nat) (p : Int × α), l[i]? = some p → ∃ x, es[i]? = some x ∧ Go.WideElems.rd P K anyR x = some (.int .i64 p.1, .nil) := fun i p hp => by
    obtain ⟨e, q1, q2, q3, q4⟩ := h5 i p hp
    exact ⟨e, q1, by simp [Go.WideElems.rd, q2, keyOf_int_mk hK q3, anyR]⟩
  refine ⟨_, ⟨es, clock, h1, ⟨by omega, h2, fun x hx => ?_⟩, by omega, rfl⟩, ?_, ?_⟩
  · obtain ⟨i, hi⟩ := List.getElem?_of_mem hx
    have hil : i < l.length := by have := (List.getElem?_eq_some_iff.1 hi).1; simp at this; omega
    obtain ⟨x', q1, q2⟩ := hent i _ (List.getElem?_eq_getElem hil)
    rw [Array.getElem?_toList, q1] at hi
    obtain rfl := Option.some.inj hi
    exact ⟨_, q2⟩
  · simp [Maps.size, length_sorted, h3]
  · show ((((es.toList.map (Go.WideElems.rg P K anyR)).foldr DataW.insert []).map fun p => Go.intOf p.1)).Perm _
    refine (List.Perm.map _ (sorted_perm _)).trans (List.Perm.of_eq ?_)
    rw [List.map_map]
    apply List.ext_getElem?
    intro i
    rw [List.getElem?_map, List.getElem?_map, Array.getElem?_toList]
    cases hp : l[i]? with
    | none =>
      have : l.length ≤ i := by simpa using hp
      rw [Array.getElem?_eq_none (by omega)]
      rfl
    | some p =>
      obtain ⟨x, q1, q2⟩ := hent i p hp
      rw [q1]
      simp [Go.WideElems.rg_of q2, Go.intOf]
theorem keysF_calls (mb : Option Nat) (w : World) : Calls Try.prog 50 #[.map mb] w fun e w' =>
    e = .returned (.func (.func 65) #[] #[.pointer (some ⟨w.heap.size, 0, none⟩)]) ∧ w' = w.alloc (.cells #[.map mb] 59) :=
  (callsIn_wide (n := 5)).1 (AnyZI.keys_in Try.keysA Fence.wide 5 trivial rfl mb w)
theorem sortedF_calls (h : MapI E W b l) (hl : l.length ≤ 1000000) {Bm : Nat} (hm : W.cell? ⟨Bm, 0, none⟩ = some (.map (some b))) :
    Calls Try.prog 49 #[.func (.func 65) #[] #[.pointer (some ⟨Bm, 0, none⟩)]] W fun e w' =>
      ∃ v, e = .returned v ∧ w'.ownsRow W.heap.size 3 1 v l.length ((keysS l).map encZ) ∧ Below W.heap.size W w' := by
  obtain ⟨D0, hown, hsz, hperm⟩ := h.owns (P := Try.prog) Try.underlying3 (by unfold maxLen; omega)
  have hBm := World.block_lt_of_cell? _ _ hm
  have hseq : SeqGives Fence.wide 2 Try.prog 65 #[.pointer (some ⟨Bm, 0, none⟩)] encZ (fun ss => ss.Perm (intKeys D0)) (Maps.size D0) W :=
    AnyZI.keys_gives (ρ := Try.keysA_ren) { Try.keysA with } Fence.wide _ trivial rfl (by omega) Bm b l.length D0 _ hBm hm hown
  have cS := AnyZI.sorted_in Try.sortedA Fence.wide 5 trivial trivial trivial trivial rfl (by omega) (sortsA _) (enters_of Try.func64 (by kernel_rfl) rfl) 65 #[.pointer (some ⟨Bm, 0, none⟩)] trivial
    (enters_of Try.func65 (by kernel_rfl) rfl) _ _ (by rw [hsz]; unfold maxLen; omega) (by rw [hsz]; omega) _ hseq
  refine ((callsIn_wide (n := 5)).1 cS).mono ?_
  rintro e w' ⟨v, ss, rfl, hS, hrow, _, hb⟩
  have hp := hS.trans hperm
  have e1 : ss.mergeSort (fun x y => decide (x ≤ y)) = keysS l := mergeSort_of_perm_i hp
  have e2 : ss.length = l.length := by rw [hp.length_eq, List.length_map]
  rw [e1, e2] at hrow
  exact ⟨v, rfl, hrow, hb⟩
end
end Go.Proofs.Ythlgnilgjeebaaa

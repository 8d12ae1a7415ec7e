/- A select of one case with a default, as one region of a walk. -/
import Derived.Test.YtiomeoihekifeaaMem
import Derived.Conc.LoneSelect
import Derived.Tactics
namespace Go.Proofs.Ytiomeoihekifeaa
open Go.RowKit Go.Conc
section
variable {P : Program} {Q : Exit → Act → World → Prop} {a : Act} {w w' : World} {o : Oper} {l : List Oper} {id : Nat} {cases : Array CommCase} {v : Value}
theorem wp_region_comm (hgd : o.guard = none) (hx : (execOp a.eval o).run P w = .ok (.comm cases false .select) w)
    (hstep : ∀ (fr : Frame) (cs : List Frame) (es : Array Event), stepG P true (G fr cs) w = .comm (G fr cs) cases false .select w es → step P (solo (G fr cs) w) = .next (solo (G (fr.finish v) cs) w'))
    (h : wpList P (o :: l).toArray Q l (a.put o.dst v) w') : (Code.region id (o :: l).toArray false).wp P Q a w := by
  intro b k cs
  have hr : List.range (o :: l).toArray.size = 0 :: List.range' 1 l.length := by
    simp [List.range_eq_range', List.range'_succ]
  have h1 := step_region (P := P) (b := b) (a := a) (k := k) (cs := cs) (w := w) (ops := (o :: l).toArray) (id := id)
  rw [hr] at h1
  have hw : Region.wanted o (yielded (o :: l).toArray a.tmps) = true := by simp [Region.wanted, hgd]
  have ho : (o :: l).toArray[0]? = some o := rfl
  have hg := stepG_op (P := P) (b := b) (k := k) (cs := cs) (w := w) (a := a) (rest := List.range' 1 l.length) ho hw
  have hrT : ∃ es, (execOp a.eval o).runT P w #[] = (.ok (.comm cases false .select) w, es) := by
    have := Sem.runT_eq P (execOp a.eval o) w #[]
    rw [hx] at this
    exact ⟨_, this⟩
  obtain ⟨es, hes⟩ := hrT
  have hcomm : ∃ es', stepG P true (G (b.at a (.inRegion (o :: l).toArray (0 :: List.range' 1 l.length) :: k)) cs) w = .comm (G (b.at a (.inRegion (o :: l).toArray (0 :: List.range' 1 l.length) :: k)) cs) cases false .select w es' := by
    simp only [stepG.apply, if_true, hes, GStep.after] at hg
    exact ⟨_, hg⟩
  obtain ⟨es', hes'⟩ := hcomm
  have h2 := hstep _ _ _ hes'
  rw [Frame.finish_at, ho] at h2
  have h3 : wpOps P (o :: l).toArray Q (List.range' 1 l.length) (a.put o.dst v) w' := by
    rw [wpOps_eq_wpList l 1 (fun j => by rw [Nat.add_comm]; simp)]
    exact h
  obtain ⟨e, a', w'', hq, harr⟩ := wp_ops _ _ _ h3 b k cs
  exact ⟨e, a', w'', hq, .of_steps (.one h1) (.of_steps (.one h2) harr)⟩
theorem keep_setChan (w : World) (c cap : Nat) (buf : Array Value) (cl : Bool) (s r : Nat) (tm : Bool) : Keep (fun k => k = c) w (w.setChan c cap buf cl s r tm) :=
  ⟨rfl, rfl, rfl, by simp [World.setChan], fun k _ hk => by simp only [World.setChan]; rw [Array.getElem?_setIfInBounds_ne (fun e => hk e.symm)]⟩
variable {c cap s r : Nat} {buf : Array Value} {z : Value} {tm : Bool}
theorem wp_send_room (hgd : o.guard = none) {x : Value} (hx : (execOp a.eval o).run P w = .ok (.comm #[scase c x z] false .select) w) (hb : w.heap[c]? = some (.chan cap buf false s r tm)) (hroom : buf.size < cap)
    (h : ∀ w', w'.heap[c]? = some (.chan cap (buf.push x) false (s + 1) r tm) → Keep (fun k => k = c) w w' → w'.heap.size = w.heap.size → wpList P (o :: l).toArray Q l (a.put o.dst (.tuple #[goInt 0, .bool false])) w') : (Code.region id (o :: l).toArray false).wp P Q a w :=
  wp_region_comm hgd hx (fun _ _ _ hs => step_lone_select_send_room hs hb hroom) (h _ (heap_setChan _ _ _ _ _ _ _ _ (lt_heap hb)) (keep_setChan _ _ _ _ _ _ _ _) (size_setChan _ _ _ _ _ _ _ _))
theorem wp_send_full (hgd : o.guard = none) {x : Value} (hx : (execOp a.eval o).run P w = .ok (.comm #[scase c x z] false .select) w) (hb : w.heap[c]? = some (.chan cap buf false s r tm)) (hfull : cap ≤ buf.size)
    (h : wpList P (o :: l).toArray Q l (a.put o.dst (.tuple #[goInt (-1), .bool false])) w) : (Code.region id (o :: l).toArray false).wp P Q a w :=
  wp_region_comm hgd hx (fun _ _ _ hs => step_lone_select_send_full hs hb hfull) h
theorem wp_recv_some (hgd : o.guard = none) (hx : (execOp a.eval o).run P w = .ok (.comm #[rcase c z] false .select) w) (hb : w.heap[c]? = some (.chan cap buf false s r tm)) (hsome : 0 < buf.size)
    (h : ∀ w', w'.heap[c]? = some (.chan cap (buf.extract 1 buf.size) false s (r + 1) tm) → Keep (fun k => k = c) w w' → w'.heap.size = w.heap.size → wpList P (o :: l).toArray Q l (a.put o.dst (.tuple #[goInt 0, .bool true, buf.getD 0 undef])) w') : (Code.region id (o :: l).toArray false).wp P Q a w :=
  wp_region_comm hgd hx (fun _ _ _ hs => step_lone_select_recv_buf hs hb hsome) (h _ (heap_setChan _ _ _ _ _ _ _ _ (lt_heap hb)) (keep_setChan _ _ _ _ _ _ _ _) (size_setChan _ _ _ _ _ _ _ _))
theorem wp_recv_none (hgd : o.guard = none) (hx : (execOp a.eval o).run P w = .ok (.comm #[rcase c z] false .select) w) (hb : w.heap[c]? = some (.chan cap #[] false s r tm))
    (h : wpList P (o :: l).toArray Q l (a.put o.dst (.tuple #[goInt (-1), .bool false, z])) w) : (Code.region id (o :: l).toArray false).wp P Q a w :=
  wp_region_comm hgd hx (fun _ _ _ hs => step_lone_select_default hs hb) h
end
end Go.Proofs.Ytiomeoihekifeaa

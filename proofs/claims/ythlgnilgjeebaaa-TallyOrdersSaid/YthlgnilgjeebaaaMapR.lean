/- Ranging over a map keyed by numbers: each pair comes once. -/
import Derived.Test.YthlgnilgjeebaaaMap
import Derived.Maps.Range
namespace Go.Proofs.Ythlgnilgjeebaaa
open Go.RowKit Go.MapKept
open Go.ChangeMaps (setBlock)

/-- Block r ranges over the map of block b; the keys of dn have come. -/
def ItI {α : Type} (E : World → α → Value → Prop) (w : World) (b r : Nat) (l : List (Int × α)) (dn : List Int) : Prop :=
  ∃ (es : Array MapEntry) (clock since : Nat) (seen : Array Nat) (c0 : Nat), w.heap[b]? = some (.map es clock) ∧ Stamped es clock ∧ es.size = l.length ∧ (l.map Prod.fst).Nodup ∧
    (∀ (i : Nat) (p : Int × α), l[i]? = some p → ∃ e : MapEntry, es[i]? = some e ∧ e.key = .int .i64 p.1 ∧ (Lit.int .i64 p.1).wf = true ∧ E w p.2 e.val) ∧
    w.heap[r]? = some (.mapIter (some b) since seen c0) ∧ (∀ x ∈ es.toList, x.born < since) ∧ since ≤ c0 ∧ since ≤ clock ∧
    (∀ (i : Nat) (p : Int × α) (e : MapEntry), l[i]? = some p → es[i]? = some e → (seen.contains e.born = true ↔ p.1 ∈ dn)) ∧ dn.Nodup ∧ ∀ k ∈ dn, ∃ a, (k, a) ∈ l
section
variable {α : Type} {E : World → α → Value → Prop} {w w' : World} {b r : Nat} {l : List (Int × α)} {dn : List Int} {P : Program}
theorem ItI.map (h : ItI E w b r l dn) : MapI E w b l := by
  obtain ⟨es, clock, since, seen, c0, h1, h2, h3, h4, h5, _⟩ := h
  exact ⟨es, clock, h1, h2, h3, h4, h5⟩
theorem ItI.ne (h : ItI E w b r l dn) : r ≠ b := by
  obtain ⟨es, clock, since, seen, c0, h1, h2, h3, h4, h5, h6, _⟩ := h
  intro e; rw [e, h1] at h6; cases h6
theorem ItI.lt (h : ItI E w b r l dn) : r < w.heap.size := by
  obtain ⟨es, clock, since, seen, c0, h1, h2, h3, h4, h5, h6, _⟩ := h
  exact lt_heap h6
theorem ItI.keep {S : Nat → Prop} (h : ItI E w b r l dn) (hk : Keep S w w') (hb : ¬ S b) (hr : ¬ S r) (hE : ∀ a v, E w a v → E w' a v) : ItI E w' b r l dn := by
  obtain ⟨es, clock, since, seen, c0, h1, h2, h3, h4, h5, h6, rest⟩ := h
  refine ⟨es, clock, since, seen, c0, hk.heap h1 hb, h2, h3, h4, fun i p hp => ?_, hk.heap h6 hr, rest⟩
  obtain ⟨e, q1, q2, q3, q4⟩ := h5 i p hp
  exact ⟨e, q1, q2, q3, hE _ _ q4⟩
theorem left_keep {S : Nat → Prop} (h : ItI E w b r l dn) (hk : Keep S w w') (hb : ¬ S b) (hr : ¬ S r) : w'.rangeLeft b r = w.rangeLeft b r := by
  obtain ⟨es, clock, since, seen, c0, h1, h2, h3, h4, h5, h6, rest⟩ := h
  simp only [World.rangeLeft, h1, h6, hk.heap h1 hb, hk.heap h6 hr]
theorem MapI.range {t k e : TypeId} (h : MapI E w b l) (ht : P.underlying t = some (.map k e)) (hE : ∀ o a v, E w a v → E (w.alloc o) a v) :
    ∃ w', (Instr.range t (.map (some b))).run P w = .ok (.pointer (some ⟨w.heap.size, 0, none⟩)) w' ∧ ItI E w' b w.heap.size l [] ∧ Keep (fun _ => False) w w' ∧ w'.heap.size = w.heap.size + 1 := by
  have hlt := h.lt
  obtain ⟨es, clock, h1, h2, h3, h4, h5⟩ := h
  refine ⟨_, run_range_map w t k e b es clock ht h1, ⟨es, clock, clock, #[], clock, heap_alloc h1 _, h2, h3, h4, fun i p hp => ?_, heap_alloc_new w _, h2.1, Nat.le_refl _, Nat.le_refl _, fun i p e _ _ => by simp, by simp, by simp⟩, (Keep.refl _ w).alloc _, by simp⟩
  obtain ⟨e, q1, q2, q3, q4⟩ := h5 i p hp
  exact ⟨e, q1, q2, q3, hE _ _ _ q4⟩
theorem heap_setB {w : World} {r : Nat} {o o' : Obj} (h : w.heap[r]? = some o) : (setBlock w r o').heap[r]? = some o' := by
  simp only [setBlock]
  rw [Array.getElem?_setIfInBounds_self_of_lt (lt_heap h)]
theorem keep_setB {w : World} {r : Nat} {o' : Obj} : Keep (fun k => k = r) w (setBlock w r o') :=
  ⟨rfl, rfl, rfl, by simp [setBlock], fun i _ hi => by simp only [setBlock]; rw [Array.getElem?_setIfInBounds_ne (fun e => hi e.symm)]⟩
/-- The step. -/
theorem ItI.next (h : ItI E w b r l dn) (hE : ∀ w', Keep (fun k => k = r) w w' → ∀ a v, E w a v → E w' a v) (ty : TypeId) :
    ((∀ p ∈ l, p.1 ∈ dn) ∧ (Instr.next (.pointer (some ⟨r, 0, none⟩)) false ty).run P w = .ok (.tuple #[.bool false]) w) ∨
    ∃ k a v w', (k, a) ∈ l ∧ k ∉ dn ∧ (Lit.int .i64 k).wf = true ∧ E w' a v ∧ (Instr.next (.pointer (some ⟨r, 0, none⟩)) false ty).run P w = .ok (.tuple #[.bool true, .int .i64 k, v]) w' ∧ ItI E w' b r l (k :: dn) ∧ Keep (fun q => q = r) w w' ∧
      w'.rangeLeft b r < w.rangeLeft b r ∧ (Instr.entry (.pointer (some ⟨r, 0, none⟩))).run P w' = .ok (.tuple #[.int .i64 k, v]) w' ∧ w'.heap.size = w.heap.size := by
  have hne := h.ne
  obtain ⟨es, clock, since, seen, c0, h1, h2, h3, h4, h5, h6, h7, h8, h9, h10, h11, h12⟩ := h
  have hst := (stamped_iff es clock).1 h2
  rcases run_next_at (P := P) w ty r b since c0 seen es clock h6 h1 h7 h8 with ⟨q0, hrun⟩ | ⟨e, he, w1, hal, hrun⟩
  · refine .inl ⟨fun p hp => ?_, hrun⟩
    obtain ⟨i, hi⟩ := List.getElem?_of_mem hp
    obtain ⟨e, r1, r2, r3, r4⟩ := h5 i p hi
    refine (h10 i p e hi r1).1 ?_
    have hm : e ∈ es.toList := by rw [← Array.getElem?_toList] at r1; exact List.mem_of_getElem? r1
    have := all_seen es seen q0 e hm
    simpa using this
  · obtain ⟨hem, hes⟩ := mem_left he
    obtain ⟨i, hi⟩ := List.getElem?_of_mem hem
    rw [Array.getElem?_toList] at hi
    have hil : i < l.length := by rw [← h3]; exact (Array.getElem?_eq_some_iff.1 hi).1
    obtain ⟨e', r1, r2, r3, r4⟩ := h5 i l[i] (List.getElem?_eq_getElem hil)
    rw [hi] at r1
    obtain rfl := Option.some.inj r1
    have hr1 : w1.heap[r]? = some (.mapIter (some b) since seen c0) := by rcases hal with rfl | rfl <;> exact h6
    have hb1 : w1.heap[b]? = some (.map es clock) := by rcases hal with rfl | rfl <;> exact h1
    have hk1 : Keep (fun q => q = r) w w1 := by rcases hal with rfl | rfl; exact Keep.refl _ _; exact (Keep.refl _ _).drew
    have hk2 : Keep (fun q => q = r) w (setBlock w1 r (.mapIter (some b) since (seen.push e.born) clock)) := hk1.trans keep_setB (fun _ _ e => e)
    have hb2 : (setBlock w1 r (.mapIter (some b) since (seen.push e.born) clock)).heap[b]? = some (.map es clock) := (keep_setB (w := w1)).heap hb1 (fun e => hne e.symm)
    have hr2 : (setBlock w1 r (.mapIter (some b) since (seen.push e.born) clock)).heap[r]? = some (.mapIter (some b) since (seen.push e.born) clock) := heap_setB hr1
    have hnd : l[i].1 ∉ dn := fun hm => by
      have := (h10 i l[i] e (List.getElem?_eq_getElem hil) hi).2 hm
      rw [hes] at this; cases this
    refine .inr ⟨l[i].1, l[i].2, e.val, _, List.getElem_mem hil, hnd, r3, hE _ hk2 _ _ r4, by rw [hrun, r2], ⟨es, clock, since, seen.push e.born, clock, hb2, h2, h3, h4, fun j p hp => ?_, hr2, h7, h9, h9, fun j p x hp hx => ?_, ?_, ?_⟩, hk2, ?_, ?_, ?_⟩
    · obtain ⟨x, y1, y2, y3, y4⟩ := h5 j p hp
      exact ⟨x, y1, y2, y3, hE _ hk2 _ _ y4⟩
    · rw [contains_push, Bool.or_eq_true, h10 j p x hp hx, List.mem_cons]
      constructor
      · rintro (q | q)
        · exact .inr q
        · left
          simp only [beq_iff_eq] at q
          have hxm : x ∈ es.toList := by rw [← Array.getElem?_toList] at hx; exact List.mem_of_getElem? hx
          have := born_inj hst.2.1 hxm hem (by first | exact q | exact q.symm)
          subst this
          obtain ⟨x', y1, y2, _⟩ := h5 j p hp
          rw [hx] at y1
          obtain rfl := Option.some.inj y1
          rw [r2] at y2
          simpa using y2.symm
      · rintro (q | q)
        · right
          have hj : j = i := by
            have hjl := (List.getElem?_eq_some_iff.1 hp).1
            have e1 : (l.map Prod.fst)[j]? = some p.1 := by rw [List.getElem?_map, hp]; rfl
            have e2 : (l.map Prod.fst)[i]? = some p.1 := by rw [List.getElem?_map, List.getElem?_eq_getElem hil, q]; rfl
            exact (List.getElem?_inj (by simpa using hjl) h4).1 (e1.trans e2.symm)
          subst hj
          rw [hi] at hx
          obtain rfl := Option.some.inj hx
          simp
        · exact .inl q
    · exact List.nodup_cons.2 ⟨hnd, h11⟩
    · intro k hk
      rcases List.mem_cons.1 hk with rfl | hk
      · exact ⟨l[i].2, List.getElem_mem hil⟩
      · exact h12 k hk
    · simp only [World.rangeLeft, h1, h6, hb2, hr2]
      exact left_shrinks es seen e he
    · rw [run_entry_at _ r b since seen es clock e hr2 hb2 hem hst.2.1, r2]
    · rcases hal with rfl | rfl <;> simp [setBlock]
theorem wpl_range {ops : Array Oper} {rest : List Oper} {o : Oper} {a : Act} {Q : Exit → Act → World → Prop} (hg : o.guard = none) {m : Operand} {t k e : TypeId} (hop : o.op = Op.range t m) (ht : P.underlying t = some (.map k e))
    (hm : a.eval m = .map (some b)) (h : MapI E w b l) (hE : ∀ o a v, E w a v → E (w.alloc o) a v)
    (hK : ∀ g w', g = w.heap.size → ItI E w' b g l [] → Keep (fun _ => False) w w' → w'.heap.size = g + 1 → wpList P ops Q rest (a.put o.dst (.pointer (some ⟨g, 0, none⟩))) w') : wpList P ops Q (o :: rest) a w := by
  refine wpList_plain hg fun K' hK' => ?_
  obtain ⟨w', hrun, r1, r2, r3⟩ := h.range (P := P) ht hE
  unfold Oper.wp
  simp [execOp, hop, hm, hrun, Result.andThen]
  exact hK' _ _ (hK _ w' rfl r1 r2 r3)
theorem wpl_next {ops : Array Oper} {rest : List Oper} {o : Oper} {a : Act} {Q : Exit → Act → World → Prop} (hg : o.guard = none) {it : Operand} (hop : o.op = Op.next it false) (hit : a.eval it = .pointer (some ⟨r, 0, none⟩))
    (h : ItI E w b r l dn) (hE : ∀ w', Keep (fun k => k = r) w w' → ∀ a v, E w a v → E w' a v)
    (hDone : (∀ p ∈ l, p.1 ∈ dn) → wpList P ops Q rest (a.put o.dst (.tuple #[.bool false])) w)
    (hMore : ∀ k x v w', (k, x) ∈ l → k ∉ dn → (Lit.int .i64 k).wf = true → E w' x v → ItI E w' b r l (k :: dn) → Keep (fun q => q = r) w w' → w'.rangeLeft b r < w.rangeLeft b r → (Instr.entry (.pointer (some ⟨r, 0, none⟩))).run P w' = .ok (.tuple #[.int .i64 k, v]) w' → w'.heap.size = w.heap.size →
      wpList P ops Q rest (a.put o.dst (.tuple #[.bool true, .int .i64 k, v])) w') : wpList P ops Q (o :: rest) a w := by
  refine wpList_plain hg fun K' hK' => ?_
  unfold Oper.wp
  rcases h.next (P := P) hE o.type with ⟨h1, hrun⟩ | ⟨k, x, v, w', q1, q2, q3, q4, hrun, q5, q6, q7, q8, q9⟩
  · simp [execOp, hop, hit, hrun, Result.andThen]
    exact hK' _ _ (hDone h1)
  · simp [execOp, hop, hit, hrun, Result.andThen]
    exact hK' _ _ (hMore k x v w' q1 q2 q3 q4 q5 q6 q7 q8 q9)
end
end Go.Proofs.Ythlgnilgjeebaaa

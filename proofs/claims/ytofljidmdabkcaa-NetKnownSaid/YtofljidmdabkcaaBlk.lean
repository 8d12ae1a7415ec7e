/- Blocks that are known whole: loads, stores, new blocks; the world behind is abstract. -/
import Derived.Test.YtofljidmdabkcaaApp
import Derived.Deep.MidRow
namespace Go.Proofs.Ytofljidmdabkcaa
open Go.RowKit Go.Lib

/-- Cells are laid into a block from a place on. -/
def spl (C : Array Value) (o : Nat) (vs : List Value) : Array Value := (C.toList.take o ++ vs ++ C.toList.drop (o + vs.length)).toArray
theorem spl_size (C : Array Value) (o : Nat) (vs : List Value) (h : o + vs.length ≤ C.size) : (spl C o vs).size = C.size := by
  simp only [spl, List.size_toArray, List.length_append, List.length_take, List.length_drop, Array.length_toList]; omega
theorem spl_list (C : Array Value) (o : Nat) (vs : List Value) : (spl C o vs).toList = C.toList.take o ++ vs ++ C.toList.drop (o + vs.length) := by simp [spl]

theorem spl_whole (C : Array Value) (vs : List Value) (h : C.size ≤ vs.length) : spl C 0 vs = vs.toArray := by
  simp only [spl, List.take_zero, List.nil_append, Nat.zero_add]
  rw [List.drop_of_length_le (by simpa using h), List.append_nil]
theorem keep_setRow (w : World) (b : Nat) (C : Array Value) : Keep (fun k => k = b) w (w.setRow b C) :=
  ⟨rfl, rfl, rfl, by simp, fun k _ hk => setRow_other w b k _ (fun e => hk (by first | exact e | exact e.symm))⟩

section
variable {P : Program} {ops : Array Oper} {rest : List Oper} {op : Oper} {a : Act} {w : World} {Q : Exit → Act → World → Prop} {ty e : TypeId} {x y : Operand} {b o n : Nat} {C : Array Value}
/-- A struct's cells are loaded. -/
theorem wpl_loadA {fz : Nat × Nat} (hgd : op.guard = none) (ho : op.op = .load ty x) (hx : a.eval x = .pointer (some ⟨b, o, none⟩)) (hb : w.heap[b]? = some (.cells C e fz))
    (hd : (P.underlying ty).map TypeDesc.isRow = some true) (hi : (P.info? ty).map (·.size) = some n) (vs : List Value) (hvs : (C.toList.drop o).take n = vs) (hn : vs.length = n)
    (h : wpList P ops Q rest (a.put op.dst (.agg vs.toArray)) w) : wpList P ops Q (op :: rest) a w := by
  obtain ⟨d, hu, hd⟩ : ∃ d, P.underlying ty = some d ∧ d.isRow = true := by
    cases hq : P.underlying ty with
    | none => simp [hq] at hd
    | some d => exact ⟨d, rfl, by simpa [hq] using hd⟩
  refine wpList_load_mid hgd ty x ho b o hx vs d (fun j v hv => ?_) hu hd (by rw [hi, hn]) h
  rw [cell_of_row w b (o + j) C e fz hb]
  rw [← hvs, List.getElem?_take] at hv
  split at hv
  · rw [List.getElem?_drop] at hv
    simpa using hv
  · cases hv
/-- One cell is loaded. -/
theorem wpl_load1 {fz : Nat × Nat} (hgd : op.guard = none) (ho : op.op = .load ty x) (hx : a.eval x = .pointer (some ⟨b, o, none⟩)) (hb : w.heap[b]? = some (.cells C e fz))
    (hd : (P.underlying ty).map TypeDesc.isRow = some false) {v : Value} (hv : C[o]? = some v)
    (h : wpList P ops Q rest (a.put op.dst v) w) : wpList P ops Q (op :: rest) a w := by
  obtain ⟨d, hu, hd⟩ : ∃ d, P.underlying ty = some d ∧ d.isRow = false := by
    cases hq : P.underlying ty with
    | none => simp [hq] at hd
    | some d => exact ⟨d, rfl, by simpa [hq] using hd⟩
  have hagg : (isAgg ty).run P w = .ok false w := by
    unfold isAgg
    rw [Sem.run_bind, run_underlying hu w]
    cases d <;> simp_all
  have hc : w.cell? ⟨b, o, none⟩ = some v := by rw [cell_of_row w b o C e fz hb, hv]
  refine wpList_plain hgd fun _ hK => ?_
  unfold Oper.wp execOp
  simp only [ho, hx, Instr.loadAt, Instr.sureAddr, Sem.run_bind, Sem.run_pure, Result.andThen_ok, loadVar, hagg, Bool.false_eq_true, if_false, run_load, hc]
  exact hK _ _ h
/-- A value is stored. -/
theorem wpl_storeB (hgd : op.guard = none) (ho : op.op = .store ty x y) (hx : a.eval x = .pointer (some ⟨b, o, none⟩)) {v : Value} (hy : a.eval y = v) (hb : w.heap[b]? = some (.cells C e))
    (hi : (P.info? ty).map (·.size) = some v.cells.size) (hn : o + v.cells.size ≤ C.size) (h1 : ∀ u ∈ v.cells.toList, u.oneCell' = true)
    (h : ∀ w', w'.heap[b]? = some (.cells (spl C o v.cells.toList) e) → Keep (fun k => k = b) w w' → w'.heap.size = w.heap.size → wpList P ops Q rest (a.put op.dst undef) w') : wpList P ops Q (op :: rest) a w := by
  have hst := run_storeCells_at P b o e v.cells.toList 0 C w hb (by simpa using hn) h1
  have hr : (storeVar ty ⟨b, o, none⟩ v).run P w = .ok () (w.setRow b (spl C o v.cells.toList)) := by
    cases hq : P.info? ty with
    | none => simp [hq] at hi
    | some i =>
      have hs : i.size = v.cells.size := by simpa [hq] using hi
      simp only [Nat.add_zero] at hst
      simp [storeVar, sizeOf, typeInfo, hq, hs, hst, spl]
  refine wpList_plain hgd fun _ hK => ?_
  unfold Oper.wp execOp
  simp only [ho, hx, hy, Instr.storeAt, Instr.sureAddr, Sem.run_bind, Sem.run_pure, Result.andThen_ok, hr]
  exact hK _ _ (h _ (setRow_heap w b C _ e _ hb) (keep_setRow w b _) (by simp))
/-- A new block. -/
theorem wpl_allocB (hgd : op.guard = none) (ho : op.op = .alloc ty) {z : Value} (hi : (P.info? ty).map (·.zero) = some (some z))
    (h : ∀ g w', g = w.heap.size → w'.heap[g]? = some (.cells z.cells ty) → Keep (fun _ => False) w w' → w'.heap.size = g + 1 → wpList P ops Q rest (a.put op.dst (.pointer (some ⟨g, 0, none⟩))) w') : wpList P ops Q (op :: rest) a w := by
  refine wpList_plain hgd fun _ hK => ?_
  cases hq : P.info? ty with
  | none => simp [hq] at hi
  | some i =>
    have hz : i.zero = some z := by simpa [hq] using hi
    unfold Oper.wp execOp
    simp [ho, go_sem, zeroValue, typeInfo, hq, hz]
    exact hK _ _ (h _ _ rfl (heap_alloc_new w _) ((Keep.refl _ w).alloc _) (by simp))
/-- A value is laid into a new block. -/
theorem wpl_boxB (hgd : op.guard = none) (ho : op.op = .box ty x) {v : Value} (hx : a.eval x = v)
    (h : ∀ g w', g = w.heap.size → w'.heap[g]? = some (.cells v.cells ty) → Keep (fun _ => False) w w' → w'.heap.size = g + 1 → wpList P ops Q rest (a.put op.dst (.pointer (some ⟨g, 0, none⟩))) w') : wpList P ops Q (op :: rest) a w := by
  have hr : (Instr.box ty v).run P w = .ok (.pointer (some ⟨w.heap.size, 0, none⟩)) (w.alloc (.cells v.cells ty)) := by
    simp [Instr.box, go_sem]
  refine wpList_plain hgd fun _ hK => ?_
  unfold Oper.wp execOp
  simp only [ho, hx, Sem.run_bind, Sem.run_pure, Result.andThen_ok, hr]
  exact hK _ _ (h _ _ rfl (heap_alloc_new w _) ((Keep.refl _ w).alloc _) (by simp))
end
theorem fill_size : ∀ (vs : List Value) (k : Nat) (C : Array Value), ((vs.zipIdx k).foldl (fun cs x => cs.setIfInBounds x.2 x.1) C).size = C.size
  | [], _, _ => rfl
  | v :: r, k, C => by rw [List.zipIdx_cons, List.foldl_cons, fill_size r (k + 1)]; simp
theorem fill_get : ∀ (vs : List Value) (k : Nat) (C : Array Value) (i : Nat), k + vs.length ≤ C.size → ((vs.zipIdx k).foldl (fun cs x => cs.setIfInBounds x.2 x.1) C)[i]? = if i < k then C[i]? else if i < k + vs.length then vs[i - k]? else C[i]?
  | [], k, C, i, _ => by simp only [List.zipIdx_nil, List.foldl_nil, List.length_nil, Nat.add_zero]; split <;> simp
  | v :: r, k, C, i, h => by
    simp only [List.length_cons] at h
    rw [List.zipIdx_cons, List.foldl_cons, fill_get r (k + 1) _ i (by simp; omega)]
    simp only [Array.getElem?_setIfInBounds]
    by_cases h1 : i < k
    · rw [if_pos (by omega), if_neg (by omega), if_pos h1]
    · rw [if_neg h1]
      by_cases h2 : i = k
      · subst h2
        have hi : i < C.size := by omega
        simp [hi]
      · rw [if_neg (by omega)]
        by_cases h3 : i < k + 1 + r.length
        · rw [if_pos h3, if_pos (by simp only [List.length_cons]; omega), show i - k = (i - (k + 1)) + 1 by omega, List.getElem?_cons_succ]
        · rw [if_neg h3, if_neg (by omega), if_neg (by simp only [List.length_cons]; omega)]
theorem fill_whole (vs : List Value) (C : Array Value) (h : C.size = vs.length) : (vs.zipIdx.foldl (fun cs x => cs.setIfInBounds x.2 x.1) C) = vs.toArray := by
  apply Array.ext_getElem?
  intro i
  rw [fill_get vs 0 C i (by omega)]
  by_cases h1 : i < vs.length
  · simp [h1]
  · simp [h1]; omega
/-- A slice of one element. -/
theorem wpl_sliceOne {P : Program} {ops : Array Oper} {rest : List Oper} {op : Oper} {a : Act} {w : World} {Q : Exit → Act → World → Prop} {ty e : TypeId} {x : Operand} {n : Nat} (hgd : op.guard = none) (ho : op.op = .buildSlice ty 1 #[(0, x)]) (ht : P.underlying ty = some (.slice e)) {z v : Value}
    (hi : (P.info? e).map (fun i => (i.zero, i.size)) = some (some z, n)) (hn0 : 0 < n) (hn : n ≤ 16777216) (hx : a.eval x = v) (hv : v.cells.size = n)
    (h : ∀ g w', g = w.heap.size → w'.heap[g]? = some (.cells v.cells e) → Keep (fun _ => False) w w' → w'.heap.size = g + 1 → wpList P ops Q rest (a.put op.dst (.slice (some ⟨g, 0, none⟩) 1 1)) w') : wpList P ops Q (op :: rest) a w := by
  have hr : (Instr.buildSlice ty 1 #[(0, v)]).run P w = .ok (.slice (some ⟨w.heap.size, 0, none⟩) 1 1) (w.alloc (.cells v.cells e)) := by
    cases hq : P.info? e with
    | none => simp [hq] at hi
    | some i =>
      simp [hq] at hi
      obtain ⟨h1, h2⟩ := hi
      have hc : (v.cells.zipIdx.foldl (fun cs x => cs.setIfInBounds x.2 x.1) ((Array.range n).map (z.cells[· % z.cells.size]!))) = v.cells := by
        have := fill_whole v.cells.toList ((Array.range n).map (z.cells[· % z.cells.size]!)) (by simp [hv])
        rw [Array.toArray_toList] at this
        refine Eq.trans ?_ this
        rw [← Array.foldl_toList, Array.toList_zipIdx]
      have hn1 : ¬ (16777216 < n) := by omega
      have hn2 : ¬ (n = 0) := by omega
      have hf : Instr.fill (fun i => some (i * n, n)) ((Array.range n).map (z.cells[· % z.cells.size]!)) [(0, v)] = some v.cells := by
        unfold Instr.fill
        simp only [Nat.zero_mul, Nat.zero_add, hv, Array.size_map, Array.size_range]
        simp only [ne_eq, not_true_eq_false, Nat.lt_irrefl, gt_iff_lt, decide_false, Bool.or_self, Bool.false_eq_true, if_false, Instr.fill]
        exact congrArg some hc
      simp [Instr.buildSlice, run_underlying ht, sizeOf, typeInfo, hq, zeroValue, h1, h2, hn1, hn2, hf, newRow]
  refine wpList_plain hgd fun _ hK => ?_
  unfold Oper.wp execOp
  simp only [ho, List.map_toArray, List.map_cons, List.map_nil, hx, Sem.run_bind, Sem.run_pure, Result.andThen_ok, hr]
  exact hK _ _ (h _ _ rfl (heap_alloc_new w _) ((Keep.refl _ w).alloc _) (by simp))
/-- The result lies in a cell of its own. -/
theorem res_cell {P : Program} {fn : Func} {p : Tmp} {ty : TypeId} (h : fn.results = #[.cell p ty]) (tmps : Array Value) {w : World} {g : Nat} {t : TypeId} {cs : Array Value} {fr : Nat × Nat}
    (hp : tmps.getD p undef = .pointer (some ⟨g, 0, none⟩)) (hg : w.heap[g]? = some (.cells cs t fr))
    (hd : (P.underlying ty).map TypeDesc.isRow = some true) (hi : (P.info? ty).map (·.size) = some cs.size) :
    (results fn tmps).run P w = .ok (.agg cs) w := by
  obtain ⟨d, hu, hd⟩ : ∃ d, P.underlying ty = some d ∧ d.isRow = true := by
    cases hq : P.underlying ty with
    | none => simp [hq] at hd
    | some d => exact ⟨d, rfl, by simpa [hq] using hd⟩
  exact results_cell_row h tmps w g t cs fr d hp hg hu (by cases d <;> simp_all) hi
/-- Two results, the first one in a cell. -/
theorem res_cell_tmp {P : Program} {fn : Func} {p u : Tmp} {ty : TypeId} (h : fn.results = #[.cell p ty, .tmp u]) (tmps : Array Value) {w : World} {g : Nat} {t : TypeId} {cs : Array Value} {fr : Nat × Nat} {v : Value}
    (hp : tmps.getD p undef = .pointer (some ⟨g, 0, none⟩)) (hu' : tmps.getD u undef = v) (hg : w.heap[g]? = some (.cells cs t fr))
    (hd : (P.underlying ty).map TypeDesc.isRow = some true) (hi : (P.info? ty).map (·.size) = some cs.size) :
    (results fn tmps).run P w = .ok (.tuple #[.agg cs, v]) w := by
  obtain ⟨d, hu, hd⟩ : ∃ d, P.underlying ty = some d ∧ d.isRow = true := by
    cases hq : P.underlying ty with
    | none => simp [hq] at hd
    | some d => exact ⟨d, rfl, by simpa [hq] using hd⟩
  rw [results_cell_tmp h, hp, hu']
  simp [asAddr, run_loadVar_row w g t ty cs fr d hg hu (by cases d <;> simp_all) hi, Result.andThen]
end Go.Proofs.Ytofljidmdabkcaa

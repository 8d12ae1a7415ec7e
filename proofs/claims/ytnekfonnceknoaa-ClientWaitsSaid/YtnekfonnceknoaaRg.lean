/- A region that draws its order, walked by hand: what is loaded is taken first, though an operation behind all loads of it writes there; laws for one operation at a time. No function of the program is named here. What is loaded in a region that draws its order, as what is taken first. No function of the program is named here. A region that draws its order, walked by hand, once more: an operation keeps what holds, where it holds. No function of the program is named here. A closure of one argument that holds one thing is called in a region that draws its order. -/
import Derived.Test.YtnekfonnceknoaaMt
import Derived.Deep.RegionHeld3
import Derived.Deep.RegionLaw
import Derived.Shelf.Abstract
namespace Go.Proofs.Ytnekfonnceknoaa
open Go.RowKit Go.Lib
section
variable {P : Program} {ops : Array Oper} {Q : Exit → Act → World → Prop} {md : Region.Mode} {S : World → Prop} {X : List Nat}
/-- Whatever order is picked, and S holds behind every operation that is carried out, but those of X. -/
def wpAnyX (P : Program) (md : Region.Mode) (ops : Array Oper) (Q : Exit → Act → World → Prop) (S : World → Prop) (X : List Nat) : Nat → Array Bool → Act → World → Prop
  | 0, listed, a, w => Region.ready md ops listed = [] ∧ Q .normal a w
  | fuel + 1, listed, a, w =>
    (Region.ready md ops listed = [] → Q .normal a w) ∧
    ∀ i ∈ Region.ready md ops listed, wpOp P ops Q i (fun a' w' => (X.contains i = false → S w') ∧ wpAnyX P md ops Q S X fuel (listed.setIfInBounds i true) a' w') a w
theorem wpAny_of_X : ∀ (fuel : Nat) (listed : Array Bool) (a : Act) (w : World), wpAnyX P md ops Q S X fuel listed a w → wpAny P md ops Q fuel listed a w
  | 0, _, _, _, h => h
  | fuel + 1, _, _, _, h => ⟨h.1, fun i hi => wpOp_mono (fun a' w' h' => wpAny_of_X fuel _ a' w' h'.2) (h.2 i hi)⟩
/-- All of X waits for i, by way of E. -/
def waitsB (md : Region.Mode) (ops : Array Oper) (listed : Array Bool) (i : Nat) (X E : List Nat) : Bool :=
  X.all (fun j => E.contains j) && E.all fun j => !listed.getD j true && match ops[j]? with
    | some o => o.after.any fun e => Region.binds md e && (e.on == i || E.contains e.on)
    | none => true
theorem wpAnyX_first {i : Nat} {oi : Oper} {v : Value} {E : List Nat} (hi : ops[i]? = some oi) (hsel : ∀ (j : Nat) (o : Oper) cs b, ops[j]? = some o → o.op ≠ .select cs b)
    (hQ : ∀ c a w, Q (.panic c) (a.put oi.dst v) w → Q (.panic c) a w) (hXE : ∀ j, X.contains j = true → E.contains j = true)
    (hE : ∀ j o, E.contains j = true → ops[j]? = some o → ∃ e ∈ o.after, Region.binds md e = true ∧ (e.on = i ∨ E.contains e.on = true)) :
    ∀ (fuel : Nat) (listed : Array Bool) (a : Act) (w : World),
      (∀ j oj, ops[j]? = some oj → j ≠ i → listed.getD j true = false → (∀ e ∈ oj.after, Region.binds md e = true → e.on ≠ i) → oi.apart ops oj = true) →
      (∀ j, E.contains j = true → listed.getD j true = false) →
      i ∈ Region.ready md ops listed → YieldsIf P ops S oi v a → S w →
      wpAnyX P md ops Q S X fuel (listed.setIfInBounds i true) (a.put oi.dst v) w → wpAnyX P md ops Q S X (fuel + 1) listed a w := by
  intro fuel
  induction fuel with
  | zero =>
    intro listed a w _ _ hr hy hS H
    refine ⟨fun h => (by rw [h] at hr; cases hr), fun j hj => ?_⟩
    by_cases hji : j = i
    · subst hji; exact hy.wpOp hi hS ⟨fun _ => hS, H⟩
    · have := ready_mono hj hji
      rw [H.1] at this
      cases this
  | succ fuel ih =>
    intro listed a w hfree hun hr hy hS H
    refine ⟨fun h => (by rw [h] at hr; cases hr), fun j hj => ?_⟩
    by_cases hji : j = i
    · subst hji; exact hy.wpOp hi hS ⟨fun _ => hS, H⟩
    · have h1 := H.2 j (ready_mono hj hji)
      obtain ⟨hjun, oj, hoj, hall⟩ := mem_ready.1 hj
      have h0 := (mem_ready.1 hr).1
      have hoff : ∀ k, listed.getD k true = false → listed.getD k false = true → False := fun k p q => by
        rcases Nat.lt_or_ge k listed.size with h' | h'
        · simp [h'] at p q; rw [p] at q; cases q
        · simp [Array.getElem?_eq_none h'] at q
      have hnot : ∀ e ∈ oj.after, Region.binds md e = true → e.on ≠ i := fun e he hb heq => hoff i h0 (heq ▸ hall e he hb)
      have hjE : E.contains j = false := by
        cases hc : E.contains j
        · rfl
        · obtain ⟨e, he, hb, h | h⟩ := hE j oj hc hoj
          · exact absurd h (hnot e he hb)
          · exact (hoff _ (hun _ h) (hall e he hb)).elim
      have hjX : X.contains j = false := by
        cases hc : X.contains j
        · rfl
        · rw [hXE j hc] at hjE; cases hjE
      have h2 := wpOp_putIf hoj (hfree j oj hoj hji hjun hnot) (fun cs b => hsel i oi cs b hi) (fun cs b => hsel j oj cs b hoj) hQ hy h1
      have hfree' : ∀ k ok, ops[k]? = some ok → k ≠ i → (listed.setIfInBounds j true).getD k true = false →
          (∀ e ∈ ok.after, Region.binds md e = true → e.on ≠ i) → oi.apart ops ok = true := fun k ok hk hki hun hno => by
        refine hfree k ok hk hki ?_ hno
        by_cases hjk : j = k
        · subst hjk; exact hjun
        · rw [getD_set_ne true hjk] at hun; exact hun
      have hun' : ∀ k, E.contains k = true → (listed.setIfInBounds j true).getD k true = false := fun k hk => by
        have hjk : j ≠ k := fun e => by subst e; rw [hk] at hjE; cases hjE
        rw [getD_set_ne true hjk]
        exact hun k hk
      refine wpOp_mono (fun a' w' h3 => ⟨h3.2.1, ih (listed.setIfInBounds j true) a' w' hfree' hun' (ready_mono hr (Ne.symm hji)) h3.1 (h3.2.1 hjX) ?_⟩) h2
      rw [Array.setIfInBounds_comm _ _ hji]
      exact h3.2.2
/-- Number i is taken first. -/
theorem wpAnyX_take {i : Nat} (E : List Nat) (d : Option Tmp) {oi : Oper} {v : Value} {fuel : Nat} {listed : Array Bool} {a : Act} {w : World} (hi : ops[i]? = some oi) (hd : oi.dst = d)
    (hs : Region.noSelect ops = true) (hf : Region.free md ops listed i = true) (hr : (Region.ready md ops listed).contains i = true) (hw : waitsB md ops listed i X E = true)
    (hQ : ∀ c a w, Q (.panic c) (a.put oi.dst v) w → Q (.panic c) a w) (hy : YieldsIf P ops S oi v a) (hS : S w)
    (h : wpAnyX P md ops Q S X fuel (listed.setIfInBounds i true) (a.put d v) w) : wpAnyX P md ops Q S X (fuel + 1) listed a w := by
  subst hd
  simp only [waitsB, Bool.and_eq_true, List.all_eq_true] at hw
  refine wpAnyX_first (E := E) hi (Region.noSelect_spec hs) hQ (fun j hj => hw.1 j (by simpa using hj)) (fun j o hj ho => ?_) fuel listed a w (Region.free_spec hi hf) (fun j hj => ?_) (by simpa using hr) hy hS h
  · have := (hw.2 j (by simpa using hj)).2
    rw [ho] at this
    obtain ⟨e, he, hb⟩ := Array.any_eq_true'.1 this
    simp only [Bool.and_eq_true, Bool.or_eq_true, beq_iff_eq] at hb
    exact ⟨e, he, hb.1, hb.2⟩
  · simpa using (hw.2 j (by simpa using hj)).1
/-- One alone may come up; behind it S holds. -/
theorem wpAnyX_one {i : Nat} {o : Oper} {fuel : Nat} {listed : Array Bool} {a : Act} {w : World} (hr : Region.ready md ops listed = [i]) (ho : ops[i]? = some o)
    (h : ∀ K' : Act → World → Prop, (∀ a w, S w → wpAnyX P md ops Q S X fuel (listed.setIfInBounds i true) a w → K' a w) → if Region.wanted o (yielded ops a.tmps) = true then Oper.wp P o a w K' Q else K' (a.put o.dst undef) w) :
    wpAnyX P md ops Q S X (fuel + 1) listed a w :=
  ⟨fun h0 => absurd (hr.symm.trans h0) (by simp), fun j hj => by
    rw [hr, List.mem_singleton] at hj
    subst hj
    exact wpOp_step ho (fun K' hK => h K' (fun a w hS hW => hK a w ⟨fun _ => hS, hW⟩))⟩
/-- One alone may come up; it is of X. -/
theorem wpAnyX_oneX {i : Nat} {o : Oper} {fuel : Nat} {listed : Array Bool} {a : Act} {w : World} (hr : Region.ready md ops listed = [i]) (ho : ops[i]? = some o) (hX : X.contains i = true)
    (h : ∀ K' : Act → World → Prop, (∀ a w, wpAnyX P md ops Q S X fuel (listed.setIfInBounds i true) a w → K' a w) → if Region.wanted o (yielded ops a.tmps) = true then Oper.wp P o a w K' Q else K' (a.put o.dst undef) w) :
    wpAnyX P md ops Q S X (fuel + 1) listed a w :=
  ⟨fun h0 => absurd (hr.symm.trans h0) (by simp), fun j hj => by
    rw [hr, List.mem_singleton] at hj
    subst hj
    exact wpOp_step ho (fun K' hK => h K' (fun a w hW => hK a w ⟨fun h => absurd (hX.symm.trans h) (by simp), hW⟩))⟩
theorem wpAnyX_done {listed : Array Bool} {a : Act} {w : World} (hr : Region.ready md ops listed = []) (h : Q .normal a w) : ∀ fuel, wpAnyX P md ops Q S X fuel listed a w
  | 0 => ⟨hr, h⟩
  | _ + 1 => ⟨fun _ => h, by rw [hr]; simp⟩
theorem wp_region_X {id : Nat} {a : Act} {w : World} (S : World → Prop) (X : List Nat) (hm : P.follows .mixedOrders = true) (hS : S w.drew)
    (h : S w.drew → wpAnyX P .any ops Q S X ops.size (Array.replicate ops.size false) a w.drew) : (Code.region id ops true).wp P Q a w :=
  wp_region_any hm (wpAny_of_X _ _ _ _ (h hS))
end
section
variable {P : Program} {ops : Array Oper} {Q : Exit → Act → World → Prop} {o : Oper} {a : Act} {w : World} {K : Act → World → Prop} {E : Prop}
/-- A call as one step. -/
theorem step_call (d : Option Tmp) (hd : o.dst = d) {f : FuncId} {args : Array Operand} {ts : Array TypeId} (hgw : Region.wanted o (yielded ops a.tmps) = true)
    (ho : o.op = .call { callee := .value (.func f), args := args, argTypes := ts }) (eg : ∀ args w, (callFunc f args).run P w = .ok (.enter f args) w) {vs : List Value} (hx : args.toList.map a.eval = vs) {R : Value → World → Prop}
    (hc : Calls P f vs.toArray w fun e w' => ∃ u, e = .returned u ∧ R u w') (h : ∀ u w', R u w' → K (a.put d u) w') :
    if Region.wanted o (yielded ops a.tmps) = true then Oper.wp P o a w K Q else E := by
  subst hd
  rw [if_pos hgw]
  unfold Oper.wp execOp
  have hx2 : args.map a.eval = vs.toArray := by rw [← hx, ← Array.toList_map, Array.toArray_toList]
  have key : ∀ (q : Array Value), q = args.map a.eval → Calls P f q w fun e w' => match e, w' with
      | .returned v, w'' => K (a.put o.dst v) w''
      | .panicked chain, w'' => Q (Exit.panic chain) a w''
      | .outgrown, _ => LetsOut Q := fun q hq => by
    subst hq
    rw [hx2]
    refine hc.mono ?_
    rintro e w' ⟨u, rfl, hr⟩
    exact h u w' hr
  simp [ho, resolve, invoke, eg, go_sem]
  exact key _ rfl
theorem step_alloc (d : Option Tmp) (hd : o.dst = d) {ty : TypeId} (hgw : Region.wanted o (yielded ops a.tmps) = true) (ho : o.op = .alloc ty) {z : Value} (hi : (P.info? ty).map (·.zero) = some (some z))
    (h : ∀ g w', g = w.heap.size → w'.heap[g]? = some (.cells z.cells ty) → Keep (fun _ => False) w w' → w'.heap.size = g + 1 → K (a.put d (.pointer (some ⟨g, 0, none⟩))) w') :
    if Region.wanted o (yielded ops a.tmps) = true then Oper.wp P o a w K Q else E := by
  subst hd
  rw [if_pos hgw]
  cases hq : P.info? ty with
  | none => simp [hq] at hi
  | some i =>
    have hz : i.zero = some z := by simpa [hq] using hi
    unfold Oper.wp execOp
    simp [ho, go_sem, zeroValue, typeInfo, hq, hz]
    exact h _ _ rfl (heap_alloc_new w _) ((Keep.refl _ w).alloc _) (by simp)
theorem step_box (d : Option Tmp) (hd : o.dst = d) {ty : TypeId} {x : Operand} (hgw : Region.wanted o (yielded ops a.tmps) = true) (ho : o.op = .box ty x) {v : Value} (hx : a.eval x = v)
    (h : ∀ g w', g = w.heap.size → w'.heap[g]? = some (.cells v.cells ty) → Keep (fun _ => False) w w' → w'.heap.size = g + 1 → K (a.put d (.pointer (some ⟨g, 0, none⟩))) w') :
    if Region.wanted o (yielded ops a.tmps) = true then Oper.wp P o a w K Q else E := by
  subst hd
  rw [if_pos hgw]
  have hr : (Instr.box ty v).run P w = .ok (.pointer (some ⟨w.heap.size, 0, none⟩)) (w.alloc (.cells v.cells ty)) := by
    simp [Instr.box, go_sem]
  unfold Oper.wp execOp
  simp only [ho, hx, Sem.run_bind, Sem.run_pure, Result.andThen_ok, hr]
  exact h _ _ rfl (heap_alloc_new w _) ((Keep.refl _ w).alloc _) (by simp)
theorem step_store (d : Option Tmp) (hd : o.dst = d) {ty e : TypeId} {x y : Operand} {b off : Nat} {C : Array Value} (hgw : Region.wanted o (yielded ops a.tmps) = true) (ho : o.op = .store ty x y) (hx : a.eval x = .pointer (some ⟨b, off, none⟩)) {v : Value} (hy : a.eval y = v) (hb : w.heap[b]? = some (.cells C e))
    (hi : (P.info? ty).map (·.size) = some v.cells.size) (hn : off + v.cells.size ≤ C.size) (h1 : ∀ u ∈ v.cells.toList, u.oneCell' = true)
    (h : ∀ w', w'.heap[b]? = some (.cells (spl C off v.cells.toList) e) → Keep (fun k => k = b) w w' → w'.heap.size = w.heap.size → K (a.put d undef) w') :
    if Region.wanted o (yielded ops a.tmps) = true then Oper.wp P o a w K Q else E := by
  subst hd
  rw [if_pos hgw]
  have hst := run_storeCells_at P b off e v.cells.toList 0 C w hb (by simpa using hn) h1
  have hr : (storeVar ty ⟨b, off, none⟩ v).run P w = .ok () (w.setRow b (spl C off v.cells.toList)) := by
    cases hq : P.info? ty with
    | none => simp [hq] at hi
    | some i =>
      have hs : i.size = v.cells.size := by simpa [hq] using hi
      simp only [Nat.add_zero] at hst
      simp [storeVar, sizeOf, typeInfo, hq, hs, hst, spl]
  unfold Oper.wp execOp
  simp only [ho, hx, hy, Instr.storeAt, Instr.sureAddr, Sem.run_bind, Sem.run_pure, Result.andThen_ok, hr]
  exact h _ (setRow_heap w b C _ e _ hb) (keep_setRow w b _) (by simp)
theorem step_sliceOne (d : Option Tmp) (hd : o.dst = d) {ty e : TypeId} {x : Operand} {n : Nat} (hgw : Region.wanted o (yielded ops a.tmps) = true) (ho : o.op = .buildSlice ty 1 #[(0, x)]) (ht : P.underlying ty = some (.slice e)) {z v : Value}
    (hi : (P.info? e).map (fun i => (i.zero, i.size)) = some (some z, n)) (hn0 : 0 < n) (hn : n ≤ 16777216) (hx : a.eval x = v) (hv : v.cells.size = n)
    (h : ∀ g w', g = w.heap.size → w'.heap[g]? = some (.cells v.cells e) → Keep (fun _ => False) w w' → w'.heap.size = g + 1 → K (a.put d (.slice (some ⟨g, 0, none⟩) 1 1)) w') :
    if Region.wanted o (yielded ops a.tmps) = true then Oper.wp P o a w K Q else E := by
  subst hd
  rw [if_pos hgw]
  have hr : (Instr.buildSlice ty 1 #[(0, v)]).run P w = .ok (.slice (some ⟨w.heap.size, 0, none⟩) 1 1) (w.alloc (.cells v.cells e)) := by
    cases hq : P.info? e with
    | none => simp [hq] at hi
    | some i =>
      simp [hq] at hi
      obtain ⟨h1, h2⟩ := hi
      have hc : (v.cells.zipIdx.foldl (fun cs x => cs.setIfInBounds x.2 x.1) ((Array.range n).map (z.cells[· % z.cells.size]!))) = v.cells := by
        have := fill_whole v.cells.toList ((Array.range n).map (z.cells[· % z.cells.size]!)) (by simp [hv])
        rw [Array.toArray_toList] at this
        refine Eq.trans ?_ this
        rw [← Array.foldl_toList, Array.toList_zipIdx]
      have hn1 : ¬ (16777216 < n) := by omega
      have hn2 : ¬ (n = 0) := by omega
      have hf : Instr.fill (fun i => some (i * n, n)) ((Array.range n).map (z.cells[· % z.cells.size]!)) [(0, v)] = some v.cells := by
        unfold Instr.fill
        simp only [Nat.zero_mul, Nat.zero_add, hv, Array.size_map, Array.size_range]
        simp only [ne_eq, not_true_eq_false, Nat.lt_irrefl, gt_iff_lt, decide_false, Bool.or_self, Bool.false_eq_true, if_false, Instr.fill]
        exact congrArg some hc
      simp [Instr.buildSlice, run_underlying ht, sizeOf, typeInfo, hq, zeroValue, h1, h2, hn1, hn2, hf, newRow]
  unfold Oper.wp execOp
  simp only [ho, List.map_toArray, List.map_cons, List.map_nil, hx, Sem.run_bind, Sem.run_pure, Result.andThen_ok, hr]
  exact h _ _ rfl (heap_alloc_new w _) ((Keep.refl _ w).alloc _) (by simp)
theorem step_appW (d : Option Tmp) (hd : o.dst = d) {s x : Operand} {t e : TypeId} (hgw : Region.wanted o (yielded ops a.tmps) = true)
    (ho : o.op = .call { callee := .builtin .append, args := #[s, x], argTypes := #[t, t] }) {z : Value} {size bytes : Nat} (T : SlT P t e z size bytes)
    {v : Value} {n : Nat} {xs : List Value} (hs : a.eval s = v) (hown : w.ownsRow 0 e size v n xs)
    {G : Nat → Prop} {src : Value} {m : Nat} {news : List Value} (hx : a.eval x = src) (hsrc : Row G w src m size news) (h1 : ∀ u ∈ news, u.oneCell' = true)
    (hb : (n + m) * bytes ≤ 140737488355328) (h63 : n + m ≤ 140737488355328)
    (h : ∀ A c w', w'.ownsRow 0 e size (.slice A (n + m) c) (n + m) (xs ++ news) → Keep (fun k => some k = v.ownBlock) w w' → SameOrNew w v (.slice A (n + m) c) → K (a.put d (.slice A (n + m) c)) w') :
    if Region.wanted o (yielded ops a.tmps) = true then Oper.wp P o a w K Q else E := by
  subst hd
  rw [if_pos hgw]
  obtain ⟨v', w', hr, h2, h3, h4⟩ := run_app (P := P) T o.type hown hsrc h1 hb h63
  unfold Oper.wp execOp
  simp only [ho, resolve, invoke, builtin, Sem.run_bind, Sem.run_pure, Result.andThen_ok, List.map_toArray, List.map_cons, List.map_nil, hs, hx, hr]
  obtain ⟨A, c, rfl⟩ := own_slice h2
  exact h A c w' h2 h3 h4
end
end Go.Proofs.Ytnekfonnceknoaa
namespace Go.Proofs.Ytnekfonnceknoaa
open Go.RowKit Go.Lib
section
variable {P : Program} {ops : Array Oper} {o : Oper} {a : Act} {S : World → Prop} {ty : TypeId} {x : Operand} {b off n : Nat}
/-- What a load yields in every world of S. -/
theorem yieldsIf_cell {v : Value} (hw : Region.wanted o (yielded ops a.tmps) = true) (ho : o.op = .load ty x) (hx : a.eval x = .pointer (some ⟨b, off, none⟩)) (hd : (P.underlying ty).map TypeDesc.isRow = some false)
    (hS : ∀ w, S w → w.cell? ⟨b, off, none⟩ = some v) : YieldsIf P ops S o v a := .inl ⟨hw, fun w hs => by
  obtain ⟨d, hu, hd⟩ : ∃ d, P.underlying ty = some d ∧ d.isRow = false := by
    cases hq : P.underlying ty with
    | none => simp [hq] at hd
    | some d => exact ⟨d, rfl, by simpa [hq] using hd⟩
  have hagg : (isAgg ty).run P w = .ok false w := by
    unfold isAgg
    rw [Sem.run_bind, run_underlying hu w]
    cases d <;> simp_all
  unfold execOp
  simp only [ho, hx, Instr.loadAt, Instr.sureAddr, Sem.run_bind, Sem.run_pure, Result.andThen_ok, loadVar, hagg, Bool.false_eq_true, if_false, run_load, hS w hs]⟩
theorem yieldsIf_row {vs : List Value} (hw : Region.wanted o (yielded ops a.tmps) = true) (ho : o.op = .load ty x) (hx : a.eval x = .pointer (some ⟨b, off, none⟩)) (hd : (P.underlying ty).map TypeDesc.isRow = some true)
    (hi : (P.info? ty).map (·.size) = some n) (hn : vs.length = n) (hS : ∀ w, S w → w.rangeAt b off vs) : YieldsIf P ops S o (.agg vs.toArray) a := by
  obtain ⟨d, hu, hd⟩ : ∃ d, P.underlying ty = some d ∧ d.isRow = true := by
    cases hq : P.underlying ty with
    | none => simp [hq] at hd
    | some d => exact ⟨d, rfl, by simpa [hq] using hd⟩
  exact yieldsIf_load_mid hw ty x ho b off hx vs d hS hu hd (by rw [hi, hn])
theorem range_of {w : World} {b o n : Nat} {C : Array Value} {e : TypeId} {fz : Nat × Nat} (h : w.heap[b]? = some (.cells C e fz)) (vs : List Value) (hvs : (C.toList.drop o).take n = vs) : w.rangeAt b o vs := fun j v hv => by
  rw [cell_of_row w b (o + j) C e fz h]
  rw [← hvs, List.getElem?_take] at hv
  split at hv
  · rw [List.getElem?_drop] at hv
    simpa using hv
  · cases hv
end
end Go.Proofs.Ytnekfonnceknoaa
namespace Go.Proofs.Ytnekfonnceknoaa
open Go.RowKit Go.Lib
section
variable {P : Program} {ops : Array Oper} {Q : Exit → Act → World → Prop} {md : Region.Mode} {S : World → Prop} {X : List Nat}
/-- Whatever order is picked, and S, where it holds, holds behind every operation that is carried out, but those of X. -/
def wpAnyY (P : Program) (md : Region.Mode) (ops : Array Oper) (Q : Exit → Act → World → Prop) (S : World → Prop) (X : List Nat) : Nat → Array Bool → Act → World → Prop
  | 0, listed, a, w => Region.ready md ops listed = [] ∧ Q .normal a w
  | fuel + 1, listed, a, w =>
    (Region.ready md ops listed = [] → Q .normal a w) ∧
    ∀ i ∈ Region.ready md ops listed, wpOp P ops Q i (fun a' w' => (X.contains i = false → S w → S w') ∧ wpAnyY P md ops Q S X fuel (listed.setIfInBounds i true) a' w') a w
theorem wpAny_of_Y : ∀ (fuel : Nat) (listed : Array Bool) (a : Act) (w : World), wpAnyY P md ops Q S X fuel listed a w → wpAny P md ops Q fuel listed a w
  | 0, _, _, _, h => h
  | fuel + 1, _, _, _, h => ⟨h.1, fun i hi => wpOp_mono (fun a' w' h' => wpAny_of_Y fuel _ a' w' h'.2) (h.2 i hi)⟩
theorem wpAnyY_first {i : Nat} {oi : Oper} {v : Value} {E : List Nat} (hi : ops[i]? = some oi) (hsel : ∀ (j : Nat) (o : Oper) cs b, ops[j]? = some o → o.op ≠ .select cs b)
    (hQ : ∀ c a w, Q (.panic c) (a.put oi.dst v) w → Q (.panic c) a w) (hXE : ∀ j, X.contains j = true → E.contains j = true)
    (hE : ∀ j o, E.contains j = true → ops[j]? = some o → ∃ e ∈ o.after, Region.binds md e = true ∧ (e.on = i ∨ E.contains e.on = true)) :
    ∀ (fuel : Nat) (listed : Array Bool) (a : Act) (w : World),
      (∀ j oj, ops[j]? = some oj → j ≠ i → listed.getD j true = false → (∀ e ∈ oj.after, Region.binds md e = true → e.on ≠ i) → oi.apart ops oj = true) →
      (∀ j, E.contains j = true → listed.getD j true = false) →
      i ∈ Region.ready md ops listed → YieldsIf P ops S oi v a → S w →
      wpAnyY P md ops Q S X fuel (listed.setIfInBounds i true) (a.put oi.dst v) w → wpAnyY P md ops Q S X (fuel + 1) listed a w := by
  intro fuel
  induction fuel with
  | zero =>
    intro listed a w _ _ hr hy hS H
    refine ⟨fun h => (by rw [h] at hr; cases hr), fun j hj => ?_⟩
    by_cases hji : j = i
    · subst hji; exact hy.wpOp hi hS ⟨fun _ h => h, H⟩
    · have := ready_mono hj hji
      rw [H.1] at this
      cases this
  | succ fuel ih =>
    intro listed a w hfree hun hr hy hS H
    refine ⟨fun h => (by rw [h] at hr; cases hr), fun j hj => ?_⟩
    by_cases hji : j = i
    · subst hji; exact hy.wpOp hi hS ⟨fun _ h => h, H⟩
    · have h1 := H.2 j (ready_mono hj hji)
      obtain ⟨hjun, oj, hoj, hall⟩ := mem_ready.1 hj
      have h0 := (mem_ready.1 hr).1
      have hoff : ∀ k, listed.getD k true = false → listed.getD k false = true → False := fun k p q => by
        rcases Nat.lt_or_ge k listed.size with h' | h'
        · simp [h'] at p q; rw [p] at q; cases q
        · simp [Array.getElem?_eq_none h'] at q
      have hnot : ∀ e ∈ oj.after, Region.binds md e = true → e.on ≠ i := fun e he hb heq => hoff i h0 (heq ▸ hall e he hb)
      have hjE : E.contains j = false := by
        cases hc : E.contains j
        · rfl
        · obtain ⟨e, he, hb, h | h⟩ := hE j oj hc hoj
          · exact absurd h (hnot e he hb)
          · exact (hoff _ (hun _ h) (hall e he hb)).elim
      have hjX : X.contains j = false := by
        cases hc : X.contains j
        · rfl
        · rw [hXE j hc] at hjE; cases hjE
      have h2 := wpOp_putIf hoj (hfree j oj hoj hji hjun hnot) (fun cs b => hsel i oi cs b hi) (fun cs b => hsel j oj cs b hoj) hQ hy h1
      have hfree' : ∀ k ok, ops[k]? = some ok → k ≠ i → (listed.setIfInBounds j true).getD k true = false →
          (∀ e ∈ ok.after, Region.binds md e = true → e.on ≠ i) → oi.apart ops ok = true := fun k ok hk hki hun hno => by
        refine hfree k ok hk hki ?_ hno
        by_cases hjk : j = k
        · subst hjk; exact hjun
        · rw [getD_set_ne true hjk] at hun; exact hun
      have hun' : ∀ k, E.contains k = true → (listed.setIfInBounds j true).getD k true = false := fun k hk => by
        have hjk : j ≠ k := fun e => by subst e; rw [hk] at hjE; cases hjE
        rw [getD_set_ne true hjk]
        exact hun k hk
      refine wpOp_mono (fun a' w' h3 => ⟨h3.2.1, ih (listed.setIfInBounds j true) a' w' hfree' hun' (ready_mono hr (Ne.symm hji)) h3.1 (h3.2.1 hjX hS) ?_⟩) h2
      rw [Array.setIfInBounds_comm _ _ hji]
      exact h3.2.2
/-- Number i is taken first. -/
theorem wpAnyY_take {i : Nat} (E : List Nat) (d : Option Tmp) {oi : Oper} {v : Value} {fuel : Nat} {listed : Array Bool} {a : Act} {w : World} (hi : ops[i]? = some oi) (hd : oi.dst = d)
    (hs : Region.noSelect ops = true) (hf : Region.free md ops listed i = true) (hr : (Region.ready md ops listed).contains i = true) (hw : waitsB md ops listed i X E = true)
    (hQ : ∀ c a w, Q (.panic c) (a.put oi.dst v) w → Q (.panic c) a w) (hy : YieldsIf P ops S oi v a) (hS : S w)
    (h : wpAnyY P md ops Q S X fuel (listed.setIfInBounds i true) (a.put d v) w) : wpAnyY P md ops Q S X (fuel + 1) listed a w := by
  subst hd
  simp only [waitsB, Bool.and_eq_true, List.all_eq_true] at hw
  refine wpAnyY_first (E := E) hi (Region.noSelect_spec hs) hQ (fun j hj => hw.1 j (by simpa using hj)) (fun j o hj ho => ?_) fuel listed a w (Region.free_spec hi hf) (fun j hj => ?_) (by simpa using hr) hy hS h
  · have := (hw.2 j (by simpa using hj)).2
    rw [ho] at this
    obtain ⟨e, he, hb⟩ := Array.any_eq_true'.1 this
    simp only [Bool.and_eq_true, Bool.or_eq_true, beq_iff_eq] at hb
    exact ⟨e, he, hb.1, hb.2⟩
  · simpa using (hw.2 j (by simpa using hj)).1
theorem wpAnyY_firstW {i : Nat} {oi : Oper} {v : Value} (hi : ops[i]? = some oi) (hsel : ∀ (j : Nat) (o : Oper) cs b, ops[j]? = some o → o.op ≠ .select cs b)
    (hQ : ∀ c a w, Q (.panic c) (a.put oi.dst v) w → Q (.panic c) a w) :
    ∀ (fuel : Nat) (listed : Array Bool) (a : Act) (w : World),
      (∀ j oj, ops[j]? = some oj → j ≠ i → listed.getD j true = false → (∀ e ∈ oj.after, Region.binds md e = true → e.on ≠ i) → oi.apart ops oj = true) →
      i ∈ Region.ready md ops listed → YieldsIf P ops (fun _ => True) oi v a →
      wpAnyY P md ops Q S X fuel (listed.setIfInBounds i true) (a.put oi.dst v) w → wpAnyY P md ops Q S X (fuel + 1) listed a w := by
  intro fuel
  induction fuel with
  | zero =>
    intro listed a w _ hr hy H
    refine ⟨fun h => (by rw [h] at hr; cases hr), fun j hj => ?_⟩
    by_cases hji : j = i
    · subst hji; exact hy.wpOp hi trivial ⟨fun _ h => h, H⟩
    · have := ready_mono hj hji
      rw [H.1] at this
      cases this
  | succ fuel ih =>
    intro listed a w hfree hr hy H
    refine ⟨fun h => (by rw [h] at hr; cases hr), fun j hj => ?_⟩
    by_cases hji : j = i
    · subst hji; exact hy.wpOp hi trivial ⟨fun _ h => h, H⟩
    · have h1 := H.2 j (ready_mono hj hji)
      obtain ⟨hjun, oj, hoj, hall⟩ := mem_ready.1 hj
      have h0 := (mem_ready.1 hr).1
      have hoff : ∀ k, listed.getD k true = false → listed.getD k false = true → False := fun k p q => by
        rcases Nat.lt_or_ge k listed.size with h' | h'
        · simp [h'] at p q; rw [p] at q; cases q
        · simp [Array.getElem?_eq_none h'] at q
      have hnot : ∀ e ∈ oj.after, Region.binds md e = true → e.on ≠ i := fun e he hb heq => hoff i h0 (heq ▸ hall e he hb)
      have h2 := wpOp_putIf hoj (hfree j oj hoj hji hjun hnot) (fun cs b => hsel i oi cs b hi) (fun cs b => hsel j oj cs b hoj) hQ hy h1
      have hfree' : ∀ k ok, ops[k]? = some ok → k ≠ i → (listed.setIfInBounds j true).getD k true = false →
          (∀ e ∈ ok.after, Region.binds md e = true → e.on ≠ i) → oi.apart ops ok = true := fun k ok hk hki hun hno => by
        refine hfree k ok hk hki ?_ hno
        by_cases hjk : j = k
        · subst hjk; exact hjun
        · rw [getD_set_ne true hjk] at hun; exact hun
      refine wpOp_mono (fun a' w' h3 => ⟨h3.2.1, ih (listed.setIfInBounds j true) a' w' hfree' (ready_mono hr (Ne.symm hji)) h3.1 ?_⟩) h2
      rw [Array.setIfInBounds_comm _ _ hji]
      exact h3.2.2
/-- Number i, which yields its value in whatever world, is taken first. -/
theorem wpAnyY_takeW {i : Nat} (d : Option Tmp) {oi : Oper} {v : Value} {fuel : Nat} {listed : Array Bool} {a : Act} {w : World} (hi : ops[i]? = some oi) (hd : oi.dst = d)
    (hs : Region.noSelect ops = true) (hf : Region.free md ops listed i = true) (hr : (Region.ready md ops listed).contains i = true)
    (hQ : ∀ c a w, Q (.panic c) (a.put oi.dst v) w → Q (.panic c) a w) (hy : YieldsIf P ops (fun _ => True) oi v a)
    (h : wpAnyY P md ops Q S X fuel (listed.setIfInBounds i true) (a.put d v) w) : wpAnyY P md ops Q S X (fuel + 1) listed a w := by
  subst hd
  exact wpAnyY_firstW hi (Region.noSelect_spec hs) hQ fuel listed a w (Region.free_spec hi hf) (by simpa using hr) hy h
/-- One alone may come up; behind it S holds. -/
theorem wpAnyY_one {i : Nat} {o : Oper} {fuel : Nat} {listed : Array Bool} {a : Act} {w : World} (hr : Region.ready md ops listed = [i]) (ho : ops[i]? = some o)
    (h : ∀ K' : Act → World → Prop, (∀ a w', (S w → S w') → wpAnyY P md ops Q S X fuel (listed.setIfInBounds i true) a w' → K' a w') → if Region.wanted o (yielded ops a.tmps) = true then Oper.wp P o a w K' Q else K' (a.put o.dst undef) w) :
    wpAnyY P md ops Q S X (fuel + 1) listed a w :=
  ⟨fun h0 => absurd (hr.symm.trans h0) (by simp), fun j hj => by
    rw [hr, List.mem_singleton] at hj
    subst hj
    exact wpOp_step ho (fun K' hK => h K' (fun a w hS hW => hK a w ⟨fun _ => hS, hW⟩))⟩
/-- One alone may come up; it is of X. -/
theorem wpAnyY_oneX {i : Nat} {o : Oper} {fuel : Nat} {listed : Array Bool} {a : Act} {w : World} (hr : Region.ready md ops listed = [i]) (ho : ops[i]? = some o) (hX : X.contains i = true)
    (h : ∀ K' : Act → World → Prop, (∀ a w, wpAnyY P md ops Q S X fuel (listed.setIfInBounds i true) a w → K' a w) → if Region.wanted o (yielded ops a.tmps) = true then Oper.wp P o a w K' Q else K' (a.put o.dst undef) w) :
    wpAnyY P md ops Q S X (fuel + 1) listed a w :=
  ⟨fun h0 => absurd (hr.symm.trans h0) (by simp), fun j hj => by
    rw [hr, List.mem_singleton] at hj
    subst hj
    exact wpOp_step ho (fun K' hK => h K' (fun a w hW => hK a w ⟨fun h => absurd (hX.symm.trans h) (by simp), hW⟩))⟩
theorem wpAnyY_done {listed : Array Bool} {a : Act} {w : World} (hr : Region.ready md ops listed = []) (h : Q .normal a w) : ∀ fuel, wpAnyY P md ops Q S X fuel listed a w
  | 0 => ⟨hr, h⟩
  | _ + 1 => ⟨fun _ => h, by rw [hr]; simp⟩
theorem wp_region_Y {id : Nat} {a : Act} {w : World} (S : World → Prop) (X : List Nat) (hm : P.follows .mixedOrders = true) (hS : S w.drew)
    (h : S w.drew → wpAnyY P .any ops Q S X ops.size (Array.replicate ops.size false) a w.drew) : (Code.region id ops true).wp P Q a w :=
  wp_region_any hm (wpAny_of_Y _ _ _ _ (h hS))
end
end Go.Proofs.Ytnekfonnceknoaa
namespace Go.Proofs.Ytnekfonnceknoaa
open Go.RowKit Go.Lib
section
variable {P : Program} {ops : Array Oper} {Q : Exit → Act → World → Prop} {o : Oper} {a : Act} {w : World} {K : Act → World → Prop} {E : Prop}
/-- A closure of one argument that holds one thing is called. -/
theorem step_callV (d : Option Tmp) (hd : o.dst = d) {f : FuncId} {x y : Tmp} {ts : Array TypeId} (hgw : Region.wanted o (yielded ops a.tmps) = true)
    (ho : o.op = .call { callee := .value (.tmp x), args := #[.tmp y], argTypes := ts }) (eg : ∀ args w, (callFunc f args).run P w = .ok (.enter f args) w) {u cp : Value} (hf : a.tmps[x]?.getD undef = .func (.func f) #[] #[cp]) (hy : a.tmps[y]?.getD undef = u) {R : Value → World → Prop}
    (hc : Calls P f #[u, cp] w fun e w' => ∃ u, e = .returned u ∧ R u w') (h : ∀ u w', R u w' → K (a.put d u) w') :
    if Region.wanted o (yielded ops a.tmps) = true then Oper.wp P o a w K Q else E := by
  subst hd
  rw [if_pos hgw]
  unfold Oper.wp execOp
  have key : Calls P f #[u, cp] w fun e w' => match e, w' with
      | .returned v, w'' => K (a.put o.dst v) w''
      | .panicked chain, w'' => Q (Exit.panic chain) a w''
      | .outgrown, _ => LetsOut Q := by
    refine hc.mono ?_
    rintro e w' ⟨u, rfl, hr⟩
    exact h u w' hr
  simp [ho, hf, hy, resolve, invoke, eg, go_sem]
  exact key
end
end Go.Proofs.Ytnekfonnceknoaa

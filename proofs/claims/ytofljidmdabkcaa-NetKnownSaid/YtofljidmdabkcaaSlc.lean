/- Parts of slices: xs[:j], xs[i:], as arms of a walk, and the rows that they are. No function of the program is named here. -/
import Derived.Test.YtofljidmdabkcaaGrown
import Derived.Test.YtofljidmdabkcaaBlk
namespace Go.Proofs.Ytofljidmdabkcaa
open Go.RowKit Go.Lib
section
variable {P : Program} {ops : Array Oper} {rest : List Oper} {op : Oper} {a : Act} {w : World} {Q : Exit → Act → World → Prop} {ty e : TypeId} {x y : Operand} {A : Option Addr} {n c j size : Nat}
theorem size_of {P : Program} {w : World} {e : TypeId} {size : Nat} (hi : (P.info? e).map (·.size) = some size) : (sizeOf e).run P w = .ok size w := by
  cases hq : P.info? e with
  | none => simp [hq] at hi
  | some i =>
    have hs : i.size = size := by simpa [hq] using hi
    simp [sizeOf, typeInfo, hq, hs]
theorem wpl_sliceHi (hgd : op.guard = none) (ho : op.op = .slice ty x none (some y) none) (ht : P.underlying ty = some (.slice (P.elem ty))) (hi : (P.info? (P.elem ty)).map (·.size) = some size)
    (hx : a.eval x = .slice A n c) (hy : a.eval y = .int .i64 j) (hj : j ≤ c) (h : wpList P ops Q rest (a.put op.dst (.slice A j c)) w) : wpList P ops Q (op :: rest) a w := by
  have hr : (Instr.sliceAt ty (.slice A n c) none (some (.int .i64 j)) none).run P w = .ok (.slice A j c) w := by
    rw [run_sliceAt_slice w ty _ _ _ _ ht, run_slice_h w ty A n c ht .i64 j (by omega) (by omega), size_of hi]
    have h0 : ∀ p : Addr, p.add 0 = p := fun p => by cases p; simp [Addr.add]
    cases A <;> simp [Result.andThen, sliced, h0]
  refine wpList_plain hgd fun _ hK => ?_
  unfold Oper.wp execOp
  simp only [ho, Option.map_none, Option.map_some, hx, hy, Sem.run_bind, Sem.run_pure, Result.andThen_ok, hr]
  exact hK _ _ h
theorem wpl_sliceLo (hgd : op.guard = none) (ho : op.op = .slice ty x (some y) none none) (ht : P.underlying ty = some (.slice (P.elem ty))) (hi : (P.info? (P.elem ty)).map (·.size) = some size)
    (hx : a.eval x = .slice A n c) (hy : a.eval y = .int .i64 j) (hj : j ≤ n) (h : wpList P ops Q rest (a.put op.dst (.slice (if c = j then A else A.map (·.add (j * size))) (n - j) (c - j))) w) : wpList P ops Q (op :: rest) a w := by
  have hr : (Instr.sliceAt ty (.slice A n c) (some (.int .i64 j)) none none).run P w = .ok (.slice (if c = j then A else A.map (·.add (j * size))) (n - j) (c - j)) w := by
    rw [run_sliceAt_slice w ty _ _ _ _ ht, run_slice_l w ty A n c ht .i64 j (by omega) (by omega), size_of hi]
    simp [Result.andThen, sliced]
  refine wpList_plain hgd fun _ hK => ?_
  unfold Oper.wp execOp
  simp only [ho, Option.map_none, Option.map_some, hx, hy, Sem.run_bind, Sem.run_pure, Result.andThen_ok, hr]
  exact hK _ _ h
end
/-- A struct's cells are loaded, where a guard lets it. -/
theorem wpl_loadG {P : Program} {ops : Array Oper} {rest : List Oper} {op : Oper} {a : Act} {w : World} {Q : Exit → Act → World → Prop} {ty e : TypeId} {x : Operand} {b o n : Nat} {C : Array Value} {fz : Nat × Nat}
    (hgw : Region.wanted op (yielded ops a.tmps) = true) (ho : op.op = .load ty x) (hx : a.eval x = .pointer (some ⟨b, o, none⟩)) (hb : w.heap[b]? = some (.cells C e fz))
    (hd : (P.underlying ty).map TypeDesc.isRow = some true) (hi : (P.info? ty).map (·.size) = some n) (vs : List Value) (hvs : (C.toList.drop o).take n = vs) (hn : vs.length = n)
    (h : wpList P ops Q rest (a.put op.dst (.agg vs.toArray)) w) : wpList P ops Q (op :: rest) a w := by
  obtain ⟨d, hu, hd⟩ : ∃ d, P.underlying ty = some d ∧ d.isRow = true := by
    cases hq : P.underlying ty with
    | none => simp [hq] at hd
    | some d => exact ⟨d, rfl, by simpa [hq] using hd⟩
  refine wpList_step fun K hK => ?_
  rw [if_pos hgw]
  refine wp_load_mid ty x ho b o hx vs d (fun j v hv => ?_) hu hd (by rw [hi, hn]) (hK _ _ h)
  rw [cell_of_row w b (o + j) C e fz hb]
  rw [← hvs, List.getElem?_take] at hv
  split at hv
  · rw [List.getElem?_drop] at hv
    simpa using hv
  · cases hv
/-- A struct is built: what it comes to is told. -/
theorem wpl_build {P : Program} {ops : Array Oper} {rest : List Oper} {op : Oper} {a : Act} {w : World} {Q : Exit → Act → World → Prop} {ty : TypeId} {parts : Array (Nat × Operand)} (hgd : op.guard = none) (ho : op.op = .build ty parts) (cells : Array Value)
    (hc : P.built ty (parts.map fun (i, x) => (i, a.eval x)).toList = some cells) (h : wpList P ops Q rest (a.put op.dst (.agg cells)) w) : wpList P ops Q (op :: rest) a w := by
  refine wpList_plain hgd fun _ hK => ?_
  refine wp_build ty parts ho (by rw [hc]; rfl) ?_
  rw [hc]
  exact hK _ _ h
section
variable {F : Nat → Prop} {w : World} {A : Option Addr} {n c j size : Nat} {cs : List Value}
theorem Row.cap (h : Row F w (.slice A n c) n size cs) : n ≤ c ∧ c ≤ maxLen := by
  obtain ⟨_, _, he, _, h1, h2, _⟩ := h
  simp only [Value.slice.injEq, true_and] at he
  omega
theorem Row.takeN (h : Row F w (.slice A n c) n size cs) (hj : j ≤ n) : Row F w (.slice A j c) j size (cs.take (j * size)) := by
  obtain ⟨A', c', he, hl, hnc, hc, hA⟩ := h
  simp only [Value.slice.injEq, true_and] at he
  obtain ⟨rfl, rfl⟩ := he
  have hle : j * size ≤ n * size := Nat.mul_le_mul_right _ hj
  refine ⟨_, _, rfl, by rw [List.length_take]; omega, by omega, hc, hA.imp id ?_⟩
  rintro ⟨b, off, rfl, hF, hb, hcell⟩
  refine ⟨b, off, rfl, hF, hb, fun k u hu => hcell k u ?_⟩
  rw [List.getElem?_take] at hu
  split at hu
  · exact hu
  · cases hu
theorem Row.dropN (h : Row F w (.slice A n c) n size cs) (hj : j ≤ n) : Row F w (.slice (if c = j then A else A.map (·.add (j * size))) (n - j) (c - j)) (n - j) size (cs.drop (j * size)) := by
  obtain ⟨A', c', he, hl, hnc, hc, hA⟩ := h
  simp only [Value.slice.injEq, true_and] at he
  obtain ⟨rfl, rfl⟩ := he
  have hle : (n - j) * size = n * size - j * size := Nat.sub_mul _ _ _
  refine ⟨_, _, rfl, by rw [List.length_drop]; omega, by omega, by omega, ?_⟩
  by_cases hcj : c = j
  · exact .inl (by omega)
  · rcases hA with hA | ⟨b, off, rfl, hF, hb, hcell⟩
    · omega
    · refine .inr ⟨b, off + j * size, by rw [if_neg hcj, Option.map_some, Addr.add_lit], hF, hb, fun k u hu => ?_⟩
      rw [List.getElem?_drop] at hu
      rw [Nat.add_assoc]
      exact hcell _ _ hu
/-- xs[j:] of a row that is known: where it lies is not told. -/
theorem wpl_sliceLoR {P : Program} {ops : Array Oper} {rest : List Oper} {op : Oper} {a : Act} {Q : Exit → Act → World → Prop} {ty : TypeId} {x y : Operand} (hgd : op.guard = none) (ho : op.op = .slice ty x (some y) none none) (ht : P.underlying ty = some (.slice (P.elem ty))) (hi : (P.info? (P.elem ty)).map (·.size) = some size)
    (hx : a.eval x = .slice A n c) (hy : a.eval y = .int .i64 j) (hr : Row F w (.slice A n c) n size cs) (hj : j ≤ n)
    (h : ∀ A' c', Row F w (.slice A' (n - j) c') (n - j) size (cs.drop (j * size)) → wpList P ops Q rest (a.put op.dst (.slice A' (n - j) c')) w) : wpList P ops Q (op :: rest) a w :=
  wpl_sliceLo hgd ho ht hi hx hy hj (h _ _ (hr.dropN hj))
theorem Row.at1 {u : Value} (h : Row F w (.slice A n c) n 1 cs) (hj : cs[j]? = some u) : ∃ b off, A = some ⟨b, off, none⟩ ∧ F b ∧ w.cell? ⟨b, off + j, none⟩ = some u := by
  obtain ⟨A', c', he, hl, hnc, hc, hA⟩ := h
  simp only [Value.slice.injEq, true_and] at he
  obtain ⟨rfl, rfl⟩ := he
  have := (List.getElem?_eq_some_iff.1 hj).1
  rcases hA with hA | ⟨b, off, rfl, hF, hb, hcell⟩
  · omega
  · exact ⟨b, off, rfl, hF, hcell _ _ hj⟩
theorem Parts.take {α : Type} {r : Rep α} {l : List α} (h : Parts r w F cs l) (j : Nat) : Parts r w F (cs.take (j * r.size)) (l.take j) := fun i x hx => by
  rw [List.getElem?_take] at hx
  split at hx
  · rename_i hij
    have hle : (i + 1) * r.size ≤ j * r.size := Nat.mul_le_mul_right _ hij
    rw [Nat.succ_mul] at hle
    have := h i x hx
    rw [List.drop_take, List.take_take, Nat.min_eq_left (by omega)]
    exact this
  · cases hx
end
end Go.Proofs.Ytofljidmdabkcaa

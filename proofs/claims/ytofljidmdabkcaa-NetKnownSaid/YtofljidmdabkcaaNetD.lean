/- slices.Delete of one message. -/
import Derived.Test.YtofljidmdabkcaaNetS
import Derived.Lib.SlicesDelete
namespace Go.Proofs.Ytofljidmdabkcaa
open Go.RowKit Go.Lib
section
variable {P : Program} {ops : Array Oper} {Q : Exit → Act → World → Prop} {o : Oper} {a : Act} {w : World} {K : Act → World → Prop} {E : Prop} {S : World → Prop}
theorem yieldsIf_sliceHi {ty : TypeId} {x y : Operand} {A : Option Addr} {n c j size : Nat} (hgw : Region.wanted o (yielded ops a.tmps) = true) (ho : o.op = .slice ty x none (some y) none) (ht : P.underlying ty = some (.slice (P.elem ty))) (hi : (P.info? (P.elem ty)).map (·.size) = some size)
    (hx : a.eval x = .slice A n c) (hy : a.eval y = .int .i64 j) (hj : j ≤ c) : YieldsIf P ops S o (.slice A j c) a := .inl ⟨hgw, fun w _ => by
  have hr : (Instr.sliceAt ty (.slice A n c) none (some (.int .i64 j)) none).run P w = .ok (.slice A j c) w := by
    rw [run_sliceAt_slice w ty _ _ _ _ ht, run_slice_h w ty A n c ht .i64 j (by omega) (by omega), size_of hi]
    have h0 : ∀ p : Addr, p.add 0 = p := fun p => by cases p; simp [Addr.add]
    cases A <;> simp [Result.andThen, sliced, h0]
  unfold execOp
  simp only [ho, Option.map_none, Option.map_some, hx, hy, Sem.run_bind, Sem.run_pure, Result.andThen_ok, hr]⟩
theorem yieldsIf_sliceLo {ty : TypeId} {x y : Operand} {A B : Option Addr} {n c j m size : Nat} (hgw : Region.wanted o (yielded ops a.tmps) = true) (ho : o.op = .slice ty x (some y) none none) (ht : P.underlying ty = some (.slice (P.elem ty))) (hi : (P.info? (P.elem ty)).map (·.size) = some size)
    (hx : a.eval x = .slice A n c) (hy : a.eval y = .int .i64 j) (hj : j ≤ n) (hm : n - j = m) (hB : (if c = j then A else A.map (·.add (j * size))) = B) : YieldsIf P ops S o (.slice B m (c - j)) a := .inl ⟨hgw, fun w _ => by
  subst hm; subst hB
  have hr : (Instr.sliceAt ty (.slice A n c) (some (.int .i64 j)) none none).run P w = .ok (.slice (if c = j then A else A.map (·.add (j * size))) (n - j) (c - j)) w := by
    rw [run_sliceAt_slice w ty _ _ _ _ ht, run_slice_l w ty A n c ht .i64 j (by omega) (by omega), size_of hi]
    simp [Result.andThen, sliced]
  unfold execOp
  simp only [ho, Option.map_none, Option.map_some, hx, hy, Sem.run_bind, Sem.run_pure, Result.andThen_ok, hr]⟩
/-- append into the room that there is, within a block that is known whole. -/
theorem step_appRoom (d : Option Tmp) (hd : o.dst = d) {s x : Operand} {t e : TypeId} (hgw : Region.wanted o (yielded ops a.tmps) = true) (ho : o.op = .call { callee := .builtin .append, args := #[s, x], argTypes := #[t, t] }) {size : Nat} (ht : P.underlying t = some (.slice e))
    (hi : (P.info? e).map (·.size) = some size) {b n cap : Nat} {C : Array Value} (hs : a.eval s = .slice (some ⟨b, 0, none⟩) n cap) (hb : w.heap[b]? = some (.cells C e)) {G : Nat → Prop} {src : Value} {m nn : Nat} {news : List Value} (hx : a.eval x = src) (hsrc : Row G w src m size news)
    (h1 : ∀ u ∈ news, u.oneCell' = true) (hroom : n + m ≤ cap) (hfit : n * size + news.length ≤ C.size) (hp : ∃ p c, src = .slice (some p) m c) (hnn : n + m = nn)
    (h : ∀ w', w'.heap[b]? = some (.cells (spl C (n * size) news) e) → Keep (fun k => k = b) w w' → w'.heap.size = w.heap.size → K (a.put d (.slice (some ⟨b, 0, none⟩) nn cap)) w') :
    if Region.wanted o (yielded ops a.tmps) = true then Oper.wp P o a w K Q else E := by
  subst hd; subst hnn
  rw [if_pos hgw]
  cases hq : P.info? e with
  | none => simp [hq] at hi
  | some i =>
    have hsz : i.size = size := by simpa [hq] using hi
    subst hsz
    obtain ⟨p, c, rfl⟩ := hp
    have hfc : (Builtin.firstCells i.size m (.slice (some p) m c)).run P w = .ok news.toArray w := by
      obtain ⟨A', c', he, hl, _, _, hA⟩ := hsrc
      simp only [Value.slice.injEq, true_and] at he
      obtain ⟨rfl, rfl⟩ := he
      refine run_firstCells_some (P := P) w i.size m p m c news hl (fun j u hu => ?_)
      rcases hA with rfl | ⟨b', off, hA, _, _, hcell⟩
      · have : news = [] := List.eq_nil_of_length_eq_zero (by rw [hl, show m = 0 by omega, Nat.zero_mul])
        subst this
        simp at hu
      · cases hA
        rw [Addr.add_lit]; exact hcell j u hu
    have hst := run_storeCells_at P b (n * i.size) e news 0 C w hb (by simpa using hfit) h1
    simp only [Nat.add_zero] at hst
    have hrun : (Builtin.append_ #[t, t] o.type #[.slice (some ⟨b, 0, none⟩) n cap, .slice (some p) m c]).run P w = .ok (.slice (some ⟨b, 0, none⟩) (n + m) cap) (w.setRow b (spl C (n * i.size) news)) := by
      simp [Builtin.append_, run_underlying ht, sizeOf, typeInfo, hq, Builtin.lenOf, hroom, hfc, Addr.add_lit, hst, spl]
    unfold Oper.wp
    simp [execOp, ho, resolve, invoke, builtin, hs, hx, hrun, Result.andThen]
    exact h _ (setRow_heap w b C _ e _ hb) (keep_setRow w b _) (by simp)
theorem zeroCells_one (zc : Array Value) : (Builtin.zeroCells zc 1).toList = zc.toList := by
  apply List.ext_getElem
  · simp [Builtin.zeroCells]
  · intro i h1 h2
    have hi : i < zc.size := by simpa using h2
    simp [Builtin.zeroCells, Nat.mod_eq_of_lt hi, hi]
/-- One element is cleared. -/
theorem wpl_clear1 {rest : List Oper} {Q : Exit → Act → World → Prop} {t e : TypeId} {x : Operand} {b off n c : Nat} {C : Array Value} (hgd : o.guard = none) (ho : o.op = .call { callee := .builtin .clear, args := #[x], argTypes := #[t] }) (ht : P.underlying t = some (.slice e)) {z : Value}
    (hi : (P.info? e).map (·.zero) = some (some z)) (hx : a.eval x = .slice (some ⟨b, off, none⟩) n c) (hn : n = 1) (hb : w.heap[b]? = some (.cells C e)) (hf : off + z.cells.size ≤ C.size) (h1 : ∀ u ∈ z.cells.toList, u.oneCell' = true)
    (h : ∀ w', w'.heap[b]? = some (.cells (spl C off z.cells.toList) e) → Keep (fun k => k = b) w w' → w'.heap.size = w.heap.size → wpList P ops Q rest (a.put o.dst (.tuple #[])) w') : wpList P ops Q (o :: rest) a w := by
  subst hn
  have hz : (zeroValue e).run P w = .ok z w := by
    cases hq : P.info? e with
    | none => simp [hq] at hi
    | some i =>
      have hz : i.zero = some z := by simpa [hq] using hi
      simp [zeroValue, typeInfo, hq, hz]
  have hst := run_storeCells_at P b off e z.cells.toList 0 C w hb (by simpa using hf) h1
  simp only [Nat.add_zero] at hst
  have hr : (Builtin.clear_ #[t] o.type #[.slice (some ⟨b, off, none⟩) 1 c]).run P w = .ok (.tuple #[]) (w.setRow b (spl C off z.cells.toList)) := by
    simp [Builtin.clear_, run_underlying ht, hz, zeroCells_one, hst, spl]
  refine wpList_plain hgd (fun K hK => ?_)
  unfold Oper.wp execOp
  simp only [ho, resolve, invoke, builtin, Sem.run_bind, Sem.run_pure, Result.andThen_ok, List.map_toArray, List.map_cons, List.map_nil, hx, hr]
  exact hK _ _ (h _ (setRow_heap w b C _ e _ hb) (keep_setRow w b _) (by simp))
end
section
def DelPost (w : World) (g cap k i : Nat) (xs : List Value) (e : Ending) (w' : World) : Prop :=
  e = .returned (.slice (some ⟨g, 0, none⟩) k cap) ∧ w'.ownsRow 0 32 27 (.slice (some ⟨g, 0, none⟩) k cap) k (xs.take (i * 27) ++ xs.drop ((i + 1) * 27)) ∧ Keep (fun q => q = g) w w'
set_option maxRecDepth 20000 in
set_option maxHeartbeats 4000000 in
theorem delM_calls {w : World} {g cap k i : Nat} {xs : List Value} (h : w.ownsRow 0 32 27 (.slice (some ⟨g, 0, none⟩) (k + 1) cap) (k + 1) xs) (hone : ∀ u ∈ xs, u.oneCell' = true) (hik : i ≤ k) (hk : k ≤ 100000) :
    Calls Try.prog 34 #[.slice (some ⟨g, 0, none⟩) (k + 1) cap, .int .i64 i, .int .i64 ((i : Int) + 1)] w (DelPost w g cap k i xs) := by
  have hrow := Row.ofOwn h
  obtain ⟨hl, hh⟩ := h
  rcases hh with ⟨q, _⟩ | ⟨g', cap', cur, he, _, hg, hnc, hcm, hcs, htk⟩
  · cases q
  simp only [Value.slice.injEq, Option.some.injEq, Addr.mk.injEq, and_true, true_and] at he
  obtain ⟨rfl, rfl⟩ := he
  have hdrop := hrow.dropN (j := i + 1) (by omega)
  obtain ⟨B, hB⟩ : ∃ B, (if cap = i + 1 then some (⟨g, 0, none⟩ : Addr) else (some (⟨g, 0, none⟩ : Addr)).map (·.add ((i + 1) * 27))) = B := ⟨_, rfl⟩
  have hBp : ∃ p, B = some p := by
    rw [← hB]; split
    · exact ⟨_, rfl⟩
    · exact ⟨_, rfl⟩
  rw [hB, show k + 1 - (i + 1) = k - i by omega] at hdrop
  have HD := hid hdrop; have HBP := hid hBp; have HB := hid hB; have HONE := hid hone; have HG := hid hg; have HTK := hid htk
  have hlen : (xs.drop ((i + 1) * 27)).length = (k - i) * 27 := by rw [List.length_drop, hl]; omega
  have HLEN := hid hlen; have HL := hid hl; have HCS := hid hcs; have HIK := hid hik; have HNC := hid hnc
  have b1 : (i : Int) ≤ (i : Int) + 1 := by omega
  have b2 : (i : Int) + 1 ≤ (k : Int) + 1 := by omega
  have b3 : (k : Int) + 1 ≤ (cap : Int) := by omega
  have b4 : ((i : Int) == (i : Int) + 1) = false := by rw [beq_eq_false_iff_ne]; omega
  clear hdrop hBp hB hone hg htk hlen hrow hl hcs
  go_enter Try.func34, Try.ntmps34
  go_wp2_with fail
  refine wp_region_X (fun _ => True) [] (by kernel_rfl) trivial (fun _ => ?_)
  refine wpAnyX_take (i := 0) [2, 6, 7] (some 20) (v := ?_) rfl (by rfl) (by kernel_rfl) (by kernel_rfl) (by kernel_rfl) (by kernel_rfl) (fun _ _ _ h => h) (Or.inl ⟨by rfl, ?_⟩) trivial ?_
  rotate_left
  focus (intro w' hSw; (try dsimp only at hSw); go_simp; try with_reducible rfl)
  simp only [Act.put, List.setIfInBounds_toArray, List.set_cons_zero, List.set_cons_succ]
  refine wpAnyX_take (i := 1) [2, 6, 7] (some 21) (v := ?_) rfl (by rfl) (by kernel_rfl) (by kernel_rfl) (by kernel_rfl) (by kernel_rfl) (fun _ _ _ h => h) (Or.inl ⟨by rfl, ?_⟩) trivial ?_
  rotate_left
  focus (intro w' hSw; (try dsimp only at hSw); go_simp; try with_reducible rfl)
  simp only [Act.put, List.setIfInBounds_toArray, List.set_cons_zero, List.set_cons_succ]
  refine wpAnyX_take (i := 2) [6, 7] (some 22) (v := _) rfl (by rfl) (by kernel_rfl) (by kernel_rfl) (by kernel_rfl) (by kernel_rfl) (fun _ _ _ h => h) (yieldsIf_sliceHi (size := 27) (n := k + 1) (c := cap) (j := i) (by rfl) rfl (by kernel_rfl) (by kernel_rfl) (by rfl) (by rfl) (by omega)) trivial ?_
  simp only [Act.put, List.setIfInBounds_toArray, List.set_cons_zero, List.set_cons_succ]
  refine wpAnyX_take (i := 3) [5, 6, 7] (some 23) (v := ?_) rfl (by rfl) (by kernel_rfl) (by kernel_rfl) (by kernel_rfl) (by kernel_rfl) (fun _ _ _ h => h) (Or.inl ⟨by rfl, ?_⟩) trivial ?_
  rotate_left
  focus (intro w' hSw; (try dsimp only at hSw); go_simp; try with_reducible rfl)
  simp only [Act.put, List.setIfInBounds_toArray, List.set_cons_zero, List.set_cons_succ]
  refine wpAnyX_take (i := 4) [5, 6, 7] (some 24) (v := ?_) rfl (by rfl) (by kernel_rfl) (by kernel_rfl) (by kernel_rfl) (by kernel_rfl) (fun _ _ _ h => h) (Or.inl ⟨by rfl, ?_⟩) trivial ?_
  rotate_left
  focus (intro w' hSw; (try dsimp only at hSw); go_simp; try with_reducible rfl)
  simp only [Act.put, List.setIfInBounds_toArray, List.set_cons_zero, List.set_cons_succ]
  refine wpAnyX_take (i := 5) [6, 7] (some 25) (v := _) rfl (by rfl) (by kernel_rfl) (by kernel_rfl) (by kernel_rfl) (by kernel_rfl) (fun _ _ _ h => h) (yieldsIf_sliceLo (size := 27) (A := some ⟨g, 0, none⟩) (B := B) (n := k + 1) (c := cap) (j := i + 1) (m := k - i) (by rfl) rfl (by kernel_rfl) (by kernel_rfl) (by rfl) (by rfl) (by omega) (by omega) HB.out) trivial ?_
  simp only [Act.put, List.setIfInBounds_toArray, List.set_cons_zero, List.set_cons_succ]
  refine wpAnyX_one (i := 6) (by kernel_rfl) rfl (fun K hK => ?_)
  refine step_appRoom (some 26) (by rfl) (size := 27) (b := g) (n := i) (cap := cap) (C := cur) (nn := k) (by rfl) rfl Try.underlying45 (by kernel_rfl) (by rfl) (heap_drew HG.out) (by rfl) (HD.out.keep ((Keep.refl (fun _ => False) w).drew) (fun _ _ => id)) (fun u hu => HONE.out u (List.mem_of_mem_drop hu)) (by omega) (by have e1 := HLEN.out; have e2 := HCS.out; have e3 := HIK.out; have e4 := HNC.out; omega) (by obtain ⟨p, hp⟩ := HBP.out; exact ⟨p, _, by rw [hp]⟩) (by omega) ?_
  intro w1 hb1 k1 s1
  refine hK _ _ (trivial) ?_
  clear hK K
  try simp only [Act.put, List.setIfInBounds_toArray, List.set_cons_zero, List.set_cons_succ]
  refine wpAnyX_take (i := 7) [] (some 0) (v := ?_) rfl (by rfl) (by kernel_rfl) (by kernel_rfl) (by kernel_rfl) (by kernel_rfl) (fun _ _ _ h => h) (Or.inl ⟨by rfl, ?_⟩) trivial ?_
  rotate_left
  focus (intro w' hSw; (try dsimp only at hSw); go_simp; try with_reducible rfl)
  simp only [Act.put, List.setIfInBounds_toArray, List.set_cons_zero, List.set_cons_succ]
  refine wpAnyX_done (by kernel_rfl) ?_ _
  have hK1 := hid ((Keep.refl (fun q => q = g) w).drew.trans k1 (fun _ _ e => e))
  have hsz : (spl cur (i * 27) (xs.drop ((i + 1) * 27))).size = cap * 27 := by rw [spl_size _ _ _ (by have e1 := HLEN.out; have e2 := HCS.out; have e3 := HIK.out; have e4 := HNC.out; omega)]; exact HCS.out
  have HSZ := hid hsz
  obtain ⟨C1, hC1⟩ : ∃ C1, C1 = spl cur (i * 27) (xs.drop ((i + 1) * 27)) := ⟨_, rfl⟩
  rw [← hC1] at hb1 HSZ
  have HC1 := hid hC1
  clear hsz hC1 k1 s1
  go_wp2_with (first | (refine wpl_clear1 (z := zM) (b := g) (off := k * 27) (C := C1) rfl rfl Try.underlying45 (by kernel_rfl) rfl (by omega) hb1 (by have e1 := HSZ.out; have e2 := HNC.out; show k * 27 + 27 ≤ C1.size; omega) msgL_z.oneA ?_; intro w2 hb2 k2 s2))
  go_ret
  have e1 := HLEN.out; have e2 := HCS.out; have e3 := HIK.out; have e4 := HNC.out; have e5 := HL.out
  have hz : zM.cells.toList.length = 27 := rfl
  have hc1l : C1.toList = cur.toList.take (i * 27) ++ xs.drop ((i + 1) * 27) ++ cur.toList.drop (i * 27 + (xs.drop ((i + 1) * 27)).length) := by rw [HC1.out, spl_list]
  have hcl : cur.toList.length = cap * 27 := by rw [Array.length_toList]; exact e2
  have htk : cur.toList.take (i * 27) = xs.take (i * 27) := by
    rw [← HTK.out, List.take_take, Nat.min_eq_left (by omega)]
  have hab : (cur.toList.take (i * 27) ++ xs.drop ((i + 1) * 27)).length = k * 27 := by rw [List.length_append, e1, List.length_take, hcl]; omega
  refine ⟨rfl, ⟨?_, .inr ⟨g, cap, _, rfl, Nat.zero_le _, hb2, by omega, hcm, ?_, ?_⟩⟩, hK1.out.trans k2 (fun _ _ e => e)⟩
  · rw [← htk]; exact hab
  · rw [spl_size _ _ _ (by rw [hz, HSZ.out]; omega)]; exact HSZ.out
  · rw [spl_list, List.append_assoc, List.take_append_of_le_length (by rw [List.length_take, Array.length_toList, HSZ.out]; omega), List.take_take, Nat.min_self, hc1l, List.take_append_of_le_length (by rw [hab]; omega), List.take_of_length_le (by rw [hab]; omega), htk]
end
end Go.Proofs.Ytofljidmdabkcaa

/- delete(m, k) at a map keyed by numbers, in the round of a range over it. -/
import Derived.Test.YtiomeoihekifeaaMapR
namespace Go.Proofs.Ytiomeoihekifeaa
open Go.RowKit Go.MapKept
open Go.Maps (Keyed int_keyed keyOf_int_mk)
open Go.ChangeMaps (setBlock heap_setBlock_same heap_setBlock_other)

/-- A key is struck. -/
def dropE {α : Type} (l : List (Int × α)) (k : Int) : List (Int × α) := l.filter (fun p => !(p.1 == k))
section
variable {α : Type}
theorem drop_none {l : List (Int × α)} {k : Int} (h : ∀ p ∈ l, p.1 ≠ k) : dropE l k = l := by
  unfold dropE
  rw [List.filter_eq_self]
  intro p hp
  simpa using h p hp
theorem drop_at {l : List (Int × α)} {k : Int} (hn : (l.map Prod.fst).Nodup) {j : Nat} {p : Int × α} (hj : l[j]? = some p) (hp : p.1 = k) : dropE l k = l.eraseIdx j := by
  induction l generalizing j with
  | nil => simp at hj
  | cons q l ih =>
    rw [List.map_cons, List.nodup_cons] at hn
    cases j with
    | zero =>
      simp only [List.getElem?_cons_zero, Option.some.injEq] at hj
      subst hj
      rw [List.eraseIdx_zero, List.tail_cons]
      have : dropE (q :: l) k = dropE l k := by unfold dropE; rw [List.filter_cons_of_neg (by simpa using hp)]
      rw [this]
      exact drop_none (fun r hr e => hn.1 (by rw [hp, ← e]; exact List.mem_map_of_mem hr))
    | succ j =>
      simp only [List.getElem?_cons_succ] at hj
      have hne : q.1 ≠ k := fun e => hn.1 (by rw [e, ← hp]; exact List.mem_map_of_mem (List.mem_of_getElem? hj))
      rw [List.eraseIdx_cons_succ, ← ih hn.2 hj]
      unfold dropE
      rw [List.filter_cons_of_pos (by simpa using hne)]
theorem drop_keys {l : List (Int × α)} {k : Int} (hn : (l.map Prod.fst).Nodup) : ((dropE l k).map Prod.fst).Nodup :=
  (List.Sublist.map _ (List.filter_sublist (l := l))).nodup hn
theorem drop_filter (l : List (Int × α)) (k : Int) (q : Int × α → Bool) (h : ∀ p ∈ l, p.1 = k → q p = false) : (dropE l k).filter q = l.filter q := by
  unfold dropE
  rw [List.filter_filter]
  apply List.filter_congr
  intro p hp
  by_cases hpk : p.1 = k
  · rw [h p hp hpk]; rfl
  · simp [hpk]
theorem erase_get {β : Type} {l : List β} {es : Array MapEntry} {j : Nat} (hs : es.size = l.length) {i : Nat} {p : β} (hp : (l.eraseIdx j)[i]? = some p) :
    ∃ i' : Nat, l[i']? = some p ∧ (es.eraseIdxIfInBounds j)[i]? = es[i']? := by
  refine ⟨if i < j then i else i + 1, ?_, ?_⟩
  · rw [List.getElem?_eraseIdx] at hp
    by_cases hij : i < j
    · rw [if_pos hij] at hp ⊢; exact hp
    · rw [if_neg hij] at hp ⊢; exact hp
  · rcases Nat.lt_or_ge j es.size with hj | hj
    · have hsub : (es.eraseIdxIfInBounds j).toList = es.toList.eraseIdx j := by
        unfold Array.eraseIdxIfInBounds
        rw [dif_pos hj]
        simp
      rw [← Array.getElem?_toList, hsub, List.getElem?_eraseIdx]
      split <;> simp [Array.getElem?_toList]
    · have hil : i < l.length := by
        have := (List.getElem?_eq_some_iff.1 hp).1
        rw [List.length_eraseIdx] at this
        split at this <;> omega
      unfold Array.eraseIdxIfInBounds
      rw [dif_neg (by omega), if_pos (by omega)]
end
section
variable {α : Type} {E : World → α → Value → Prop} {w w' : World} {b r : Nat} {l : List (Int × α)} {dn : List Int} {P : Program}
theorem ItI.drop {t K e : TypeId} (h : ItI E w b r l dn) (ht : P.underlying t = some (.map K e)) (hK : P.underlying K = some (.int .i64)) {k : Int} (hk : (Lit.int .i64 k).wf = true)
    (hE : ∀ w', Keep (fun x => x = b) w w' → ∀ a v, E w a v → E w' a v) (ty : TypeId) :
    ∃ w', (Builtin.delete_ #[t, K] ty #[.map (some b), .int .i64 k]).run P w = .ok (.tuple #[]) w' ∧ ItI E w' b r (dropE l k) (dn.filter (fun x => !(x == k))) ∧ Keep (fun x => x = b) w w' ∧
      w'.rangeLeft b r ≤ w.rangeLeft b r ∧ w'.heap.size = w.heap.size := by
  have hne := h.ne
  obtain ⟨es, clock, h1, hf⟩ := h.map.find (P := P) hK hk
  obtain ⟨es', clock', since, seen, c0, h1', h2, h3, h4, h5, h6, h7, h8, h9, h10, h11, h12⟩ := h
  rw [h1] at h1'
  simp only [Option.some.injEq, Obj.map.injEq] at h1'
  obtain ⟨rfl, rfl⟩ := h1'
  have hkp : ∀ o, Keep (fun x => x = b) w (setBlock w b o) := fun o => ⟨rfl, rfl, rfl, by simp [setBlock], fun i _ hi => heap_setBlock_other h1 _ hi⟩
  have hsz : ∀ o, (setBlock w b o).heap.size = w.heap.size := fun o => by simp [setBlock]
  rcases hf with ⟨q1, q2, q3⟩ | ⟨j, a0, e0, q1, q2, q3, q4, q5, q6⟩
  · have hl : ∀ p ∈ l, p.1 ≠ k := look_none.1 q1
    have hd : dn.filter (fun x => !(x == k)) = dn := by
      rw [List.filter_eq_self]
      intro x hx
      obtain ⟨a, ha⟩ := h12 x hx
      simpa using hl _ ha
    rw [drop_none hl, hd]
    refine ⟨setBlock w b (.map es clock), ?_, ⟨es, clock, since, seen, c0, heap_setBlock_same h1 _, h2, h3, h4, fun i p hp => ?_, (heap_setBlock_other h1 _ hne).trans h6, h7, h8, h9, h10, h11, h12⟩, hkp _, ?_, hsz _⟩
    · simp [Builtin.delete_, run_underlying ht, MapKept.run_getObj_map h1, (int_keyed hK).check w _ (keyOf_int_mk hK hk), q2, MapKept.run_setObj_map _ h1, Result.andThen, setBlock]
    · obtain ⟨e, r1, r2, r3, r4⟩ := h5 i p hp
      exact ⟨e, r1, r2, r3, hE _ (hkp _) _ _ r4⟩
    · have g1 := heap_setBlock_same h1 (.map es clock)
      have g2 := (heap_setBlock_other h1 (.map es clock) hne).trans h6
      simp only [World.rangeLeft, h1, h6, g1, g2]
      exact Nat.le_refl _
  · have hjs : j < es.size := (Array.getElem?_eq_some_iff.1 q3).1
    have hsub : (es.eraseIdxIfInBounds j).toList = es.toList.eraseIdx j := by
      unfold Array.eraseIdxIfInBounds
      rw [dif_pos hjs]
      simp
    have hdr : dropE l k = l.eraseIdx j := drop_at h4 q1 rfl
    have g1 := heap_setBlock_same h1 (.map (es.eraseIdxIfInBounds j) clock)
    have g2 := (heap_setBlock_other h1 (.map (es.eraseIdxIfInBounds j) clock) hne).trans h6
    refine ⟨setBlock w b (.map (es.eraseIdxIfInBounds j) clock), ?_, ⟨es.eraseIdxIfInBounds j, clock, since, seen, c0, g1, stamped_erase h2 j, ?_, drop_keys h4, fun i p hp => ?_, g2, fun x hx => ?_, h8, h9, fun i p e hp he => ?_, h11.filter _, fun x hx => ?_⟩, hkp _, ?_, hsz _⟩
    · simp [Builtin.delete_, run_underlying ht, MapKept.run_getObj_map h1, (int_keyed hK).check w _ (keyOf_int_mk hK hk), q6, MapKept.run_setObj_map _ h1, Result.andThen, setBlock]
    · rw [hdr, ← Array.length_toList, hsub, List.length_eraseIdx, List.length_eraseIdx, Array.length_toList, h3]
    · rw [hdr] at hp
      obtain ⟨i', y1, y2⟩ := erase_get (es := es) h3 hp
      obtain ⟨e, r1, r2, r3, r4⟩ := h5 i' p y1
      exact ⟨e, y2.trans r1, r2, r3, hE _ (hkp _) _ _ r4⟩
    · rw [hsub] at hx
      exact h7 x ((List.eraseIdx_sublist _ _).subset hx)
    · have hpk : p.1 ≠ k := by
        have := List.mem_of_getElem? hp
        simpa using (List.mem_filter.1 this).2
      rw [hdr] at hp
      obtain ⟨i', y1, y2⟩ := erase_get (es := es) h3 hp
      rw [h10 i' p e y1 (y2.symm.trans he), List.mem_filter]
      simp [hpk]
    · obtain ⟨hx1, hx2⟩ := List.mem_filter.1 hx
      obtain ⟨a, ha⟩ := h12 x hx1
      exact ⟨a, List.mem_filter.2 ⟨ha, hx2⟩⟩
    · simp only [World.rangeLeft, h1, h6, g1, g2]
      have e1 : ∀ a : Array MapEntry, (leftOf a seen).size = (a.toList.filter fun e => !seen.contains e.born).length := fun a => by
        unfold leftOf
        rw [← Array.toList_filter, Array.length_toList]
      rw [e1, e1, hsub]
      exact ((List.eraseIdx_sublist _ _).filter _).length_le
theorem wpl_delete {ops : Array Oper} {rest : List Oper} {o : Oper} {a : Act} {Q : Exit → Act → World → Prop} (hg : o.guard = none) {m x : Operand} {t K e : TypeId}
    (hop : o.op = Op.call { callee := Callee.builtin Builtin.delete, args := #[m, x], argTypes := #[t, K] }) (ht : P.underlying t = some (.map K e)) (hK : P.underlying K = some (.int .i64)) {k : Int}
    (hm : a.eval m = .map (some b)) (hx : a.eval x = .int .i64 k) (hk : (Lit.int .i64 k).wf = true) (h : ItI E w b r l dn) (hE : ∀ w', Keep (fun x => x = b) w w' → ∀ a v, E w a v → E w' a v)
    (hNext : ∀ w', ItI E w' b r (dropE l k) (dn.filter (fun x => !(x == k))) → Keep (fun x => x = b) w w' → w'.rangeLeft b r ≤ w.rangeLeft b r → w'.heap.size = w.heap.size → wpList P ops Q rest (a.put o.dst (.tuple #[])) w') :
    wpList P ops Q (o :: rest) a w := by
  refine wpList_plain hg fun K' hK' => ?_
  obtain ⟨w', hrun, r1, r2, r3, r4⟩ := h.drop (P := P) ht hK hk hE o.type
  unfold Oper.wp
  simp [execOp, hop, resolve, invoke, builtin, hm, hx, hrun, Result.andThen]
  exact hK' _ _ (hNext w' r1 r2 r3 r4)
end
end Go.Proofs.Ytiomeoihekifeaa

/- A queue in a slice: a row of the call's own that is taken from its head, and appended to. -/
import Derived.Test.YtiomeoihekifeaaGrown
namespace Go.Proofs.Ytiomeoihekifeaa
open Go.RowKit Go.Lib
/-- The slice v shows n elements, their cells xs, from somewhere in a block of its own on. -/
def QRow (w : World) (e : TypeId) (size : Nat) (v : Value) (n : Nat) (xs : List Value) : Prop :=
  xs.length = n * size ∧ ((v = .slice none 0 0 ∧ n = 0) ∨
    ∃ g o cap cur, v = .slice (some ⟨g, o, none⟩) n cap ∧ w.heap[g]? = some (.cells cur e) ∧ n ≤ cap ∧ cap ≤ maxLen ∧ o + cap * size ≤ cur.size ∧ (cur.toList.drop o).take (n * size) = xs)
section
variable {P : Program} {w w' : World} {S : Nat → Prop} {e : TypeId} {size n : Nat} {v : Value} {xs : List Value}
theorem QRow.nil : QRow w e size (.slice none 0 0) 0 [] := ⟨by simp, .inl ⟨rfl, rfl⟩⟩
theorem QRow.keep (h : QRow w e size v n xs) (hk : Keep S w w') (hS : ∀ b, v.ownBlock = some b → ¬ S b) : QRow w' e size v n xs := by
  refine ⟨h.1, ?_⟩
  rcases h.2 with hn | ⟨g, o, cap, cur, rfl, hg, rest⟩
  · exact .inl hn
  · exact .inr ⟨g, o, cap, cur, rfl, hk.heap hg (hS g (by simp [Value.ownBlock])), rest⟩
theorem QRow.shape (h : QRow w e size v n xs) : ∃ A c, v = .slice A n c := by
  rcases h.2 with ⟨rfl, rfl⟩ | ⟨g, o, cap, cur, rfl, _⟩
  · exact ⟨_, _, rfl⟩
  · exact ⟨_, _, rfl⟩
theorem QRow.lt (h : QRow w e size v n xs) : ∀ b, v.ownBlock = some b → b < w.heap.size := fun b hb => by
  rcases h.2 with ⟨rfl, _⟩ | ⟨g, o, cap, cur, rfl, hg, _⟩
  · simp [Value.ownBlock] at hb
  · simp only [Value.ownBlock, Option.some.injEq] at hb; subst hb; exact lt_heap hg
theorem QRow.cells (h : QRow w e size v n xs) : Row (fun b => some b = v.ownBlock) w v n size xs := by
  obtain ⟨hl, hn⟩ := h
  rcases hn with ⟨rfl, rfl⟩ | ⟨g, o, cap, cur, rfl, hg, hn, hc, hs, ht⟩
  · have : xs = [] := List.eq_nil_of_length_eq_zero (by simpa using hl)
    subst this
    exact Row.nil _ _ _
  · refine ⟨_, _, rfl, hl, hn, hc, .inr ⟨g, o, rfl, by simp [Value.ownBlock], lt_heap hg, fun j u hu => ?_⟩⟩
    rw [cell_of_row w g (o + j) cur e (0, 0) hg]
    rw [← ht, List.getElem?_take] at hu
    split at hu
    · rw [List.getElem?_drop] at hu; simpa using hu
    · cases hu
/-- The tail of a queue. -/
theorem QRow.tail {g o cap : Nat} (h : QRow w e size (.slice (some ⟨g, o, none⟩) (n + 1) cap) (n + 1) xs) : QRow w e size (.slice (some ⟨g, if cap = 1 then o else o + 1 * size, none⟩) n (cap - 1)) n (xs.drop size) := by
  obtain ⟨hl, hn⟩ := h
  rw [Nat.succ_mul] at hl
  rcases hn with ⟨hc, _⟩ | ⟨g', o', cap', cur, he, hg, hn, hc, hs, ht⟩
  · cases hc
  · simp only [Value.slice.injEq, Option.some.injEq, Addr.mk.injEq, and_true, true_and] at he
    obtain ⟨⟨rfl, rfl⟩, rfl⟩ := he
    refine ⟨by simp; omega, .inr ⟨g, _, cap - 1, cur, rfl, hg, by omega, by omega, ?_, ?_⟩⟩
    · have : (cap - 1 + 1) * size = cap * size := by congr 1; omega
      rw [Nat.succ_mul] at this
      split
      · rename_i h1; subst h1; simp at hs ⊢; omega
      · omega
    · rw [← ht, List.drop_take, List.drop_drop, show (n + 1) * size - size = n * size by rw [Nat.succ_mul, Nat.add_sub_cancel]]
      split
      · rename_i h1; subst h1
        have : n = 0 := by omega
        subst this
        simp
      · rw [Nat.one_mul]
theorem app_grownQ {t e : TypeId} {z : Value} {size bytes : Nat} (T : SlT P t e z size bytes) {n m old : Nat} {xs news : List Value} (hx : xs.length = n * size) (hl : news.length = m * size)
    (h63 : n + m ≤ maxLen) (S : Nat → Prop) :
    QRow (w.drew.alloc (.cells (xs.toArray ++ news.toArray ++ Builtin.zeroCells z.cells (grownCap w (n + m) old e - (n + m))) e)) e size
        (.slice (some ⟨w.heap.size, 0, none⟩) (n + m) (grownCap w (n + m) old e)) (n + m) (xs ++ news) ∧
      Keep S w (w.drew.alloc (.cells (xs.toArray ++ news.toArray ++ Builtin.zeroCells z.cells (grownCap w (n + m) old e - (n + m))) e)) := by
  obtain ⟨h1, h2⟩ := app_grown (P := P) (w := w) T (old := old) hx hl h63 S
  refine ⟨?_, h2⟩
  obtain ⟨q1, ⟨q2, _⟩ | ⟨g, cap, cur, he, _, hg, hn, hc, hs, ht⟩⟩ := h1
  · cases q2
  · simp only [Value.slice.injEq, Option.some.injEq, Addr.mk.injEq, and_true, true_and] at he
    obtain ⟨rfl, rfl⟩ := he
    exact ⟨q1, .inr ⟨_, 0, _, cur, rfl, hg, hn, hc, by omega, by simpa using ht⟩⟩
theorem run_appQ {t e : TypeId} {z : Value} {size bytes : Nat} (T : SlT P t e z size bytes) (ty : TypeId) {v : Value} {n : Nat} {xs : List Value} (hown : QRow w e size v n xs)
    {G : Nat → Prop} {src : Value} {m : Nat} {news : List Value} (hsrc : Row G w src m size news) (hm0 : 0 < m) (h1 : ∀ u ∈ news, u.oneCell' = true) (hb : (n + m) * bytes ≤ 140737488355328) (h63 : n + m ≤ 140737488355328) :
    ∃ v' w', (Builtin.append_ #[t, t] ty #[v, src]).run P w = .ok v' w' ∧ QRow w' e size v' (n + m) (xs ++ news) ∧ Keep (fun k => some k = v.ownBlock) w w' ∧ SameOrNew w v v' := by
  obtain ⟨i, hi, hz, hsize, hby⟩ := T.info
  have h63' : n + m ≤ maxLen := by unfold maxLen; omega
  have hx := hown.1
  subst hsize
  subst hby
  have hrow := hown.cells
  obtain ⟨A, c, rfl, hl, hmc, hcm, hA⟩ := hsrc
  have hA := hA.resolve_left (by omega)
  obtain ⟨b, off, rfl, _, _, hcell⟩ := hA
  have hfirst : (Builtin.firstCells i.size m (.slice (some ⟨b, off, none⟩) m c)).run P w = .ok news.toArray w :=
    run_firstCells_some (P := P) w i.size m ⟨b, off, none⟩ m c news hl (fun j u hu => by rw [Addr.add_lit]; exact hcell j u hu)
  rcases hown.2 with ⟨rfl, rfl⟩ | ⟨g, o, cap, cur, rfl, hg, hnc, hcapm, hcs, htake⟩
  · have hxs : xs = [] := List.eq_nil_of_length_eq_zero (by simpa using hx)
    subst hxs
    have hr : (Builtin.append_ #[t, t] ty #[.slice none 0 0, .slice (some ⟨b, off, none⟩) m c]).run P w =
        .ok (.slice (some ⟨w.heap.size, 0, none⟩) m (grownCap w m 0 e)) (w.drew.alloc (.cells (news.toArray ++ Builtin.zeroCells z.cells (grownCap w m 0 e - m)) e)) := by
      have hb' := hb
      simp only [Nat.zero_add] at hb'
      exact run_append_nil (P := P) w t ty e i z T.ht hi hz ⟨b, off, none⟩ m c news hl (fun j u hu => by rw [Addr.add_lit]; exact hcell j u hu) (by omega) (by omega) (by omega)
    have hgr := app_grownQ (P := P) (w := w) T (n := 0) (old := 0) (xs := []) (by simp) hl h63' (fun k => some k = (Value.slice none 0 0).ownBlock)
    simp only [Nat.zero_add, List.nil_append, Array.empty_append] at hgr ⊢
    exact ⟨_, _, hr, hgr.1, hgr.2, fun k hk => .inr (by simp [Value.ownBlock] at hk; omega)⟩
  · have holds : ∀ j u, xs[j]? = some u → w.cell? ((⟨g, o, none⟩ : Addr).add j) = some u := fun j u hu => by
      obtain ⟨A', c', he, _, _, _, hq⟩ := hrow
      simp only [Value.slice.injEq, true_and] at he
      obtain ⟨rfl, rfl⟩ := he
      rcases hq with hq | ⟨b', off', he, _, _, hcl⟩
      · have hn0 : n = 0 := by omega
        rw [hn0, Nat.zero_mul] at hx
        rw [List.eq_nil_of_length_eq_zero hx] at hu
        simp at hu
      · simp only [Option.some.injEq, Addr.mk.injEq, and_true] at he
        obtain ⟨rfl, rfl⟩ := he
        rw [Addr.add_lit]; exact hcl j u hu
    have hlen : (xs ++ news).length = (n + m) * i.size := by rw [List.length_append, hx, hl, Nat.add_mul]
    by_cases hroom : n + m ≤ cap
    · have hmul : (n + m) * i.size ≤ cap * i.size := Nat.mul_le_mul_right _ hroom
      rw [Nat.add_mul] at hmul
      have hfit : o + n * i.size + news.length ≤ cur.size := by rw [hl]; omega
      have hst := run_storeCells_at P g (o + n * i.size) e news 0 cur w hg (by simpa using hfit) h1
      simp only [Nat.add_zero] at hst
      have hr : (Builtin.append_ #[t, t] ty #[.slice (some ⟨g, o, none⟩) n cap, .slice (some ⟨b, off, none⟩) m c]).run P w =
          .ok (.slice (some ⟨g, o, none⟩) (n + m) cap) (w.setRow g (cur.toList.take (o + n * i.size) ++ news ++ cur.toList.drop (o + n * i.size + news.length)).toArray) := by
        simp [Builtin.append_, run_underlying T.ht, sizeOf, typeInfo, hi, Builtin.lenOf, hroom, hfirst, Addr.add_lit, hst]
      refine ⟨_, _, hr, ⟨hlen, .inr ⟨g, o, cap, _, rfl, setRow_heap w g cur _ e _ hg, hroom, hcapm, ?_, ?_⟩⟩, ⟨rfl, rfl, rfl, by simp, fun k _ hk => setRow_other w g k _ (fun e => hk (by simp [Value.ownBlock, e]))⟩, fun k hk => .inl (by simpa [Value.ownBlock] using hk)⟩
      · simp only [List.size_toArray, List.length_append, List.length_take, List.length_drop, Array.length_toList]
        omega
      · have h1 : ((cur.toList.take (o + n * i.size)).drop o) = xs := by rw [List.drop_take, Nat.add_sub_cancel_left]; exact htake
        have h2 : (cur.toList.take (o + n * i.size)).length = o + n * i.size := by rw [List.length_take, Array.length_toList]; omega
        show ((cur.toList.take (o + n * i.size) ++ news ++ cur.toList.drop (o + n * i.size + news.length)).drop o).take ((n + m) * i.size) = xs ++ news
        rw [List.append_assoc, List.drop_append_of_le_length (by rw [h2]; omega), h1, ← List.append_assoc, ← hlen]
        exact List.take_left
    · have hr : (Builtin.append_ #[t, t] ty #[.slice (some ⟨g, o, none⟩) n cap, .slice (some ⟨b, off, none⟩) m c]).run P w =
          .ok (.slice (some ⟨w.heap.size, 0, none⟩) (n + m) (grownCap w (n + m) cap e)) (w.drew.alloc (.cells (xs.toArray ++ news.toArray ++ Builtin.zeroCells z.cells (grownCap w (n + m) cap e - (n + m))) e)) :=
        run_append_grow (P := P) w t ty e i z T.ht hi hz ⟨g, o, none⟩ n cap xs hx holds ⟨b, off, none⟩ m c news hl (fun j u hu => by rw [Addr.add_lit]; exact hcell j u hu) (by omega) (by omega) (growslice_fits (by omega) hb)
      have hgr := app_grownQ (P := P) (w := w) T (n := n) (old := cap) hx hl h63' (fun k => some k = (Value.slice (some ⟨g, o, none⟩) n cap).ownBlock)
      exact ⟨_, _, hr, hgr.1, hgr.2, fun k hk => .inr (by simp [Value.ownBlock] at hk; omega)⟩
theorem wpl_appQ {ops : Array Oper} {rest : List Oper} {o : Oper} {a : Act} {Q : Exit → Act → World → Prop} (hgd : o.guard = none) {s x : Operand} {t e : TypeId}
    (ho : o.op = .call { callee := .builtin .append, args := #[s, x], argTypes := #[t, t] }) {z : Value} {size bytes : Nat} (T : SlT P t e z size bytes)
    {v : Value} {n : Nat} {xs : List Value} (hs : a.eval s = v) (hown : QRow w e size v n xs)
    {G : Nat → Prop} {src : Value} {m : Nat} {news : List Value} (hx : a.eval x = src) (hsrc : Row G w src m size news) (hm0 : 0 < m) (h1 : ∀ u ∈ news, u.oneCell' = true)
    (hb : (n + m) * bytes ≤ 140737488355328) (h63 : n + m ≤ 140737488355328)
    (h : ∀ A c w', QRow w' e size (.slice A (n + m) c) (n + m) (xs ++ news) → Keep (fun k => some k = v.ownBlock) w w' → SameOrNew w v (.slice A (n + m) c) → wpList P ops Q rest (a.put o.dst (.slice A (n + m) c)) w') :
    wpList P ops Q (o :: rest) a w := by
  obtain ⟨v', w', hr, h2, h3, h4⟩ := run_appQ (P := P) T o.type hown hsrc hm0 h1 hb h63
  refine wpList_plain hgd (fun K hK => ?_)
  unfold Oper.wp execOp
  simp only [ho, resolve, invoke, builtin, Sem.run_bind, Sem.run_pure, Result.andThen_ok, List.map_toArray, List.map_cons, List.map_nil, hs, hx, hr]
  obtain ⟨A, c, rfl⟩ := h2.shape
  exact hK _ _ (h A c w' h2 h3 h4)
end
end Go.Proofs.Ytiomeoihekifeaa

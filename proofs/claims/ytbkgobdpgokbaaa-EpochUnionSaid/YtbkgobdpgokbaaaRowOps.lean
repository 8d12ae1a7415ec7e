/- Rows of numbers of the call's own: Clone, Insert, Delete. -/
import Derived.Test.YtbkgobdpgokbaaaInsert
import Derived.Test.YtbkgobdpgokbaaaInts
import Derived.Deep.Onto
namespace Go.Proofs.Ytbkgobdpgokbaaa
open Go.RowKit Go.Shelf Go.Proofs
/-- Cells are laid into an array, one behind the other. -/
def setL (C : Array Value) : Nat → List Value → Array Value
  | _, [] => C
  | o, v :: r => setL (C.setIfInBounds o v) (o + 1) r
theorem setL_size : ∀ (vs : List Value) (C : Array Value) (o : Nat), (setL C o vs).size = C.size
  | [], _, _ => rfl
  | v :: r, C, o => by rw [setL, setL_size r]; simp
theorem setL_get : ∀ (vs : List Value) (C : Array Value) (o i : Nat), o + vs.length ≤ C.size → (setL C o vs)[i]? = if o ≤ i ∧ i < o + vs.length then vs[i - o]? else C[i]?
  | [], C, o, i, _ => by rw [setL, if_neg (by simp only [List.length_nil]; omega)]
  | v :: r, C, o, i, h => by
    simp only [List.length_cons] at h ⊢
    rw [setL, setL_get r _ (o + 1) i (by simp; omega)]
    by_cases h1 : o + 1 ≤ i ∧ i < o + 1 + r.length
    · rw [if_pos h1, if_pos (by omega), show i - o = (i - (o + 1)) + 1 by omega, List.getElem?_cons_succ]
    · rw [if_neg h1]
      by_cases h2 : i = o
      · subst h2
        rw [if_pos (by omega), Nat.sub_self, Array.getElem?_setIfInBounds_self_of_lt (by omega)]
        rfl
      · rw [if_neg (by omega), Array.getElem?_setIfInBounds_ne (by omega)]
theorem heap_setCells {b : Nat} {e : TypeId} {fz : Nat × Nat} : ∀ (vs : List Value) (o : Nat) (w : World) (c : Array Value), w.heap[b]? = some (.cells c e fz) → (w.setCells b o vs).heap[b]? = some (.cells (setL c o vs) e fz)
  | [], _, _, _, h => h
  | v :: r, o, w, c, h => by
    rw [World.setCells, setL]
    exact heap_setCells r (o + 1) _ _ (heap_set h o v)
theorem keep_setCells (b : Nat) : ∀ (vs : List Value) (o : Nat) (w : World), Keep (fun k => k = b) w (w.setCells b o vs)
  | [], _, w => Keep.refl _ w
  | v :: r, o, w => by
    rw [World.setCells]
    exact ((Keep.refl (fun k => k = b) w).setCell ⟨b, o, none⟩ v (fun _ => rfl)).trans (keep_setCells b r (o + 1) _) (fun _ _ e => e)
section
variable {F : Nat → Prop} {w w' : World} {v : Value} {l : List Int}
/-- A copy of a row, of the call's own. -/
theorem cloneI (h : Row F w v l.length 1 (l.map I64)) (h0 : 0 < l.length) (hl : l.length ≤ 1000000) : Calls Try.prog 34 #[v] w fun e w' => ∃ g c, e = .returned (.slice (some ⟨g, 0, none⟩) l.length c) ∧ w'.ownsRow 0 3 1 (.slice (some ⟨g, 0, none⟩) l.length c) l.length (l.map I64) ∧ w.heap.size ≤ g ∧ Keep (fun _ => False) w w' := by
  obtain ⟨A, c, rfl, hcell⟩ := h.int'
  obtain ⟨b, off, rfl, hF, hc⟩ := hcell h0
  refine (Go.Proofs.Try.slices_Clone_int b off l.length c l w (Nat.le_refl _) (by omega) hc).mono ?_
  rintro e w' ⟨v', rfl, hown, hne, hbel⟩
  rw [List.take_length] at hown
  have hk : Keep (fun _ => False) w w' := ⟨hbel.os, hbel.tape, hbel.output, hbel.size, fun k hk _ => hbel.block k hk⟩
  have hown0 := hown.mono (base' := 0) (Nat.zero_le _)
  obtain ⟨hlen, ⟨rfl, h1⟩ | ⟨g, cap, cur, rfl, hg, hb, hn, hcm, hcs, htk⟩⟩ := hown
  · exact absurd rfl hne
  · exact ⟨g, cap, rfl, hown0, hg, hk⟩
/-- A row of the call's own, from its block. -/
theorem own_of {g cap n : Nat} {cur : Array Value} {xs : List Value} {e : TypeId} (hb : w.heap[g]? = some (.cells cur e)) (hn : n ≤ cap) (hm : cap ≤ maxLen) (hs : cur.size = cap) (ht : cur.toList.take n = xs) (hl : xs.length = n) : w.ownsRow 0 e 1 (.slice (some ⟨g, 0, none⟩) n cap) n xs :=
  ⟨by omega, .inr ⟨g, cap, cur, rfl, Nat.zero_le _, hb, hn, hm, by omega, by simpa using ht⟩⟩
theorem own_block {g cap n : Nat} {xs : List Value} {e : TypeId} (h : w.ownsRow 0 e 1 (.slice (some ⟨g, 0, none⟩) n cap) n xs) : ∃ cur : Array Value, w.heap[g]? = some (.cells cur e) ∧ n ≤ cap ∧ cap ≤ maxLen ∧ cur.size = cap ∧ cur.toList.take n = xs ∧ xs.length = n := by
  obtain ⟨h1, ⟨h2, _⟩ | ⟨g', c', cur, he, hb, hg, hn, hc, hs, ht⟩⟩ := h
  · simp at h2
  · simp only [Value.slice.injEq, Option.some.injEq, Addr.mk.injEq, and_true, true_and] at he
    obtain ⟨rfl, rfl⟩ := he
    exact ⟨cur, hg, hn, hc, by omega, by simpa using ht, by omega⟩
def insAt (l : List Int) (i : Nat) (x : Int) : List Int := l.take i ++ x :: l.drop i
def delAt (l : List Int) (i : Nat) : List Int := l.take i ++ l.drop (i + 1)
theorem insAt_len (l : List Int) (i : Nat) (x : Int) (hi : i ≤ l.length) : (insAt l i x).length = l.length + 1 := by
  simp [insAt]; omega
theorem shape_of {b : Nat} {c : Array Value} {e : TypeId} {fz : Nat × Nat} (h : w.heap[b]? = some (.cells c e fz)) : w.shape? b = some (e, c.size) := by
  simp [World.shape?, h]
theorem insI {g cap vb i : Nat} {x : Int} (h : w.ownsRow 0 3 1 (.slice (some ⟨g, 0, none⟩) l.length cap) l.length (l.map I64)) (h0 : 0 < l.length) (hl : l.length ≤ 1000000) (hi : i ≤ l.length)
    (hv : w.heap[vb]? = some (.cells #[.int .i64 x] 3)) (hne : vb ≠ g) :
    Calls Try.prog 37 #[.slice (some ⟨g, 0, none⟩) l.length cap, .int .i64 i, .slice (some ⟨vb, 0, none⟩) 1 1] w fun e w' => ∃ g' c', e = .returned (.slice (some ⟨g', 0, none⟩) (l.length + 1) c') ∧ w'.ownsRow 0 3 1 (.slice (some ⟨g', 0, none⟩) (l.length + 1) c') (l.length + 1) ((insAt l i x).map I64) ∧ (g' = g ∨ w.heap.size ≤ g') ∧ Keep (fun k => k = g) w w' := by
  obtain ⟨cur, hg, hnc, hcm, hcs, htk, _⟩ := own_block h
  have hgl := lt_heap hg
  have hcell : ∀ (j : Nat) (u : Value), (l.map I64)[j]? = some u → w.cell? ⟨g, 0 + j, none⟩ = some u := fun j u hu => by
    have := h.cells (g := g) rfl j u hu
    rw [Addr.add_lit] at this
    exact this
  have hsome : ∀ j, j < cap → (w.cell? ⟨g, 0 + j, none⟩).isSome = true := fun j hj => by
    rw [Nat.zero_add, cell_at hg j (cur[j]'(by omega)) (by simp [show j < cur.size by omega])]; rfl
  have hfr : ∀ j, w.frozen? ⟨g, 0 + j, none⟩ = false := fun j => free_at hg _
  have hvs : ∀ (j : Nat) (u : Value), [I64 x][j]? = some u → w.cell? ⟨vb, 0 + j, none⟩ = some u := fun j u hu => by
    rcases j with _ | j
    · simp at hu; subst hu; exact cell_at hv 0 _ rfl
    · simp at hu
  have h1c : ∀ u ∈ l.map I64, u.oneCell' = true := fun u hu => by
    obtain ⟨n, _, rfl⟩ := List.mem_map.1 hu; rfl
  have h1v : ∀ u ∈ [I64 x], u.oneCell' = true := fun u hu => by
    rw [List.mem_singleton] at hu; subst hu; rfl
  have hml : maxLen = 9223372036854775807 := rfl
  have hget : ∀ j, j < l.length → cur[j]? = some (I64 (l.getD j 0)) := fun j hj => by
    have e1 : (cur.toList.take l.length)[j]? = (l.map I64)[j]? := by rw [htk]
    rw [List.getElem?_take, if_pos hj] at e1
    rw [← Array.getElem?_toList, e1]; simp [hj]
  have hinsget : ∀ j, j < l.length + 1 → ((insAt l i x).map I64)[j]? = some (I64 (if j < i then l.getD j 0 else if j = i then x else l.getD (j - 1) 0)) := fun j hj => by
    rw [List.getElem?_map, insAt]
    have hti : (l.take i).length = i := by simp; omega
    by_cases c1 : j < i
    · rw [List.getElem?_append_left (by omega), if_pos c1, List.getElem?_take, if_pos c1]
      simp [show j < l.length by omega]
    · rw [List.getElem?_append_right (by omega), hti, if_neg c1]
      by_cases c2 : j = i
      · subst c2; simp
      · rw [if_neg c2, show j - i = (j - i - 1) + 1 by omega, List.getElem?_cons_succ, List.getElem?_drop, show i + (j - i - 1) = j - 1 by omega]
        simp [show j - 1 < l.length by omega]
  have hinslen : ((insAt l i x).map I64).length = l.length + 1 := by rw [List.length_map, insAt_len l i x hi]
  by_cases hroom : l.length + 1 ≤ cap
  · by_cases hlt : i < l.length
    · refine (Any2.slices_Insert_int_shift insLays g 0 l.length cap i vb 0 1 1 (l.map I64) [I64 x] w hlt (by omega) hroom (by omega) hne (by simp) rfl hcell (fun j hj => hsome j (by omega)) (fun j _ => hfr j) hvs h1c h1v _ _ _ _ (shape_of hv) (shape_of hg) (by omega) (free_at hv _) (free_at hv _)).mono ?_
      rintro e w' ⟨rfl, rfl⟩
      have hg2 := heap_setCells [I64 x] (0 + i) _ _ (heap_setCells ((l.map I64).drop i) (0 + (i + 1)) w.drew cur (heap_drew hg))
      have hk2 := ((Keep.refl (fun k => k = g) w).drew.trans (keep_setCells g ((l.map I64).drop i) (0 + (i + 1)) w.drew) (fun _ _ e => e)).trans (keep_setCells g [I64 x] (0 + i) _) (fun _ _ e => e)
      refine ⟨g, cap, rfl, own_of hg2 hroom hcm (by rw [setL_size, setL_size, hcs]) ?_ hinslen, .inl rfl, hk2⟩
      apply List.ext_getElem?
      intro j
      rw [List.getElem?_take]
      split
      · rename_i hj
        rw [hinsget j hj, Array.getElem?_toList, setL_get _ _ _ _ (by rw [setL_size]; simp; omega), setL_get _ _ _ _ (by simp; omega)]
        by_cases c1 : j < i
        · rw [if_neg (by omega), if_neg (by omega), hget j (by omega), if_pos c1]
        · by_cases c2 : j = i
          · subst c2; simp
          · rw [if_neg (by simp only [List.length_cons, List.length_nil]; omega), if_pos (by simp; omega), if_neg c1, if_neg c2, List.getElem?_drop, List.getElem?_map, show i + (j - (0 + (i + 1))) = j - 1 by omega]
            simp [show j - 1 < l.length by omega]
      · rename_i hj
        rw [List.getElem?_eq_none (by omega)]
    · obtain rfl : i = l.length := by omega
      refine (Any2.slices_Insert_int_end_room insLays g 0 l.length cap vb 0 1 1 [I64 x] w (by omega) hroom (by omega) rfl (fun j hj => by have := hsome (l.length + j) (by omega); simpa [Nat.add_assoc] using this) (fun j _ => by have := hfr (l.length + j); simpa [Nat.add_assoc] using this) hvs h1v).mono ?_
      rintro e w' ⟨rfl, rfl⟩
      have hg2 := heap_setCells [I64 x] (0 + l.length) w cur hg
      refine ⟨g, cap, rfl, own_of hg2 hroom hcm (by rw [setL_size, hcs]) ?_ hinslen, .inl rfl, keep_setCells g _ _ w⟩
      apply List.ext_getElem?
      intro j
      rw [List.getElem?_take]
      split
      · rename_i hj
        rw [hinsget j hj, Array.getElem?_toList, setL_get _ _ _ _ (by simp; omega)]
        by_cases c1 : j < l.length
        · rw [if_neg (by omega), hget j c1, if_pos c1]
        · obtain rfl : j = l.length := by omega
          simp
      · rename_i hj
        rw [List.getElem?_eq_none (by omega)]
  · have hge := grownCap_ge w (l.length + 1) cap 3
    have hle : grownCap w (l.length + 1) cap 3 ≤ maxLen := grownCap_le_maxLen w (l.length + 1) cap 3 (by omega)
    by_cases hlt : i < l.length
    · refine (Any2.slices_Insert_int_grow insLays g 0 l.length cap i vb 0 1 1 (l.map I64) [I64 x] w hlt (by omega) hnc (by omega) (by omega) (by simp) rfl hcell hvs h1c h1v).mono ?_
      rintro e w' ⟨rfl, rfl⟩
      obtain ⟨C0, hC0⟩ : ∃ C0, C0 = ((l.map I64).take i).toArray ++ Builtin.zeroCells (Value.int .i64 0).cells (l.length + 1 - i) ++ Builtin.zeroCells (Value.int .i64 0).cells (grownCap w (l.length + 1) cap (insRen.t 3) - (l.length + 1)) := ⟨_, rfl⟩
      rw [← hC0]
      have hz1 : (Value.int .i64 0).cells.size = 1 := rfl
      have hCs : C0.size = grownCap w (l.length + 1) cap 3 := by
        rw [hC0]
        simp only [Array.size_append, size_zeroCells, hz1, List.size_toArray, List.length_take, List.length_map]
        have : (insRen.t 3) = 3 := rfl
        rw [this]
        omega
      have hg2 := heap_setCells ((l.map I64).drop i) (i + 1) _ _ (heap_drew (heap_setCells [I64 x] i (w.alloc (.cells C0 (insRen.t 3))).drew C0 (heap_drew (heap_alloc_new w _))))
      have hk1 : Keep (fun k => k = w.heap.size) w (w.alloc (.cells C0 (insRen.t 3))).drew := ((Keep.refl (fun k => k = w.heap.size) w).alloc _).drew
      have hk2 := ((hk1.trans (keep_setCells w.heap.size [I64 x] i _) (fun _ _ e => e)).drew).trans (keep_setCells w.heap.size ((l.map I64).drop i) (i + 1) _) (fun _ _ e => e)
      refine ⟨w.heap.size, _, rfl, own_of hg2 hge hle (by rw [setL_size, setL_size, hCs]; rfl) ?_ hinslen, .inr (Nat.le_refl _), hk2.mono (fun k hk e => by omega)⟩
      apply List.ext_getElem?
      intro j
      rw [List.getElem?_take]
      split
      · rename_i hj
        rw [hinsget j hj, Array.getElem?_toList, setL_get _ _ _ _ (by rw [setL_size, hCs]; simp; omega), setL_get _ _ _ _ (by rw [hCs]; simp; omega)]
        by_cases c1 : j < i
        · rw [if_neg (by omega), if_neg (by omega), if_pos c1, hC0]
          rw [Array.append_assoc, Array.getElem?_append_left (by simp; omega)]
          simp [c1, show j < l.length by omega]
        · by_cases c2 : j = i
          · subst c2; rw [if_neg (by omega), if_pos (by simp)]; simp
          · rw [if_pos (by simp; omega), if_neg c1, if_neg c2, List.getElem?_drop, List.getElem?_map, show i + (j - (i + 1)) = j - 1 by omega]
            simp [show j - 1 < l.length by omega]
      · rename_i hj
        rw [List.getElem?_eq_none (by omega)]
    · obtain rfl : i = l.length := by omega
      refine (Any2.slices_Insert_int_end_grow insLays (some ⟨g, 0, none⟩) l.length cap vb 0 1 1 (l.map I64) [I64 x] w (by omega) hnc (by omega) (by omega) (by simp) rfl (fun e => by cases e) (fun a ha j u hu => by cases ha; rw [Addr.add_lit]; exact hcell j u hu) hvs h1v).mono ?_
      rintro e w' ⟨rfl, rfl⟩
      refine ⟨w.heap.size, _, rfl, own_of (heap_alloc_new w.drew _) hge hle ?_ ?_ hinslen, .inr (Nat.le_refl _), ((Keep.refl _ w).drew).alloc _⟩
      · have hz1 : (Value.int .i64 0).cells.size = 1 := rfl
        have : (insRen.t 3) = 3 := rfl
        simp only [Array.size_append, size_zeroCells, hz1, List.size_toArray, List.length_append, List.length_map, List.length_cons, List.length_nil]
        rw [this]
        omega
      · simp only [Array.toList_append, List.append_assoc]
        have e1 : insAt l l.length x = l ++ [x] := by simp [insAt]
        rw [e1, List.map_append]
        rw [← List.append_assoc]
        have : ((l.map I64) ++ [I64 x]).length = l.length + 1 := by simp
        rw [← this]
        exact List.take_left
theorem delI {g cap i : Nat} (h : w.ownsRow 0 3 1 (.slice (some ⟨g, 0, none⟩) l.length cap) l.length (l.map I64)) (hl : l.length ≤ 1000000) (hi : i < l.length) :
    Calls Try.prog 38 #[.slice (some ⟨g, 0, none⟩) l.length cap, .int .i64 i, .int .i64 ((i : Int) + 1)] w fun e w' => e = .returned (.slice (some ⟨g, 0, none⟩) (l.length - 1) cap) ∧ w'.ownsRow 0 3 1 (.slice (some ⟨g, 0, none⟩) (l.length - 1) cap) (l.length - 1) ((delAt l i).map I64) ∧ Keep (fun k => k = g) w w' := by
  obtain ⟨cur, hg, hnc, hcm, hcs, htk, _⟩ := own_block h
  have hget : ∀ j, j < l.length → cur[j]? = some (I64 (l.getD j 0)) := fun j hj => by
    have e1 : (cur.toList.take l.length)[j]? = (l.map I64)[j]? := by rw [htk]
    rw [List.getElem?_take, if_pos hj] at e1
    rw [← Array.getElem?_toList, e1]; simp [hj]
  have hml : maxLen = 9223372036854775807 := rfl
  have hdel := Go.Proofs.Try.slices_Delete_int_cells g 0 l.length cap i (i + 1) l w (Nat.le_refl _) hnc (by omega) (by omega) (by omega) (fun j hj => cell_at hg _ _ (by rw [Nat.zero_add]; exact hget j hj)) (fun j _ => free_at hg _)
  rw [List.take_length] at hdel
  rw [show ((i + 1 : Nat) : Int) = (i : Int) + 1 by omega] at hdel
  refine hdel.mono ?_
  rintro e w' ⟨rfl, q, rfl⟩
  have h1 : i + 1 - i = 1 := by omega
  rw [h1]
  have hlen : (delAt l i).length = l.length - 1 := by simp [delAt]; omega
  have hg2 := heap_setCells ((l.take i ++ l.drop (i + 1) ++ List.replicate 1 0).map I64) 0 (w.drewN q) cur hg
  refine ⟨rfl, own_of hg2 (by omega) hcm (by rw [setL_size, hcs]) ?_ (by rw [List.length_map, hlen]), ((Keep.refl (fun k => k = g) w).drewN q).trans (keep_setCells g _ 0 _) (fun _ _ e => e)⟩
  apply List.ext_getElem?
  intro j
  rw [List.getElem?_take]
  split
  · rename_i hj
    rw [Array.getElem?_toList, setL_get _ _ _ _ (by simp; omega), if_pos (by simp; omega), Nat.sub_zero, List.getElem?_map, List.getElem?_map, List.getElem?_append_left (by simp; omega)]
    rfl
  · rw [List.getElem?_eq_none (by rw [List.length_map, hlen]; omega)]
end
end Go.Proofs.Ytbkgobdpgokbaaa

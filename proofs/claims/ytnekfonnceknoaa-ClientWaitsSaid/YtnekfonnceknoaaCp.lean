/- slices.Clone of commits. A slice of structs in memory of its own whose lists are copied one by one. -/
import Derived.Test.YtnekfonnceknoaaMt
namespace Go.Proofs.Ytnekfonnceknoaa
open Go.RowKit
theorem T_K : SlT Try.prog 33 69 (.agg (commitCs ⟨0, 0, ByteArray.empty, []⟩ (.slice none 0 0)).toArray) 4 56 := SlT.mk' Try.underlying33 (by kernel_rfl) rfl (by decide)
set_option maxRecDepth 20000 in
theorem clone_K {F : Nat → Prop} {w : World} {A : Option Addr} {n c : Nat} {cs : List Value} (hv : Row F w (.slice A n c) n 4 cs) (h1c : ∀ u ∈ cs, u.oneCell' = true) (hl : n ≤ 4294967296) :
    Calls Try.prog 30 #[.slice A n c] w fun e w' => ∃ A' c', e = .returned (.slice A' n c') ∧ w'.ownsRow 0 69 4 (.slice A' n c') n cs ∧ (∀ k, (Value.slice A' n c').ownBlock = some k → w.heap.size ≤ k) ∧ Keep (fun _ => False) w w' := by
  rcases A with _ | ⟨b, off, p⟩
  · have hnil := fun w => Lib.run_eql_slice_nil (P := Try.prog) w 33 69 none n c 0 0 Try.underlying33
    have hl0 : n = 0 := by
      obtain ⟨_, _, he, _, h, _, h0 | ⟨b, off, hA, _⟩⟩ := hv
      · simp only [Value.slice.injEq] at he; omega
      · simp only [Value.slice.injEq] at he; rw [← he.1] at hA; cases hA
    subst hl0
    have hcs : cs = [] := by obtain ⟨_, _, _, h, _⟩ := hv; exact List.eq_nil_of_length_eq_zero (by simpa using h)
    subst hcs
    clear hv h1c
    go_enter Try.func30, Try.ntmps30
    go_wp2_with fail
    refine bodyPost_ret (v := .slice none 0 0) (by simp [results, Try.results30, go_sem]) rfl ?_
    exact ⟨none, 0, rfl, World.ownsRow_nil _ 0 _ _, fun k hk => by simp [Value.ownBlock] at hk, Keep.refl _ _⟩
  · have hnil := fun w => Lib.run_eql_slice_nil (P := Try.prog) w 33 69 (some ⟨b, off, p⟩) n c 0 0 Try.underlying33
    have hown : (w.alloc (.cells #[] 69)).ownsRow 0 69 4 (.slice (some ⟨w.heap.size, 0, none⟩) 0 0) 0 [] := ⟨rfl, .inr ⟨w.heap.size, 0, #[], rfl, Nat.zero_le _, heap_alloc_new w _, Nat.le_refl _, Nat.zero_le _, rfl, rfl⟩⟩
    have hrow' : Row F (w.alloc (.cells #[] 69)) (.slice (some ⟨b, off, p⟩) n c) n 4 cs := hv.keep ((Keep.refl (fun _ => False) w).alloc _) (fun _ _ => id)
    clear hv
    go_enter Try.func30, Try.ntmps30
    go_wp2_with (at_builtin; refine stopHere ?_)
    refine goOn (wpl_app (v := .slice (some ⟨w.heap.size, 0, none⟩) 0 0) rfl rfl T_K rfl hown rfl hrow' h1c (by omega) (by omega) ?_)
    intro A1 c1 w1 ho1 hk1 hn1
    have hk : Keep (fun _ => False) w w1 := ((Keep.refl (fun _ => False) w).alloc _).trans hk1 (fun q hq e => by simp only [Value.ownBlock, Option.some.injEq] at e; omega)
    rw [Nat.zero_add, List.nil_append] at ho1
    rw [Nat.zero_add] at hn1
    go_wp2_with fail
    refine bodyPost_ret (v := .slice A1 n c1) (by simp [results, Try.results30, go_sem]) rfl ?_
    refine ⟨_, _, rfl, ho1, fun k hk => ?_, hk⟩
    rcases hn1 k hk with q | q
    · simp only [Value.ownBlock, Option.some.injEq] at q; omega
    · simp at q; omega
end Go.Proofs.Ytnekfonnceknoaa
namespace Go.Proofs.Ytnekfonnceknoaa
open Go.RowKit

theorem heap_setCells {b : Nat} {e : TypeId} : ∀ (vs : List Value) (o : Nat) (C : Array Value) (w : World), w.heap[b]? = some (.cells C e) → o + vs.length ≤ C.size → (w.setCells b o vs).heap[b]? = some (.cells (spl C o vs) e)
  | [], o, C, w, h, _ => by
    simp only [World.setCells, spl, List.append_nil, List.length_nil, Nat.add_zero, List.take_append_drop, Array.toArray_toList]
    exact h
  | v :: r, o, C, w, h, hl => by
    simp only [List.length_cons] at hl
    have ho : o < C.size := by omega
    have := heap_setCells r (o + 1) (C.setIfInBounds o v) (w.setCell ⟨b, o, none⟩ v) (heap_set h o v) (by simp; omega)
    rw [World.setCells, this]
    congr 2
    simp only [spl, Array.toList_setIfInBounds]
    congr 1
    rw [List.take_add_one, List.take_set_of_le (Nat.le_refl _), List.drop_set_of_lt (by omega)]
    simp [ho, Nat.add_assoc, Nat.add_comm 1]
theorem keep_setCells (b : Nat) : ∀ (vs : List Value) (o : Nat) (w : World), Keep (fun k => k = b) w (w.setCells b o vs)
  | [], _, w => Keep.refl _ w
  | v :: r, o, w => by
    rw [World.setCells]
    exact ((Keep.refl (fun k => k = b) w).setCell ⟨b, o, none⟩ v (fun _ => rfl)).trans (keep_setCells b r (o + 1) _) (fun _ _ e => e)
theorem spl_get {C : Array Value} {o : Nat} {vs : List Value} (h : o + vs.length ≤ C.size) (j : Nat) : (spl C o vs)[j]? = if j < o then C[j]? else if j < o + vs.length then vs[j - o]? else C[j]? := by
  simp only [spl, List.getElem?_toArray, List.append_assoc]
  by_cases h1 : j < o
  · rw [if_pos h1, List.getElem?_append_left (by simp; omega), List.getElem?_take, if_pos h1]; simp
  · rw [if_neg h1, List.getElem?_append_right (by simp; omega)]
    have e1 : (List.take o C.toList).length = o := by simp; omega
    rw [e1]
    by_cases h2 : j < o + vs.length
    · rw [if_pos h2, List.getElem?_append_left (by omega)]
    · rw [if_neg h2, List.getElem?_append_right (by omega), List.getElem?_drop]
      rw [show o + vs.length + (j - o - vs.length) = j by omega]; simp

theorem run_stC {P : Program} {w : World} {b o : Nat} {C : Array Value} {e : TypeId} {vs : List Value} (hb : w.heap[b]? = some (.cells C e)) (h : o + vs.length ≤ C.size) (h1 : ∀ u ∈ vs, u.oneCell' = true) :
    (storeCells ⟨b, o, none⟩ vs).run P w = .ok () (w.setCells b o vs) := by
  have := run_storeCells_cells (P := P) b o vs 0 w (fun j hj => by rw [Nat.add_zero, cell_of_row w b _ C e (0, 0) hb]; simp; omega) (fun j hj => by simp [World.frozen?, hb]) h1
  simpa using this

/-- The struct's cells, out of its value and the list's; the list. -/
structure CopyK (α : Type) where
  r : Rep α
  cs : α → Value → List Value
  ch : α → List Change
  o : Nat
  n : Nat
  pos : 0 < r.size
  len : ∀ x v, (cs x v).length = r.size
  on : o + n ≤ r.size
  out : ∀ x v v' j, (j < o ∨ o + n ≤ j) → (cs x v)[j]? = (cs x v')[j]?
  read : ∀ {w : World} {F : Nat → Prop} {x d}, r.cells w F x d → ∃ v, d = cs x v ∧ Sl .change w F v (ch x)
  back : ∀ {w w' : World} {F G : Nat → Prop} {x d} {v : Value}, r.cells w F x d → Sl .change w' G v (ch x) → r.cells w' G x (cs x v)

section
variable {α : Type} (K : CopyK α) {et : TypeId}
/-- The lists of the first k elements lie in new memory, the others' where they lay (F). -/
def CopyAt (et : TypeId) (B : Nat) (F : Nat → Prop) (w0 : World) (u : Value) (l : List α) (k : Nat) (w : World) : Prop :=
  ∃ A c, u = .slice A l.length c ∧ l.length ≤ c ∧ c ≤ maxLen ∧ (c = 0 ∨ ∃ g cur, A = some ⟨g, 0, none⟩ ∧ B ≤ g ∧ w.heap[g]? = some (.cells cur et) ∧ cur.size = c * K.r.size ∧
    ∀ i x, l[i]? = some x → ∃ v, (∀ j y, (K.cs x v)[j]? = some y → cur[i * K.r.size + j]? = some y) ∧ (∃ cs, K.r.cells w0 F x cs) ∧ Sl .change w (fun q => if i < k then B ≤ q ∧ q < w.heap.size ∧ q ≠ g else F q) v (K.ch x))
variable {K} {B : Nat} {F S : Nat → Prop} {w0 w w' : World} {u : Value} {l : List α} {k : Nat}
theorem CopyAt.keep (h : CopyAt K et B F w0 u l k w) (hk : Keep S w w') (hB : ∀ q, B ≤ q → ¬ S q) (hF : ∀ q, F q → ¬ S q) : CopyAt K et B F w0 u l k w' := by
  obtain ⟨A, c, hu, hl, hc, h⟩ := h
  refine ⟨A, c, hu, hl, hc, h.imp id ?_⟩
  rintro ⟨g, cur, hA, hg, hb, hs, hel⟩
  have hsz := hk.size
  refine ⟨g, cur, hA, hg, hk.heap hb (hB g hg), hs, fun i x hx => ?_⟩
  obtain ⟨v, h1, h2, h3⟩ := hel i x hx
  refine ⟨v, h1, h2, (h3.keep hk ?_).mono ?_⟩
  · intro q hq
    split at hq
    · exact hB q hq.1
    · exact hF q hq
  · intro q hq
    by_cases hik : i < k
    · rw [if_pos hik] at hq ⊢; exact ⟨hq.1, by omega, hq.2.2⟩
    · rw [if_neg hik] at hq ⊢; exact hq
theorem CopyAt.start {cs : List Value} {n c : Nat} {A : Option Addr} (ho : w.ownsRow 0 et K.r.size (.slice A n c) n cs) (hn : l.length = n) (hB : ∀ q, (Value.slice A n c).ownBlock = some q → B ≤ q)
    (hp : ∀ i x, l[i]? = some x → K.r.cells w0 F x ((cs.drop (i * K.r.size)).take K.r.size)) (hk : Keep S w0 w) (hF : ∀ q, F q → ¬ S q) : CopyAt K et B F w0 (.slice A n c) l 0 w := by
  subst hn
  rcases ho.2 with ⟨h0, h1⟩ | ⟨g, cap, cur, hu, hbg, hb, hnc, hcm, hcs, ht⟩
  · simp only [Value.slice.injEq] at h0
    obtain ⟨rfl, h3, rfl⟩ := h0
    exact ⟨none, 0, rfl, by omega, Nat.zero_le _, .inl rfl⟩
  · simp only [Value.slice.injEq, true_and] at hu
    obtain ⟨rfl, rfl⟩ := hu
    refine ⟨_, c, rfl, hnc, hcm, .inr ⟨g, cur, rfl, hB g (by simp [Value.ownBlock]), hb, hcs, fun i x hx => ?_⟩⟩
    have hi := (List.getElem?_eq_some_iff.1 hx).1
    have h1 := hp i x hx
    obtain ⟨v, h2, h3⟩ := K.read h1
    refine ⟨v, fun j y hy => ?_, ⟨_, h1⟩, (h3.keep hk hF).mono (fun q hq => by simpa using hq)⟩
    have hj : j < K.r.size := by rw [← K.len x v]; exact (List.getElem?_eq_some_iff.1 hy).1
    rw [← h2, List.getElem?_take, if_pos hj, List.getElem?_drop, ← ht, List.getElem?_take] at hy
    split at hy
    · simpa using hy
    · cases hy
/-- The k-th element, before its turn. -/
theorem CopyAt.at (h : CopyAt K et B F w0 u l k w) {x : α} (hx : l[k]? = some x) : ∃ g cur c v, u = .slice (some ⟨g, 0, none⟩) l.length c ∧ B ≤ g ∧ w.heap[g]? = some (.cells cur et) ∧ (k + 1) * K.r.size ≤ cur.size ∧
    (∀ j y, (K.cs x v)[j]? = some y → w.cell? ⟨g, k * K.r.size + j, none⟩ = some y) ∧ Sl .change w F v (K.ch x) := by
  obtain ⟨A, c, hu, hl, hc, h⟩ := h
  have hi := (List.getElem?_eq_some_iff.1 hx).1
  obtain ⟨g, cur, rfl, hg, hb, hs, hel⟩ := h.resolve_left (by omega)
  obtain ⟨v, h1, h2, h3⟩ := hel k x hx
  refine ⟨g, cur, c, v, hu, hg, hb, by rw [hs]; exact Nat.mul_le_mul_right _ (by omega), fun j y hy => ?_, h3.mono (fun q hq => by simpa using hq)⟩
  rw [cell_of_row w g _ cur et (0, 0) hb]
  exact h1 j y hy
/-- Its list has been copied and laid in. -/
theorem CopyAt.step (h : CopyAt K et B F w0 u l k w) {x : α} (hx : l[k]? = some x) {w1 : World} {v1 : Value} (hk : Keep (fun _ => False) w w1) (hs1 : Sl .change w1 (NewIn w w1) v1 (K.ch x)) (hBw : B ≤ w.heap.size)
    (hF : ∀ q, F q → q < B) {g c : Nat} (hu : u = .slice (some ⟨g, 0, none⟩) l.length c) :
    CopyAt K et B F w0 u l (k + 1) (w1.setCells g (k * K.r.size + K.o) (((K.cs x v1).drop K.o).take K.n)) ∧ Keep (fun q => q = g) w (w1.setCells g (k * K.r.size + K.o) (((K.cs x v1).drop K.o).take K.n)) ∧ B ≤ g := by
  obtain ⟨A, c', hu', hl, hc, h⟩ := h
  rw [hu] at hu'
  simp only [Value.slice.injEq, true_and] at hu'
  obtain ⟨rfl, rfl⟩ := hu'
  have hi := (List.getElem?_eq_some_iff.1 hx).1
  obtain ⟨g', cur, hA, hg, hb, hs, hel⟩ := h.resolve_left (by omega)
  simp only [Option.some.injEq, Addr.mk.injEq, and_true] at hA
  subst hA
  have hon := K.on
  have hnl : (((K.cs x v1).drop K.o).take K.n).length = K.n := by rw [List.length_take, List.length_drop, K.len]; omega
  have hcl : (k + 1) * K.r.size ≤ cur.size := by rw [hs]; exact Nat.mul_le_mul_right _ (by omega)
  rw [Nat.succ_mul] at hcl
  have hfit : k * K.r.size + K.o + (((K.cs x v1).drop K.o).take K.n).length ≤ cur.size := by omega
  have hb1 := hk.heap hb id
  have hb2 := heap_setCells _ _ _ _ hb1 hfit
  have hk2 := keep_setCells g (((K.cs x v1).drop K.o).take K.n) (k * K.r.size + K.o) w1
  have hsz := hk2.size
  have hsz1 := hk.size
  have hgl : g < w.heap.size := lt_heap hb
  refine ⟨⟨_, c, hu, hl, hc, .inr ⟨g, _, rfl, hg, hb2, by rw [spl_size _ _ _ hfit, hs], fun i y hy => ?_⟩⟩, (hk.mono (fun _ _ q => q.elim)).trans hk2 (fun _ _ e => e), hg⟩
  obtain ⟨v, h1, h2, h3⟩ := hel i y hy
  by_cases hik : i = k
  · subst hik
    rw [hx, Option.some.injEq] at hy
    subst hy
    refine ⟨v1, fun j z hz => ?_, h2, (hs1.keep hk2 (fun q hq e => by have := hq.1; omega)).mono (fun q hq => ?_)⟩
    · have hj : j < K.r.size := by rw [← K.len x v1]; exact (List.getElem?_eq_some_iff.1 hz).1
      rw [spl_get hfit, hnl]
      by_cases ha : j < K.o
      · rw [if_pos (by omega)]
        exact h1 j z (by rw [K.out x v v1 j (.inl ha)]; exact hz)
      · rw [if_neg (by omega)]
        by_cases hb' : j < K.o + K.n
        · rw [if_pos (by omega), show i * K.r.size + j - (i * K.r.size + K.o) = j - K.o by omega, List.getElem?_take, if_pos (by omega), List.getElem?_drop, show K.o + (j - K.o) = j by omega]
          exact hz
        · rw [if_neg (by omega)]
          exact h1 j z (by rw [K.out x v v1 j (.inr (by omega))]; exact hz)
    · rw [if_pos (by omega)]
      exact ⟨by have := hq.1; omega, by have := hq.2; omega, by have := hq.1; omega⟩
  · refine ⟨v, fun j z hz => ?_, h2, ((h3.keep hk (fun _ _ q => q)).keep hk2 ?_).mono ?_⟩
    · have hj : j < K.r.size := by rw [← K.len y v]; exact (List.getElem?_eq_some_iff.1 hz).1
      rw [spl_get hfit, hnl]
      rcases Nat.lt_or_gt_of_ne hik with hlt | hgt
      · have : (i + 1) * K.r.size ≤ k * K.r.size := Nat.mul_le_mul_right _ (by omega)
        rw [Nat.succ_mul] at this
        rw [if_pos (by omega)]
        exact h1 j z hz
      · have : (k + 1) * K.r.size ≤ i * K.r.size := Nat.mul_le_mul_right _ (by omega)
        rw [Nat.succ_mul] at this
        rw [if_neg (by omega), if_neg (by omega)]
        exact h1 j z hz
    · intro q hq
      split at hq
      · exact hq.2.2
      · have := hF q hq; omega
    · intro q hq
      by_cases hlt : i < k
      · rw [if_pos hlt] at hq; rw [if_pos (by omega)]; exact ⟨hq.1, by omega, hq.2.2⟩
      · rw [if_neg hlt] at hq; rw [if_neg (by omega)]; exact hq
/-- All have been copied. -/
theorem CopyAt.done (h : CopyAt K et B F w0 u l k w) (hk : l.length ≤ k) : Sl K.r w (fun q => B ≤ q ∧ q < w.heap.size) u l := by
  obtain ⟨A, c, hu, hl, hc, h⟩ := h
  refine ⟨A, c, hu, hl, hc, h.imp id ?_⟩
  rintro ⟨g, cur, hA, hg, hb, hs, hel⟩
  refine ⟨g, 0, hA, ⟨hg, lt_heap hb⟩, lt_heap hb, fun i x hx => ?_⟩
  have hi := (List.getElem?_eq_some_iff.1 hx).1
  obtain ⟨v, h1, ⟨cs, h2⟩, h3⟩ := hel i x hx
  refine ⟨_, K.back h2 (h3.mono (fun q hq => ?_)), fun j y hy => ?_⟩
  · rw [if_pos (by omega)] at hq; exact ⟨hq.1, hq.2.1⟩
  · rw [Nat.zero_add, cell_of_row w g _ cur et (0, 0) hb]
    exact h1 j y hy
end
/-- Bytes in a row, as a slice. -/
theorem Sl.ofBytes {F : Nat → Prop} {w : World} {v : Value} {l : List UInt8} (h : Row F w v l.length 1 (l.map U8)) : Sl .u8 w F v l :=
  Sl.ofRow (r := .u8) h (fun i x hx => by
    have hi := (List.getElem?_eq_some_iff.1 hx).1
    show _ = [U8 x]
    rw [show i * Rep.u8.size = i from Nat.mul_one i, show Rep.u8.size = 1 from rfl, ← List.map_drop, List.drop_eq_getElem_cons hi]
    simp only [List.map_cons, List.take_succ_cons, List.take_zero]
    rw [List.getElem?_eq_getElem hi, Option.some.injEq] at hx
    rw [hx])
def voteK : CopyK Vote where
  r := .vote
  cs := voteCs
  ch x := x.value.changes
  o := 2
  n := 11
  pos := by decide
  len _ _ := rfl
  on := by decide
  out x v v' j h := by
    rcases h with h | h
    · match j, h with | 0, _ => rfl | 1, _ => rfl
    · rw [List.getElem?_eq_none (by simpa [voteCs, reqCs] using h), List.getElem?_eq_none (by simpa [voteCs, reqCs] using h)]
  read h := by obtain ⟨v, h1, h2, _⟩ := vote_cells h; exact ⟨v, h1, h2⟩
  back h hs := by obtain ⟨_, _, _, h3⟩ := vote_cells h; exact vote_mk hs h3
def commitK : CopyK Commit where
  r := .commit
  cs := commitCs
  ch x := x.changes
  o := 3
  n := 1
  pos := by decide
  len _ _ := rfl
  on := by decide
  out x v v' j h := by
    rcases h with h | h
    · match j, h with | 0, _ => rfl | 1, _ => rfl | 2, _ => rfl
    · rw [List.getElem?_eq_none (by simpa [commitCs] using h), List.getElem?_eq_none (by simpa [commitCs] using h)]
  read h := by obtain ⟨v, h1, h2, _⟩ := commit_cells h; exact ⟨v, h1, h2⟩
  back h hs := by obtain ⟨_, _, _, h3⟩ := commit_cells h; exact commit_mk hs h3
end Go.Proofs.Ytnekfonnceknoaa

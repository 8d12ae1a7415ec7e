/- Epochs, plainly: who the members are, what a change makes of them. -/
import Derived.Test.YtbkgobdpgokbaaaEpRow
namespace Go.Proofs.Ytbkgobdpgokbaaa
/-- Rising lists of the same numbers are one. -/
theorem sorted_ext : ∀ {a b : List Int}, a.Pairwise (· < ·) → b.Pairwise (· < ·) → (∀ x, x ∈ a ↔ x ∈ b) → a = b
  | [], [], _, _, _ => rfl
  | [], y :: b, _, _, h => by have := (h y).2 (by simp); simp at this
  | x :: a, [], _, _, h => by have := (h x).1 (by simp); simp at this
  | x :: a, y :: b, h1, h2, h => by
    obtain ⟨p1, p2⟩ := List.pairwise_cons.1 h1
    obtain ⟨q1, q2⟩ := List.pairwise_cons.1 h2
    have hxy : x = y := by
      rcases List.mem_cons.1 ((h x).1 (by simp)) with e | hx
      · exact e
      · rcases List.mem_cons.1 ((h y).2 (by simp)) with e | hy
        · exact e.symm
        · have := q1 x hx; have := p1 y hy; omega
    subst hxy
    congr 1
    refine sorted_ext p2 q2 (fun z => ⟨fun hz => ?_, fun hz => ?_⟩)
    · rcases List.mem_cons.1 ((h z).1 (by simp [hz])) with e | hz'
      · have := p1 z hz; omega
      · exact hz'
    · rcases List.mem_cons.1 ((h z).2 (by simp [hz])) with e | hz'
      · have := q1 z hz; omega
      · exact hz'
/-- Those of the fifteen of which p holds, rising. -/
def memL (p : Int → Bool) : List Int := ((List.range 15).map (fun (n : Nat) => (n : Int))).filter p
theorem memL_mem (p : Int → Bool) (x : Int) : x ∈ memL p ↔ (0 ≤ x ∧ x < 15) ∧ p x = true := by
  rw [memL, List.mem_filter, List.mem_map]
  constructor
  · rintro ⟨⟨n, hn, rfl⟩, h⟩
    have := List.mem_range.1 hn
    exact ⟨⟨by omega, by omega⟩, h⟩
  · rintro ⟨⟨h1, h2⟩, h⟩
    exact ⟨⟨x.toNat, List.mem_range.2 (by omega), by omega⟩, h⟩
theorem memL_sorted (p : Int → Bool) : (memL p).Pairwise (· < ·) := by
  refine List.Pairwise.filter _ ?_
  rw [List.pairwise_map]
  exact (List.pairwise_lt_range).imp (fun h => by omega)
theorem memL_len (p : Int → Bool) : (memL p).length ≤ 15 := by
  have := List.length_filter_le p ((List.range 15).map (fun (n : Nat) => (n : Int)))
  simpa [memL] using this
theorem mayP.sorted {l : List Int} (h : mayP l) : l.Pairwise (· < ·) := h.good.pair
theorem mayP.mem {l : List Int} (h : mayP l) {x : Int} (hx : x ∈ l) : 0 ≤ x ∧ x < 15 := by
  obtain ⟨i, hi⟩ := List.getElem?_of_mem hx
  have hl := (List.getElem?_eq_some_iff.1 hi).1
  have := h.2.2 i hl
  rw [List.getD_eq_getElem?_getD, hi] at this
  exact ⟨this.1, this.2.1⟩
theorem mayP_of {l : List Int} (h0 : 0 < l.length) (h1 : l.Pairwise (· < ·)) (h2 : ∀ x ∈ l, 0 ≤ x ∧ x < 15) (h3 : l.length ≤ 15) : mayP l := by
  refine ⟨h0, h3, fun i hi => ?_⟩
  have hm : l.getD i 0 ∈ l := by simp [hi]
  refine ⟨(h2 _ hm).1, (h2 _ hm).2, fun hi0 => ?_⟩
  have := List.pairwise_iff_getElem.1 h1 (i - 1) i (by omega) hi (by omega)
  simpa [hi, show i - 1 < l.length by omega] using this
theorem mayP.canon {l : List Int} (h : mayP l) : l = memL (fun x => l.contains x) :=
  sorted_ext h.sorted (memL_sorted _) (fun x => by
    rw [memL_mem]
    constructor
    · intro hx; exact ⟨h.mem hx, by simpa using hx⟩
    · rintro ⟨_, hx⟩; simpa using hx)
theorem mayP_memL {p : Int → Bool} {x : Int} (hx : x ∈ memL p) : mayP (memL p) :=
  mayP_of (List.length_pos_of_mem hx) (memL_sorted p) (fun _ hy => ((memL_mem p _).1 hy).1) (memL_len p)
theorem take_count : ∀ {l : List Int} (m : Int), l.Pairwise (· < ·) → l.take (l.countP (fun y => decide (y < m))) = l.filter (fun y => decide (y < m)) ∧ l.drop (l.countP (fun y => decide (y < m))) = l.filter (fun y => decide (m ≤ y))
  | [], _, _ => by simp
  | x :: l, m, h => by
    obtain ⟨p1, p2⟩ := List.pairwise_cons.1 h
    obtain ⟨i1, i2⟩ := take_count m p2
    by_cases hx : x < m
    · have h2 : ¬ m ≤ x := by omega
      rw [List.countP_cons_of_pos (by simpa using hx), List.take_succ_cons, List.drop_succ_cons, i1, i2, List.filter_cons_of_pos (by simpa using hx), List.filter_cons_of_neg (by simpa using h2)]
      exact ⟨rfl, rfl⟩
    · have h0 : l.countP (fun y => decide (y < m)) = 0 := by
        rw [List.countP_eq_zero]
        intro y hy
        have := p1 y hy
        simp; omega
      rw [List.countP_cons_of_neg (by simpa using hx), h0, List.take_zero, List.drop_zero, List.filter_cons_of_neg (by simpa using hx), List.filter_cons_of_pos (by simp; omega)]
      rw [h0, List.take_zero] at i1
      rw [h0, List.drop_zero] at i2
      exact ⟨i1, by rw [← i2]⟩
/-- A member more. -/
theorem ins_mem {l : List Int} {m : Int} (h : mayP l) (hm : 0 ≤ m ∧ m < 15) (hn : m ∉ l) : insAt l (l.countP (fun y => decide (y < m))) m = memL (fun x => x == m || l.contains x) := by
  obtain ⟨h1, h2⟩ := take_count m h.sorted
  rw [insAt, h1, h2]
  refine sorted_ext ?_ (memL_sorted _) (fun x => ?_)
  · rw [List.pairwise_append]
    refine ⟨h.sorted.filter _, List.pairwise_cons.2 ⟨fun y hy => ?_, h.sorted.filter _⟩, fun a ha b hb => ?_⟩
    · obtain ⟨hy, hle⟩ := List.mem_filter.1 hy
      have hle : m ≤ y := by simpa using hle
      have : y ≠ m := fun e => hn (by rw [← e]; exact hy)
      omega
    · have ha := (List.mem_filter.1 ha).2
      have ha : a < m := by simpa using ha
      rcases List.mem_cons.1 hb with rfl | hb
      · exact ha
      · have hb := (List.mem_filter.1 hb).2
        have hb : m ≤ b := by simpa using hb
        omega
  · rw [memL_mem, List.mem_append, List.mem_cons, List.mem_filter, List.mem_filter]
    simp only [decide_eq_true_eq, Bool.or_eq_true, beq_iff_eq, List.contains_eq_mem]
    constructor
    · rintro (⟨q, _⟩ | rfl | ⟨q, _⟩)
      · exact ⟨h.mem q, .inr q⟩
      · exact ⟨hm, .inl rfl⟩
      · exact ⟨h.mem q, .inr q⟩
    · rintro ⟨_, rfl | q⟩
      · exact .inr (.inl rfl)
      · by_cases hx : x < m
        · exact .inl ⟨q, hx⟩
        · exact .inr (.inr ⟨q, by omega⟩)
/-- A member less. -/
theorem del_mem {l : List Int} {m : Int} (h : mayP l) (hm : m ∈ l) : delAt l (l.countP (fun y => decide (y < m))) = memL (fun x => x != m && l.contains x) ∧ l.countP (fun y => decide (y < m)) < l.length := by
  obtain ⟨h1, h2⟩ := take_count m h.sorted
  have hmf : m ∈ l.filter (fun y => decide (m ≤ y)) := List.mem_filter.2 ⟨hm, by simp⟩
  have hlt : l.countP (fun y => decide (y < m)) < l.length := by
    rcases Nat.lt_or_ge (l.countP (fun y => decide (y < m))) l.length with q | q
    · exact q
    · rw [← h2, List.drop_of_length_le q] at hmf; simp at hmf
  refine ⟨?_, hlt⟩
  have h3 : l.drop (l.countP (fun y => decide (y < m)) + 1) = (l.filter (fun y => decide (m ≤ y))).tail := by rw [← h2, List.tail_drop]
  rw [delAt, h1, h3]
  have hsf := h.sorted.filter (fun y => decide (m ≤ y))
  obtain ⟨y, r, hyr⟩ : ∃ y r, l.filter (fun y => decide (m ≤ y)) = y :: r := by
    cases hq : l.filter (fun y => decide (m ≤ y)) with
    | nil => rw [hq] at hmf; simp at hmf
    | cons y r => exact ⟨y, r, rfl⟩
  rw [hyr] at hsf hmf ⊢
  obtain ⟨p1, p2⟩ := List.pairwise_cons.1 hsf
  have hym : y = m := by
    rcases List.mem_cons.1 hmf with e | q
    · exact e.symm
    · have := p1 m q
      have hy : y ∈ l.filter (fun y => decide (m ≤ y)) := by rw [hyr]; simp
      have := (List.mem_filter.1 hy).2
      simp at this; omega
  subst hym
  refine sorted_ext ?_ (memL_sorted _) (fun x => ?_)
  · rw [List.tail_cons, List.pairwise_append]
    refine ⟨h.sorted.filter _, p2, fun a ha b hb => ?_⟩
    have ha := (List.mem_filter.1 ha).2
    have ha : a < y := by simpa using ha
    have := p1 b hb
    omega
  · rw [memL_mem, List.tail_cons, List.mem_append, List.mem_filter]
    simp only [decide_eq_true_eq, Bool.and_eq_true, bne_iff_ne, ne_eq, List.contains_eq_mem]
    constructor
    · rintro (⟨q, hq⟩ | q)
      · exact ⟨h.mem q, by omega, q⟩
      · have hx : x ∈ l.filter (fun z => decide (y ≤ z)) := by rw [hyr]; simp [q]
        have := p1 x q
        exact ⟨h.mem (List.mem_filter.1 hx).1, by omega, (List.mem_filter.1 hx).1⟩
    · rintro ⟨_, hne, q⟩
      by_cases hx : x < y
      · exact .inl ⟨q, hx⟩
      · have hxm : x ∈ l.filter (fun z => decide (y ≤ z)) := List.mem_filter.2 ⟨q, by simp; omega⟩
        rw [hyr] at hxm
        rcases List.mem_cons.1 hxm with e | q
        · exact absurd e hne
        · exact .inr q
/-- The place of a slot's epoch, the first k looked at. -/
def atP (L : List Ep) (slot : Int) : Nat → Nat
  | 0 => 0
  | k + 1 => if (L.getD k (0, [])).1 ≤ slot then k else atP L slot k
theorem atP_lt (L : List Ep) (slot : Int) : ∀ k, 0 < k → atP L slot k < k
  | 0, h => by omega
  | k + 1, _ => by
    rw [atP]
    split
    · omega
    · rcases Nat.eq_zero_or_pos k with rfl | hk
      · simp [atP]
      · have := atP_lt L slot k hk; omega
def atE (L : List Ep) (slot : Int) : Ep := L.getD (atP L slot L.length) (0, [])
theorem atE_mem {L : List Ep} (h : 0 < L.length) (slot : Int) : L[atP L slot L.length]? = some (atE L slot) := by
  have := atP_lt L slot L.length h
  rw [atE]; simp [this]
def lastE (L : List Ep) : Ep := L.getD (L.length - 1) (0, [])
theorem lastE_mem {L : List Ep} (h : 0 < L.length) : L[L.length - 1]? = some (lastE L) := by
  rw [lastE]; simp [show L.length - 1 < L.length by omega]
/-- What Change answers. -/
def chE (al : Int) (L : List Ep) (slot m : Int) (add : Bool) : Int :=
  if slot < 0 ∨ 1099511627776 - al < slot ∨ m < 0 ∨ 15 ≤ m then 1
  else if slot < (lastE L).1 then 12
  else if add = true ∧ m ∈ (lastE L).2 then 9
  else if add = false ∧ m ∉ (lastE L).2 then 8
  else if add = false ∧ (lastE L).2.length = 1 then 1
  else 0
def chM (l : List Int) (m : Int) (add : Bool) : List Int := memL (fun x => (x == m && add) || (x != m && l.contains x))
def chL (al : Int) (L : List Ep) (slot m : Int) (add : Bool) : List Ep := if chE al L slot m add = 0 then L ++ [(slot + al, chM (lastE L).2 m add)] else L
theorem chM_add (l : List Int) (m : Int) : chM l m true = memL (fun x => x == m || l.contains x) := by
  unfold chM
  congr 1
  funext x
  by_cases h : x = m
  · simp [h]
  · have h1 : (x == m) = false := by simpa using h
    have h2 : (x != m) = true := by simpa using h
    rw [h1, h2]; rfl
theorem chM_del (l : List Int) (m : Int) : chM l m false = memL (fun x => x != m && l.contains x) := by
  unfold chM
  congr 1
  funext x
  by_cases h : x = m <;> simp [h]
def EOk (al : Int) (L : List Ep) : Prop := 1 ≤ al ∧ al ≤ 8 ∧ 0 < L.length ∧ ∀ x ∈ L, mayP x.2 ∧ 0 ≤ x.1 ∧ x.1 ≤ 1099511627776
theorem chM_may {l : List Int} {m : Int} {add : Bool} (h : mayP l) (hm : 0 ≤ m ∧ m < 15) (hlen : add = false → l.length ≠ 1) : mayP (chM l m add) := by
  cases add with
  | true => rw [chM_add]; exact mayP_memL (x := m) ((memL_mem _ _).2 ⟨hm, by simp⟩)
  | false =>
    have h1 := hlen rfl
    have h0 := h.1
    rw [chM_del]
    have hx : ∃ x ∈ l, x ≠ m := by
      have h2 := h.2.2 1 (by omega)
      have q := h2.2.2 (by omega)
      by_cases e : l.getD 0 0 = m
      · exact ⟨l.getD 1 0, by simp [show 1 < l.length by omega], by rw [show 1 - 1 = 0 from rfl] at q; omega⟩
      · exact ⟨l.getD 0 0, by simp [show 0 < l.length by omega], e⟩
    obtain ⟨x, hx, hne⟩ := hx
    exact mayP_memL (x := x) ((memL_mem _ _).2 ⟨h.mem hx, by simp [hne, hx]⟩)
theorem EOk.last {al : Int} {L : List Ep} (h : EOk al L) : mayP (lastE L).2 ∧ 0 ≤ (lastE L).1 ∧ (lastE L).1 ≤ 1099511627776 := h.2.2.2 _ (List.mem_of_getElem? (lastE_mem h.2.2.1))
theorem EOk.at {al : Int} {L : List Ep} (h : EOk al L) (slot : Int) : mayP (atE L slot).2 ∧ 0 ≤ (atE L slot).1 ∧ (atE L slot).1 ≤ 1099511627776 := h.2.2.2 _ (List.mem_of_getElem? (atE_mem h.2.2.1 slot))
theorem chE_zero {al : Int} {L : List Ep} {slot m : Int} {add : Bool} : chE al L slot m add = 0 ↔ (0 ≤ slot ∧ slot ≤ 1099511627776 - al ∧ 0 ≤ m ∧ m < 15) ∧ (lastE L).1 ≤ slot ∧ (if add = true then m ∉ (lastE L).2 else m ∈ (lastE L).2 ∧ (lastE L).2.length ≠ 1) := by
  unfold chE
  by_cases h1 : slot < 0 ∨ 1099511627776 - al < slot ∨ m < 0 ∨ 15 ≤ m
  · rw [if_pos h1]
    constructor
    · intro h; omega
    · rintro ⟨⟨a, b, c, d⟩, _⟩; omega
  · rw [if_neg h1]
    by_cases h2 : slot < (lastE L).1
    · rw [if_pos h2]
      constructor
      · intro h; omega
      · rintro ⟨_, h, _⟩; omega
    · rw [if_neg h2]
      cases add with
      | true =>
        by_cases h3 : m ∈ (lastE L).2
        · simp [h3]
        · simp [h3]; omega
      | false =>
        by_cases h3 : m ∈ (lastE L).2
        · by_cases h4 : (lastE L).2.length = 1
          · simp [h3, h4]
          · simp [h3, h4]; omega
        · simp [h3]
theorem EOk.change {al : Int} {L : List Ep} (h : EOk al L) (slot m : Int) (add : Bool) : EOk al (chL al L slot m add) := by
  unfold chL
  split
  · rename_i h0
    obtain ⟨⟨a, b, c, d⟩, e, f⟩ := chE_zero.1 h0
    refine ⟨h.1, h.2.1, by simp, fun x hx => ?_⟩
    rcases List.mem_append.1 hx with hx | hx
    · exact h.2.2.2 x hx
    · rw [List.mem_singleton] at hx
      subst hx
      refine ⟨chM_may h.last.1 ⟨c, d⟩ (fun e => ?_), by have := h.1; simp only; omega, by simp only; omega⟩
      subst e
      simp at f
      exact f.2
  · exact h
end Go.Proofs.Ytbkgobdpgokbaaa

/- TallyPlays, the plain law: what is counted, by the program and by the document. -/
import Derived.Test.YthlgnilgjeebaaaTalX
import Derived.Test.YthlgnilgjeebaaaTalN
namespace Go.Proofs.Ythlgnilgjeebaaa
open Go.RowKit
structure TRel (f : Int) (s : TS) (r : RS) : Prop where
  pr : s.pr = r.P.map (fun p => (p.id, p.base))
  bt : (s.best, s.top) = (r.P.flatMap (·.v)).foldl stepV ([], f)
  vt : ∀ slot id, repB id = true → (0 < vtAt s (slot, id) ↔ (slot, id) ∈ r.C)
  nd : (s.pr.map Prod.fst).Nodup
  ndC : r.C.Nodup
  rf : r.from' = f
  rep : ∀ p ∈ s.pr, repB p.1 = true
  repC : ∀ c ∈ r.C, repB c.2 = true
  pos : ∀ k, 0 ≤ vtAt s k
  ch : ∀ p ∈ r.P, ∀ x ∈ p.v, x.value.changes.length ≤ 4294967296
theorem TRel.new (f : Int) : TRel f ⟨20, f, [], [], f, []⟩ ⟨20, f, [], []⟩ :=
  ⟨rfl, rfl, fun _ _ _ => by simp [vtAt, lookP_nil], by simp, by simp, rfl, by simp, by simp, fun k => by simp [vtAt, lookP_nil], by simp⟩
theorem upIds_sorted (p : Int → Bool) : ∀ k : Nat, (upIds p k).Pairwise (fun a b => leI a b = true)
  | 0 => by simp [upIds_zero]
  | k + 1 => by
    rw [upIds_succ, List.pairwise_append]
    refine ⟨upIds_sorted p k, by split <;> simp, fun a ha b hb => ?_⟩
    have := (upIds_mem p k a).1 ha
    split at hb
    · simp at hb; subst hb; simp only [leI, decide_eq_true_eq]; omega
    · simp at hb
theorem sort_upIds (p : Int → Bool) (k : Nat) : (upIds p k).mergeSort leI = upIds p k := List.mergeSort_of_pairwise (upIds_sorted p k)
theorem keysS_up {α : Type} {l : List (Int × α)} (hn : (l.map Prod.fst).Nodup) (hr : ∀ p ∈ l, repB p.1 = true) : keysS l = upIds (fun x => decide (x ∈ l.map Prod.fst)) 15 := by
  have hp : (l.map Prod.fst).Perm (upIds (fun x => decide (x ∈ l.map Prod.fst)) 15) := perm_nd hn (upIds_nd _ 15) (fun x => by
    rw [upIds_mem]
    constructor
    · intro hx
      obtain ⟨p, hp, rfl⟩ := List.mem_map.1 hx
      have := hr p hp
      simp [repB] at this
      exact ⟨this.1, by omega, by simpa using hx⟩
    · rintro ⟨_, _, h⟩
      exact of_decide_eq_true h)
  have e : (l.map Prod.fst).mergeSort leI = (upIds (fun x => decide (x ∈ l.map Prod.fst)) 15).mergeSort leI := mergeSort_of_perm_i hp
  rw [keysS, e, sort_upIds]
theorem filter_one {β : Type} (q : β → Bool) : ∀ P : List β, (P.filter q).length ≤ 1 → ∀ n : Int, (P.filter q).map (fun _ => n) = if P.any q then [n] else []
  | P, h, n => by
    cases hf : P.filter q with
    | nil =>
      have : P.any q = false := by
        rw [List.any_eq_false]
        intro x hx hq
        have : x ∈ P.filter q := List.mem_filter.2 ⟨hx, hq⟩
        rw [hf] at this; simp at this
      rw [this]; rfl
    | cons x l =>
      have hl : l = [] := by rw [hf] at h; simpa using h
      subst hl
      have hx : x ∈ P.filter q := by rw [hf]; simp
      have : P.any q = true := List.any_eq_true.2 ⟨x, (List.mem_filter.1 hx).1, (List.mem_filter.1 hx).2⟩
      rw [this]; rfl
theorem gth_up {β : Type} (q : Int → β → Bool) (P : List β) (h : ∀ n, (P.filter (q n)).length ≤ 1) : ∀ n : Nat, gth q P n = upIds (fun x => P.any (q x)) n
  | 0 => rfl
  | n + 1 => by rw [gth, upIds_succ, gth_up q P h n, filter_one (q n) P (h n)]
theorem filter_le_one {β : Type} (q : β → Bool) : ∀ P : List β, P.Pairwise (fun a b => ¬ (q a = true ∧ q b = true)) → (P.filter q).length ≤ 1
  | [], _ => by simp
  | x :: P, h => by
    rw [List.pairwise_cons] at h
    rw [List.filter_cons]
    split
    · rename_i hx
      have : P.filter q = [] := by
        rw [List.filter_eq_nil_iff]
        intro y hy hq
        exact h.1 y hy ⟨hx, hq⟩
      rw [this]; simp
    · exact filter_le_one q P h.2
section
variable {f : Int} {s : TS} {r : RS}
theorem TRel.ids (h : TRel f s r) : r.P.Pairwise (fun a b => a.id ≠ b.id) := by
  have := h.nd
  rw [h.pr, List.map_map, List.Nodup, List.pairwise_map] at this
  exact this
theorem TRel.one (h : TRel f s r) (q : TProm → Bool) (n : Int) : (r.P.filter (fun p => p.id == n && q p)).length ≤ 1 := by
  refine filter_le_one _ _ (h.ids.imp ?_)
  rintro a b hab ⟨h1, h2⟩
  simp only [Bool.and_eq_true, beq_iff_eq] at h1 h2
  exact hab (h1.1.trans h2.1.symm)
theorem TRel.promised (h : TRel f s r) : keysS s.pr = gth (fun (n : Int) (p : TProm) => p.id == n) r.P 15 := by
  rw [keysS_up h.nd h.rep, gth_up]
  · refine upIds_congr (fun x _ _ => ?_)
    rw [h.pr, List.map_map]
    by_cases hx : ∃ p ∈ r.P, p.id = x
    · obtain ⟨p, hp, he⟩ := hx
      rw [decide_eq_true (show x ∈ List.map (Prod.fst ∘ fun p : TProm => (p.id, p.base)) r.P from List.mem_map.2 ⟨p, hp, he⟩), List.any_eq_true.2 ⟨p, hp, by simpa using he⟩]
    · rw [decide_eq_false (fun q => by obtain ⟨p, hp, he⟩ := List.mem_map.1 q; exact hx ⟨p, hp, he⟩), List.any_eq_false.2 (fun p hp q => hx ⟨p, hp, by simpa using q⟩)]
  · intro n
    have := h.one (fun _ => true) n
    simpa using this
theorem TRel.prAt (h : TRel f s r) {p : TProm} (hp : p ∈ r.P) : prAt s p.id = p.base := by
  have hm : (p.id, p.base) ∈ s.pr := by rw [h.pr]; exact List.mem_map.2 ⟨p, hp, rfl⟩
  exact getV_mem h.nd hm
theorem soB_is (ab : Bool) (slot base : Int) : soB ab slot base = (decide (slot < base) == ab) := by
  cases ab
  · by_cases q : slot < base
    · rw [soB, decide_eq_true q]; simp; omega
    · rw [soB, decide_eq_false q]; simp; omega
  · by_cases q : slot < base <;> simp [soB, q]
theorem upIds_filter (p q : Int → Bool) (k : Nat) : (upIds p k).filter q = upIds (fun x => p x && q x) k := by
  unfold upIds
  rw [List.filter_filter]
  apply List.filter_congr
  intro x _
  rw [Bool.and_comm]
theorem TRel.by_ (h : TRel f s r) (ab : Bool) (slot : Int) : byR s ab slot = gth (fun (n : Int) (p : TProm) => p.id == n && (decide (slot < p.base) == ab)) r.P 15 := by
  rw [byR, keysS_up h.nd h.rep, upIds_filter, gth_up]
  · refine upIds_congr (fun x _ _ => ?_)
    by_cases hx : ∃ p ∈ r.P, p.id = x ∧ (decide (slot < p.base) == ab) = true
    · obtain ⟨p, hp, he, hb⟩ := hx
      have e1 : decide (x ∈ s.pr.map Prod.fst) = true := decide_eq_true (by rw [h.pr, List.map_map]; exact List.mem_map.2 ⟨p, hp, he⟩)
      have e2 : soB ab slot (Go.Proofs.Ythlgnilgjeebaaa.prAt s x) = true := by rw [← he, h.prAt hp, soB_is]; exact hb
      rw [e1, e2, List.any_eq_true.2 ⟨p, hp, by simp [he, hb]⟩]; rfl
    · rw [List.any_eq_false.2 (fun p hp q => hx ⟨p, hp, by simpa using q⟩)]
      by_cases hm : x ∈ s.pr.map Prod.fst
      · have hm' := hm
        rw [h.pr, List.map_map] at hm'
        obtain ⟨p, hp, he⟩ := List.mem_map.1 hm'
        have he : p.id = x := he
        have e2 : soB ab slot (Go.Proofs.Ythlgnilgjeebaaa.prAt s x) = false := by
          rw [← he, h.prAt hp, soB_is]
          cases hq : (decide (slot < p.base) == ab) with
          | false => rfl
          | true => exact absurd ⟨p, hp, he, hq⟩ hx
        rw [e2, Bool.and_false]
      · rw [decide_eq_false hm]; rfl
  · intro n
    exact h.one _ n
theorem TRel.voters (h : TRel f s r) (slot : Int) : votersR s slot = gth (fun (n : Int) (p : Int × Int) => p.1 == slot && p.2 == n) r.C 15 := by
  rw [votersR, gth_up]
  · refine upIds_congr (fun x h0 h1 => ?_)
    have := h.vt slot x (by simp [repB]; omega)
    by_cases hx : (slot, x) ∈ r.C
    · rw [decide_eq_true (this.2 hx), List.any_eq_true.2 ⟨_, hx, by simp⟩]
    · rw [decide_eq_false (fun q => hx (this.1 q)), List.any_eq_false.2 (fun p hp q => ?_)]
      simp only [Bool.and_eq_true, beq_iff_eq] at q
      exact hx (by rw [← q.1, ← q.2]; exact hp)
  · intro n
    refine filter_le_one _ _ (h.ndC.imp ?_)
    rintro a b hab ⟨h1, h2⟩
    simp only [Bool.and_eq_true, beq_iff_eq] at h1 h2
    exact hab (Prod.ext (h1.1.trans h2.1.symm) (h1.2.trans h2.2.symm))
theorem TRel.base (h : TRel f s r) : baseR s = rbaseR r := by
  rw [baseR, rbaseR, h.pr]
  cases hq : r.P with
  | nil => rfl
  | cons p l =>
    rw [if_neg (by simp), if_neg (by simp), List.map_map]
    rfl
theorem top_fold : ∀ (l : List Vote) (b : List (Int × Vote)) (t : Int), (l.foldl stepV (b, t)).2 = l.foldl topStep t
  | [], _, _ => rfl
  | x :: l, b, t => by
    have hs : stepV (b, t) x = ((stepV (b, t) x).1, topStep t x) := by
      refine Prod.ext rfl ?_
      rw [stepV, topStep]
      split
      · show (if t ≤ x.slot then x.slot + 1 else t) = _
        split <;> omega
      · rfl
    rw [List.foldl_cons, List.foldl_cons, hs, top_fold l]
theorem TRel.top (h : TRel f s r) : s.top = rtopR r := by
  rw [rtopR, h.rf, ← top_fold (r.P.flatMap (·.v)) [] f, ← h.bt]
theorem pick_step (slot : Int) (b : List (Int × Vote)) (t : Int) (y : Vote) : look (stepV (b, t) y).1 slot = vPick slot (look b slot) y := by
  rw [stepV, vPick, pickB.eq_def]
  by_cases e : y.slot = slot
  · rw [show (y.slot == slot) = true by simpa using e, Bool.true_and, e]
    cases hg : goodS slot with
    | false => rfl
    | true =>
      rw [Bool.true_and, if_pos rfl]
      have hp : putB b y = (match look b slot with | none => true | some x => decide (x.ballot < y.ballot)) := by
        rw [putB, e]
        cases look b slot <;> rfl
      cases hq : look b slot with
      | none =>
        rw [hq] at hp
        show look (if putB b y = true then putE b slot y else b) slot = some y
        rw [hp, if_pos rfl, look_put, if_pos rfl]
      | some xo =>
        rw [hq] at hp
        show look (if putB b y = true then putE b slot y else b) slot = if decide (xo.ballot < y.ballot) = true then some y else some xo
        rw [show putB b y = decide (xo.ballot < y.ballot) from hp]
        cases decide (xo.ballot < y.ballot)
        · exact hq
        · show look (putE b slot y) slot = some y
          rw [look_put, if_pos rfl]
  · rw [show (y.slot == slot) = false by simpa using e, Bool.false_and]
    split
    · show look (if putB b y = true then putE b y.slot y else b) slot = _
      split
      · rw [look_put, if_neg e]; rfl
      · rfl
    · rfl
theorem pick_fold (slot : Int) : ∀ (l : List Vote) (b : List (Int × Vote)) (t : Int), look (l.foldl stepV (b, t)).1 slot = l.foldl (vPick slot) (look b slot)
  | [], _, _ => rfl
  | y :: l, b, t => by
    rw [List.foldl_cons, List.foldl_cons, ← pick_step slot b t y]
    exact pick_fold slot l (stepV (b, t) y).1 (stepV (b, t) y).2
theorem TRel.val (h : TRel f s r) (slot : Int) : look s.best slot = rvalR r slot := by
  have := pick_fold slot (r.P.flatMap (·.v)) [] f
  rw [← h.bt] at this
  exact this
theorem TRel.promB (h : TRel f s r) (id : Int) : promB s id = rpromB r id := by
  rw [Go.Proofs.Ythlgnilgjeebaaa.promB, rpromB]
  cases hr : repB id with
  | false => rw [Bool.false_and, Bool.false_and]
  | true =>
    rw [← h.promised, Bool.true_and, Bool.true_and]
    have hk : id ∈ keysS s.pr ↔ id ∈ s.pr.map Prod.fst := by rw [keysS, List.mem_mergeSort]
    by_cases hm : id ∈ s.pr.map Prod.fst
    · rw [decide_eq_true (hk.2 hm), (look_isSome _ _).2 hm]; rfl
    · rw [decide_eq_false (fun q => hm (hk.1 q))]
      cases hq : look s.pr id with
      | none => rfl
      | some a => exact absurd ((look_isSome _ _).1 (by rw [hq]; rfl)) hm
theorem TRel.prom (h : TRel f s r) (id base : Int) (l : List Vote) (hl : ∀ x ∈ l, x.value.changes.length ≤ 4294967296) : TRel f (promS s id base l) (rpromS r id base l) := by
  rw [rpromS, ← h.promB, promS]
  split
  · rename_i hb
    have hb' := hb
    simp only [Go.Proofs.Ythlgnilgjeebaaa.promB, Bool.and_eq_true] at hb'
    have hnone : look s.pr id = none := by simpa using hb'.2
    have hput : putE s.pr id base = s.pr ++ [(id, base)] := put_new (look_none.1 hnone)
    refine ⟨?_, ?_, h.vt, put_keys _ _ _ h.nd, h.ndC, h.rf, fun p hp => ?_, h.repC, h.pos, fun p hp => ?_⟩
    · show putE s.pr id base = _
      rw [hput, h.pr]; simp
    · show ((l.foldl stepV (s.best, s.top)).1, (l.foldl stepV (s.best, s.top)).2) = _
      rw [List.flatMap_append, List.foldl_append, ← h.bt]
      simp
    · rcases putE_mem hp with rfl | q
      · exact hb'.1
      · exact h.rep p q
    · rcases List.mem_append.1 hp with q | q
      · exact h.ch p q
      · simp at q; subst q; exact hl
  · exact h
theorem TRel.voteB (h : TRel f s r) (slot id : Int) : voteB s slot id = rvoteB r slot id := by
  rw [Go.Proofs.Ythlgnilgjeebaaa.voteB, rvoteB]
  cases hr : repB id with
  | false => rw [Bool.false_and, Bool.false_and]
  | true =>
    rw [← h.voters, Bool.true_and, Bool.true_and]
    have hr' := hr
    simp [repB] at hr'
    have hk : id ∈ votersR s slot ↔ 0 < vtAt s (slot, id) := by
      rw [votersR, upIds_mem]
      exact ⟨fun q => by simpa using q.2.2, fun q => ⟨by omega, by omega, by simpa using q⟩⟩
    by_cases hm : 0 < vtAt s (slot, id)
    · rw [decide_eq_true hm, decide_eq_true (hk.2 hm)]
    · rw [decide_eq_false hm, decide_eq_false (fun q => hm (hk.1 q))]
theorem TRel.vote (h : TRel f s r) (slot id : Int) : TRel f (voteS s slot id) (rvoteS r slot id) := by
  rw [rvoteS, ← h.voteB, voteS]
  split
  · rename_i hb
    have hb' := hb
    simp only [Go.Proofs.Ythlgnilgjeebaaa.voteB, Bool.and_eq_true, Bool.not_eq_true', decide_eq_false_iff_not] at hb'
    have h0 := h.pos (slot, id)
    have hnot : (slot, id) ∉ r.C := fun q => hb'.2 ((h.vt slot id hb'.1).2 q)
    refine ⟨h.pr, h.bt, fun sl i hi => ?_, h.nd, ?_, h.rf, h.rep, fun c hc => ?_, fun k => ?_, h.ch⟩
    · rw [vtAt_put]
      by_cases e : (slot, id) = (sl, i)
      · rw [if_pos e, ← e]
        simp only [List.mem_append, List.mem_singleton, or_true, iff_true]
        omega
      · rw [if_neg e, h.vt sl i hi]
        simp only [List.mem_append, List.mem_singleton]
        exact ⟨.inl, fun q => q.elim _root_.id (fun q => absurd q.symm e)⟩
    · refine List.nodup_append.2 ⟨h.ndC, by simp, fun a ha b hb => ?_⟩
      simp at hb
      subst hb
      exact fun e => hnot (e ▸ ha)
    · rcases List.mem_append.1 hc with q | q
      · exact h.repC c q
      · simp at q; subst q; exact hb'.1
    · rw [vtAt_put]
      split
      · omega
      · exact h.pos k
  · exact h
theorem rprom_len (r : RS) (id base : Int) (l : List Vote) : (rpromS r id base l).P.length ≤ r.P.length + 1 ∧ (rpromS r id base l).C.length ≤ r.C.length + 1 := by
  rw [rpromS]; split <;> simp
theorem rvote_len (r : RS) (slot id : Int) : (rvoteS r slot id).P.length ≤ r.P.length + 1 ∧ (rvoteS r slot id).C.length ≤ r.C.length + 1 := by
  rw [rvoteS]; split <;> simp
end
end Go.Proofs.Ythlgnilgjeebaaa

/- TallyCounts, the plain law. -/
import Derived.Test.YthlgnilgjeebaaaTalM
namespace Go.Proofs.Ythlgnilgjeebaaa
open Go.RowKit
/-- Who is heard, by whose promises and votes. -/
structure CInv (V : List Int) (slot : Int) (s : TS) : Prop where
  keys : ∀ x, x ∈ s.pr.map Prod.fst ↔ x ∈ V
  zero : ∀ p ∈ s.pr, p.2 = 0
  votes : ∀ x, repB x = true → (0 < vtAt s (slot, x) ↔ x ∈ V)
  nd : (s.pr.map Prod.fst).Nodup
  rep : ∀ x ∈ V, repB x = true
  pos : ∀ k, 0 ≤ vtAt s k
theorem put_fst {α : Type} (l : List (Int × α)) (k : Int) (a : α) (x : Int) : x ∈ (putE l k a).map Prod.fst ↔ x = k ∨ x ∈ l.map Prod.fst := by
  induction l with
  | nil => simp [putE]
  | cons p l ih =>
    rw [putE]
    split
    · rename_i h
      simp [h]
    · rw [List.map_cons, List.mem_cons, ih, List.map_cons, List.mem_cons]
      constructor
      · rintro (h | h | h)
        · exact .inr (.inl h)
        · exact .inl h
        · exact .inr (.inr h)
      · rintro (h | h | h)
        · exact .inr (.inl h)
        · exact .inl h
        · exact .inr (.inr h)
theorem look_isSome {α : Type} (l : List (Int × α)) (k : Int) : (look l k).isNone = false ↔ k ∈ l.map Prod.fst := by
  constructor
  · intro h
    cases hq : look l k with
    | none => rw [hq] at h; cases h
    | some a => exact List.mem_map.2 ⟨_, look_mem hq, rfl⟩
  · intro h
    cases hq : look l k with
    | some a => rfl
    | none =>
      obtain ⟨p, hp, he⟩ := List.mem_map.1 h
      exact absurd he (look_none.1 hq p hp)
theorem CInv.new (slot b f : Int) : CInv [] slot ⟨b, f, [], [], f, []⟩ := ⟨by simp, by simp, fun x _ => by simp [vtAt, lookP_nil], by simp, by simp, fun k => by simp [vtAt, lookP_nil]⟩
def cStep (slot : Int) (s : TS) (id : Int) : TS := voteS (promS s id 0 []) slot id
theorem promS_vt (s : TS) (id base : Int) (l : List Vote) (k : Pl) : vtAt (promS s id base l) k = vtAt s k := by
  rw [promS]; split <;> rfl
theorem voteS_pr (s : TS) (slot id : Int) : (voteS s slot id).pr = s.pr := by
  rw [voteS]; split <;> rfl
theorem promS_pr (s : TS) (id base : Int) (l : List Vote) : (promS s id base l).pr = if promB s id then putE s.pr id base else s.pr := by
  rw [promS]; split <;> rfl
theorem CInv.step {V : List Int} {slot : Int} {s : TS} (h : CInv V slot s) (id : Int) : CInv (V ++ if repB id then [id] else []) slot (cStep slot s id) := by
  have hpr : (cStep slot s id).pr = if promB s id then putE s.pr id 0 else s.pr := by rw [cStep, voteS_pr, promS_pr]
  cases hr : repB id with
  | false =>
    have h1 : promB s id = false := by simp [promB, hr]
    have h2 : voteB (promS s id 0 []) slot id = false := by simp [voteB, hr]
    have e : cStep slot s id = s := by rw [cStep, voteS, h2, promS, h1]; rfl
    rw [e]
    simpa using h
  | true =>
    simp only [if_true]
    have hmem : ∀ x, x ∈ (cStep slot s id).pr.map Prod.fst ↔ x ∈ V ++ [id] := by
      intro x
      rw [hpr]
      split
      · rw [put_fst, h.keys]; simp [or_comm]
      · rename_i hb
        have : id ∈ s.pr.map Prod.fst := by
          refine (look_isSome _ _).1 ?_
          cases hq : look s.pr id with
          | none => exact absurd (by simp [promB, hr, hq]) hb
          | some a => rfl
        rw [h.keys] at this ⊢
        simp only [List.mem_append, List.mem_singleton]
        exact ⟨.inl, fun q => q.elim _root_.id (fun e => e ▸ this)⟩
    refine ⟨hmem, ?_, ?_, ?_, ?_, ?_⟩
    · intro p hp
      rw [hpr] at hp
      split at hp
      · rcases putE_mem hp with rfl | q
        · rfl
        · exact h.zero p q
      · exact h.zero p hp
    · intro x hx
      rw [cStep, voteS]
      split
      · rename_i hb
        rw [vtAt_put]
        by_cases hxi : x = id
        · subst hxi
          rw [if_pos rfl]
          rw [promS_vt]
          have := h.pos (slot, x)
          simp only [List.mem_append, List.mem_singleton, or_true, iff_true]
          omega
        · rw [if_neg (by simp; exact fun e => hxi e.symm), promS_vt, h.votes x hx]
          simp [hxi]
      · rename_i hb
        rw [promS_vt, h.votes x hx]
        have : 0 < vtAt s (slot, id) := by simpa [voteB, hr, promS_vt] using hb
        have hid := (h.votes id hr).1 this
        simp only [List.mem_append, List.mem_singleton]
        exact ⟨.inl, fun q => q.elim _root_.id (fun e => e ▸ hid)⟩
    · rw [hpr]
      split
      · exact put_keys _ _ _ h.nd
      · exact h.nd
    · intro x hx
      simp only [List.mem_append, List.mem_singleton] at hx
      rcases hx with q | rfl
      · exact h.rep x q
      · exact hr
    · intro k
      rw [cStep, voteS]
      split
      · rw [vtAt_put]
        split
        · rw [promS_vt]; have := h.pos (slot, id); omega
        · rw [promS_vt]; exact h.pos k
      · rw [promS_vt]; exact h.pos k
theorem mostB_mono {M I J : List Int} (h : ∀ x ∈ I, x ∈ J) (hm : mostB M I = true) : mostB M J = true := by
  have hm' : quoN M ≤ cntM M I := of_decide_eq_true hm
  refine decide_eq_true (Nat.le_trans hm' (List.countP_mono_left (fun x _ hx => ?_)))
  simp only [List.contains_iff_mem] at hx ⊢
  exact h x hx
theorem mostB_none (M : List Int) : mostB M [] = false := by
  simp [mostB, cntM, quoN]
theorem CInv.ready {V : List Int} {slot : Int} {s : TS} (h : CInv V slot s) (M : List Int) : readyB s 0 M = mostB M V := by
  refine mostB_mem (fun x => ?_)
  rw [byR_mem, h.keys]
  refine ⟨fun q => q.1, fun q => ⟨q, ?_⟩⟩
  have : prAt s x = 0 := by
    rw [prAt]
    cases hq : look s.pr x with
    | none => rfl
    | some a => exact h.zero _ (look_mem hq)
  rw [this]; rfl
theorem CInv.won_mem {V : List Int} {slot : Int} {s : TS} (h : CInv V slot s) (x : Int) : x ∈ votersR s slot ↔ x ∈ V := by
  rw [votersR, upIds_mem]
  constructor
  · rintro ⟨h1, h2, h3⟩
    exact (h.votes x (by simp [repB]; omega)).1 (by simpa using h3)
  · intro hx
    have hr := h.rep x hx
    have hr' := hr
    simp [repB] at hr'
    exact ⟨by omega, by omega, by simpa using (h.votes x hr).2 hx⟩
theorem CInv.won {V : List Int} {slot : Int} {s : TS} (h : CInv V slot s) (M : List Int) : mostB M (votersR s slot) = mostB M V := mostB_mem (fun x => h.won_mem x)
theorem upIds_nd (p : Int → Bool) (k : Nat) : (upIds p k).Nodup := by
  unfold upIds
  refine (List.filter_sublist).nodup ?_
  induction k with
  | zero => simp
  | succ k ih =>
    rw [List.range_succ, List.map_append]
    refine List.nodup_append.2 ⟨ih, by simp, fun a ha b hb => ?_⟩
    obtain ⟨i, hi, rfl⟩ := List.mem_map.1 ha
    rw [List.mem_range] at hi
    simp at hb
    omega
theorem CInv.len {V : List Int} {slot : Int} {s : TS} (h : CInv V slot s) : (votersR s slot).length = (keysS s.pr).length := by
  rw [keysS_length]
  have e : s.pr.length = (s.pr.map Prod.fst).length := by simp
  rw [e]
  exact (perm_nd (upIds_nd _ 15) h.nd (fun x => by rw [h.keys]; exact h.won_mem x)).length_eq
/-- What the first deeds leave. -/
def cS (slot : Int) (l : List Int) : TS := l.foldl (cStep slot) ⟨9, 0, [], [], 0, []⟩
theorem cS_next {l : List Int} {k : Nat} {x : Int} (slot : Int) (h : l[k]? = some x) : cS slot (l.take (k + 1)) = voteS (promS (cS slot (l.take k)) x 0 []) slot x := by
  rw [cS, List.take_add_one, h, List.foldl_append]; rfl
theorem cS_inv (slot : Int) (l : List Int) : ∀ k, k ≤ l.length → CInv ((l.take k).filter repB) slot (cS slot (l.take k)) ∧ TInv (2 * k) (cS slot (l.take k)) := by
  intro k
  induction k with
  | zero => intro _; exact ⟨CInv.new slot 9 0, TInv.new 9 0⟩
  | succ k ih =>
    intro hk
    obtain ⟨h1, h2⟩ := ih (by omega)
    have hx : l[k]? = some l[k] := List.getElem?_eq_getElem (by omega)
    have e := cS_next slot hx
    refine ⟨?_, ?_⟩
    · have hs := h1.step l[k]
      rw [cStep, ← e] at hs
      have e2 : (l.take (k + 1)).filter repB = (l.take k).filter repB ++ if repB l[k] then [l[k]] else [] := by
        rw [List.take_add_one, hx, List.filter_append]
        congr 1
        cases hp : repB l[k] <;> simp [hp]
      rw [e2]; exact hs
    · rw [e]
      have := (h2.prom l[k] 0 []).vote slot l[k]
      exact this
end Go.Proofs.Ythlgnilgjeebaaa

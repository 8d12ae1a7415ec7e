/- Maps of the call's own, keyed by structs of two numbers, whose elements are numbers: what they hold, as a list of pairs. -/
import Derived.Test.YthlgnilgjeebaaaMem
import Derived.Maps.Keyed
import Derived.DeepKeys4
import Derived.MapKept
namespace Go.Proofs.Ythlgnilgjeebaaa
open Go.RowKit Go.MapKept
open Go.Maps (Keyed)
open Go.ChangeMaps (setBlock)

/-- A key of two numbers. -/
abbrev Pl := Int × Int
def plV (k : Pl) : Value := .agg #[.int .i64 k.1, .int .i64 k.2]
def plOk (k : Pl) : Prop := (Lit.int .i64 k.1).wf = true ∧ (Lit.int .i64 k.2).wf = true
theorem plV_inj {a b : Pl} (h : plV a = plV b) : a = b := by
  simp only [plV, Value.agg.injEq, Array.mk.injEq, List.cons.injEq, Value.int.injEq, true_and, and_true] at h
  exact Prod.ext h.1 h.2
/-- What is wanted of the key's type. -/
structure PlK (P : Program) (K : TypeId) : Prop where
  keyed : Keyed P K
  ok : ∀ k, plOk k → ∃ l, keyOf P K (plV k) = some l

/-- What stands at a key. -/
def lookP {α : Type} (l : List (Pl × α)) (k : Pl) : Option α := (l.find? (fun p => p.1 == k)).map Prod.snd
/-- A key's value is put in: in its place, or at the end. -/
def putP {α : Type} : List (Pl × α) → Pl → α → List (Pl × α)
  | [], k, a => [(k, a)]
  | p :: l, k, a => if p.1 = k then (k, a) :: l else p :: putP l k a
section
variable {α : Type}
theorem lookP_nil (k : Pl) : lookP ([] : List (Pl × α)) k = none := rfl
theorem lookP_cons (p : Pl × α) (l : List (Pl × α)) (k : Pl) : lookP (p :: l) k = if p.1 = k then some p.2 else lookP l k := by
  unfold lookP
  rw [List.find?_cons]
  by_cases h : p.1 = k
  · simp [h]
  · rw [if_neg h, show (p.1 == k) = false by simpa using h]
theorem lookP_put (l : List (Pl × α)) (k : Pl) (a : α) (k' : Pl) : lookP (putP l k a) k' = if k = k' then some a else lookP l k' := by
  induction l with
  | nil => rw [putP, lookP_cons, lookP_nil]
  | cons p l ih =>
    rw [putP]
    split
    · rename_i h
      rw [lookP_cons, lookP_cons]
      by_cases hk : k = k'
      · simp [hk]
      · simp [hk, h]
    · rename_i h
      rw [lookP_cons, lookP_cons, ih]
      by_cases hk : k = k'
      · subst hk; simp [h]
      · simp [hk]
theorem lookP_none {l : List (Pl × α)} {k : Pl} : lookP l k = none ↔ ∀ p ∈ l, p.1 ≠ k := by
  simp [lookP, List.find?_eq_none]
theorem lookP_mem {l : List (Pl × α)} {k : Pl} {a : α} (h : lookP l k = some a) : (k, a) ∈ l := by
  unfold lookP at h
  rw [Option.map_eq_some_iff] at h
  obtain ⟨p, h1, rfl⟩ := h
  have h2 := List.find?_some h1
  simp only [beq_iff_eq] at h2
  rw [← h2]
  exact List.mem_of_find?_eq_some h1
theorem lookP_at {l : List (Pl × α)} (hn : (l.map Prod.fst).Nodup) {i : Nat} {p : Pl × α} (h : l[i]? = some p) : lookP l p.1 = some p.2 := by
  induction l generalizing i with
  | nil => simp at h
  | cons q l ih =>
    rw [List.map_cons, List.nodup_cons] at hn
    rw [lookP_cons]
    cases i with
    | zero => simp only [List.getElem?_cons_zero, Option.some.injEq] at h; subst h; simp
    | succ i =>
      simp only [List.getElem?_cons_succ] at h
      rw [if_neg (fun e => hn.1 (by rw [e]; exact List.mem_map_of_mem (List.mem_of_getElem? h)))]
      exact ih hn.2 h
theorem putP_new {l : List (Pl × α)} {k : Pl} {a : α} (h : ∀ p ∈ l, p.1 ≠ k) : putP l k a = l ++ [(k, a)] := by
  induction l with
  | nil => rfl
  | cons p l ih => rw [putP, if_neg (h p (by simp)), ih (fun q hq => h q (by simp [hq]))]; rfl
theorem putP_old {l : List (Pl × α)} {k : Pl} {a : α} {i : Nat} {p : Pl × α} (hn : (l.map Prod.fst).Nodup) (hi : l[i]? = some p) (hp : p.1 = k) : putP l k a = l.set i (k, a) := by
  induction l generalizing i with
  | nil => simp at hi
  | cons q l ih =>
    rw [List.map_cons, List.nodup_cons] at hn
    cases i with
    | zero =>
      simp only [List.getElem?_cons_zero, Option.some.injEq] at hi
      subst hi
      rw [putP, if_pos hp]; rfl
    | succ i =>
      simp only [List.getElem?_cons_succ] at hi
      have hne : q.1 ≠ k := fun e => hn.1 (by rw [e, ← hp]; exact List.mem_map_of_mem (List.mem_of_getElem? hi))
      rw [putP, if_neg hne, ih hn.2 hi]; rfl
theorem putP_keys (l : List (Pl × α)) (k : Pl) (a : α) (hn : (l.map Prod.fst).Nodup) : ((putP l k a).map Prod.fst).Nodup := by
  induction l with
  | nil => simp [putP]
  | cons p l ih =>
    rw [List.map_cons, List.nodup_cons] at hn
    rw [putP]
    split
    · rename_i h
      rw [List.map_cons, List.nodup_cons]
      exact ⟨by rw [← h]; exact hn.1, hn.2⟩
    · rename_i h
      rw [List.map_cons, List.nodup_cons]
      refine ⟨fun hm => ?_, ih hn.2⟩
      obtain ⟨q, hq, he⟩ := List.mem_map.1 hm
      have : lookP (putP l k a) p.1 ≠ none := fun e => (lookP_none.1 e) q hq he
      rw [lookP_put, if_neg (fun e => h e.symm)] at this
      refine this (lookP_none.2 (fun r hr e => hn.1 ?_))
      rw [← e]
      exact List.mem_map_of_mem hr
end

/-- Block b is a map that holds the pairs; E says how a value lies in memory. -/
def MapP {α : Type} (E : World → α → Value → Prop) (w : World) (b : Nat) (l : List (Pl × α)) : Prop :=
  ∃ (es : Array MapEntry) (clock : Nat), w.heap[b]? = some (.map es clock) ∧ Stamped es clock ∧ es.size = l.length ∧ (l.map Prod.fst).Nodup ∧
    ∀ (i : Nat) (p : Pl × α), l[i]? = some p → ∃ e : MapEntry, es[i]? = some e ∧ e.key = plV p.1 ∧ plOk p.1 ∧ E w p.2 e.val
section
variable {α : Type} {E : World → α → Value → Prop} {w : World} {b : Nat} {l : List (Pl × α)}
theorem MapP.lt (h : MapP E w b l) : b < w.heap.size := by obtain ⟨_, _, h, _⟩ := h; exact lt_heap h
theorem MapP.nodup (h : MapP E w b l) : (l.map Prod.fst).Nodup := by obtain ⟨_, _, _, _, _, h, _⟩ := h; exact h
theorem MapP.new (E : World → α → Value → Prop) (w : World) : MapP E (w.alloc (.map #[] 0)) w.heap.size [] :=
  ⟨#[], 0, heap_alloc_new w _, stamped_empty 0, rfl, by simp, by simp⟩
theorem MapP.keep {S : Nat → Prop} {w' : World} (h : MapP E w b l) (hk : Keep S w w') (hb : ¬ S b) (hE : ∀ a v, E w a v → E w' a v) : MapP E w' b l := by
  obtain ⟨es, clock, h1, h2, h3, h4, h5⟩ := h
  refine ⟨es, clock, hk.heap h1 hb, h2, h3, h4, fun i p hp => ?_⟩
  obtain ⟨e, q1, q2, q3, q4⟩ := h5 i p hp
  exact ⟨e, q1, q2, q3, hE _ _ q4⟩

variable {P : Program} {K T : TypeId} {e : TypeId}
theorem MapP.find (h : MapP E w b l) (hK : PlK P K) {k : Pl} (hk : plOk k) :
    ∃ (es : Array MapEntry) (clock : Nat), w.heap[b]? = some (.map es clock) ∧ ((lookP l k = none ∧ (Instr.findKey K (plV k) es.toList).run P w = .ok none w ∧ ∀ e ∈ es.toList, e.key ≠ plV k) ∨
      ∃ (j : Nat) (a : α) (e : MapEntry), l[j]? = some (k, a) ∧ lookP l k = some a ∧ es[j]? = some e ∧ e.key = plV k ∧ E w a e.val ∧ (Instr.findKey K (plV k) es.toList).run P w = .ok (some (j, e.val)) w) := by
  obtain ⟨es, clock, h1, h2, h3, h4, h5⟩ := h
  refine ⟨es, clock, h1, ?_⟩
  have hkeys : ∀ x ∈ es.toList, ∃ y, keyOf P K x.key = some y := by
    intro x hx
    obtain ⟨i, hi⟩ := List.getElem?_of_mem hx
    have hil : i < l.length := by rw [← h3]; have := (List.getElem?_eq_some_iff.1 hi).1; simpa using this
    obtain ⟨e, q1, q2, q3, _⟩ := h5 i _ (List.getElem?_eq_getElem hil)
    have : x = e := by
      rw [Array.getElem?_toList] at hi
      rw [q1] at hi
      exact (Option.some.inj hi).symm
    exact ⟨_, by rw [this, q2]; exact (hK.ok _ q3).choose_spec⟩
  rcases hK.keyed.find w (hK.ok _ hk).choose_spec es.toList hkeys with ⟨r1, r2⟩ | ⟨j, e, r1, r2, r3⟩
  · refine .inl ⟨lookP_none.2 (fun p hp hpk => ?_), r1, r2⟩
    obtain ⟨i, hi⟩ := List.getElem?_of_mem hp
    obtain ⟨e, q1, q2, _⟩ := h5 i p hi
    exact r2 e (by rw [← Array.getElem?_toList] at q1; exact List.mem_of_getElem? q1) (by rw [q2, hpk])
  · have hil : j < l.length := by rw [← h3]; have := (List.getElem?_eq_some_iff.1 r2).1; simpa using this
    have hj := List.getElem?_eq_getElem hil
    obtain ⟨e', q1, q2, q3, q4⟩ := h5 j _ hj
    rw [Array.getElem?_toList] at r2
    rw [r2] at q1
    obtain rfl := Option.some.inj q1
    rw [r3] at q2
    have q2 := plV_inj q2
    refine .inr ⟨j, l[j].2, e, ?_, ?_, r2, r3, q4, r1⟩
    · rw [hj, q2]
    · rw [q2]; exact lookP_at h4 hj
/-- v, ok := m[k] -/
theorem MapP.lookup (h : MapP E w b l) (hT : P.underlying T = some (.map K e)) (hK : PlK P K) {k : Pl} (hk : plOk k) {z : Value} (hz : (zeroValue e).run P w = .ok z w) (ok : Bool) :
    (lookP l k = none ∧ (Instr.lookup T (.map (some b)) (plV k) ok).run P w = .ok (if ok then .tuple #[z, .bool false] else z) w) ∨
    ∃ a v, lookP l k = some a ∧ E w a v ∧ (Instr.lookup T (.map (some b)) (plV k) ok).run P w = .ok (if ok then .tuple #[v, .bool true] else v) w := by
  obtain ⟨es, clock, h1, h | ⟨j, a, e0, _, q2, _, _, q5, q6⟩⟩ := h.find hK hk
  · refine .inl ⟨h.1, ?_⟩
    simp [Instr.lookup, run_underlying hT, MapKept.run_getObj_map h1, hK.keyed.check w _ (hK.ok _ hk).choose_spec, h.2.1, hz, Result.andThen]
  · refine .inr ⟨a, e0.val, q2, q5, ?_⟩
    simp [Instr.lookup, run_underlying hT, MapKept.run_getObj_map h1, hK.keyed.check w _ (hK.ok _ hk).choose_spec, q6, Result.andThen]
/-- m[k] = v -/
theorem MapP.update (h : MapP E w b l) (hT : P.underlying T = some (.map K e)) (hK : PlK P K) {k : Pl} (hk : plOk k) {a : α} {v : Value} (hv : E w a v)
    (hE : ∀ w', Keep (fun x => x = b) w w' → ∀ a v, E w a v → E w' a v) :
    ∃ w', (Instr.mapUpdate T (.map (some b)) (plV k) v).run P w = .ok () w' ∧ MapP E w' b (putP l k a) ∧ Keep (fun x => x = b) w w' := by
  obtain ⟨es, clock, h1, h⟩ := h.find (P := P) hK hk
  obtain ⟨es', clock', h1', h2, h3, h4, h5⟩ := ‹MapP E w b l›
  rw [h1] at h1'
  simp only [Option.some.injEq, Obj.map.injEq] at h1'
  obtain ⟨rfl, rfl⟩ := h1'
  have hkp : ∀ o, Keep (fun x => x = b) w (setBlock w b o) := fun o => ⟨rfl, rfl, rfl, by simp [setBlock], fun i _ hi => Go.ChangeMaps.heap_setBlock_other h1 _ hi⟩
  rcases h with ⟨q1, q2, q3⟩ | ⟨j, a0, e0, q1, q2, q3, q4, q5, q6⟩
  · refine ⟨setBlock w b (.map (es.push ⟨plV k, v, clock⟩) (clock + 1)), ?_, ⟨_, _, Go.ChangeMaps.heap_setBlock_same h1 _, stamped_push h2 q3, ?_, putP_keys l k a h4, ?_⟩, hkp _⟩
    · simp [Instr.mapUpdate, run_underlying hT, MapKept.run_getObj_map h1, hK.keyed.check w false (hK.ok _ hk).choose_spec, q2, MapKept.run_setObj_map _ h1, Result.andThen, setBlock]
    · rw [putP_new (lookP_none.1 q1)]; simp [h3]
    · intro i p hp
      rw [putP_new (lookP_none.1 q1)] at hp
      rcases Nat.lt_or_ge i l.length with hi | hi
      · rw [List.getElem?_append_left hi] at hp
        obtain ⟨e, r1, r2, r3, r4⟩ := h5 i p hp
        exact ⟨e, by rw [Array.getElem?_push, if_neg (by omega)]; exact r1, r2, r3, hE _ (hkp _) _ _ r4⟩
      · rw [List.getElem?_append_right hi] at hp
        have hi0 : i = l.length := by
          have := (List.getElem?_eq_some_iff.1 hp).1
          simp at this; omega
        subst hi0
        simp only [Nat.sub_self, List.getElem?_cons_zero, Option.some.injEq] at hp
        subst hp
        exact ⟨⟨plV k, v, clock⟩, by rw [Array.getElem?_push, if_pos h3.symm], rfl, hk, hE _ (hkp _) _ _ hv⟩
  · refine ⟨setBlock w b (.map (es.modify j fun x => { x with key := plV k, val := v }) clock), ?_, ⟨_, _, Go.ChangeMaps.heap_setBlock_same h1 _, stamped_modify h2 _ _ (fun _ _ => rfl) (fun x _ hx => by rw [q3] at hx; cases hx; exact q4.symm), ?_, putP_keys l k a h4, ?_⟩, hkp _⟩
    · simp [Instr.mapUpdate, run_underlying hT, MapKept.run_getObj_map h1, hK.keyed.check w false (hK.ok _ hk).choose_spec, q6, q3, q4, hK.keyed.stays w (hK.ok _ hk).choose_spec, MapKept.run_setObj_map _ h1, Result.andThen, setBlock]
    · rw [putP_old h4 q1 rfl]; simp [h3]
    · intro i p hp
      rw [putP_old h4 q1 rfl, List.getElem?_set] at hp
      by_cases hij : j = i
      · subst hij
        rw [if_pos rfl, if_pos (List.getElem?_eq_some_iff.1 q1).1, Option.some.injEq] at hp
        subst hp
        exact ⟨{ e0 with key := plV k, val := v }, by rw [Array.getElem?_modify, if_pos rfl, q3]; rfl, rfl, hk, hE _ (hkp _) _ _ hv⟩
      · rw [if_neg hij] at hp
        obtain ⟨e, r1, r2, r3, r4⟩ := h5 i p hp
        exact ⟨e, by rw [Array.getElem?_modify, if_neg hij]; exact r1, r2, r3, hE _ (hkp _) _ _ r4⟩
end
end Go.Proofs.Ythlgnilgjeebaaa

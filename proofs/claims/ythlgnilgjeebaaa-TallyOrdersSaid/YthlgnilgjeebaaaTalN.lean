/- The tally's methods, where its blocks are the call's own. -/
import Derived.Test.YthlgnilgjeebaaaTalP
import Derived.Test.YthlgnilgjeebaaaTalB
namespace Go.Proofs.Ythlgnilgjeebaaa
open Go.RowKit Go.MapKept
/-- A struct is built, where a guard lets it. -/
theorem wpl_buildG {P : Program} {ops : Array Oper} {rest : List Oper} {op : Oper} {a : Act} {w : World} {Q : Exit → Act → World → Prop} {ty : TypeId} {parts : Array (Nat × Operand)} (hgw : Region.wanted op (yielded ops a.tmps) = true) (ho : op.op = .build ty parts) (cells : Array Value)
    (hc : P.built ty (parts.map fun (i, x) => (i, a.eval x)).toList = some cells) (h : wpList P ops Q rest (a.put op.dst (.agg cells)) w) : wpList P ops Q (op :: rest) a w := by
  refine wpList_step fun K hK => ?_
  rw [if_pos hgw]
  refine wp_build ty parts ho (by rw [hc]; rfl) ?_
  rw [hc]
  exact hK _ _ h
/-- A slice of one element, where a guard lets it. -/
theorem wpl_sliceOneG {P : Program} {ops : Array Oper} {rest : List Oper} {op : Oper} {a : Act} {w : World} {Q : Exit → Act → World → Prop} {ty e : TypeId} {x : Operand} {n : Nat} (hgw : Region.wanted op (yielded ops a.tmps) = true) (ho : op.op = .buildSlice ty 1 #[(0, x)]) (ht : P.underlying ty = some (.slice e)) {z v : Value}
    (hi : (P.info? e).map (fun i => (i.zero, i.size)) = some (some z, n)) (hn0 : 0 < n) (hn : n ≤ 16777216) (hx : a.eval x = v) (hv : v.cells.size = n)
    (h : ∀ g w', g = w.heap.size → w'.heap[g]? = some (.cells v.cells e) → Keep (fun _ => False) w w' → w'.heap.size = g + 1 → wpList P ops Q rest (a.put op.dst (.slice (some ⟨g, 0, none⟩) 1 1)) w') : wpList P ops Q (op :: rest) a w := by
  have hr : (Instr.buildSlice ty 1 #[(0, v)]).run P w = .ok (.slice (some ⟨w.heap.size, 0, none⟩) 1 1) (w.alloc (.cells v.cells e)) := by
    cases hq : P.info? e with
    | none => simp [hq] at hi
    | some i =>
      simp [hq] at hi
      obtain ⟨h1, h2⟩ := hi
      have hc : (v.cells.zipIdx.foldl (fun cs x => cs.setIfInBounds x.2 x.1) ((Array.range n).map (z.cells[· % z.cells.size]!))) = v.cells := by
        have := fill_whole v.cells.toList ((Array.range n).map (z.cells[· % z.cells.size]!)) (by simp [hv])
        rw [Array.toArray_toList] at this
        refine Eq.trans ?_ this
        rw [← Array.foldl_toList, Array.toList_zipIdx]
      have hn1 : ¬ (16777216 < n) := by omega
      have hn2 : ¬ (n = 0) := by omega
      have hf : Instr.fill (fun i => some (i * n, n)) ((Array.range n).map (z.cells[· % z.cells.size]!)) [(0, v)] = some v.cells := by
        unfold Instr.fill
        simp only [Nat.zero_mul, Nat.zero_add, hv, Array.size_map, Array.size_range]
        simp only [ne_eq, not_true_eq_false, Nat.lt_irrefl, gt_iff_lt, decide_false, Bool.or_self, Bool.false_eq_true, if_false, Instr.fill]
        exact congrArg some hc
      simp [Instr.buildSlice, run_underlying ht, sizeOf, typeInfo, hq, zeroValue, h1, h2, hn1, hn2, hf, newRow]
  refine wpList_step fun K hK => ?_
  rw [if_pos hgw]
  unfold Oper.wp execOp
  simp only [ho, List.map_toArray, List.map_cons, List.map_nil, hx, Sem.run_bind, Sem.run_pure, Result.andThen_ok, hr]
  exact hK _ _ (h _ _ rfl (heap_alloc_new w _) ((Keep.refl _ w).alloc _) (by simp))
def TalN (B : Nat) (w : World) (g : Nat) (s : TS) : Prop := ∃ F, TalAt F w g s ∧ ∀ k, F k → B ≤ k ∧ k < w.heap.size
section
variable {B : Nat} {G : Nat → Prop} {w w0 w' : World} {g : Nat} {s : TS} {vm : Value} {M : List Int}
theorem TalN.keep (h : TalN B w g s) (hk : Keep (fun _ => False) w w') : TalN B w' g s := by
  obtain ⟨F, h1, h2⟩ := h
  have := hk.size
  exact ⟨F, h1.keep hk (fun _ _ => id), fun k q => ⟨(h2 k q).1, by have := (h2 k q).2; omega⟩⟩
theorem TalN.keepB (h : TalN B w g s) {C : Nat} (hk : Keep (fun k => C ≤ k) w w') (hC : w.heap.size ≤ C) : TalN B w' g s :=
  h.keep ⟨hk.os, hk.tape, hk.output, hk.size, fun k hk' _ => hk.block k hk' (by omega)⟩
theorem newN_calls (bal fr : Int) : Calls Try.prog 10 #[.int .i64 bal, .int .i64 fr] w fun e w' => ∃ g, e = .returned (.pointer (some ⟨g, 0, none⟩)) ∧ TalN w.heap.size w' g ⟨bal, fr, [], [], fr, []⟩ ∧ Keep (fun _ => False) w w' :=
  (tnew_calls bal fr).mono fun _ _ ⟨g, he, hl, hk⟩ => ⟨g, he, ⟨_, hl, fun _ q => q⟩, hk⟩
theorem promN_calls (h : TalN B w0 g s) (hk : Keep (fun _ => False) w0 w) (id base : Int) {v : Value} {l : List Vote} (hv : Sl .vote w G v l) (hG : ∀ k, G k → (k < B ∨ w0.heap.size ≤ k) ∧ k < w.heap.size) (hm : ∀ x ∈ l, x.value.changes.length ≤ 4294967296) :
    Calls Try.prog 13 #[.pointer (some ⟨g, 0, none⟩), .int .i64 id, .int .i64 base, v] w fun e w' => e = .returned (.bool (promB s id)) ∧ TalN B w' g (promS s id base l) ∧ Keep (fun k => B ≤ k) w w' := by
  obtain ⟨F, h1, h2⟩ := h
  have hs := hk.size
  refine (promise_calls (h1.keep hk (fun _ _ => _root_.id)) (fun k q => by have := (h2 k q).2; omega) id base hv (fun k q hf => by have := (hG k q).1; have := h2 k hf; omega) (fun k q => (hG k q).2) hm).mono ?_
  rintro e w' ⟨he, ht, hkp⟩
  refine ⟨he, ⟨_, ht, ?_⟩, hkp.mono (fun k _ q => (h2 k q).1)⟩
  have hs' := hkp.size
  rintro k (q | ⟨a, b⟩)
  · have := h2 k q; omega
  · exact ⟨by have h3 := h1.lt; have h4 : B ≤ g := (by obtain ⟨m1, m2, m3, hm⟩ := h1; exact (h2 g hm.fg).1); omega, b⟩
theorem promN_nil (h : TalN B w g s) (id base : Int) :
    Calls Try.prog 13 #[.pointer (some ⟨g, 0, none⟩), .int .i64 id, .int .i64 base, .slice none 0 0] w fun e w' => e = .returned (.bool (promB s id)) ∧ TalN B w' g (promS s id base []) ∧ Keep (fun k => B ≤ k) w w' :=
  promN_calls (G := fun _ => False) h (Keep.refl _ _) id base ⟨none, 0, rfl, Nat.le_refl _, Nat.zero_le _, .inl rfl⟩ (fun _ f => f.elim) (by simp)
theorem valN_calls (h : TalN B w g s) (k : Int) (hk : (Lit.int .i64 k).wf = true) :
    Calls Try.prog 14 #[.pointer (some ⟨g, 0, none⟩), .int .i64 k] w fun e w' => ValPost w s k e w' ∧ TalN B w' g s := by
  obtain ⟨F, h1, h2⟩ := h
  refine (tval_calls h1 k hk).mono ?_
  intro e w' hp
  obtain ⟨A, c, he, hs, hl, hkp⟩ := hp
  exact ⟨⟨A, c, he, hs, hl, hkp⟩, TalN.keep ⟨F, h1, h2⟩ hkp⟩
theorem topN_calls (h : TalN B w g s) : Calls Try.prog 16 #[.pointer (some ⟨g, 0, none⟩)] w fun e w' => e = .returned (.int .i64 s.top) ∧ w = w' := by
  obtain ⟨F, h1, _⟩ := h; exact top_calls h1
theorem ballotN_calls (h : TalN B w g s) : Calls Try.prog 38 #[.pointer (some ⟨g, 0, none⟩)] w fun e w' => e = .returned (.int .i64 s.ballot) ∧ w = w' := by
  obtain ⟨F, h1, _⟩ := h; exact ballot_calls h1
theorem fromN_calls (h : TalN B w g s) : Calls Try.prog 39 #[.pointer (some ⟨g, 0, none⟩)] w fun e w' => e = .returned (.int .i64 s.from') ∧ w = w' := by
  obtain ⟨F, h1, _⟩ := h; exact from_calls h1
theorem baseN_calls (h : TalN B w g s) (hl : s.pr.length ≤ 1000000) : Calls Try.prog 17 #[.pointer (some ⟨g, 0, none⟩)] w fun e w' => e = .returned (.int .i64 (baseR s)) ∧ TalN B w' g s ∧ Keep (fun _ => False) w w' := by
  obtain ⟨F, h1, h2⟩ := h
  exact (base_calls h1 hl).mono fun _ _ ⟨he, hk⟩ => ⟨he, TalN.keep ⟨F, h1, h2⟩ hk, hk⟩
theorem furtherN_calls (h : TalN B w g s) (hl : s.pr.length ≤ 1000000) (slot : Int) : Calls Try.prog 19 #[.pointer (some ⟨g, 0, none⟩), .int .i64 slot] w fun e w' =>
    ∃ u', e = .returned u' ∧ Row (NewIn w w') w' u' (byR s true slot).length 1 ((byR s true slot).map I64) ∧ TalN B w' g s ∧ Keep (fun _ => False) w w' := by
  obtain ⟨F, h1, h2⟩ := h
  exact (further_calls h1 hl (fun k q => (h2 k q).2) slot).mono fun _ _ ⟨u, he, hr, hk⟩ => ⟨u, he, hr, TalN.keep ⟨F, h1, h2⟩ hk, hk⟩
theorem promisedN_calls (h : TalN B w g s) (hl : s.pr.length ≤ 1000000) : Calls Try.prog 20 #[.pointer (some ⟨g, 0, none⟩)] w fun e w' =>
    ∃ u', e = .returned u' ∧ Row (NewIn w w') w' u' (keysS s.pr).length 1 ((keysS s.pr).map I64) ∧ TalN B w' g s ∧ Keep (fun _ => False) w w' := by
  obtain ⟨F, h1, h2⟩ := h
  exact (promised_calls h1 hl).mono fun _ _ ⟨u, he, hr⟩ => ⟨u, he, hr.row, TalN.keep ⟨F, h1, h2⟩ hr.kp, hr.kp⟩
theorem votersN_calls (h : TalN B w g s) (slot : Int) (hs : okI slot) : Calls Try.prog 29 #[.pointer (some ⟨g, 0, none⟩), .int .i64 slot] w fun e w' =>
    ∃ u', e = .returned u' ∧ Row (NewIn w w') w' u' (votersR s slot).length 1 ((votersR s slot).map I64) ∧ TalN B w' g s ∧ Keep (fun _ => False) w w' := by
  obtain ⟨F, h1, h2⟩ := h
  exact (voters_calls h1 slot hs).mono fun _ _ ⟨u, he, hr⟩ => ⟨u, he, hr.row, TalN.keep ⟨F, h1, h2⟩ hr.kp, hr.kp⟩
theorem readyN_calls (h : TalN B w g s) (hl : s.pr.length ≤ 1000000) (slot : Int) (hM : Row G w vm M.length 1 (M.map I64)) (hml : M.length ≤ 1000000) : Calls Try.prog 23 #[.pointer (some ⟨g, 0, none⟩), .int .i64 slot, vm] w fun e w' =>
    e = .returned (.bool (readyB s slot M)) ∧ TalN B w' g s ∧ Keep (fun _ => False) w w' := by
  obtain ⟨F, h1, h2⟩ := h
  exact (tready_calls h1 hl (fun k q => (h2 k q).2) slot hM hml).mono fun _ _ ⟨he, hk⟩ => ⟨he, TalN.keep ⟨F, h1, h2⟩ hk, hk⟩
theorem wonN_calls (h : TalN B w g s) (slot : Int) (hs : okI slot) (hM : Row G w vm M.length 1 (M.map I64)) (hml : M.length ≤ 1000000) : Calls Try.prog 35 #[.pointer (some ⟨g, 0, none⟩), .int .i64 slot, vm] w fun e w' =>
    e = .returned (.bool (mostB M (votersR s slot))) ∧ TalN B w' g s ∧ Keep (fun _ => False) w w' := by
  obtain ⟨F, h1, h2⟩ := h
  exact (won_calls h1 slot hs hM hml).mono fun _ _ ⟨he, hk⟩ => ⟨he, TalN.keep ⟨F, h1, h2⟩ hk, hk⟩
/-- What n deeds leave. -/
structure TInv (n : Nat) (s : TS) : Prop where
  pr : s.pr.length ≤ n
  vt : s.vt.length ≤ n
  one : ∀ k, 0 ≤ vtAt s k ∧ vtAt s k ≤ 1
  ids : ∀ p ∈ s.pr, repB p.1 = true
theorem putE_len {α : Type} (l : List (Int × α)) (k : Int) (a : α) : (putE l k a).length ≤ l.length + 1 := by
  induction l with
  | nil => simp [putE]
  | cons p l ih => rw [putE]; split <;> simp <;> omega
theorem putP_len {α : Type} (l : List (Pl × α)) (k : Pl) (a : α) : (putP l k a).length ≤ l.length + 1 := by
  induction l with
  | nil => simp [putP]
  | cons p l ih => rw [putP]; split <;> simp <;> omega
theorem putE_mem {α : Type} {l : List (Int × α)} {k : Int} {a : α} {p : Int × α} (h : p ∈ putE l k a) : p = (k, a) ∨ p ∈ l := by
  induction l with
  | nil => simp [putE] at h; exact .inl h
  | cons q l ih =>
    rw [putE] at h
    split at h
    · rcases List.mem_cons.1 h with q | q
      · exact .inl q
      · exact .inr (by simp [q])
    · rcases List.mem_cons.1 h with q | q
      · exact .inr (by simp [q])
      · exact (ih q).imp id (fun q => by simp [q])
theorem TInv.new (b f : Int) : TInv 0 ⟨b, f, [], [], f, []⟩ := ⟨Nat.le_refl _, Nat.le_refl _, fun k => by simp [vtAt, lookP_nil], by simp⟩
theorem TInv.more {n m : Nat} (h : TInv n s) (hnm : n ≤ m) : TInv m s := ⟨Nat.le_trans h.pr hnm, Nat.le_trans h.vt hnm, h.one, h.ids⟩
theorem TInv.prom {n : Nat} (h : TInv n s) (id base : Int) (l : List Vote) : TInv (n + 1) (promS s id base l) := by
  rw [promS]
  split
  · rename_i hb
    have hr : repB id = true := by simp [promB] at hb; exact hb.1
    exact ⟨by have := putE_len s.pr id base; have := h.pr; show (putE s.pr id base).length ≤ _; omega, Nat.le_trans h.vt (by omega), h.one, fun p hp => by
      rcases putE_mem hp with rfl | q
      · exact hr
      · exact h.ids p q⟩
  · exact h.more (by omega)
theorem vtAt_put (s : TS) (k : Pl) (a : Int) (k' : Pl) : vtAt { s with vt := putP s.vt k a } k' = if k = k' then a else vtAt s k' := by
  rw [vtAt, lookP_put]
  split <;> rfl
theorem TInv.vote {n : Nat} (h : TInv n s) (slot id : Int) : TInv (n + 1) (voteS s slot id) := by
  rw [voteS]
  split
  · rename_i hb
    have h0 : vtAt s (slot, id) = 0 := by
      have := h.one (slot, id)
      simp [voteB] at hb
      omega
    refine ⟨Nat.le_trans h.pr (by omega), by have := putP_len s.vt (slot, id) (vtAt s (slot, id) + 1); have := h.vt; show (putP _ _ _).length ≤ _; omega, fun k => ?_, h.ids⟩
    rw [vtAt_put, h0]
    split
    · exact ⟨by omega, by omega⟩
    · exact h.one k
  · exact h.more (by omega)
theorem voteN_calls {n : Nat} (h : TalN B w g s) (slot id : Int) (hs : okI slot) (hi : TInv n s) (hn : n ≤ 1000000) : Calls Try.prog 25 #[.pointer (some ⟨g, 0, none⟩), .int .i64 slot, .int .i64 id] w fun e w' =>
    e = .returned (.bool (voteB s slot id)) ∧ TalN B w' g (voteS s slot id) ∧ Keep (fun k => B ≤ k) w w' := by
  obtain ⟨F, h1, h2⟩ := h
  refine (tvote_calls h1 slot id hs (by have := hi.vt; omega) (fun k => by have := hi.one k; exact ⟨by omega, by omega⟩)).mono ?_
  rintro e w' ⟨he, ht, hk⟩
  exact ⟨he, ⟨F, ht, fun k q => ⟨(h2 k q).1, by have := (h2 k q).2; have := hk.size; omega⟩⟩, hk.mono (fun k _ q => (h2 k q).1)⟩
/-- A vote in a block of its own, as a list of one. -/
theorem sl_vote1 {F : Nat → Prop} {e : TypeId} {x : Vote} {v : Value} (hb : w.heap[g]? = some (.cells (voteCs x v).toArray e)) (hv : Sl .change w F v x.value.changes) (hok : x.Ok) (hF : F g) : Sl .vote w F (.slice (some ⟨g, 0, none⟩) 1 1) [x] := by
  have hr := row_at (d := voteCs x v) hb
  refine Sl.ofRow (cs := voteCs x v) (hr.mono (fun b hb => by have hb : b = g := hb; rw [hb]; exact hF)) (fun i y hy => ?_)
  cases i with
  | zero =>
    simp only [List.getElem?_cons_zero, Option.some.injEq] at hy
    subst hy
    have := vote_mk hv hok
    rw [Nat.zero_mul, List.drop_zero, List.take_of_length_le (by show (voteCs x v).length ≤ 13; simp [voteCs, reqCs])]
    exact this
  | succ i => simp at hy
theorem byR_len (s : TS) (ab : Bool) (slot : Int) : (byR s ab slot).length = ((s.pr.map Prod.fst).filter (fun k => soB ab slot (prAt s k))).length :=
  ((List.mergeSort_perm (s.pr.map Prod.fst) leI).filter _).length_eq
abbrev vX (slot ballot n : Int) : Vote := ⟨slot, ballot, reqX n⟩
theorem okI_c {n : Int} (h1 : -100 ≤ n) (h2 : n ≤ 100) : okI n := ⟨by omega, by omega⟩
theorem vX_ok {slot ballot n : Int} (h1 : okI slot) (h2 : okI ballot) (h3 : okI n) : (vX slot ballot n).Ok :=
  ⟨h1, h2, ⟨(okI_c (by decide) (by decide) : okI 3), h3, (okI_c (by decide) (by decide) : okI 1), (okI_c (by decide) (by decide) : okI 0), (okI_c (by decide) (by decide) : okI 0), (okI_c (by decide) (by decide) : okI 0), (okI_c (by decide) (by decide) : okI 0)⟩⟩
end
end Go.Proofs.Ythlgnilgjeebaaa

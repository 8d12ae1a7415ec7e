/- Boxes, or none: Take, Either, Drain, Len. -/
import Derived.Test.YtiomeoihekifeaaBox
namespace Go.Proofs.Ytiomeoihekifeaa
open Go.RowKit Go.Conc
abbrev ptr (p : Option Nat) : Value := .pointer (p.map fun g => ⟨g, 0, none⟩)
def BoxO (F : Nat → Prop) (w : World) (p : Option Nat) (c cap : Nat) (l : List Msg) : Prop :=
  match p with
  | none => l = []
  | some g => BoxAt F w g c cap l
section
variable {F S G : Nat → Prop} {w w' : World} {p : Option Nat} {c cap : Nat} {l : List Msg}
theorem BoxO.keep (h : BoxO F w p c cap l) (hk : Keep S w w') (hd : ∀ k, F k → ¬ S k) : BoxO F w' p c cap l := by
  cases p with
  | none => exact h
  | some g => exact BoxAt.keep h hk hd
theorem BoxO.mono (h : BoxO F w p c cap l) (hFG : ∀ k, F k → G k) : BoxO G w p c cap l := by
  cases p with
  | none => exact h
  | some g => exact BoxAt.mono h hFG
/-- What is taken, or told by Either, is a message's cells. -/
structure MsgL (cs : List Value) : Prop where
  len : cs.length = 27
  one : ∀ u ∈ cs, u.oneCell' = true
theorem MsgL.of {F : Nat → Prop} {w : World} {m : Msg} {cs : List Value} (h : Rep.msg.cells w F m cs) : MsgL cs := ⟨Rep.msg.len h, msg_one m cs h⟩
theorem MsgL.oneA {cs : List Value} (h : MsgL cs) : ∀ u ∈ (Value.agg cs.toArray).cells.toList, u.oneCell' = true := fun u hu => h.one u (by simpa [Value.cells] using hu)
theorem MsgL.fit {cs : List Value} (h : MsgL cs) : 0 + (Value.agg cs.toArray).cells.size ≤ 27 := by simp [Value.cells, h.len]
theorem MsgL.info {cs : List Value} (h : MsgL cs) : (Try.prog.info? 60).map (·.size) = some (Value.agg cs.toArray).cells.size := by
  rw [show (Value.agg cs.toArray).cells.size = 27 by simp [Value.cells, h.len]]; kernel_rfl
theorem MsgL.info' {cs : List Value} (h : MsgL cs) : (Try.prog.info? 60).map (·.size) = some cs.toArray.size := by
  rw [show cs.toArray.size = 27 by simp [h.len]]; kernel_rfl
theorem MsgL.whole {cs : List Value} (h : MsgL cs) {C : Array Value} (hC : C.size = 27) : some (Obj.cells (spl C 0 (Value.agg cs.toArray).cells.toList) 60) = some (Obj.cells cs.toArray 60) := by
  rw [spl_whole _ _ (by simp only [Value.cells, h.len, hC]; omega)]
  rfl
theorem MsgL.take {cs : List Value} (h : MsgL cs) : List.take 27 cs = cs := List.take_of_length_le (Nat.le_of_eq h.len)
abbrev zM : Value := .agg (msgCs msgZ nilV nilV nilV nilV).toArray
theorem msgL_z : MsgL (msgCs msgZ nilV nilV nilV nilV) := MsgL.of (F := fun _ => False) (w := default) (msgZ_cells _ _)
/-- The taken message's data lie in F, but not in the box's own two blocks. -/
def FreeOf (F : Nat → Prop) (p : Option Nat) (c : Nat) (q : Nat) : Prop := F q ∧ p ≠ some q ∧ q ≠ c
def TakeO (F : Nat → Prop) (w : World) (p : Option Nat) (c cap : Nat) (l : List Msg) (e : Ending) (w' : World) : Prop :=
  ∃ cs, e = .returned (.tuple #[.agg cs.toArray, .bool (decide (0 < l.length))]) ∧ Rep.msg.cells w' (FreeOf F p c) (l.headD msgZ) cs ∧ BoxO F w' p c cap l.tail ∧ Keep (fun q => p ≠ none ∧ q = c) w w'
set_option maxRecDepth 20000 in
theorem takeO_calls (h : BoxO F w p c cap l) (hF : ∀ q, F q → q < w.heap.size) : Calls Try.prog 39 #[ptr p] w (TakeO F w p c cap l) := by
  cases p with
  | some g =>
    refine (take_calls h hF).mono ?_
    rintro e w' ⟨cs, he, h1, h2, h3⟩
    exact ⟨cs, he, Rep.msg.mono h1 (fun q hq => ⟨hq.1, fun e => hq.2.1 (by simpa using e.symm), hq.2.2⟩), h2, h3.mono (fun _ _ q => ⟨by simp, q⟩)⟩
  | none =>
    have h : l = [] := h
    subst h
    go_enter Try.func39, Try.ntmps39
    go_wp2_with (first
      | (refine wpl_allocB (z := zM) rfl rfl (by kernel_rfl) ?_; intro g1 w1 hg1 hb1 k1 s1; have HG1 := hid hg1; clear hg1))
    refine made_nil.mono ?_
    rintro e w' ⟨rfl, rfl⟩
    go_wp2_with (first
      | (refine wpl_storeB (v := zM) rfl rfl rfl rfl hb1 (by kernel_rfl) (by decide) (msgL_z.oneA) ?_; intro w2 hb2 k2 s2))
    refine bodyPost_ret (res_cell_tmp (g := g1) (cs := (msgCs msgZ nilV nilV nilV nilV).toArray) (v := .bool false) Try.results39 _ rfl rfl hb2 (by kernel_rfl) (by kernel_rfl)) rfl ?_
    have e1 := HG1.out
    exact ⟨_, rfl, msgZ_cells _ _, rfl, ((k1.mono (T := fun q => False ∧ q = c) (fun _ _ q => q.elim)).trans k2 (fun b hb e => by omega)).mono (fun _ _ q => q.1.elim)⟩
theorem lenO_calls (h : BoxO F w p c cap l) : Calls Try.prog 46 #[ptr p] w fun e w' => e = .returned (.int .i64 l.length) ∧ w = w' := by
  cases p with
  | some g => exact len_calls h
  | none =>
    have h : l = [] := h
    subst h
    exact len_nil

/-- What Either tells: of which box, and the message. -/
def EithPost (F G : Nat → Prop) (w : World) (p q : Option Nat) (c d capa capb : Nat) (l t : List Msg) (e : Ending) (w' : World) : Prop :=
  ∃ cs, e = .returned (.tuple #[.agg cs.toArray, .int .i64 (if 0 < l.length then 1 else if 0 < t.length then 2 else 0)]) ∧ Rep.msg.cells w' (fun k => FreeOf F p c k ∨ FreeOf G q d k) (if 0 < l.length then l.headD msgZ else t.headD msgZ) cs ∧
    BoxO F w' p c capa l.tail ∧ BoxO G w' q d capb (if 0 < l.length then t else t.tail) ∧ Keep (fun k => (p ≠ none ∧ k = c) ∨ (q ≠ none ∧ k = d)) w w'
set_option maxRecDepth 20000 in
set_option maxHeartbeats 800000 in
theorem either_calls {q : Option Nat} {d capb : Nat} {t : List Msg} (ha : BoxO F w p c cap l) (hb : BoxO G w q d capb t) (hF : ∀ k, F k → k < w.heap.size) (hG : ∀ k, G k → k < w.heap.size) (hFG : ∀ k, F k → ¬ G k) (hc : p ≠ none → F c) (hd : q ≠ none → G d) :
    Calls Try.prog 42 #[ptr p, ptr q] w (EithPost F G w p q c d cap capb l t) := by
  have HA := hid ha
  have HB := hid hb
  have HF := hid hF
  have HG := hid hG
  have HFG := hid hFG
  have HC := hid hc
  have HD := hid hd
  clear ha hb hF hG hFG hc hd
  obtain ⟨vp, hvp⟩ : ∃ v, ptr p = v := ⟨_, rfl⟩
  obtain ⟨vq, hvq⟩ : ∃ v, ptr q = v := ⟨_, rfl⟩
  have HVP := hid hvp
  have HVQ := hid hvq
  rw [hvp, hvq]
  clear hvp hvq
  go_enter Try.func42, Try.ntmps42
  go_wp2_with (first
    | (refine wpl_allocB (z := zM) rfl rfl (by kernel_rfl) ?_; intro g4 w1 hg4 hb4 k1 s1; have HG4 := hid hg4; clear hg4))
  have h1 := takeO_calls (HA.out.keep k1 (fun _ _ => id)) (fun k hk => by have := HF.out k hk; have := HG4.out; omega)
  rw [HVP.out] at h1
  refine h1.mono ?_
  clear h1
  rintro e w2 ⟨cs, rfl, hm2, ha2, k2⟩
  have HL := hid (MsgL.of hm2)
  have e4 : w.heap.size ≤ g4 := Nat.le_of_eq HG4.out.symm
  have e4' : g4 < w1.heap.size := by omega
  replace hb4 := k2.heap hb4 (fun e => by have := HF.out c (HC.out e.1); omega)
  have HM2 := hid hm2
  have HA2 := hid ha2
  clear hm2 ha2
  by_cases hl : 0 < l.length
  · have hdl : decide (0 < l.length) = true := decide_eq_true hl
    have HLP := hid hl
    clear hl
    go_wp2_with (first
      | (refine wpl_allocB (z := zM) rfl rfl (by kernel_rfl) ?_; intro g6 w3 hg6 hb6 k3 s3; have HG6 := hid hg6; clear hg6; replace hb4 := k3.heap hb4 id)
      | (refine wpl_storeB (v := .agg cs.toArray) rfl rfl rfl rfl hb6 HL.out.info HL.out.fit HL.out.oneA ?_; intro w4 hb6' k4 s4; replace hb4 := k4.heap hb4 (fun e => by have := HG6.out; have := k2.size; omega); have hb6 := hb6'.trans (HL.out.whole rfl))
      | (refine wpl_loadA rfl rfl rfl hb6 (by kernel_rfl) (by kernel_rfl) cs HL.out.take HL.out.len ?_)
      | (refine wpl_storeB (v := .agg cs.toArray) rfl rfl rfl rfl hb4 HL.out.info HL.out.fit HL.out.oneA ?_; intro w5 hb4' k5 s5; have hb5 := hb4'.trans (HL.out.whole rfl)))
    refine bodyPost_ret (res_cell_tmp (g := g4) (cs := cs.toArray) (v := .int .i64 1) Try.results42 _ rfl rfl hb5 (by kernel_rfl) HL.out.info') rfl ?_
    have z2 := k2.size
    have e6 := HG6.out
    have kk : Keep (fun k => k = g4 ∨ k = g6) w2 w5 := ((k3.mono (fun _ _ q => q.elim)).trans (k4.mono (T := fun k => k = g4 ∨ k = g6) (fun _ _ e => .inr e)) (fun _ _ q => q)).trans (k5.mono (T := fun k => k = g4 ∨ k = g6) (fun _ _ e => .inl e)) (fun _ _ q => q)
    have hF4 : ∀ k, F k → ¬ (k = g4 ∨ k = g6) := fun k hk e => by have := HF.out k hk; omega
    have hG4 : ∀ k, G k → ¬ (k = g4 ∨ k = g6) := fun k hk e => by have := HG.out k hk; omega
    have hkd : ∀ k, G k → ¬ (p ≠ none ∧ k = c) := fun k hk e => HFG.out c (HC.out e.1) (e.2 ▸ hk)
    unfold EithPost
    rw [if_pos HLP.out, if_pos HLP.out, if_pos HLP.out]
    exact ⟨cs, rfl, Rep.msg.mono (Rep.msg.keep HM2.out kk (fun k hk => hF4 k hk.1)) (fun k hk => .inl hk), HA2.out.keep kk hF4, ((HB.out.keep k1 (fun _ _ => id)).keep k2 hkd).keep kk hG4,
      (((k1.mono (fun _ _ q => q.elim)).trans k2 (fun _ _ e => .inl e))).trans kk (fun b hb e => by omega)⟩
  · have hdl : decide (0 < l.length) = false := decide_eq_false hl
    have HLP := hid hl
    clear hl
    go_wp2_with (first
      | (refine wpl_allocB (z := zM) rfl rfl (by kernel_rfl) ?_; intro g6 w3 hg6 hb6 k3 s3; have HG6 := hid hg6; clear hg6; replace hb4 := k3.heap hb4 id)
      | (refine wpl_storeB (v := .agg cs.toArray) rfl rfl rfl rfl hb6 HL.out.info HL.out.fit HL.out.oneA ?_; intro w4 hb6' k4 s4; replace hb4 := k4.heap hb4 (fun e => by have := HG6.out; have := k2.size; omega)))
    have z2 := k2.size
    have e6 : w2.heap.size ≤ g6 := Nat.le_of_eq HG6.out.symm
    have kk : Keep (fun k => k = g6) w2 w4 := (k3.mono (fun _ _ q => q.elim)).trans k4 (fun _ _ e => e)
    have hkd : ∀ k, G k → ¬ (p ≠ none ∧ k = c) := fun k hk e => HFG.out c (HC.out e.1) (e.2 ▸ hk)
    have h2 := takeO_calls (((HB.out.keep k1 (fun _ _ => id)).keep k2 hkd).keep kk (fun k hk e => by have := HG.out k hk; omega)) (fun k hk => by have := HG.out k hk; omega)
    rw [HVQ.out] at h2
    refine h2.mono ?_
    clear h2
    rintro e w5 ⟨ct, rfl, hm5, hb5', k5⟩
    have HL5 := hid (MsgL.of hm5)
    replace hb4 := k5.heap hb4 (fun e => by have := HG.out d (HD.out e.1); omega)
    have HM5 := hid hm5
    have HB5 := hid hb5'
    have HA5 := hid ((HA2.out.keep kk (fun k hk e => by have := HF.out k hk; omega)).keep k5 (fun k hk e => HFG.out k hk (e.2 ▸ HD.out e.1)))
    have HK := hid ((((k1.mono (T := fun k => (p ≠ none ∧ k = c) ∨ (q ≠ none ∧ k = d)) (fun _ _ q => q.elim)).trans k2 (fun _ _ e => .inl e)).trans kk (fun b hb e => by omega)).trans k5 (fun _ _ e => .inr e))
    clear hm5 hb5' hb6 hb6'
    by_cases ht : 0 < t.length
    · have hdt : decide (0 < t.length) = true := decide_eq_true ht
      have HTP := hid ht
      clear ht
      go_wp2_with (first
        | (refine wpl_allocB (z := zM) rfl rfl (by kernel_rfl) ?_; intro g8 w6 hg8 hb8 k6 s6; have HG8 := hid hg8; clear hg8; replace hb4 := k6.heap hb4 id)
        | (refine wpl_storeB (v := .agg ct.toArray) rfl rfl rfl rfl hb8 HL5.out.info HL5.out.fit HL5.out.oneA ?_; intro w7 hb8' k7 s7; replace hb4 := k7.heap hb4 (fun e => by have := HG8.out; have := k5.size; omega); have hb8 := hb8'.trans (HL5.out.whole rfl))
        | (refine wpl_loadA rfl rfl rfl hb8 (by kernel_rfl) (by kernel_rfl) ct HL5.out.take HL5.out.len ?_)
        | (refine wpl_storeB (v := .agg ct.toArray) rfl rfl rfl rfl hb4 HL5.out.info HL5.out.fit HL5.out.oneA ?_; intro w9 hb4' k9 s9; have hb9 := hb4'.trans (HL5.out.whole rfl)))
      refine bodyPost_ret (res_cell_tmp (g := g4) (cs := ct.toArray) (v := .int .i64 2) Try.results42 _ rfl rfl hb9 (by kernel_rfl) HL5.out.info') rfl ?_
      have z5 := k5.size
      have e8 := HG8.out
      have kx : Keep (fun k => k = g4 ∨ k = g8) w5 w9 := ((k6.mono (fun _ _ q => q.elim)).trans (k7.mono (T := fun k => k = g4 ∨ k = g8) (fun _ _ e => .inr e)) (fun _ _ q => q)).trans (k9.mono (T := fun k => k = g4 ∨ k = g8) (fun _ _ e => .inl e)) (fun _ _ q => q)
      have hF4 : ∀ k, F k → ¬ (k = g4 ∨ k = g8) := fun k hk e => by have := HF.out k hk; omega
      have hG4 : ∀ k, G k → ¬ (k = g4 ∨ k = g8) := fun k hk e => by have := HG.out k hk; omega
      unfold EithPost
      rw [if_neg HLP.out, if_neg HLP.out, if_neg HLP.out, if_pos HTP.out]
      exact ⟨ct, rfl, Rep.msg.mono (Rep.msg.keep HM5.out kx (fun k hk => hG4 k hk.1)) (fun k hk => .inr hk), HA5.out.keep kx hF4, HB5.out.keep kx hG4, HK.out.trans kx (fun b hb e => by omega)⟩
    · have hdt : decide (0 < t.length) = false := decide_eq_false ht
      have HTP := hid ht
      clear ht
      go_wp2_with (first
        | (refine wpl_allocB (z := zM) rfl rfl (by kernel_rfl) ?_; intro g8 w6 hg8 hb8 k6 s6; have HG8 := hid hg8; clear hg8; replace hb4 := k6.heap hb4 id)
        | (refine wpl_storeB (v := .agg ct.toArray) rfl rfl rfl rfl hb8 HL5.out.info HL5.out.fit HL5.out.oneA ?_; intro w7 hb8' k7 s7; replace hb4 := k7.heap hb4 (fun e => by have := HG8.out; have := k5.size; omega))
        | (refine wpl_storeB (v := zM) rfl rfl rfl rfl hb4 msgL_z.info msgL_z.fit msgL_z.oneA ?_; intro w9 hb4' k9 s9; have hb9 := hb4'.trans (msgL_z.whole rfl)))
      refine bodyPost_ret (res_cell_tmp (g := g4) (cs := (msgCs msgZ nilV nilV nilV nilV).toArray) (v := .int .i64 0) Try.results42 _ rfl rfl hb9 (by kernel_rfl) msgL_z.info') rfl ?_
      have z5 := k5.size
      have e8 := HG8.out
      have kx : Keep (fun k => k = g4 ∨ k = g8) w5 w9 := ((k6.mono (fun _ _ q => q.elim)).trans (k7.mono (T := fun k => k = g4 ∨ k = g8) (fun _ _ e => .inr e)) (fun _ _ q => q)).trans (k9.mono (T := fun k => k = g4 ∨ k = g8) (fun _ _ e => .inl e)) (fun _ _ q => q)
      have hF4 : ∀ k, F k → ¬ (k = g4 ∨ k = g8) := fun k hk e => by have := HF.out k hk; omega
      have hG4 : ∀ k, G k → ¬ (k = g4 ∨ k = g8) := fun k hk e => by have := HG.out k hk; omega
      have ht0 : t = [] := List.eq_nil_of_length_eq_zero (by have := HTP.out; omega)
      unfold EithPost
      rw [if_neg HLP.out, if_neg HLP.out, if_neg HLP.out, if_neg HTP.out]
      refine ⟨_, rfl, ?_, HA5.out.keep kx hF4, HB5.out.keep kx hG4, HK.out.trans kx (fun b hb e => by omega)⟩
      rw [ht0]
      exact msgZ_cells _ _
end
end Go.Proofs.Ytiomeoihekifeaa

/- Boxes whose blocks are the call's own: one, two. wapentakelaw20.awake. -/
import Derived.Test.YtiomeoihekifeaaBox3
namespace Go.Proofs.Ytiomeoihekifeaa
open Go.RowKit Go.Conc
/-- A box, or none, all of whose blocks lie at B or behind; two of them apart. -/
def TwoB (B : Nat) (w : World) (p : Option Nat) (c capa : Nat) (l : List Msg) (q : Option Nat) (d capb : Nat) (t : List Msg) : Prop :=
  ∃ F G, BoxO F w p c capa l ∧ BoxO G w q d capb t ∧ (∀ k, F k → B ≤ k ∧ k < w.heap.size) ∧ (∀ k, G k → B ≤ k ∧ k < w.heap.size) ∧ (∀ k, F k → ¬ G k)
section
variable {B : Nat} {w w' : World} {p q : Option Nat} {c d capa capb : Nat} {l t : List Msg}
theorem BoxO.hasC {F : Nat → Prop} (h : BoxO F w p c capa l) (hp : p ≠ none) : F c := by
  cases p with
  | none => exact absurd rfl hp
  | some g => obtain ⟨_, _, _, _, _, _, h, _⟩ := h; exact h
theorem BoxO.le {F : Nat → Prop} (h : BoxO F w p c capa l) : l.length ≤ capa := by
  cases p with
  | none => have h : l = [] := h; subst h; exact Nat.zero_le _
  | some g => exact BoxAt.le h
theorem TwoB.symm (h : TwoB B w p c capa l q d capb t) : TwoB B w q d capb t p c capa l := by
  obtain ⟨F, G, h1, h2, h3, h4, h5⟩ := h
  exact ⟨G, F, h2, h1, h4, h3, fun k hk hf => h5 k hf hk⟩
theorem TwoB.keep (h : TwoB B w p c capa l q d capb t) (hk : Keep (fun k => w.heap.size ≤ k) w w') : TwoB B w' p c capa l q d capb t := by
  obtain ⟨F, G, h1, h2, h3, h4, h5⟩ := h
  have := hk.size
  exact ⟨F, G, h1.keep hk (fun k hf e => by have := (h3 k hf).2; omega), h2.keep hk (fun k hf e => by have := (h4 k hf).2; omega), fun k hf => ⟨(h3 k hf).1, by have := (h3 k hf).2; omega⟩, fun k hf => ⟨(h4 k hf).1, by have := (h4 k hf).2; omega⟩, h5⟩
theorem TwoB.keepF (h : TwoB B w p c capa l q d capb t) (hk : Keep (fun _ => False) w w') : TwoB B w' p c capa l q d capb t := h.keep (hk.mono (fun _ _ e => e.elim))
theorem TwoB.post {g : Nat} {G : Nat → Prop} {m : Msg} {cs : List Value} (h : TwoB B w (some g) c capa l q d capb t) (hm : Rep.msg.cells w G m cs) (hG : ∀ k, G k → k < w.heap.size) (hf : m.Fits) :
    Calls Try.prog 38 #[.pointer (some ⟨g, 0, none⟩), .agg cs.toArray] w fun e w' => e = .returned (.bool (decide (l.length < capa))) ∧ TwoB B w' (some g) c capa (if l.length < capa then l ++ [m] else l) q d capb t ∧ Keep (fun k => k = c) w w' := by
  obtain ⟨F, G', h1, h2, h3, h4, h5⟩ := h
  have hc : F c := BoxO.hasC h1 (by simp)
  refine (post_calls h1 (fun k hk => (h3 k hk).2) hm hG hf).mono ?_
  rintro e w' ⟨he, hb, hk⟩
  have hs := hk.size
  refine ⟨he, ⟨Grow F w w', G', hb, h2.keep hk (fun k hg e => h5 c hc (e ▸ hg)), ?_, fun k hg => ⟨(h4 k hg).1, by have := (h4 k hg).2; omega⟩, ?_⟩, hk⟩
  · rintro k (hk' | ⟨a, b⟩)
    · have := h3 k hk'; omega
    · have := h3 c hc; exact ⟨by omega, b⟩
  · rintro k (hk' | ⟨a, b⟩) hg
    · exact h5 k hk' hg
    · have := (h4 k hg).2; omega
theorem TwoB.take (h : TwoB B w p c capa l q d capb t) :
    Calls Try.prog 39 #[ptr p] w fun e w' => ∃ cs, e = .returned (.tuple #[.agg cs.toArray, .bool (decide (0 < l.length))]) ∧ Rep.msg.cells w' (fun k => B ≤ k ∧ k < w'.heap.size) (l.headD msgZ) cs ∧ TwoB B w' p c capa l.tail q d capb t ∧ Keep (fun k => p ≠ none ∧ k = c) w w' := by
  obtain ⟨F, G', h1, h2, h3, h4, h5⟩ := h
  refine (takeO_calls h1 (fun k hk => (h3 k hk).2)).mono ?_
  rintro e w' ⟨cs, he, hm, hb, hk⟩
  have hs := hk.size
  exact ⟨cs, he, Rep.msg.mono hm (fun k hk => ⟨(h3 k hk.1).1, by have := (h3 k hk.1).2; omega⟩), ⟨F, G', hb, h2.keep hk (fun k hg e => h5 c (BoxO.hasC h1 e.1) (e.2 ▸ hg)), fun k hg => ⟨(h3 k hg).1, by have := (h3 k hg).2; omega⟩, fun k hg => ⟨(h4 k hg).1, by have := (h4 k hg).2; omega⟩, h5⟩,
    hk⟩
theorem TwoB.drain (h : TwoB B w p c capa l q d capb t) (hcap : capa ≤ 4096) (hB : B ≤ w.heap.size) (n : Int) :
    Calls Try.prog 43 #[ptr p, .int .i64 n] w fun e w' => ∃ v, e = .returned v ∧ Sl .msg w' (fun k => B ≤ k ∧ k < w'.heap.size) v (l.take n.toNat) ∧ TwoB B w' p c capa (l.drop n.toNat) q d capb t ∧ Keep (fun k => p ≠ none ∧ k = c) w w' := by
  obtain ⟨F, G', h1, h2, h3, h4, h5⟩ := h
  refine (drain_calls h1 (fun k hk => (h3 k hk).2) (BoxO.hasC h1) hcap h1.le n).mono ?_
  rintro e w' ⟨v, he, hm, hb, hk⟩
  have hs := hk.size
  refine ⟨v, he, hm.mono ?_, ⟨F, G', hb, h2.keep hk (fun k hg e => h5 c (BoxO.hasC h1 e.1) (e.2 ▸ hg)), fun k hg => ⟨(h3 k hg).1, by have := (h3 k hg).2; omega⟩, fun k hg => ⟨(h4 k hg).1, by have := (h4 k hg).2; omega⟩, h5⟩,
    hk⟩
  rintro k (hk' | hk')
  · have := h3 k hk'.1; omega
  · have := hk'.1; have := hk'.2; omega
theorem TwoB.either (h : TwoB B w p c capa l q d capb t) :
    Calls Try.prog 42 #[ptr p, ptr q] w fun e w' => ∃ cs, e = .returned (.tuple #[.agg cs.toArray, .int .i64 (if 0 < l.length then 1 else if 0 < t.length then 2 else 0)]) ∧
      Rep.msg.cells w' (fun k => B ≤ k ∧ k < w'.heap.size) (if 0 < l.length then l.headD msgZ else t.headD msgZ) cs ∧ TwoB B w' p c capa l.tail q d capb (if 0 < l.length then t else t.tail) ∧ Keep (fun k => (p ≠ none ∧ k = c) ∨ (q ≠ none ∧ k = d)) w w' := by
  obtain ⟨F, G', h1, h2, h3, h4, h5⟩ := h
  refine (either_calls h1 h2 (fun k hk => (h3 k hk).2) (fun k hk => (h4 k hk).2) h5 (BoxO.hasC h1) (BoxO.hasC h2)).mono ?_
  rintro e w' ⟨cs, he, hm, ha, hb, hk⟩
  have hs := hk.size
  refine ⟨cs, he, Rep.msg.mono hm ?_, ⟨F, G', ha, hb, fun k hg => ⟨(h3 k hg).1, by have := (h3 k hg).2; omega⟩, fun k hg => ⟨(h4 k hg).1, by have := (h4 k hg).2; omega⟩, h5⟩, hk⟩
  · rintro k (hk' | hk')
    · have := h3 k hk'.1; omega
    · have := h4 k hk'.1; omega
theorem TwoB.inA (h : TwoB B w p c capa l q d capb t) (hp : p ≠ none) : B ≤ c ∧ c < w.heap.size := by
  obtain ⟨F, G', h1, h2, h3, h4, h5⟩ := h
  exact h3 c (BoxO.hasC h1 hp)
theorem TwoB.inB (h : TwoB B w p c capa l q d capb t) (hq : q ≠ none) : B ≤ d ∧ d < w.heap.size := h.symm.inA hq
theorem TwoB.len (h : TwoB B w p c capa l q d capb t) : Calls Try.prog 46 #[ptr p] w fun e w' => e = .returned (.int .i64 l.length) ∧ w = w' := by
  obtain ⟨F, G', h1, _⟩ := h
  exact lenO_calls h1
/-- A box is made, beside another one or none. -/
theorem newB_calls (n : Nat) (h1 : 1 ≤ n) (h2 : n ≤ 4096) : Calls Try.prog 36 #[.int .i64 n] w fun e w' => ∃ g c, e = .returned (.tuple #[.pointer (some ⟨g, 0, none⟩), .int .i64 0]) ∧ TwoB w.heap.size w' (some g) c n [] none 0 0 [] ∧ Keep (fun _ => False) w w' := by
  refine (newBox_calls n h1 h2).mono ?_
  rintro e w' ⟨g, c, he, hb, hk⟩
  exact ⟨g, c, he, ⟨NewIn w w', fun _ => False, hb, rfl, fun k hk => hk, fun k hk => hk.elim, fun k _ h => h⟩, hk⟩
theorem TwoB.both {g' c' n : Nat} (h : TwoB B w p c capa l none d capb t) (hb : TwoB w.heap.size w' (some g') c' n [] none 0 0 []) (hk : Keep (fun _ => False) w w') (hB : B ≤ w.heap.size) : TwoB B w' p c capa l (some g') c' n [] := by
  obtain ⟨F, G, h1, h2, h3, h4, h5⟩ := h
  obtain ⟨F', G', q1, q2, q3, q4, q5⟩ := hb
  have := hk.size
  exact ⟨F, F', h1.keep hk (fun _ _ e => e), q1, fun k hf => ⟨(h3 k hf).1, by have := (h3 k hf).2; omega⟩, fun k hf => ⟨by have := (q3 k hf).1; omega, (q3 k hf).2⟩, fun k hf hf' => by have := h3 k hf; have := q3 k hf'; omega⟩
/-- What a nack's cells are. -/
theorem nack_of {F : Nat → Prop} {n : Int} {cs : List Value} (h : Rep.msg.cells w F (nackM n) cs) : ∃ vc vv vi vk, cs = msgCs (nackM n) vc vv vi vk ∧ MsgL cs := by
  obtain ⟨vc, vv, vi, vk, h1, _⟩ := msg_cells h
  exact ⟨vc, vv, vi, vk, h1, MsgL.of h⟩
theorem okN (n : Nat) (h : n ≤ 1000000) : okI n := ⟨by omega, by omega⟩
set_option maxRecDepth 20000 in
set_option maxHeartbeats 800000 in
theorem awake20_calls (w : World) : Calls Try.prog 34 #[] w fun e w' => e = .returned (.bool true) ∧ Keep (fun _ => False) w w' := by
  go_enter Try.func34, Try.ntmps34
  go_wp2_with fail
  refine (newB_calls 1 (by decide) (by decide)).mono ?_
  rintro e w1 ⟨g, c, rfl, hb1, k1⟩
  go_wp2_with fail
  refine (nack_calls 1).mono ?_
  rintro e w2 ⟨rfl, k2⟩
  have hb2 := hb1.keepF k2
  go_wp2_with fail
  refine (hb2.post (nack_cells w2 (fun _ => False) 1 ⟨by decide, by decide⟩) (fun _ e => e.elim) (nack_fits 1)).mono ?_
  rintro e w3 ⟨rfl, hb3, k3⟩
  simp only [List.length_nil, Nat.lt_add_one, decide_true, if_true, List.nil_append] at hb3 ⊢
  go_wp2_with fail
  refine (nack_calls 2).mono ?_
  rintro e w4 ⟨rfl, k4⟩
  have hb4 := hb3.keepF k4
  go_wp2_with fail
  refine (hb4.post (nack_cells w4 (fun _ => False) 2 ⟨by decide, by decide⟩) (fun _ e => e.elim) (nack_fits 2)).mono ?_
  rintro e w5 ⟨rfl, hb5, k5⟩
  simp only [List.length_singleton, Nat.lt_irrefl, decide_false, if_false] at hb5 ⊢
  go_wp2_with fail
  refine (hb5.take).mono ?_
  rintro e w6 ⟨cs, rfl, hm6, hb6, k6⟩
  simp only [List.length_singleton, Nat.lt_add_one, decide_true, List.headD_cons, List.tail_cons] at hm6 hb6 ⊢
  obtain ⟨vc, vv, vi, vk, hcs, hL⟩ := nack_of hm6
  have HL := hid hL
  have hc1 := (hb1.inA (by simp)).1
  have HK6 := hid ((((((k1.trans k2 (fun _ _ q => q)).mono (T := fun k => w.heap.size ≤ k) (fun _ _ q => q.elim)).trans k3 (fun _ _ e => by omega)).trans k4 (fun _ _ q => q.elim)).trans k5 (fun _ _ e => by omega)).trans k6 (fun _ _ e => by omega))
  have hc6 := (hb6.inA (by simp)).2
  have HB6 := hid hb6
  have hin : cs.toArray = (msgCs (nackM 1) vc vv vi vk).toArray := by rw [hcs]
  have HIN := hid hin
  clear hm6 hL hb1 hb2 hb3 hb4 hb5 hb6 k1 k2 k3 k4 k5 k6 hcs hin
  go_wp2_with (first
    | (refine wpl_allocB (z := zM) rfl rfl (by kernel_rfl) ?_; intro g3 w7 hg3 hb7 k7 s7; have HG3 := hid hg3; clear hg3)
    | (refine wpl_storeB (v := .agg cs.toArray) rfl rfl rfl rfl hb7 HL.out.info HL.out.fit HL.out.oneA ?_; intro w8 hb8' k8 s8; have hb8 := hb8'.trans (HL.out.whole rfl)))
  have e3 : w6.heap.size ≤ g3 := Nat.le_of_eq HG3.out.symm
  have k78 : Keep (fun k => w6.heap.size ≤ k) w6 w8 := (k7.mono (fun _ _ q => q.elim)).trans k8 (fun b hb e => by omega)
  have hb9 := HB6.out.keep k78
  have HK8 := hid (HK6.out.trans k78 (fun b hb q => by have := HK6.out.size; omega))
  rw [HIN.out] at hb8
  have HB8 := hid hb8
  clear hb8 hb7 hb8' k7 k8 k78
  refine (hb9.take).mono ?_
  rintro e w9 ⟨ct, rfl, hm9, hb10, k9⟩
  simp only [List.length_nil, Nat.lt_irrefl, decide_false, List.headD_nil] at hm9 ⊢
  have HL9 := hid (MsgL.of hm9)
  have hb11 := k9.heap HB8.out (fun e => by omega)
  go_wp2_with (first
    | (refine wpl_allocB (z := zM) rfl rfl (by kernel_rfl) ?_; intro g5 w10 hg5 hb12 k10 s10; have HG5 := hid hg5; clear hg5; replace hb11 := k10.heap hb11 id)
    | (refine wpl_storeB (v := .agg ct.toArray) rfl rfl rfl rfl hb12 HL9.out.info HL9.out.fit HL9.out.oneA ?_; intro w11 hb12' k11 s11; replace hb11 := k11.heap hb11 (fun e => by have := HG5.out; have := k9.size; omega); have c3 := cell_at hb11 3 (.int .i64 1) rfl))
  go_ret
  have e5 : w9.heap.size ≤ g5 := Nat.le_of_eq HG5.out.symm
  have z9 := k9.size
  have z8' := HK8.out.size
  exact ⟨rfl, ((((HK8.out.trans k9 (fun b hb e => by omega)).trans k10 (fun _ _ q => q.elim)).trans k11 (fun b hb e => by omega))).mono (fun b hb q => by omega)⟩
end
end Go.Proofs.Ytiomeoihekifeaa

/- BoxPlays: two boxes, two queues, side by side. -/
import Derived.Test.YtiomeoihekifeaaRoom20
namespace Go.Proofs.Ytiomeoihekifeaa
open Go.RowKit Go.Conc
/-- What may lie in the boxes: blocks from B on, neither of E nor a queue's. -/
def ZoneQ (B : Nat) (w : World) (vx vy : Value) (E : Nat → Prop) (k : Nat) : Prop := B ≤ k ∧ k < w.heap.size ∧ ¬ E k ∧ vx.ownBlock ≠ some k ∧ vy.ownBlock ≠ some k
def QS (B : Nat) (w : World) (ga ca na : Nat) (X1 : List Msg) (gb cb nb : Nat) (Y1 : List Msg) (vx : Value) (X2 : List Msg) (vy : Value) (Y2 : List Msg) (E : Nat → Prop) : Prop :=
  ∃ F G : Nat → Prop, BoxAt F w ga ca na X1 ∧ BoxAt G w gb cb nb Y1 ∧ (∀ k, F k → ¬ G k) ∧ (∀ k, F k → ZoneQ B w vx vy E k) ∧ (∀ k, G k → ZoneQ B w vx vy E k) ∧ MsgQ B w vx X2 ∧ MsgQ B w vy Y2 ∧
    (∀ b, vx.ownBlock = some b → vy.ownBlock ≠ some b) ∧ (∀ b, vx.ownBlock = some b → ¬ E b) ∧ (∀ b, vy.ownBlock = some b → ¬ E b) ∧ ∀ k, E k → B ≤ k ∧ k < w.heap.size
section
variable {B : Nat} {w w' : World} {ga ca na gb cb nb : Nat} {X1 Y1 X2 Y2 : List Msg} {vx vy : Value} {E S : Nat → Prop}
theorem QS.swap (h : QS B w ga ca na X1 gb cb nb Y1 vx X2 vy Y2 E) : QS B w gb cb nb Y1 ga ca na X1 vy Y2 vx X2 E := by
  obtain ⟨F, G, h1, h2, h3, h4, h5, h6, h7, h8, h9, h10, h11⟩ := h
  exact ⟨G, F, h2, h1, fun k a b => h3 k b a, fun k q => ⟨(h5 k q).1, (h5 k q).2.1, (h5 k q).2.2.1, (h5 k q).2.2.2.2, (h5 k q).2.2.2.1⟩, fun k q => ⟨(h4 k q).1, (h4 k q).2.1, (h4 k q).2.2.1, (h4 k q).2.2.2.2, (h4 k q).2.2.2.1⟩, h7, h6, fun b p q => h8 b q p, h10, h9, h11⟩
theorem QS.keepE (h : QS B w ga ca na X1 gb cb nb Y1 vx X2 vy Y2 E) (hk : Keep S w w') (hS : ∀ k, S k → B ≤ k) (hSE : ∀ k, k < w.heap.size → S k → E k) : QS B w' ga ca na X1 gb cb nb Y1 vx X2 vy Y2 E := by
  obtain ⟨F, G, h1, h2, h3, h4, h5, h6, h7, h8, h9, h10, h11⟩ := h
  have hs := hk.size
  exact ⟨F, G, h1.keep hk (fun k q s => (h4 k q).2.2.1 (hSE k (h4 k q).2.1 s)), h2.keep hk (fun k q s => (h5 k q).2.2.1 (hSE k (h5 k q).2.1 s)), h3, fun k q => ⟨(h4 k q).1, by have := (h4 k q).2.1; omega, (h4 k q).2.2⟩, fun k q => ⟨(h5 k q).1, by have := (h5 k q).2.1; omega, (h5 k q).2.2⟩,
    h6.keep hk (fun b hb s => by have := hS b s; omega) (fun b hb s => h9 b hb (hSE b (h6.lt b hb).2 s)), h7.keep hk (fun b hb s => by have := hS b s; omega) (fun b hb s => h10 b hb (hSE b (h7.lt b hb).2 s)), h8, h9, h10, fun k q => ⟨(h11 k q).1, by have := (h11 k q).2; omega⟩⟩
theorem QS.keepF (h : QS B w ga ca na X1 gb cb nb Y1 vx X2 vy Y2 E) (hk : Keep (fun _ => False) w w') : QS B w' ga ca na X1 gb cb nb Y1 vx X2 vy Y2 E := h.keepE hk (fun _ f => f.elim) (fun _ _ f => f.elim)
theorem QS.withE (h : QS B w ga ca na X1 gb cb nb Y1 vx X2 vy Y2 (fun _ => False)) (hB : B ≤ w.heap.size) (hk : Keep (fun _ => False) w w') (hE : ∀ k, E k → w.heap.size ≤ k ∧ k < w'.heap.size) : QS B w' ga ca na X1 gb cb nb Y1 vx X2 vy Y2 E := by
  have hs := hk.size
  obtain ⟨F, G, h1, h2, h3, h4, h5, h6, h7, h8, h9, h10, h11⟩ := h
  exact ⟨F, G, h1.keep hk (fun _ _ => id), h2.keep hk (fun _ _ => id), h3, fun k q => ⟨(h4 k q).1, by have := (h4 k q).2.1; omega, fun e => by have := (h4 k q).2.1; have := (hE k e).1; omega, (h4 k q).2.2.2⟩, fun k q => ⟨(h5 k q).1, by have := (h5 k q).2.1; omega, fun e => by have := (h5 k q).2.1; have := (hE k e).1; omega, (h5 k q).2.2.2⟩,
    h6.keepF hk, h7.keepF hk, h8, fun b hb e => by have := (h6.lt b hb).2; have := (hE b e).1; omega, fun b hb e => by have := (h7.lt b hb).2; have := (hE b e).1; omega, fun k e => ⟨by have := (hE k e).1; omega, (hE k e).2⟩⟩
theorem QS.noE (h : QS B w ga ca na X1 gb cb nb Y1 vx X2 vy Y2 E) : QS B w ga ca na X1 gb cb nb Y1 vx X2 vy Y2 (fun _ => False) := by
  obtain ⟨F, G, h1, h2, h3, h4, h5, h6, h7, h8, h9, h10, h11⟩ := h
  exact ⟨F, G, h1, h2, h3, fun k q => ⟨(h4 k q).1, (h4 k q).2.1, id, (h4 k q).2.2.2⟩, fun k q => ⟨(h5 k q).1, (h5 k q).2.1, id, (h5 k q).2.2.2⟩, h6, h7, h8, fun _ _ => id, fun _ _ => id, fun _ f => f.elim⟩
theorem QS.shapeX (h : QS B w ga ca na X1 gb cb nb Y1 vx X2 vy Y2 E) : ∃ A c, vx = .slice A X2.length c := by
  obtain ⟨F, G, _, _, _, _, _, h6, _⟩ := h; exact h6.shape
theorem QS.le (h : QS B w ga ca na X1 gb cb nb Y1 vx X2 vy Y2 E) : X1.length ≤ na := by
  obtain ⟨F, G, h1, _⟩ := h; exact h1.le
theorem QS.len (h : QS B w ga ca na X1 gb cb nb Y1 vx X2 vy Y2 E) : Calls Try.prog 46 #[.pointer (some ⟨ga, 0, none⟩)] w fun e w' => e = .returned (.int .i64 X1.length) ∧ w = w' := by
  obtain ⟨F, G, h1, _⟩ := h
  exact len_calls h1
/-- What the calls may write: blocks of their own, none of E's, none of the queues'. -/
def OutQ (B : Nat) (vx vy : Value) (E : Nat → Prop) (k : Nat) : Prop := B ≤ k ∧ ¬ E k ∧ vx.ownBlock ≠ some k ∧ vy.ownBlock ≠ some k
theorem QS.post {m : Msg} {cs : List Value} (h : QS B w ga ca na X1 gb cb nb Y1 vx X2 vy Y2 E) (hB : B ≤ w.heap.size) (hm : Rep.msg.cells w (fun b => b < B) m cs) (hf : m.Fits) :
    Calls Try.prog 38 #[.pointer (some ⟨ga, 0, none⟩), .agg cs.toArray] w fun e w' => e = .returned (.bool (decide (X1.length < na))) ∧ QS B w' ga ca na (if X1.length < na then X1 ++ [m] else X1) gb cb nb Y1 vx X2 vy Y2 E ∧ Keep (OutQ B vx vy E) w w' := by
  obtain ⟨F, G, h1, h2, h3, h4, h5, h6, h7, h8, h9, h10, h11⟩ := h
  have hc : F ca := by obtain ⟨_, _, _, _, _, _, q, _⟩ := h1; exact q
  have zc := h4 ca hc
  refine (post_calls h1 (fun k q => (h4 k q).2.1) hm (fun q hq => by omega) hf).mono ?_
  rintro e w' ⟨he, hb, hk⟩
  have hs := hk.size
  refine ⟨he, ⟨Grow F w w', G, hb, h2.keep hk (fun k q e => h3 ca hc (e ▸ q)), ?_, ?_, fun k q => ⟨(h5 k q).1, by have := (h5 k q).2.1; omega, (h5 k q).2.2⟩, h6.keep hk (fun b q e => by have := zc.1; omega) (fun b q e => zc.2.2.2.1 (e ▸ q)), h7.keep hk (fun b q e => by have := zc.1; omega) (fun b q e => zc.2.2.2.2 (e ▸ q)), h8, h9, h10, fun k q => ⟨(h11 k q).1, by have := (h11 k q).2; omega⟩⟩,
    hk.mono (fun k _ e => by subst e; exact ⟨zc.1, zc.2.2⟩)⟩
  · rintro k (q | ⟨a, b⟩) g
    · exact h3 k q g
    · have := (h5 k g).2.1; omega
  · rintro k (q | ⟨a, b⟩)
    · exact ⟨(h4 k q).1, by have := (h4 k q).2.1; omega, (h4 k q).2.2⟩
    · exact ⟨by omega, b, fun e => by have := (h11 k e).2; omega, fun e => by have := (h6.lt k e).2; omega, fun e => by have := (h7.lt k e).2; omega⟩
theorem QS.take (h : QS B w ga ca na X1 gb cb nb Y1 vx X2 vy Y2 E) :
    Calls Try.prog 39 #[.pointer (some ⟨ga, 0, none⟩)] w fun e w' => ∃ cs, e = .returned (.tuple #[.agg cs.toArray, .bool (decide (0 < X1.length))]) ∧ Rep.msg.cells w' (OutQ B vx vy E) (X1.headD msgZ) cs ∧ QS B w' ga ca na X1.tail gb cb nb Y1 vx X2 vy Y2 E ∧ Keep (OutQ B vx vy E) w w' := by
  obtain ⟨F, G, h1, h2, h3, h4, h5, h6, h7, h8, h9, h10, h11⟩ := h
  have hc : F ca := by obtain ⟨_, _, _, _, _, _, q, _⟩ := h1; exact q
  have zc := h4 ca hc
  refine (take_calls h1 (fun k q => (h4 k q).2.1)).mono ?_
  rintro e w' ⟨cs, he, hm, hb, hk⟩
  have hs := hk.size
  exact ⟨cs, he, Rep.msg.mono hm (fun k q => ⟨(h4 k q.1).1, (h4 k q.1).2.2⟩), ⟨F, G, hb, h2.keep hk (fun k q e => h3 ca hc (e ▸ q)), h3, fun k q => ⟨(h4 k q).1, by have := (h4 k q).2.1; omega, (h4 k q).2.2⟩, fun k q => ⟨(h5 k q).1, by have := (h5 k q).2.1; omega, (h5 k q).2.2⟩, h6.keep hk (fun b q e => by have := zc.1; omega) (fun b q e => zc.2.2.2.1 (e ▸ q)), h7.keep hk (fun b q e => by have := zc.1; omega) (fun b q e => zc.2.2.2.2 (e ▸ q)), h8, h9, h10, fun k q => ⟨(h11 k q).1, by have := (h11 k q).2; omega⟩⟩,
    hk.mono (fun k _ e => by subst e; exact ⟨zc.1, zc.2.2⟩)⟩
theorem QS.drain (h : QS B w ga ca na X1 gb cb nb Y1 vx X2 vy Y2 E) (hB : B ≤ w.heap.size) (hn : na ≤ 4096) (n : Int) :
    Calls Try.prog 43 #[.pointer (some ⟨ga, 0, none⟩), .int .i64 n] w fun e w' => ∃ v, e = .returned v ∧ Sl .msg w' (OutQ B vx vy E) v (X1.take n.toNat) ∧ QS B w' ga ca na (X1.drop n.toNat) gb cb nb Y1 vx X2 vy Y2 E ∧ Keep (OutQ B vx vy E) w w' := by
  obtain ⟨F, G, h1, h2, h3, h4, h5, h6, h7, h8, h9, h10, h11⟩ := h
  have hc : F ca := by obtain ⟨_, _, _, _, _, _, q, _⟩ := h1; exact q
  have zc := h4 ca hc
  refine (drain_calls (p := some ga) h1 (fun k q => (h4 k q).2.1) (fun _ => hc) hn h1.le n).mono ?_
  rintro e w' ⟨v, he, hm, hb, hk⟩
  have hs := hk.size
  refine ⟨v, he, hm.mono ?_, ⟨F, G, hb, h2.keep hk (fun k q e => h3 ca hc (e.2 ▸ q)), h3, fun k q => ⟨(h4 k q).1, by have := (h4 k q).2.1; omega, (h4 k q).2.2⟩, fun k q => ⟨(h5 k q).1, by have := (h5 k q).2.1; omega, (h5 k q).2.2⟩, h6.keep hk (fun b q e => by have := zc.1; have := e.2; omega) (fun b q e => zc.2.2.2.1 (e.2 ▸ q)), h7.keep hk (fun b q e => by have := zc.1; have := e.2; omega) (fun b q e => zc.2.2.2.2 (e.2 ▸ q)), h8, h9, h10, fun k q => ⟨(h11 k q).1, by have := (h11 k q).2; omega⟩⟩,
    hk.mono (fun k _ e => by have e := e.2; subst e; exact ⟨zc.1, zc.2.2⟩)⟩
  rintro k (q | q)
  · exact ⟨(h4 k q.1).1, (h4 k q.1).2.2⟩
  · have q1 := q.1
    exact ⟨by omega, fun e => by have := (h11 k e).2; omega, fun e => by have := (h6.lt k e).2; omega, fun e => by have := (h7.lt k e).2; omega⟩
theorem QS.either (h : QS B w ga ca na X1 gb cb nb Y1 vx X2 vy Y2 E) :
    Calls Try.prog 42 #[.pointer (some ⟨ga, 0, none⟩), .pointer (some ⟨gb, 0, none⟩)] w fun e w' => ∃ cs, e = .returned (.tuple #[.agg cs.toArray, .int .i64 (if 0 < X1.length then 1 else if 0 < Y1.length then 2 else 0)]) ∧
      Rep.msg.cells w' (OutQ B vx vy E) (if 0 < X1.length then X1.headD msgZ else Y1.headD msgZ) cs ∧ QS B w' ga ca na X1.tail gb cb nb (if 0 < X1.length then Y1 else Y1.tail) vx X2 vy Y2 E ∧ Keep (OutQ B vx vy E) w w' := by
  obtain ⟨F, G, h1, h2, h3, h4, h5, h6, h7, h8, h9, h10, h11⟩ := h
  have hc : F ca := by obtain ⟨_, _, _, _, _, _, q, _⟩ := h1; exact q
  have hd : G cb := by obtain ⟨_, _, _, _, _, _, q, _⟩ := h2; exact q
  have zc := h4 ca hc
  have zd := h5 cb hd
  refine (either_calls (p := some ga) (q := some gb) h1 h2 (fun k q => (h4 k q).2.1) (fun k q => (h5 k q).2.1) h3 (fun _ => hc) (fun _ => hd)).mono ?_
  rintro e w' ⟨cs, he, hm, ha, hb, hk⟩
  have hs := hk.size
  have hz : ∀ k, ((some ga ≠ none ∧ k = ca) ∨ (some gb ≠ none ∧ k = cb)) → OutQ B vx vy E k := by
    rintro k (q | q)
    · have q := q.2; subst q; exact ⟨zc.1, zc.2.2⟩
    · have q := q.2; subst q; exact ⟨zd.1, zd.2.2⟩
  refine ⟨cs, he, Rep.msg.mono hm ?_, ⟨F, G, ha, hb, h3, fun k q => ⟨(h4 k q).1, by have := (h4 k q).2.1; omega, (h4 k q).2.2⟩, fun k q => ⟨(h5 k q).1, by have := (h5 k q).2.1; omega, (h5 k q).2.2⟩, h6.keep hk (fun b q e => by have := (hz b e).1; omega) (fun b q e => (hz b e).2.2.1 q), h7.keep hk (fun b q e => by have := (hz b e).1; omega) (fun b q e => (hz b e).2.2.2 q), h8, h9, h10, fun k q => ⟨(h11 k q).1, by have := (h11 k q).2; omega⟩⟩,
    hk.mono (fun k _ e => hz k e)⟩
  rintro k (q | q)
  · exact ⟨(h4 k q.1).1, (h4 k q.1).2.2⟩
  · exact ⟨(h5 k q.1).1, (h5 k q.1).2.2⟩
/-- The head of the first queue. -/
theorem QS.first (h : QS B w ga ca na X1 gb cb nb Y1 vx X2 vy Y2 E) :
    Calls Try.prog 45 #[vx] w fun e w' => ∃ cs v', e = .returned (.tuple #[.agg cs.toArray, .bool (decide (0 < X2.length)), v']) ∧ Rep.msg.cells w' (fun b => b < B) (X2.headD msgZ) cs ∧ QS B w' ga ca na X1 gb cb nb Y1 v' X2.tail vy Y2 E ∧ Keep (fun _ => False) w w' := by
  have h0 := h
  obtain ⟨F, G, h1, h2, h3, h4, h5, h6, h7, h8, h9, h10, h11⟩ := h
  refine (first_calls h6).mono ?_
  rintro e w' ⟨cs, v', he, hm, hq, hk, hv⟩
  have hs := hk.size
  refine ⟨cs, v', he, hm, ⟨F, G, h1.keep hk (fun _ _ => id), h2.keep hk (fun _ _ => id), h3, ?_, ?_, hq, h7.keepF hk, fun b p => h8 b (hv b p), fun b p => h9 b (hv b p), h10, fun k q => ⟨(h11 k q).1, by have := (h11 k q).2; omega⟩⟩, hk⟩
  · exact fun k q => ⟨(h4 k q).1, by have := (h4 k q).2.1; omega, (h4 k q).2.2.1, fun e => (h4 k q).2.2.2.1 (hv k e), (h4 k q).2.2.2.2⟩
  · exact fun k q => ⟨(h5 k q).1, by have := (h5 k q).2.1; omega, (h5 k q).2.2.1, fun e => (h5 k q).2.2.2.1 (hv k e), (h5 k q).2.2.2.2⟩
/-- One message more in the first queue. -/
theorem QS.more {A A2 : Option Addr} {c c2 : Nat} {m : Msg} {cs ms : List Value} {wa : World} (h : QS B w ga ca na X1 gb cb nb Y1 (.slice A X2.length c) X2 vy Y2 E)
    (hcs : QRow w 60 27 (.slice A X2.length c) X2.length cs) (hp : Parts .msg w (fun b => b < B) cs X2) (hm : Rep.msg.cells w (fun b => b < B) m ms) (hB : B ≤ w.heap.size) (hka : Keep (fun _ => False) w wa)
    (ho : QRow w' 60 27 (.slice A2 (X2.length + 1) c2) (X2.length + 1) (cs ++ ms)) (hk : Keep (fun k => some k = (Value.slice A X2.length c).ownBlock) wa w') (hn : SameOrNew wa (.slice A X2.length c) (.slice A2 (X2.length + 1) c2)) :
    QS B w' ga ca na X1 gb cb nb Y1 (.slice A2 (X2.length + 1) c2) (X2 ++ [m]) vy Y2 E ∧ Keep (fun k => B ≤ k ∧ ¬ E k) w w' := by
  obtain ⟨F, G, h1, h2, h3, h4, h5, h6, h7, h8, h9, h10, h11⟩ := h
  have sa := hka.size
  have hs := hk.size
  have hkw : Keep (fun k => some k = (Value.slice A X2.length c).ownBlock) w w' := (hka.mono (fun _ _ f => f.elim)).trans hk (fun _ _ h => h)
  have hnew : ∀ k, (Value.slice A2 (X2.length + 1) c2).ownBlock = some k → (Value.slice A X2.length c).ownBlock = some k ∨ wa.heap.size ≤ k := hn
  have hz : ∀ k, ZoneQ B w (.slice A X2.length c) vy E k → ZoneQ B w' (.slice A2 (X2.length + 1) c2) vy E k := fun k q => ⟨q.1, by have := q.2.1; omega, q.2.2.1, fun e => by
    rcases hnew k e with p | p
    · exact q.2.2.2.1 p
    · have := q.2.1; omega, q.2.2.2.2⟩
  refine ⟨⟨F, G, h1.keep hkw (fun k q e => (h4 k q).2.2.2.1 e.symm), h2.keep hkw (fun k q e => (h5 k q).2.2.2.1 e.symm), h3, fun k q => hz k (h4 k q), fun k q => hz k (h5 k q), ⟨cs ++ ms, by simpa using ho, ?_, fun b hb => ?_⟩, h7.keep hkw (fun b q e => by have := (h6.lt b e.symm).1; omega) (fun b q e => h8 b e.symm q), fun b hb e => ?_, fun b hb e => ?_, h10, fun k q => ⟨(h11 k q).1, by have := (h11 k q).2; omega⟩⟩, hkw.mono (fun k _ e => ⟨(h6.lt k e.symm).1, h9 k e.symm⟩)⟩
  · have hlt : ∀ b, b < B → ¬ (some b = (Value.slice A X2.length c).ownBlock) := fun b hb e => by have := (h6.lt b e.symm).1; omega
    exact Parts.app (hp.keep hkw hlt) (by rw [hcs.1]; rfl) (Parts.one (Rep.msg.keep hm hkw hlt))
  · rcases hnew b hb with p | p
    · exact (h6.lt b p).1
    · omega
  · rcases hnew b hb with p | p
    · exact h8 b p e
    · have := (h7.lt b e).2; omega
  · rcases hnew b hb with p | p
    · exact h9 b p e
    · have := (h11 b e).2; omega
end
end Go.Proofs.Ytiomeoihekifeaa

/- TallyOrders: two tallies side by side; what is kept of the deeds. -/
import Derived.Test.YthlgnilgjeebaaaTalOP
import Derived.Test.YthlgnilgjeebaaaTalY
import Derived.Test.YthlgnilgjeebaaaStepC
namespace Go.Proofs.Ythlgnilgjeebaaa
open Go.RowKit
/-- Both tallies, in blocks of their own, apart from each other's and from X. -/
def Pair2 (B : Nat) (X : Nat → Prop) (w : World) (g g2 : Nat) (s r : TS) : Prop :=
  ∃ F D, TalAt F w g s ∧ TalAt D w g2 r ∧ (∀ k, F k ∨ D k → B ≤ k ∧ k < w.heap.size ∧ ¬ X k) ∧ ∀ k, F k → ¬ D k
section
variable {B : Nat} {X G : Nat → Prop} {w w' : World} {g g2 : Nat} {s r : TS}
theorem Pair2.swap (h : Pair2 B X w g g2 s r) : Pair2 B X w g2 g r s := by
  obtain ⟨F, D, h1, h2, h3, h4⟩ := h
  exact ⟨D, F, h2, h1, fun k q => h3 k q.symm, fun k q f => h4 k f q⟩
theorem Pair2.keep {S : Nat → Prop} (h : Pair2 B X w g g2 s r) (hk : Keep S w w') (hS : ∀ k, B ≤ k → k < w.heap.size → ¬ X k → ¬ S k) : Pair2 B X w' g g2 s r := by
  obtain ⟨F, D, h1, h2, h3, h4⟩ := h
  have hs := hk.size
  exact ⟨F, D, h1.keep hk (fun k q => hS k (h3 k (.inl q)).1 (h3 k (.inl q)).2.1 (h3 k (.inl q)).2.2), h2.keep hk (fun k q => hS k (h3 k (.inr q)).1 (h3 k (.inr q)).2.1 (h3 k (.inr q)).2.2), fun k q => ⟨(h3 k q).1, by have := (h3 k q).2.1; omega, (h3 k q).2.2⟩, h4⟩
theorem Pair2.x {Y : Nat → Prop} {w0 : World} (h : Pair2 B (fun _ => False) w0 g g2 s r) (hk : Keep (fun k => w0.heap.size ≤ k) w0 w) (hY : ∀ k, Y k → w0.heap.size ≤ k) : Pair2 B Y w g g2 s r := by
  obtain ⟨F, D, h1, h2, h3, h4⟩ := h
  have hs := hk.size
  exact ⟨F, D, h1.keep hk (fun k q e => by have := (h3 k (.inl q)).2.1; omega), h2.keep hk (fun k q e => by have := (h3 k (.inr q)).2.1; omega), fun k q => ⟨(h3 k q).1, by have := (h3 k q).2.1; omega, fun y => by have := hY k y; have := (h3 k q).2.1; omega⟩, h4⟩
theorem Pair2.talN (h : Pair2 B X w g g2 s r) : TalN B w g s := by
  obtain ⟨F, D, h1, h2, h3, h4⟩ := h
  exact ⟨F, h1, fun k q => ⟨(h3 k (.inl q)).1, (h3 k (.inl q)).2.1⟩⟩
theorem Pair2.prom (h : Pair2 B X w g g2 s r) (hX : ∀ k, X k → k < w.heap.size) (hB : B ≤ w.heap.size) (id base : Int) {v : Value} {l : List Vote} (hv : Sl .vote w G v l) (hG : ∀ k, G k → (k < B ∨ X k) ∧ k < w.heap.size) (hm : ∀ x ∈ l, x.value.changes.length ≤ 4294967296) :
    Calls Try.prog 13 #[.pointer (some ⟨g, 0, none⟩), .int .i64 id, .int .i64 base, v] w fun e w' => e = .returned (.bool (promB s id)) ∧ Pair2 B X w' g g2 (promS s id base l) r ∧ Keep (fun k => B ≤ k ∧ ¬ X k) w w' := by
  obtain ⟨F, D, h1, h2, h3, h4⟩ := h
  refine (promise_calls h1 (fun k q => (h3 k (.inl q)).2.1) id base hv (fun k q f => ?_) (fun k q => (hG k q).2) hm).mono ?_
  · have a := h3 k (.inl f)
    rcases (hG k q).1 with b | b
    · omega
    · exact a.2.2 b
  rintro e w' ⟨he, ht, hk⟩
  have hs := hk.size
  refine ⟨he, ⟨_, D, ht, h2.keep hk (fun k q f => h4 k f q), fun k q => ?_, fun k q d => ?_⟩, hk.mono (fun k _ q => ⟨(h3 k (.inl q)).1, (h3 k (.inl q)).2.2⟩)⟩
  · rcases q with (q | ⟨q1, q2⟩) | q
    · have := h3 k (.inl q); exact ⟨this.1, by omega, this.2.2⟩
    · exact ⟨by omega, q2, fun x => by have := hX k x; omega⟩
    · have := h3 k (.inr q); exact ⟨this.1, by omega, this.2.2⟩
  · rcases q with q | ⟨q1, q2⟩
    · exact h4 k q d
    · have := (h3 k (.inr d)).2.1; omega
end
theorem tdeed_mk {F : Nat → Prop} {w : World} {d : TDeed} {v : Value} (hv : Sl .vote w F v d.v) (h0 : okI d.do_) (h1 : okI d.id) (h2 : okI d.base) (h3 : okI d.slot) : Rep.tdeed.cells w F d (deedCs d v) :=
  ⟨_, _, rfl, ⟨rfl, h0⟩, _, _, rfl, ⟨rfl, h1⟩, _, _, rfl, ⟨rfl, h2⟩, _, _, rfl, ⟨rfl, h3⟩, ⟨v, rfl, hv⟩⟩
/-- The numbers that are used, the deeds that are kept: both in blocks from B on. -/
structure OKe (B : Nat) (w : World) (u v : Value) (n m : Nat) (U : List Int) (K : List TDeed) (cs : List Value) : Prop where
  ou : w.ownsRow 0 3 1 u n (U.map I64)
  lu : U.length = n
  ok : w.ownsRow 0 30 5 v m cs
  lk : K.length = m
  pt : Parts .tdeed w (fun b => B ≤ b ∧ b < w.heap.size ∧ some b ≠ v.ownBlock ∧ some b ≠ u.ownBlock) cs K
  bu : ∀ b, u.ownBlock = some b → B ≤ b ∧ v.ownBlock ≠ some b
  bv : ∀ b, v.ownBlock = some b → B ≤ b
section
variable {B : Nat} {w w' w1 wa w2 : World} {u v : Value} {n m : Nat} {U : List Int} {K : List TDeed} {cs : List Value}
theorem OKe.nil : OKe B w (.slice none 0 0) (.slice none 0 0) 0 0 [] [] [] :=
  ⟨World.ownsRow_nil _ _ _ _, rfl, World.ownsRow_nil _ _ _ _, rfl, Parts.nil, fun b hb => by simp [Value.ownBlock] at hb, fun b hb => by simp [Value.ownBlock] at hb⟩
theorem OKe.keep {S : Nat → Prop} (h : OKe B w u v n m U K cs) (hk : Keep S w w') (hS : ∀ b, B ≤ b → b < w.heap.size → ¬ S b) : OKe B w' u v n m U K cs := by
  have hs := hk.size
  exact { h with
    ou := hk.owns h.ou (fun b hb => hS b (h.bu b hb).1 (own_lt' h.ou b hb))
    ok := hk.owns h.ok (fun b hb => hS b (h.bv b hb) (own_lt' h.ok b hb))
    pt := (h.pt.keep hk (fun b hb => hS b hb.1 hb.2.1)).mono (fun b hb => ⟨hb.1, by have := hb.2.1; omega, hb.2.2⟩) }
theorem OKe.id {A : Option Addr} {c n2 : Nat} {x : Int} (h : OKe B w u v n m U K cs) (hB : B ≤ w.heap.size) (hka : Keep (fun _ => False) w wa)
    (ho : w2.ownsRow 0 3 1 (.slice A n2 c) (n + 1) (U.map I64 ++ [.int .i64 x])) (hk2 : Keep (fun q => some q = u.ownBlock) wa w2) (hn : SameOrNew wa u (.slice A n2 c)) :
    OKe B w2 (.slice A n2 c) v (n + 1) m (U ++ [x]) K cs ∧ Keep (fun q => B ≤ q) w w2 := by
  have sa := hka.size
  have s2 := hk2.size
  have kw : Keep (fun q => some q = u.ownBlock) w w2 := (hka.mono (fun _ _ f => f.elim)).trans hk2 (fun _ _ q => q)
  have hvl : ∀ b, v.ownBlock = some b → b < w.heap.size := fun b hb => own_lt' h.ok b hb
  refine ⟨⟨by simpa using ho, by simp [h.lu], kw.owns h.ok (fun b hb q => (h.bu b q.symm).2 hb), h.lk, (h.pt.keep kw (fun b hb q => hb.2.2.2 q)).mono (fun b hb => ⟨hb.1, by have := hb.2.1; omega, hb.2.2.1, fun e => ?_⟩), fun b hb => ?_, h.bv⟩, kw.mono (fun b _ q => (h.bu b q.symm).1)⟩
  · rcases hn b e.symm with q | q
    · exact hb.2.2.2 q.symm
    · have := hb.2.1; omega
  · rcases hn b hb with q | q
    · exact h.bu b q
    · exact ⟨by omega, fun e => by have := hvl b e; omega⟩
theorem OKe.deed {A : Option Addr} {c m2 : Nat} {d : List Value} {x : TDeed} (h : OKe B w u v n m U K cs) (hB : B ≤ w.heap.size) (hk1 : Keep (fun q => w.heap.size ≤ q) w w1)
    (hd : Rep.tdeed.cells w1 (fun b => w.heap.size ≤ b ∧ b < w1.heap.size) x d) (hka : Keep (fun _ => False) w1 wa)
    (ho : w2.ownsRow 0 30 5 (.slice A m2 c) (m + 1) (cs ++ d)) (hk2 : Keep (fun q => some q = v.ownBlock) wa w2) (hn : SameOrNew wa v (.slice A m2 c)) :
    OKe B w2 u (.slice A m2 c) n (m + 1) U (K ++ [x]) (cs ++ d) ∧ Keep (fun q => B ≤ q) w w2 := by
  have s1 := hk1.size
  have sa := hka.size
  have s2 := hk2.size
  have hvl : ∀ b, v.ownBlock = some b → b < w.heap.size := fun b hb => own_lt' h.ok b hb
  have hul : ∀ b, u.ownBlock = some b → b < w.heap.size := fun b hb => own_lt' h.ou b hb
  have k12 : Keep (fun q => some q = v.ownBlock) w1 w2 := (hka.mono (fun _ _ f => f.elim)).trans hk2 (fun _ _ q => q)
  have k02 : Keep (fun q => some q = v.ownBlock ∨ w.heap.size ≤ q) w w2 := (hk1.mono (fun _ _ q => .inr q)).trans k12 (fun _ _ q => .inl q)
  have hne : ∀ b, b < wa.heap.size → some b ≠ v.ownBlock → some b ≠ (Value.slice A m2 c).ownBlock := fun b hb hne e => by
    rcases hn b e.symm with q | q
    · exact hne q.symm
    · omega
  refine ⟨⟨k02.owns h.ou (fun b hb q => q.elim (fun q => (h.bu b hb).2 q.symm) (fun q => by have := hul b hb; omega)), h.lu, ho, by simp [h.lk], ?_, fun b hb => ⟨(h.bu b hb).1, fun e => ?_⟩, fun b hb => ?_⟩, k02.mono (fun b _ q => q.elim (fun q => h.bv b q.symm) (fun q => by omega))⟩
  · refine Parts.app ((h.pt.keep k02 (fun b hb q => q.elim (fun q => hb.2.2.1 q) (fun q => by have := hb.2.1; omega))).mono (fun b hb => ⟨hb.1, by have := hb.2.1; omega, hne b (by have := hb.2.1; omega) hb.2.2.1, hb.2.2.2⟩)) (by rw [h.ok.1, h.lk]; rfl) (Parts.one ?_)
    exact Rep.tdeed.mono (Rep.tdeed.keep hd k12 (fun b hb q => by have := hvl b q.symm; have := hb.1; omega)) (fun b hb => ⟨by have := hb.1; omega, by have := hb.2; omega, hne b (by have := hb.2; omega) (fun q => by have := hvl b q.symm; have := hb.1; omega), fun q => by have := hul b q.symm; have := hb.1; omega⟩)
  · rcases hn b e with q | q
    · exact (h.bu b hb).2 q
    · have := hul b hb; omega
  · rcases hn b hb with q | q
    · exact h.bv b q
    · omega
theorem OKe.sl (h : OKe B w u v n m U K cs) : Sl .tdeed w (fun b => B ≤ b ∧ b < w.heap.size) v K := by
  have h3 := h.lk
  subst h3
  exact (h.pt.mono (G := fun b => B ≤ b ∧ b < w.heap.size) (fun b hb => ⟨hb.1, hb.2.1⟩)).sl (Row.ofOwn h.ok) (fun b hb => ⟨h.bv b hb.symm, own_lt' h.ok b hb.symm⟩)
theorem OKe.row (h : OKe B w u v n m U K cs) : Row (fun b => some b = u.ownBlock) w u U.length 1 (U.map I64) := by
  have h3 := h.lu
  subst h3
  exact Row.ofOwn h.ou
end
end Go.Proofs.Ythlgnilgjeebaaa

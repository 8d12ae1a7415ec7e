/- TallyPlays: the program's tally and the document's, side by side. -/
import Derived.Test.YthlgnilgjeebaaaTalQ
import Derived.Test.YthlgnilgjeebaaaSameI
import Derived.Test.YthlgnilgjeebaaaSame9
namespace Go.Proofs.Ythlgnilgjeebaaa
open Go.RowKit
/-- Both tallies, in blocks of their own, apart from each other's and from X. -/
def Two (B : Nat) (X : Nat → Prop) (w : World) (g g2 : Nat) (s : TS) (r : RS) : Prop :=
  ∃ F D, TalAt F w g s ∧ RN D w g2 r ∧ (∀ k, F k ∨ D k → B ≤ k ∧ k < w.heap.size ∧ ¬ X k) ∧ ∀ k, F k → ¬ D k
section
variable {B : Nat} {X G : Nat → Prop} {w w' : World} {g g2 : Nat} {s : TS} {r : RS} {vm : Value} {M : List Int}
theorem Two.keep (h : Two B X w g g2 s r) (hk : Keep (fun _ => False) w w') : Two B X w' g g2 s r := by
  obtain ⟨F, D, h1, h2, h3, h4⟩ := h
  exact ⟨F, D, h1.keep hk (fun _ _ => id), h2.keep hk, fun k q => ⟨(h3 k q).1, Nat.lt_of_lt_of_le (h3 k q).2.1 hk.size, (h3 k q).2.2⟩, h4⟩
theorem Two.x {Y : Nat → Prop} (h : Two B X w g g2 s r) (hY : ∀ k, Y k → X k ∨ w.heap.size ≤ k) : Two B Y w g g2 s r := by
  obtain ⟨F, D, h1, h2, h3, h4⟩ := h
  exact ⟨F, D, h1, h2, fun k q => ⟨(h3 k q).1, (h3 k q).2.1, fun y => (hY k y).elim (h3 k q).2.2 (fun z => by have := (h3 k q).2.1; omega)⟩, h4⟩
theorem Two.tal (h : Two B X w g g2 s r) : ∃ F, TalAt F w g s ∧ ∀ k, F k → B ≤ k ∧ k < w.heap.size := by
  obtain ⟨F, D, h1, h2, h3, h4⟩ := h
  exact ⟨F, h1, fun k q => ⟨(h3 k (.inl q)).1, (h3 k (.inl q)).2.1⟩⟩
theorem Two.talN (h : Two B X w g g2 s r) : TalN B w g s := h.tal
theorem Two.ref (h : Two B X w g g2 s r) : ∃ F AP AC cP cC, RV F w g2 r AP AC cP cC ∧ ∀ k, F k → k < w.heap.size := by
  obtain ⟨F, D, h1, ⟨AP, AC, cP, cC, csP, csC, h2⟩, h3, h4⟩ := h
  exact ⟨_, AP, AC, cP, cC, h2.rv, fun k q => q.2⟩
theorem Two.ofTal (h : Two B X w g g2 s r) {s' : TS} (hX : ∀ k, X k → k < w.heap.size) (hB : B ≤ w.heap.size) {Q : Ending → Prop} {f : FuncId} {args : Array Value}
    (hc : ∀ F, TalAt F w g s → (∀ k, F k → k < w.heap.size) → (∀ k, F k → B ≤ k) → Calls Try.prog f args w fun e w' => Q e ∧ TalAt (Grow F w w') w' g s' ∧ Keep F w w') :
    Calls Try.prog f args w fun e w' => Q e ∧ Two B X w' g g2 s' r ∧ Keep (fun k => B ≤ k ∧ ¬ X k) w w' := by
  obtain ⟨F, D, h1, h2, h3, h4⟩ := h
  refine (hc F h1 (fun k q => (h3 k (.inl q)).2.1) (fun k q => (h3 k (.inl q)).1)).mono ?_
  rintro e w' ⟨he, ht, hk⟩
  have hs := hk.size
  refine ⟨he, ⟨_, D, ht, h2.keepS hk (fun k q f => h4 k f q), fun k q => ?_, fun k q d => ?_⟩, hk.mono (fun k _ q => ⟨(h3 k (.inl q)).1, (h3 k (.inl q)).2.2⟩)⟩
  · rcases q with (q | ⟨q1, q2⟩) | q
    · have := h3 k (.inl q); exact ⟨this.1, by omega, this.2.2⟩
    · exact ⟨by omega, q2, fun x => by have := hX k x; omega⟩
    · have := h3 k (.inr q); exact ⟨this.1, by omega, this.2.2⟩
  · rcases q with q | ⟨q1, q2⟩
    · exact h4 k q d
    · have := (h3 k (.inr d)).2.1; omega
theorem Two.ofRef (h : Two B X w g g2 s r) {r' : RS} (hX : ∀ k, X k → k < w.heap.size) (hB : B ≤ w.heap.size) {Q : Ending → Prop} {f : FuncId} {args : Array Value}
    (hc : ∀ D, RN D w g2 r → Calls Try.prog f args w fun e w' => Q e ∧ RN (Grow D w w') w' g2 r' ∧ Keep D w w') :
    Calls Try.prog f args w fun e w' => Q e ∧ Two B X w' g g2 s r' ∧ Keep (fun k => B ≤ k ∧ ¬ X k) w w' := by
  obtain ⟨F, D, h1, h2, h3, h4⟩ := h
  refine (hc D h2).mono ?_
  rintro e w' ⟨he, ht, hk⟩
  have hs := hk.size
  refine ⟨he, ⟨F, _, h1.keep hk (fun k q d => h4 k q d), ht, fun k q => ?_, fun k q d => ?_⟩, hk.mono (fun k _ q => ⟨(h3 k (.inr q)).1, (h3 k (.inr q)).2.2⟩)⟩
  · rcases q with q | (q | ⟨q1, q2⟩)
    · have := h3 k (.inl q); exact ⟨this.1, by omega, this.2.2⟩
    · have := h3 k (.inr q); exact ⟨this.1, by omega, this.2.2⟩
    · exact ⟨by omega, q2, fun x => by have := hX k x; omega⟩
  · rcases d with d | ⟨q1, q2⟩
    · exact h4 k q d
    · have := (h3 k (.inl q)).2.1; omega
theorem promT_calls (h : Two B X w g g2 s r) (hX : ∀ k, X k → k < w.heap.size) (hB : B ≤ w.heap.size) (id base : Int) {v : Value} {l : List Vote} (hv : Sl .vote w G v l) (hG : ∀ k, G k → k < B) (hm : ∀ x ∈ l, x.value.changes.length ≤ 4294967296) :
    Calls Try.prog 13 #[.pointer (some ⟨g, 0, none⟩), .int .i64 id, .int .i64 base, v] w fun e w' => e = .returned (.bool (promB s id)) ∧ Two B X w' g g2 (promS s id base l) r ∧ Keep (fun k => B ≤ k ∧ ¬ X k) w w' :=
  h.ofTal (Q := fun e => e = .returned (.bool (promB s id))) hX hB (fun _ h1 h2 h3 => promise_calls h1 h2 id base hv (fun k q f => by have := hG k q; have := h3 k f; omega) (fun k q => by have := hG k q; omega) hm)
theorem voteT_calls {n : Nat} (h : Two B X w g g2 s r) (hX : ∀ k, X k → k < w.heap.size) (hB : B ≤ w.heap.size) (slot id : Int) (hs : okI slot) (hi : TInv n s) (hn : n ≤ 1000000) :
    Calls Try.prog 25 #[.pointer (some ⟨g, 0, none⟩), .int .i64 slot, .int .i64 id] w fun e w' => e = .returned (.bool (voteB s slot id)) ∧ Two B X w' g g2 (voteS s slot id) r ∧ Keep (fun k => B ≤ k ∧ ¬ X k) w w' :=
  h.ofTal (Q := fun e => e = .returned (.bool (voteB s slot id))) hX hB (fun _ h1 _ _ => (tvote_calls h1 slot id hs (by have := hi.vt; omega) (fun k => by have := hi.one k; exact ⟨by omega, by omega⟩)).mono fun _ _ ⟨a, b, c⟩ => ⟨a, b.mono (fun _ => .inl), c⟩)
theorem rpromT_calls (h : Two B X w g g2 s r) (hX : ∀ k, X k → k < w.heap.size) (hB : B ≤ w.heap.size) (hl : r.P.length ≤ 100000) (id base : Int) (h0 : okI id) (h1 : okI base) {v : Value} {l : List Vote} (hv : Sl .vote w G v l) (hG : ∀ k, G k → k < B) (hll : l.length ≤ 1000000) (hm : ∀ x ∈ l, x.value.changes.length ≤ 4294967296) :
    Calls Try.prog 24 #[.pointer (some ⟨g2, 0, none⟩), .int .i64 id, .int .i64 base, v] w fun e w' => e = .returned (.bool (rpromB r id)) ∧ Two B X w' g g2 s (rpromS r id base l) ∧ Keep (fun k => B ≤ k ∧ ¬ X k) w w' :=
  h.ofRef (Q := fun e => e = .returned (.bool (rpromB r id))) hX hB (fun _ h2 => rprom_calls h2 hl id base h0 h1 hv (fun k q => by have := hG k q; omega) hll hm)
theorem rvoteT_calls (h : Two B X w g g2 s r) (hX : ∀ k, X k → k < w.heap.size) (hB : B ≤ w.heap.size) (hl : r.C.length ≤ 100000) (slot id : Int) (h0 : okI slot) (h1 : okI id) :
    Calls Try.prog 26 #[.pointer (some ⟨g2, 0, none⟩), .int .i64 slot, .int .i64 id] w fun e w' => e = .returned (.bool (rvoteB r slot id)) ∧ Two B X w' g g2 s (rvoteS r slot id) ∧ Keep (fun k => B ≤ k ∧ ¬ X k) w w' :=
  h.ofRef (Q := fun e => e = .returned (.bool (rvoteB r slot id))) hX hB (fun _ h2 => rvote_calls h2 hl slot id h0 h1)
end
end Go.Proofs.Ythlgnilgjeebaaa

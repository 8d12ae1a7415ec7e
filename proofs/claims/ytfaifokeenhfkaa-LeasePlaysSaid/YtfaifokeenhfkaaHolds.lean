/- The lease: Holds. -/
import Derived.Test.YtfaifokeenhfkaaLease2
import Derived.Test.YtfaifokeenhfkaaMostZ
import Derived.Test.YtfaifokeenhfkaaBlk
namespace Go.Proofs.Ytfaifokeenhfkaa
open Go.RowKit
theorem nodup_bound : ∀ (n : Nat) (l : List Int), l.Nodup → (∀ x ∈ l, 0 ≤ x ∧ x < n) → l.length ≤ n
  | 0, l, _, h => by
    cases l with
    | nil => simp
    | cons x l => have := h x (by simp); omega
  | n + 1, l, hd, h => by
    have h1 := nodup_bound n (l.erase (n : Int)) (hd.erase _) (fun x hx => by
      have hm := (hd.mem_erase_iff).1 hx
      have := h x hm.2
      have := hm.1
      omega)
    have h2 : l.length ≤ (l.erase (n : Int)).length + 1 := by
      rw [List.length_erase]
      split <;> omega
    omega
/-- Whose time is fresh. -/
def freshIds (s : LeS) (now : Int) : List Int := (s.given.filter (fun p => freshB s now p.2)).map Prod.fst
def holdsB (s : LeS) (now : Int) (M : List Int) : Bool := mostB M (freshIds s now)
theorem mostB_mem {M I J : List Int} (h : ∀ x, x ∈ I ↔ x ∈ J) : mostB M I = mostB M J := by
  unfold mostB cntM
  have e : (fun x => I.contains x) = (fun x => J.contains x) := by
    funext x
    have := h x
    by_cases hx : x ∈ J
    · simp [hx, this.2 hx]
    · have : ¬ x ∈ I := fun q => hx (this.1 q)
      simp [hx, this]
  rw [e]
theorem nd_map {α : Type} {l : List (Int × α)} (h : (l.map Prod.fst).Nodup) {k : Int} {a b : α} (ha : (k, a) ∈ l) (hb : (k, b) ∈ l) : a = b := by
  induction l with
  | nil => cases ha
  | cons p l ih =>
    simp only [List.map_cons, List.nodup_cons] at h
    rcases List.mem_cons.1 ha with q1 | q1 <;> rcases List.mem_cons.1 hb with q2 | q2
    · rw [← q1] at q2; exact (Prod.mk.inj q2).2.symm
    · exact absurd (by rw [← q1]; exact List.mem_map.2 ⟨_, q2, rfl⟩) h.1
    · exact absurd (by rw [← q2]; exact List.mem_map.2 ⟨_, q1, rfl⟩) h.1
    · exact ih h.2 q1 q2
/-- What the range has collected. -/
def Coll (s : LeS) (now : Int) (dn ids : List Int) : Prop := ids.length ≤ dn.length ∧ ∀ k, k ∈ ids ↔ k ∈ dn ∧ ∃ a, (k, a) ∈ s.given ∧ freshB s now a = true
theorem Coll.nil {s : LeS} {now : Int} : Coll s now [] [] := ⟨Nat.le_refl _, fun k => by simp⟩
theorem Coll.yes {s : LeS} {now : Int} {dn ids : List Int} (h : Coll s now dn ids) {k a : Int} (hm : (k, a) ∈ s.given) (hf : freshB s now a = true) : Coll s now (k :: dn) (ids ++ [k]) := by
  refine ⟨by have := h.1; simp; omega, fun x => ?_⟩
  rw [List.mem_append, List.mem_singleton, List.mem_cons, h.2 x]
  constructor
  · rintro (⟨q1, q2⟩ | rfl)
    · exact ⟨.inr q1, q2⟩
    · exact ⟨.inl rfl, a, hm, hf⟩
  · rintro ⟨rfl | q1, q2⟩
    · exact .inr rfl
    · exact .inl ⟨q1, q2⟩
theorem Coll.no {s : LeS} {now : Int} {dn ids : List Int} (h : Coll s now dn ids) (hnd : (s.given.map Prod.fst).Nodup) {k a : Int} (hm : (k, a) ∈ s.given) (hf : freshB s now a = false) : Coll s now (k :: dn) ids := by
  refine ⟨by have := h.1; simp; omega, fun x => ?_⟩
  rw [h.2 x, List.mem_cons]
  constructor
  · rintro ⟨q1, q2⟩; exact ⟨.inr q1, q2⟩
  · rintro ⟨rfl | q1, b, q2, q3⟩
    · rw [nd_map hnd q2 hm, hf] at q3; cases q3
    · exact ⟨q1, b, q2, q3⟩
theorem Coll.all {s : LeS} {now : Int} {dn ids : List Int} (h : Coll s now dn ids) (ha : ∀ p ∈ s.given, p.1 ∈ dn) : ∀ k, k ∈ ids ↔ k ∈ freshIds s now := by
  intro k
  rw [h.2 k, freshIds, List.mem_map]
  constructor
  · rintro ⟨_, a, q1, q2⟩
    exact ⟨(k, a), List.mem_filter.2 ⟨q1, q2⟩, rfl⟩
  · rintro ⟨⟨k', a⟩, q1, rfl⟩
    obtain ⟨q2, q3⟩ := List.mem_filter.1 q1
    exact ⟨ha _ q2, a, q2, q3⟩
theorem ItI.few {s : LeS} {w : World} {m r : Nat} {dn : List Int} (h : ItI EI w m r s.given dn) (hok : s.Ok) : dn.length ≤ 15 ∧ (s.given.map Prod.fst).Nodup := by
  obtain ⟨es, clock, since, seen, c0, h1, h2, h3, h4, h5, h6, h7, h8, h9, h10, h11, h12⟩ := h
  refine ⟨nodup_bound 15 dn h11 (fun x hx => ?_), h4⟩
  obtain ⟨a, ha⟩ := h12 x hx
  have := hok.giv _ ha
  exact ⟨this.1, this.2.1⟩
theorem LeAt.base {F : Nat → Prop} {w : World} {g : Nat} {s : LeS} (h : LeAt F w g s) : LeAt (fun k => k < w.heap.size) w g s := by
  obtain ⟨m, h1, h2, h3, h4, h5, h6⟩ := h
  exact ⟨m, h1, h2, lt_heap h1, h2.lt, h5, h6⟩
section
variable {F G : Nat → Prop} {w w' : World} {g : Nat} {s : LeS} {vm : Value} {M : List Int}
set_option maxRecDepth 20000 in
set_option maxHeartbeats 1600000 in
theorem holds_any (h : LeAt F w g s) {now : Int} (hnow : okI now) (hM : Row G w vm M.length 1 (M.map I64)) (hl : M.length ≤ 1000000) :
    Calls Try.prog 12 #[.pointer (some ⟨g, 0, none⟩), .int .i64 now, vm] w fun e w' => e = .returned (.bool (holdsB s now M)) ∧ Keep (fun _ => False) w w' := by
  have T : SlT Try.prog 33 3 (.int .i64 0) 1 8 := SlT.mk' Try.underlying33 (by kernel_rfl) rfl (by decide)
  have H := hid h.base
  have HM := hid hM
  have hok := h.ok
  have HOK := hid hok
  clear h hM hok
  go_enter Try.func12, Try.ntmps12
  go_wp2_with (first
    | (refine wpl_boxB (v := .pointer (some ⟨g, 0, none⟩)) rfl rfl rfl ?_; intro b3 w1 hg3 hb3 k1 s1; have HG3 := hid hg3; clear hg3)
    | (refine wpl_boxB (v := .int .i64 now) rfl rfl rfl ?_; intro b4 w2 hg4 hb4 k2 s2
       have k12 := k1.trans k2 (fun _ _ h => h)
       have c4 := cell_at hb4 0 (.int .i64 now) rfl
       have c3 := cell_at (k2.heap hb3 id) 0 (.pointer (some ⟨g, 0, none⟩)) rfl
       have hl2 := H.out.keep k12 (fun _ _ => id)
       have hmade := made_calls hl2
       have K12 := hid k12; have HG4 := hid hg4; have HL2 := hid hl2; have K2 := hid k2
       clear hb4 hb3 k1 k2 k12 hg4 hl2))
  refine hmade.mono ?_
  rintro e w' ⟨rfl, rfl⟩
  clear hmade
  obtain ⟨m, hgo, hm, _⟩ := HL2.out
  have cm := cell_at hgo 3 (.map (some m)) rfl
  clear hgo
  have hmlt := hm.lt
  go_wp2_with (guard_target =~ Go.wpList _ _ _ (Go.Oper.mk _ (Go.Op.range _ _) _ _ _ _ :: _) _ _; refine stopHere ?_)
  refine goOn (wpl_range (b := m) rfl rfl Try.underlying52 rfl hm (fun _ _ _ h => h) ?_)
  intro r w3 hr hit k3 s3
  have HR := hid hr; have K3 := hid k3; have HIT := hid hit
  clear hr k3 hit hm
  have K3' := K3.out
  have c4' := K3'.cell c4 id
  have c3' := K3'.cell c3 id
  have HL3 := hid (HL2.out.keep K3' (fun _ _ => id))
  clear c4 c3 K3' cm
  have hb3 : b3 < w3.heap.size := World.block_lt_of_cell? _ _ c3'
  have hb4 : b4 < w3.heap.size := World.block_lt_of_cell? _ _ c4'
  have hr3 : b3 ≠ r := by have := HR.out; have := World.block_lt_of_cell? _ _ c3'; have := HG4.out; have := K2.out.size; omega
  have hr4 : b4 ≠ r := by have := HR.out; omega
  have hgr : g ≠ r := by have := HR.out; have := HL2.out.lt; omega
  have hmr : m ≠ r := by have := HR.out; omega
  have C4 := hid c4'; have C3 := hid c3'
  clear c3' c4'
  go_wp2_with fail
  conv => arg 4; simp [Act.put]
  go_loopw [8] (fun v wr => ∃ dn ids, wr.ownsRow 0 3 1 v ids.length (ids.map I64) ∧ (∀ b, v.ownBlock = some b → w3.heap.size ≤ b) ∧ ItI EI wr m r s.given dn ∧ Keep (fun q => q = r) w3 wr ∧ Coll s now dn ids) (fun _ wr => wr.rangeLeft m r)
  case atStart => exact ⟨[], [], by simpa using World.ownsRow_nil _ _ _ _, fun b hb => by simp [Value.ownBlock] at hb, HIT.out, Keep.refl _ _, Coll.nil⟩
  case round =>
    obtain ⟨dn, ids, ho, hnb, hit, hkp, hcoll⟩ := hrel
    have HNB := hid hnb; have HKP := hid hkp; have HCOLL := hid hcoll; have HO := hid ho
    clear hnb hkp hcoll ho
    go_wp2_with (guard_target =~ Go.wpList _ _ _ (Go.Oper.mk _ (Go.Op.next _ _) _ _ _ _ :: _) _ _; refine stopHere ?_)
    refine goOn (wpl_next rfl rfl rfl hit (fun _ _ _ _ h => h) ?_ ?_)
    · intro hall
      have hkw : Keep (fun _ => False) w wr := (K12.out.trans K3.out (fun _ _ h => h)).trans HKP.out (fun b hb e => by have := HR.out; have := K12.out.size; omega)
      have hmost := most_any (HM.out.keep hkw (fun _ _ => id)) hl (Row.ofOwn HO.out)
      have HKW := hid hkw
      have HALL := hid hall
      clear hkw hall hit
      go_wp2_with fail
      refine hmost.mono ?_
      rintro e w5 ⟨rfl, hk5⟩
      go_wp2_with fail
      go_ret
      refine ⟨?_, HKW.out.trans hk5 (fun _ _ h => h)⟩
      have : mostB M ids = holdsB s now M := mostB_mem (HCOLL.out.all HALL.out)
      exact congrArg (fun x => Ending.returned (.bool x)) this
    · intro k a v w4 hka hnk hwf hev hit4 hk4 hless hent hsz
      obtain rfl : v = .int .i64 a := hev
      have hk34 : Keep (fun q => q = r) w3 w4 := HKP.out.trans hk4 (fun _ _ e => e)
      have hfresh := fresh_calls (HL3.out.keep hk34 (fun k hk e => by have := HR.out; have := K12.out.size; omega)) (hk34.cell C4.out hr4) (hk34.cell C3.out hr3) (HOK.out.giv _ hka).2.2.1 hnow
      have hwr4 : ∀ b, u8.ownBlock = some b → ¬ b = r := fun b hb e => by have := HNB.out b hb; omega
      have ho4 := hk4.owns HO.out hwr4
      have hn15 := (hit.few HOK.out).1
      have hidl := HCOLL.out.1
      have HIT4 := hid hit4; have HK34 := hid hk34; have HLESS := hid hless; have HKA := hid hka; have HO4 := hid ho4
      have HND := hid (hit.few HOK.out).2
      clear hit hit4 hk34 hless hka hwr4 ho4 hk4 hsz hnk hwf
      go_wp2_with fail
      refine hfresh.mono ?_
      rintro e w5 ⟨rfl, n, rfl⟩
      clear hfresh hent
      cases hfb : freshB s now a
      · have HFB := hid hfb
        clear hfb
        go_wp2_with fail
        have kd : Keep (fun _ => False) w4 (w4.drewN n) := (Keep.refl _ w4).drewN n
        refine ⟨⟨k :: dn, ids, kd.owns HO4.out (fun _ _ => id), HNB.out, HIT4.out.keep kd id id (fun _ _ h => h), HK34.out.trans kd (fun _ _ f => f.elim), HCOLL.out.no HND.out HKA.out HFB.out⟩, ?_⟩
        rw [left_keep HIT4.out kd id id]
        exact HLESS.out
      · have HFB := hid hfb
        clear hfb
        have kd : Keep (fun _ => False) w4 (w4.drewN n) := (Keep.refl _ w4).drewN n
        have hod := kd.owns HO4.out (fun _ _ => id)
        have KD := hid kd
        clear kd
        go_wp2_with (at_builtin; refine stopHere ?_)
        refine goOn (wpl_app (v := u8) rfl rfl T rfl (ownsAlloc hod _) rfl (Row.one (w4.drewN n) _ _) (by simp [Value.oneCell']) (by omega) (by omega) ?_)
        intro A c w6 ho6 hk6 hn6
        go_wp2
        have ka : Keep (fun q => some q = u8.ownBlock) w4 w6 := ((KD.out.mono (fun _ _ f => f.elim)).alloc _).trans hk6 (fun _ _ e => e)
        have hbr : ∀ q, q ≤ r → ¬ some q = u8.ownBlock := fun q hq e => by have := HNB.out q e.symm; omega
        refine ⟨⟨k :: dn, ids ++ [k], ?_, ?_, HIT4.out.keep ka (hbr m (by have := HR.out; omega)) (hbr r (Nat.le_refl _)) (fun _ _ h => h), HK34.out.trans ka (fun b hb e => by have := HNB.out b e.symm; omega), HCOLL.out.yes HKA.out HFB.out⟩, ?_⟩
        · simpa using ho6
        · intro b hb
          rcases hn6 b (by simpa using hb) with q | q
          · exact HNB.out b q
          · have h1 := HK34.out.size
            have h2 := KD.out.size
            simp at q
            have : w4.heap.size + 1 ≤ b := by simpa using q
            omega
        · rw [left_keep HIT4.out ka (hbr m (by have := HR.out; omega)) (hbr r (Nat.le_refl _))]
          exact HLESS.out
theorem holds_calls (h : LeAt F w g s) {now : Int} (hnow : okI now) (hM : Row G w vm M.length 1 (M.map I64)) (_h0 : 0 < M.length) (hl : M.length ≤ 1000000) :
    Calls Try.prog 12 #[.pointer (some ⟨g, 0, none⟩), .int .i64 now, vm] w fun e w' => e = .returned (.bool (holdsB s now M)) ∧ Keep (fun _ => False) w w' := holds_any h hnow hM hl
end
end Go.Proofs.Ytfaifokeenhfkaa

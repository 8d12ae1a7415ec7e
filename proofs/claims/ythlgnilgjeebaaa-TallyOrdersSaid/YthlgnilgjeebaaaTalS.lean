/- wapentakeref15.Tally: Promise, Vote. -/
import Derived.Test.YthlgnilgjeebaaaTalR
import Derived.Test.YthlgnilgjeebaaaStepC
import Derived.Test.YthlgnilgjeebaaaSets
import Derived.Test.YthlgnilgjeebaaaTalCP
namespace Go.Proofs.Ythlgnilgjeebaaa
open Go.RowKit Go.ChangeShapes Go.WideShapes Go.ChangeAt
theorem T_Pm : SlT Try.prog 51 77 (.agg #[.int .i64 0, .int .i64 0, .slice none 0 0]) 3 40 := SlT.mk' Try.underlying51 (by kernel_rfl) rfl (by decide)
theorem T_Ct : SlT Try.prog 52 81 (.agg #[.int .i64 0, .int .i64 0]) 2 16 := SlT.mk' Try.underlying52 (by kernel_rfl) rfl (by decide)
/-- The tally in blocks of the call's own. -/
structure RM (D : Nat → Prop) (w : World) (g : Nat) (s : RS) (AP AC : Option Addr) (cP cC : Nat) (csP csC : List Value) : Prop where
  obj : w.heap[g]? = some (RObj s (.slice AP s.P.length cP) (.slice AC s.C.length cC))
  ownP : w.ownsRow 0 77 3 (.slice AP s.P.length cP) s.P.length csP
  partP : Parts .prom w (fun b => (D b ∧ b < w.heap.size ∧ b ≠ g) ∧ some b ≠ (Value.slice AP s.P.length cP).ownBlock ∧ some b ≠ (Value.slice AC s.C.length cC).ownBlock) csP s.P
  ownC : w.ownsRow 0 81 2 (.slice AC s.C.length cC) s.C.length csC
  partC : Parts .cast w (fun _ => False) csC s.C
  hB : D g
  bP : ∀ b, (Value.slice AP s.P.length cP).ownBlock = some b → D b ∧ b ≠ g ∧ (Value.slice AC s.C.length cC).ownBlock ≠ some b
  bC : ∀ b, (Value.slice AC s.C.length cC).ownBlock = some b → D b ∧ b ≠ g
def RN (D : Nat → Prop) (w : World) (g : Nat) (s : RS) : Prop := ∃ AP AC cP cC csP csC, RM D w g s AP AC cP cC csP csC
section
variable {D G : Nat → Prop} {w w' : World} {g : Nat} {s : RS} {AP AC : Option Addr} {cP cC : Nat} {csP csC : List Value}
theorem RM.keep (h : RM D w g s AP AC cP cC csP csC) (hk : Keep (fun _ => False) w w') : RM D w' g s AP AC cP cC csP csC := by
  have hs := hk.size
  exact { h with
    obj := hk.heap h.obj id
    ownP := hk.owns h.ownP (fun _ _ => id)
    partP := (h.partP.keep hk (fun _ _ => id)).mono (fun _ hb => ⟨⟨hb.1.1, by have := hb.1.2.1; omega, hb.1.2.2⟩, hb.2⟩)
    ownC := hk.owns h.ownC (fun _ _ => id)
    partC := h.partC.keep hk (fun _ _ => id) }
theorem RN.keep (h : RN D w g s) (hk : Keep (fun _ => False) w w') : RN D w' g s := by
  obtain ⟨AP, AC, cP, cC, csP, csC, h⟩ := h; exact ⟨AP, AC, cP, cC, csP, csC, h.keep hk⟩
theorem RM.mono {E : Nat → Prop} (h : RM D w g s AP AC cP cC csP csC) (hD : ∀ k, D k → E k) : RM E w g s AP AC cP cC csP csC :=
  { h with
    partP := h.partP.mono (fun _ hb => ⟨⟨hD _ hb.1.1, hb.1.2⟩, hb.2⟩)
    hB := hD _ h.hB
    bP := fun b hb => ⟨hD _ (h.bP b hb).1, (h.bP b hb).2⟩
    bC := fun b hb => ⟨hD _ (h.bC b hb).1, (h.bC b hb).2⟩ }
theorem RN.mono {E : Nat → Prop} (h : RN D w g s) (hD : ∀ k, D k → E k) : RN E w g s := by
  obtain ⟨AP, AC, cP, cC, csP, csC, h⟩ := h; exact ⟨AP, AC, cP, cC, csP, csC, h.mono hD⟩
/-- What else may be written. -/
theorem RM.keepS {S : Nat → Prop} (h : RM D w g s AP AC cP cC csP csC) (hk : Keep S w w') (hd : ∀ k, D k → ¬ S k) : RM D w' g s AP AC cP cC csP csC := by
  have hs := hk.size
  exact { h with
    obj := hk.heap h.obj (hd _ h.hB)
    ownP := hk.owns h.ownP (fun b hb => hd b (h.bP b hb).1)
    partP := (h.partP.keep hk (fun b hb => hd b hb.1.1)).mono (fun _ hb => ⟨⟨hb.1.1, by have := hb.1.2.1; omega, hb.1.2.2⟩, hb.2⟩)
    ownC := hk.owns h.ownC (fun b hb => hd b (h.bC b hb).1)
    partC := h.partC.keep hk (fun _ f => f.elim) }
theorem RN.keepS {S : Nat → Prop} (h : RN D w g s) (hk : Keep S w w') (hd : ∀ k, D k → ¬ S k) : RN D w' g s := by
  obtain ⟨AP, AC, cP, cC, csP, csC, h⟩ := h; exact ⟨AP, AC, cP, cC, csP, csC, h.keepS hk hd⟩
theorem RM.rv (h : RM D w g s AP AC cP cC csP csC) : RV (fun b => D b ∧ b < w.heap.size) w g s AP AC cP cC :=
  ⟨h.obj, (h.partP.mono (G := fun b => D b ∧ b < w.heap.size) (fun _ hb => ⟨hb.1.1, hb.1.2.1⟩)).sl (Row.ofOwn h.ownP) (fun b hb => ⟨(h.bP b hb.symm).1, own_lt' h.ownP b hb.symm⟩),
   (h.partC.mono (G := fun b => D b ∧ b < w.heap.size) (fun _ f => f.elim)).sl (Row.ofOwn h.ownC) (fun b hb => ⟨(h.bC b hb.symm).1, own_lt' h.ownC b hb.symm⟩)⟩
theorem RM.lt (h : RM D w g s AP AC cP cC csP csC) : g < w.heap.size := lt_heap h.obj
/-- A vote is cast. -/
theorem RM.vote (h : RM D w g s AP AC cP cC csP csC) {wx w6 : World} {A6 : Option Addr} {c6 : Nat} {slot id : Int} (h0 : okI slot) (h1 : okI id) (hx : Keep (fun _ => False) w wx)
    (ho : w6.ownsRow 0 81 2 (.slice A6 (s.C.length + 1) c6) (s.C.length + 1) (csC ++ castCs (slot, id))) (hk : Keep (fun k => some k = (Value.slice AC s.C.length cC).ownBlock) wx w6) (hn : SameOrNew wx (.slice AC s.C.length cC) (.slice A6 (s.C.length + 1) c6)) :
    RN (Grow D w (w6.setCell ⟨g, 3, none⟩ (.slice A6 (s.C.length + 1) c6))) (w6.setCell ⟨g, 3, none⟩ (.slice A6 (s.C.length + 1) c6)) g { s with C := s.C ++ [(slot, id)] } ∧ Keep D w (w6.setCell ⟨g, 3, none⟩ (.slice A6 (s.C.length + 1) c6)) := by
  have hgl := h.lt
  have hsx := hx.size
  have hs6 := hk.size
  have k6 : Keep (fun q => some q = (Value.slice AC s.C.length cC).ownBlock) w w6 := (hx.mono (fun _ _ f => f.elim)).trans hk (fun _ _ q => q)
  have hg6 := k6.heap h.obj (fun e => (h.bC g e.symm).2 rfl)
  have ks : Keep (fun q => q = g) w6 (w6.setCell ⟨g, 3, none⟩ (.slice A6 (s.C.length + 1) c6)) := (Keep.refl _ w6).setCell _ _ (fun _ => rfl)
  have hgn : (w6.setCell ⟨g, 3, none⟩ (.slice A6 (s.C.length + 1) c6)).heap[g]? = some (RObj { s with C := s.C ++ [(slot, id)] } (.slice AP s.P.length cP) (.slice A6 (s.C.length + 1) c6)) := by rw [heap_set hg6]; rfl
  generalize w6.setCell ⟨g, 3, none⟩ (.slice A6 (s.C.length + 1) c6) = wf at *
  have kf : Keep (fun q => some q = (Value.slice AC s.C.length cC).ownBlock ∨ q = g) w wf := (k6.mono (fun _ _ q => .inl q)).trans ks (fun _ _ q => .inr q)
  have hsf := ks.size
  have hnb : ∀ b, (Value.slice A6 (s.C.length + 1) c6).ownBlock = some b → (Value.slice AC s.C.length cC).ownBlock = some b ∨ w.heap.size ≤ b := fun b hb => (hn b hb).imp _root_.id (fun q => by omega)
  have hlen : (s.C ++ [(slot, id)]).length = s.C.length + 1 := by simp
  have hPlt : ∀ b, (Value.slice AP s.P.length cP).ownBlock = some b → b < w.heap.size := fun b hb => own_lt' h.ownP b hb
  refine ⟨⟨AP, A6, cP, c6, csP, csC ++ castCs (slot, id), ?_, ?_, ?_, ?_, ?_, .inl h.hB, ?_, ?_⟩, kf.mono (fun b _ q => q.elim (fun q => (h.bC b q.symm).1) (fun q => by rw [q]; exact h.hB))⟩
  · simp only [hlen]; exact hgn
  · exact kf.owns h.ownP (fun b hb q => q.elim (fun q => (h.bP b hb).2.2 q.symm) (fun q => (h.bP b hb).2.1 q))
  · simp only [hlen]
    refine (h.partP.keep kf (fun b hb q => q.elim (fun q => hb.2.2 q) (fun q => hb.1.2.2 q))).mono (fun b hb => ⟨⟨.inl hb.1.1, by have := hb.1.2.1; omega, hb.1.2.2⟩, hb.2.1, fun e => ?_⟩)
    rcases hnb b e.symm with q | q
    · exact hb.2.2 q.symm
    · have := hb.1.2.1; omega
  · simp only [hlen]
    exact ks.owns ho (fun b hb q => by
      rcases hnb b hb with r | r
      · exact (h.bC b r).2 q
      · omega)
  · exact Parts.app (h.partC.keep kf (fun _ f => f.elim)) h.ownC.1 (Parts.one (cast_mk h0 h1))
  · simp only [hlen]
    refine fun b hb => ⟨.inl (h.bP b hb).1, (h.bP b hb).2.1, fun e => ?_⟩
    rcases hnb b e with r | r
    · exact (h.bP b hb).2.2 r
    · have := hPlt b hb; omega
  · simp only [hlen]
    refine fun b hb => ?_
    rcases hnb b hb with r | r
    · exact ⟨.inl (h.bC b r).1, (h.bC b r).2⟩
    · exact ⟨.inr ⟨by omega, by have := own_lt' ho b hb; omega⟩, by omega⟩
/-- A promise is heard. -/
theorem RM.prom (h : RM D w g s AP AC cP cC csP csC) {wx wy w6 : World} {A6 A5 : Option Addr} {c6 c5 : Nat} {p : TProm} (h0 : okI p.id) (h1 : okI p.base) (hx : Keep (fun _ => False) w wx)
    (hv : Sl .vote wx (NewIn w wx) (.slice A5 p.v.length c5) p.v) (hy : Keep (fun _ => False) wx wy)
    (ho : w6.ownsRow 0 77 3 (.slice A6 (s.P.length + 1) c6) (s.P.length + 1) (csP ++ promCs p (.slice A5 p.v.length c5))) (hk : Keep (fun k => some k = (Value.slice AP s.P.length cP).ownBlock) wy w6) (hn : SameOrNew wy (.slice AP s.P.length cP) (.slice A6 (s.P.length + 1) c6)) :
    RN (Grow D w (w6.setCell ⟨g, 2, none⟩ (.slice A6 (s.P.length + 1) c6))) (w6.setCell ⟨g, 2, none⟩ (.slice A6 (s.P.length + 1) c6)) g { s with P := s.P ++ [p] } ∧ Keep D w (w6.setCell ⟨g, 2, none⟩ (.slice A6 (s.P.length + 1) c6)) := by
  have hgl := h.lt
  have hsx := hx.size
  have hsy := hy.size
  have hs6 := hk.size
  have k6 : Keep (fun q => some q = (Value.slice AP s.P.length cP).ownBlock) w w6 := ((hx.trans hy (fun _ _ f => f)).mono (fun _ _ f => f.elim)).trans hk (fun _ _ q => q)
  have hg6 := k6.heap h.obj (fun e => (h.bP g e.symm).2.1 rfl)
  have ks : Keep (fun q => q = g) w6 (w6.setCell ⟨g, 2, none⟩ (.slice A6 (s.P.length + 1) c6)) := (Keep.refl _ w6).setCell _ _ (fun _ => rfl)
  have hgn : (w6.setCell ⟨g, 2, none⟩ (.slice A6 (s.P.length + 1) c6)).heap[g]? = some (RObj { s with P := s.P ++ [p] } (.slice A6 (s.P.length + 1) c6) (.slice AC s.C.length cC)) := by rw [heap_set hg6]; rfl
  generalize w6.setCell ⟨g, 2, none⟩ (.slice A6 (s.P.length + 1) c6) = wf at *
  have kf : Keep (fun q => some q = (Value.slice AP s.P.length cP).ownBlock ∨ q = g) w wf := (k6.mono (fun _ _ q => .inl q)).trans ks (fun _ _ q => .inr q)
  have kxf : Keep (fun q => some q = (Value.slice AP s.P.length cP).ownBlock ∨ q = g) wx wf := ((hy.mono (fun _ _ f => f.elim)).trans hk (fun _ _ q => .inl q)).trans ks (fun _ _ q => .inr q)
  have hsf := ks.size
  have hPlt : ∀ b, (Value.slice AP s.P.length cP).ownBlock = some b → b < w.heap.size := fun b hb => own_lt' h.ownP b hb
  have hCl : ∀ b, (Value.slice AC s.C.length cC).ownBlock = some b → b < w.heap.size := fun b hb => own_lt' h.ownC b hb
  have hnb : ∀ b, (Value.slice A6 (s.P.length + 1) c6).ownBlock = some b → (Value.slice AP s.P.length cP).ownBlock = some b ∨ wy.heap.size ≤ b := fun b hb => hn b hb
  have hlen : (s.P ++ [p]).length = s.P.length + 1 := by simp
  refine ⟨⟨A6, AC, c6, cC, csP ++ promCs p (.slice A5 p.v.length c5), csC, ?_, ?_, ?_, ?_, ?_, .inl h.hB, ?_, fun b hb => ⟨.inl (h.bC b hb).1, (h.bC b hb).2⟩⟩, kf.mono (fun b _ q => q.elim (fun q => (h.bP b q.symm).1) (fun q => by rw [q]; exact h.hB))⟩
  · simp only [hlen]; exact hgn
  · simp only [hlen]
    exact ks.owns ho (fun b hb q => by
      rcases hnb b hb with r | r
      · exact (h.bP b r).2.1 q
      · omega)
  · simp only [hlen]
    refine Parts.app ((h.partP.keep kf (fun b hb q => q.elim (fun q => hb.2.1 q) (fun q => hb.1.2.2 q))).mono (fun b hb => ⟨⟨.inl hb.1.1, by have := hb.1.2.1; omega, hb.1.2.2⟩, fun e => ?_, hb.2.2⟩)) h.ownP.1 (Parts.one (prom_mk ((hv.keep kxf (fun b hb q => ?_)).mono (fun b hb => ⟨⟨?_, ?_, ?_⟩, fun e => ?_, fun e => ?_⟩)) h0 h1))
    · rcases hnb b e.symm with q | q
      · exact hb.2.1 q.symm
      · have := hb.1.2.1; omega
    · have e1 := hb.1
      rcases q with q | q
      · have := hPlt b q.symm; omega
      · omega
    · exact .inr ⟨hb.1, by have := hb.2; omega⟩
    · have := hb.2; omega
    · have := hb.1; omega
    · have e1 := hb.1
      have e2 := hb.2
      rcases hnb b e.symm with q | q
      · have := hPlt b q; omega
      · omega
    · have e1 := hb.1
      have := hCl b e.symm; omega
  · exact kf.owns h.ownC (fun b hb q => q.elim (fun q => (h.bP b q.symm).2.2 hb) (fun q => (h.bC b hb).2 q))
  · exact h.partC.keep kf (fun _ f => f.elim)
  · simp only [hlen]
    refine fun b hb => ?_
    rcases hnb b hb with r | r
    · exact ⟨.inl (h.bP b r).1, (h.bP b r).2⟩
    · exact ⟨.inr ⟨by omega, by have := own_lt' ho b hb; omega⟩, by omega, fun e => by have := hCl b e; omega⟩
theorem gth_mem {β : Type} (q : Int → β → Bool) (P : List β) (x : Int) : ∀ n, x ∈ gth q P n ↔ 0 ≤ x ∧ x < n ∧ ∃ p ∈ P, q x p = true
  | 0 => by simp [gth]; omega
  | n + 1 => by
    rw [gth, List.mem_append, gth_mem q P x n, List.mem_map]
    constructor
    · rintro (⟨h1, h2, h3⟩ | ⟨p, hp, rfl⟩)
      · exact ⟨h1, by omega, h3⟩
      · rw [List.mem_filter] at hp
        exact ⟨by omega, by omega, p, hp.1, hp.2⟩
    · rintro ⟨h1, h2, p, hp, hq⟩
      by_cases h : x < n
      · exact .inl ⟨h1, h, p, hp, hq⟩
      · obtain rfl : x = (n : Int) := by omega
        exact .inr ⟨p, List.mem_filter.2 ⟨hp, hq⟩, rfl⟩
theorem rep11_calls (t : Int) : Calls Try.prog 54 #[.int .i64 t] w fun e w' => e = .returned (.bool (repB t)) ∧ w = w' := by
  rw [repB]
  by_cases h0 : 0 ≤ t
  · by_cases h1 : t < 15
    · rw [decide_eq_true ⟨h0, h1⟩]
      go_enter Try.func54, Try.ntmps54
      go_wp2_with fail
      go_ret
      exact ⟨rfl, rfl⟩
    · rw [decide_eq_false (fun q => h1 q.2)]
      go_enter Try.func54, Try.ntmps54
      go_wp2_with fail
      go_ret
      exact ⟨rfl, rfl⟩
  · rw [decide_eq_false (fun q => h0 q.1)]
    go_enter Try.func54, Try.ntmps54
    go_wp2_with fail
    go_ret
    exact ⟨rfl, rfl⟩
def rpromB (s : RS) (id : Int) : Bool := repB id && !decide (id ∈ gth (fun (n : Int) (p : TProm) => p.id == n) s.P 15)
def rpromS (s : RS) (id base : Int) (l : List Vote) : RS := if rpromB s id then { s with P := s.P ++ [⟨id, base, l⟩] } else s
def rvoteB (s : RS) (slot id : Int) : Bool := repB id && !decide (id ∈ gth (fun (n : Int) (p : Int × Int) => p.1 == slot && p.2 == n) s.C 15)
def rvoteS (s : RS) (slot id : Int) : RS := if rvoteB s slot id then { s with C := s.C ++ [(slot, id)] } else s
set_option maxRecDepth 20000 in
set_option maxHeartbeats 4000000 in
theorem rvote_calls (h : RN D w g s) (hl : s.C.length ≤ 100000) (slot id : Int) (h0 : okI slot) (h1 : okI id) :
    Calls Try.prog 26 #[.pointer (some ⟨g, 0, none⟩), .int .i64 slot, .int .i64 id] w fun e w' => e = .returned (.bool (rvoteB s slot id)) ∧ RN (Grow D w w') w' g (rvoteS s slot id) ∧ Keep D w w' := by
  obtain ⟨AP, AC, cP, cC, csP, csC, hm⟩ := h
  have hbq : rvoteB s slot id = (repB id && !decide (id ∈ gth (fun (n : Int) (p : Int × Int) => p.1 == slot && p.2 == n) s.C 15)) := rfl
  cases hr : repB id with
  | false =>
    have hb : rvoteB s slot id = false := by rw [hbq, hr]; rfl
    have hs : rvoteS s slot id = s := by rw [rvoteS, hb]; rfl
    rw [hb, hs]
    clear hb hbq hs
    have HM := hid hm
    clear hm
    go_enter Try.func26, Try.ntmps26
    go_wp2_with fail
    refine (rep11_calls id).mono ?_
    rintro e w' ⟨rfl, rfl⟩
    rw [hr]
    go_wp2_with fail
    go_ret
    exact ⟨rfl, ⟨AP, AC, cP, cC, csP, csC, HM.out.mono (fun _ => .inl)⟩, Keep.refl _ _⟩
  | true =>
    rw [hr] at hbq
    have HM := hid hm
    have HBQ := hid hbq
    clear hm hbq
    go_enter Try.func26, Try.ntmps26
    go_wp2_with fail
    refine (rep11_calls id).mono ?_
    rintro e w' ⟨rfl, rfl⟩
    rw [hr]
    clear hr
    go_wp2_with fail
    refine (rvoters_calls HM.out.rv hl slot).mono ?_
    rintro e w1 ⟨u1, rfl, hg1⟩
    have K1 := hid hg1.kp
    have hrow := hg1.row
    have HROW := hid hrow
    clear hg1 hrow
    go_wp2_with fail
    refine (has_calls HROW.out id).mono ?_
    rintro e w' ⟨rfl, rfl⟩
    have hm1 := HM.out.keep K1.out
    have hbq := HBQ.out
    rw [Bool.true_and] at hbq
    generalize decide (id ∈ gth (fun (n : Int) (p : Int × Int) => p.1 == slot && p.2 == n) s.C 15) = bq at *
    cases bq
    · have hb : rvoteB s slot id = true := hbq
      have HBB := hid hb
      have c3 := cell_at hm1.obj 3 (.slice AC s.C.length cC) rfl
      have ho := hm1.ownC
      have HM1 := hid hm1
      obtain ⟨m, hmm⟩ : ∃ m, m = s.C.length := ⟨_, rfl⟩
      rw [← hmm] at c3 ho hl
      have HMM := hid hmm
      clear hm1 hbq hb hmm HROW
      go_wp2_with (at_builtin; refine stopHere ?_)
      refine goOn (wpl_app (v := .slice AC m cC) rfl rfl T_Ct rfl (ownsAlloc ho _) rfl (row_n w1 (castCs (slot, id)) _) (by simp [castCs, Value.oneCell']) (by omega) (by omega) ?_)
      intro A6 c6 w6 ho6 hk6 hn6
      rw [HMM.out] at ho6 hk6 hn6
      obtain ⟨hfin, hkf⟩ := HM1.out.vote h0 h1 ((Keep.refl (fun _ => False) w1).alloc _) ho6 hk6 hn6
      have hg6 : w6.heap[g]? = some (RObj s (.slice AP s.P.length cP) (.slice AC s.C.length cC)) := hk6.heap (heap_alloc HM1.out.obj _) (fun e => (HM1.out.bC g e.symm).2 rfl)
      have f3 := free_at hg6 3
      have q3 := cell_at hg6 3 (.slice AC s.C.length cC) rfl
      have HFIN := hid (hfin.mono (E := Grow D w (w6.setCell ⟨g, 3, none⟩ (.slice A6 (s.C.length + 1) c6))) (fun k q => q.imp _root_.id (fun q => ⟨by have := K1.out.size; have := q.1; omega, q.2⟩))); have HKF := hid (((K1.out.mono (T := D) (fun _ _ f => f.elim))).trans hkf (fun _ _ q => q))
      rw [← HMM.out] at HFIN HKF q3
      clear ho6 hk6 hn6 hfin hkf hg6 ho c3
      go_wp2
      go_ret
      refine ⟨by rw [HBB.out]; rfl, ?_, HKF.out⟩
      rw [rvoteS, HBB.out]
      exact HFIN.out
    · have hb : rvoteB s slot id = false := hbq
      have HBB := hid hb
      have HM1 := hid hm1
      clear hm1 hbq hb HROW
      go_wp2_with fail
      go_ret
      refine ⟨by rw [HBB.out]; rfl, ?_, K1.out.mono (fun _ _ f => f.elim)⟩
      rw [rvoteS, HBB.out]
      exact ⟨AP, AC, cP, cC, csP, csC, HM1.out.mono (fun _ => .inl)⟩
set_option maxRecDepth 20000 in
set_option maxHeartbeats 8000000 in
theorem rprom_calls (h : RN D w g s) (hl : s.P.length ≤ 100000) (id base : Int) (h0 : okI id) (h1 : okI base) {v : Value} {l : List Vote} (hv : Sl .vote w G v l) (hG : ∀ q, G q → q < w.heap.size) (hll : l.length ≤ 1000000) (hm : ∀ x ∈ l, x.value.changes.length ≤ 4294967296) :
    Calls Try.prog 24 #[.pointer (some ⟨g, 0, none⟩), .int .i64 id, .int .i64 base, v] w fun e w' => e = .returned (.bool (rpromB s id)) ∧ RN (Grow D w w') w' g (rpromS s id base l) ∧ Keep D w w' := by
  obtain ⟨AP, AC, cP, cC, csP, csC, hrm⟩ := h
  obtain ⟨Av, cv, rfl⟩ := hv.shape
  have hbq : rpromB s id = (repB id && !decide (id ∈ gth (fun (n : Int) (p : TProm) => p.id == n) s.P 15)) := rfl
  cases hr : repB id with
  | false =>
    have hb : rpromB s id = false := by rw [hbq, hr]; rfl
    have hs : rpromS s id base l = s := by rw [rpromS, hb]; rfl
    rw [hb, hs]
    clear hb hbq hv hG hll hm hs
    have HM := hid hrm
    clear hrm
    generalize l.length = n
    go_enter Try.func24, Try.ntmps24
    go_wp2_with fail
    refine (rep11_calls id).mono ?_
    rintro e w' ⟨rfl, rfl⟩
    rw [hr]
    go_wp2_with fail
    go_ret
    exact ⟨rfl, ⟨AP, AC, cP, cC, csP, csC, HM.out.mono (fun _ => .inl)⟩, Keep.refl _ _⟩
  | true =>
    rw [hr] at hbq
    have HM := hid hrm; have HBQ := hid hbq; have HV := hid hv; have HG := hid hG; have HMM := hid hm; have HLL := hid hll
    clear hrm hbq hv hG hm hll
    obtain ⟨n, hn⟩ : ∃ n, n = l.length := ⟨_, rfl⟩
    rw [← hn]
    have HN := hid hn
    clear hn
    go_enter Try.func24, Try.ntmps24
    go_wp2_with fail
    refine (rep11_calls id).mono ?_
    rintro e w' ⟨rfl, rfl⟩
    rw [hr]
    clear hr
    go_wp2_with fail
    refine (rpromised_calls HM.out.rv hl).mono ?_
    rintro e w1 ⟨u1, rfl, hg1⟩
    have K1 := hid hg1.kp
    have hrow := hg1.row
    have HROW := hid hrow
    clear hg1 hrow
    go_wp2_with fail
    refine (has_calls HROW.out id).mono ?_
    rintro e w' ⟨rfl, rfl⟩
    have hm1 := HM.out.keep K1.out
    have hbq := HBQ.out
    rw [Bool.true_and] at hbq
    generalize decide (id ∈ gth (fun (n : Int) (p : TProm) => p.id == n) s.P 15) = bq at *
    cases bq
    · have hb : rpromB s id = true := hbq
      have HBB := hid hb
      have kd : Keep (fun _ => False) w1 w1.drew := (Keep.refl _ w1).drew
      have hmd := hm1.keep kd
      have c2 := cell_at hm1.obj 2 (.slice AP s.P.length cP) rfl
      have hcop := copyVotes_calls (w := w1.drew) (HV.out.keep (K1.out.trans kd (fun _ _ f => f)) (fun _ _ => _root_.id)) (fun q hq => by have := HG.out q hq; have := K1.out.size; have h9 : w1.drew.heap.size = w1.heap.size := rfl; omega) HLL.out HMM.out
      have HMD := hid hmd
      obtain ⟨m, hmm⟩ : ∃ m, m = s.P.length := ⟨_, rfl⟩
      rw [← hmm] at c2 hl
      rw [← HN.out] at hcop
      have HMN := hid hmm
      have hc1 : Calls Try.prog 55 #[.slice Av n cv] w1.drew fun e w' => ∃ u, e = .returned u ∧ ∃ A c, u = .slice A n c ∧ OwnV w1.drew w' A n c l ∧ Keep (fun _ => False) w1.drew w' :=
        hcop.mono fun e w' ⟨A, c, he, ho, hk⟩ => ⟨_, he, A, c, rfl, ho, hk⟩
      have HC1 := hid hc1
      have hst : ∀ (w5 : World) (A5 : Option Addr) (c5 : Nat) (A6 : Option Addr) (c6 : Nat) (w6 : World), OwnV w1.drew w5 A5 n c5 l → Keep (fun _ => False) w1.drew w5 → w6.ownsRow 0 77 3 (.slice A6 (m + 1) c6) (m + 1) (csP ++ promCs ⟨id, base, l⟩ (.slice A5 n c5)) →
          Keep (fun k => some k = (Value.slice AP m cP).ownBlock) (w5.alloc (.cells (promCs ⟨id, base, l⟩ (.slice A5 n c5)).toArray 77)) w6 → SameOrNew (w5.alloc (.cells (promCs ⟨id, base, l⟩ (.slice A5 n c5)).toArray 77)) (.slice AP m cP) (.slice A6 (m + 1) c6) →
          (RN (Grow D w (w6.setCell ⟨g, 2, none⟩ (.slice A6 (m + 1) c6))) (w6.setCell ⟨g, 2, none⟩ (.slice A6 (m + 1) c6)) g { s with P := s.P ++ [⟨id, base, l⟩] } ∧ Keep D w (w6.setCell ⟨g, 2, none⟩ (.slice A6 (m + 1) c6))) ∧ w6.cell? ⟨g, 2, none⟩ = some (.slice AP m cP) ∧ w6.frozen? ⟨g, 2, none⟩ = false := by
        intro w5 A5 c5 A6 c6 w6 hov hk5 ho6 hk6 hn6
        have hsv := hov.1
        rw [HN.out] at hsv ho6 hk6 hn6
        rw [HMN.out] at ho6 hk6 hn6 ⊢
        have hal : Keep (fun _ => False) w5 (w5.alloc (.cells (promCs ⟨id, base, l⟩ (.slice A5 l.length c5)).toArray 77)) := (Keep.refl _ w5).alloc _
        obtain ⟨q1, q2⟩ := HMD.out.prom (p := ⟨id, base, l⟩) h0 h1 hk5 hsv hal ho6 hk6 hn6
        have hg6 : w6.heap[g]? = some (RObj s (.slice AP s.P.length cP) (.slice AC s.C.length cC)) := hk6.heap (hal.heap (hk5.heap HMD.out.obj _root_.id) _root_.id) (fun e => (HMD.out.bP g e.symm).2.1 rfl)
        exact ⟨⟨q1.mono (fun k q => q.imp _root_.id (fun q => ⟨by have := K1.out.size; have h9 : w1.drew.heap.size = w1.heap.size := rfl; have := q.1; omega, q.2⟩)), ((K1.out.trans kd (fun _ _ f => f)).mono (fun _ _ f => f.elim)).trans q2 (fun _ _ q => q)⟩, cell_at hg6 2 (.slice AP s.P.length cP) rfl, free_at hg6 2⟩
      have HST := hid hst
      have HOW := hid (show ∀ w5, Keep (fun _ => False) w1.drew w5 → w5.ownsRow 0 77 3 (.slice AP m cP) m csP from fun w5 hk => by rw [HMN.out]; exact hk.owns HMD.out.ownP (fun _ _ => _root_.id))
      have HC2 := hid (show ∀ w5, Keep (fun _ => False) w1.drew w5 → w5.cell? ⟨g, 2, none⟩ = some (.slice AP m cP) from fun w5 hk => hk.cell (a := ⟨g, 2, none⟩) (w := w1.drew) c2 _root_.id)
      have EG := hid (enters_of Try.func55 (by kernel_rfl) rfl)
      clear hm1 hbq hb HROW hmd hcop hc1 hst hmm kd
      go_wp2_with fail
      go_region_law (first
        | (refine step_call1 (f := 55) (v := .slice Av n cv) (R := fun u w' => ∃ A c, u = .slice A n c ∧ OwnV w1.drew w' A n c l ∧ Keep (fun _ => False) w1.drew w') (by rfl) (by rfl) EG.out (by rfl) HC1.out ?_; rintro u5 w5 ⟨A5, c5, rfl, ho5, hk5⟩; have d5 := HC2.out _ hk5; have d5a := fun o => ((Keep.refl (fun _ => False) w5).alloc o).cell d5 _root_.id)
        | (refine step_app (v := .slice AP m cP) (by rfl) (by rfl) T_Pm (by rfl) (ownsAlloc (HOW.out _ hk5) _) (by rfl) (row_n w5 (promCs ⟨id, base, l⟩ (.slice A5 n c5)) _) (by simp [promCs, Value.oneCell']) (by omega) (by omega) ?_; intro A6 c6 w6 ho6 hk6 hn6; obtain ⟨hfin, q6, f6⟩ := HST.out _ _ _ _ _ _ ho5 hk5 ho6 hk6 hn6))
      all_goals
        go_wp2_with fail
        go_ret
        refine ⟨by rw [HBB.out]; rfl, ?_, hfin.2⟩
        rw [rpromS, HBB.out]
        exact hfin.1
    · have hb : rpromB s id = false := hbq
      have HBB := hid hb
      have HM1 := hid hm1
      clear hm1 hbq hb HROW
      go_wp2_with fail
      go_ret
      refine ⟨by rw [HBB.out]; rfl, ?_, K1.out.mono (fun _ _ f => f.elim)⟩
      rw [rpromS, HBB.out]
      exact ⟨AP, AC, cP, cC, csP, csC, HM1.out.mono (fun _ => .inl)⟩
end
end Go.Proofs.Ythlgnilgjeebaaa

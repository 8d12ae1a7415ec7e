/- wapentakelaw17.LedgerPlays: the walk. -/
import Derived.Test.YtiomeoihekifeaaLedPlaysP
import Derived.Test.YtiomeoihekifeaaLedCuts
import Derived.Deep.RegionHeld3
namespace Go.Proofs.Ytiomeoihekifeaa
open Go.RowKit
section
variable {F : Nat → Prop} {w w' : World} {g : Nat} {s : LS}
theorem newneg_calls (next : Int) (hn : next < 0) :
    Calls Try.prog 12 #[.int .i64 next] w fun e w' => e = .returned (.pointer (some ⟨w.heap.size + 1, 0, none⟩)) ∧ LedAt (NewIn w w') w' (w.heap.size + 1) ⟨0, 0, []⟩ ∧ Keep (fun _ => False) w w' := by
  have hmm := @run_makeMap Try.prog
  have hmax : max next 0 = 0 := by omega
  go_enter Try.func12, Try.ntmps12
  go_wp2_with fail
  go_ret
  refine ⟨rfl, ⟨w.heap.size, ?_, ?_, ⟨by omega, by simp⟩, ⟨by omega, by simp; omega⟩, by omega⟩, ((Keep.refl _ w).alloc _).alloc _⟩
  · have := heap_alloc_new (w.alloc (.map #[] 0)) (LedObj ⟨0, 0, []⟩ w.heap.size)
    simpa only [World.size_alloc] using this
  · exact (MapI.new _ w).keep ((Keep.refl (fun _ => False) _).alloc _) id (fun a v h => ReqE.keep ((Keep.refl (fun _ => False) _).alloc _) (fun _ _ => id) a v h)
theorem rnewneg_calls (next : Int) (hn : next < 0) :
    Calls Try.prog 23 #[.int .i64 next] w fun e w' => e = .returned (.pointer (some ⟨w.heap.size, 0, none⟩)) ∧ RAt (NewIn w w') w' w.heap.size ⟨0, 0, []⟩ ∧ Keep (fun _ => False) w w' := by
  have hmax : max next 0 = 0 := by omega
  go_enter Try.func23, Try.ntmps23
  go_wp2_with fail
  go_ret
  exact ⟨rfl, ⟨_, heap_alloc_new w _, ⟨none, 0, rfl, Nat.le_refl _, Nat.zero_le _, .inl rfl⟩, ⟨by omega, by simp⟩, by simp⟩, (Keep.refl _ w).alloc _⟩
theorem newAny_calls (next : Int) : Calls Try.prog 12 #[.int .i64 next] w fun e w' => ∃ g, e = .returned (.pointer (some ⟨g, 0, none⟩)) ∧ LedAt (NewIn w w') w' g ⟨max next 0, max next 0, []⟩ ∧ Keep (fun _ => False) w w' := by
  by_cases h : 0 ≤ next
  · rw [show max next 0 = next by omega]
    exact (new_calls next h).mono fun _ _ ⟨h1, h2, h3⟩ => ⟨_, h1, h2, h3⟩
  · rw [show max next 0 = 0 by omega]
    exact (newneg_calls next (by omega)).mono fun _ _ ⟨h1, h2, h3⟩ => ⟨_, h1, h2, h3⟩
theorem rnewAny_calls (next : Int) : Calls Try.prog 23 #[.int .i64 next] w fun e w' => ∃ g, e = .returned (.pointer (some ⟨g, 0, none⟩)) ∧ RAt (NewIn w w') w' g ⟨max next 0, max next 0, []⟩ ∧ Keep (fun _ => False) w w' := by
  by_cases h : 0 ≤ next
  · rw [show max next 0 = next by omega]
    exact (rnew_calls next h).mono fun _ _ ⟨h1, h2, h3⟩ => ⟨_, h1, h2, h3⟩
  · rw [show max next 0 = 0 by omega]
    exact (rnewneg_calls next (by omega)).mono fun _ _ ⟨h1, h2, h3⟩ => ⟨_, h1, h2, h3⟩
end
/-- The ledger and the model lie apart, and apart from E. -/
def TwoL (B : Nat) (w : World) (g m : Nat) (s t : LS) (E : Nat → Prop) : Prop :=
  ∃ F G, LedAt F w g s ∧ RAt G w m t ∧ (∀ k, F k → B ≤ k ∧ k < w.heap.size ∧ ¬ G k ∧ ¬ E k) ∧ ∀ k, G k → B ≤ k ∧ k < w.heap.size ∧ ¬ E k
section
variable {B g m : Nat} {w w' : World} {s t s' t' : LS} {E E' : Nat → Prop} {F G : Nat → Prop}
theorem TwoL.keepF (h : TwoL B w g m s t E) (hk : Keep (fun _ => False) w w') : TwoL B w' g m s t E := by
  obtain ⟨F, G, h1, h2, h3, h4⟩ := h
  have hs := hk.size
  exact ⟨F, G, h1.keep hk (fun _ _ => id), h2.keep hk (fun _ _ => id), fun k q => by have := h3 k q; exact ⟨this.1, by omega, this.2.2⟩, fun k q => by have := h4 k q; exact ⟨this.1, by omega, this.2.2⟩⟩
theorem TwoL.withE (h : TwoL B w g m s t E) (hk : Keep (fun _ => False) w w') (hE : ∀ q, E' q → w.heap.size ≤ q) : TwoL B w' g m s t E' := by
  obtain ⟨F, G, h1, h2, h3, h4⟩ := h
  have hs := hk.size
  exact ⟨F, G, h1.keep hk (fun _ _ => id), h2.keep hk (fun _ _ => id), fun k q => by have := h3 k q; exact ⟨this.1, by omega, this.2.2.1, fun e => by have := hE k e; omega⟩, fun k q => by have := h4 k q; exact ⟨this.1, by omega, fun e => by have := hE k e; omega⟩⟩
theorem TwoL.noE (h : TwoL B w g m s t E) : TwoL B w g m s t (fun _ => False) := by
  obtain ⟨F, G, h1, h2, h3, h4⟩ := h
  exact ⟨F, G, h1, h2, fun k q => ⟨(h3 k q).1, (h3 k q).2.1, (h3 k q).2.2.1, id⟩, fun k q => ⟨(h4 k q).1, (h4 k q).2.1, id⟩⟩
theorem TwoL.left (h1 : LedAt F w g s) (h2 : RAt G w m t) (h3 : ∀ k, F k → B ≤ k ∧ k < w.heap.size ∧ ¬ G k ∧ ¬ E k) (h4 : ∀ k, G k → B ≤ k ∧ k < w.heap.size ∧ ¬ E k) (hB : B ≤ w.heap.size) (hE : ∀ q, E q → q < w.heap.size)
    (hl : LedAt (Grow F w w') w' g s') (hk : Keep F w w') : TwoL B w' g m s' t E ∧ Keep (fun q => B ≤ q ∧ ¬ E q) w w' := by
  have hs := hk.size
  refine ⟨⟨_, G, hl, h2.keep hk (fun k q e => (h3 k e).2.2.1 q), ?_, fun k q => by have := h4 k q; exact ⟨this.1, by omega, this.2.2⟩⟩, hk.mono (fun k _ q => ⟨(h3 k q).1, (h3 k q).2.2.2⟩)⟩
  rintro k (q | ⟨a, b⟩)
  · have := h3 k q; exact ⟨this.1, by omega, this.2.2⟩
  · exact ⟨by omega, b, fun e => by have := h4 k e; omega, fun e => by have := hE k e; omega⟩
theorem TwoL.right (h1 : LedAt F w g s) (h2 : RAt G w m t) (h3 : ∀ k, F k → B ≤ k ∧ k < w.heap.size ∧ ¬ G k ∧ ¬ E k) (h4 : ∀ k, G k → B ≤ k ∧ k < w.heap.size ∧ ¬ E k) (hB : B ≤ w.heap.size) (hE : ∀ q, E q → q < w.heap.size)
    (hl : RAt (Grow G w w') w' m t') (hk : Keep (fun q => q = m) w w') : TwoL B w' g m s t' E ∧ Keep (fun q => B ≤ q ∧ ¬ E q) w w' := by
  have hs := hk.size
  have hm : G m := by obtain ⟨_, _, _, q, _⟩ := h2; exact q
  refine ⟨⟨F, _, h1.keep hk (fun k q e => by subst e; exact (h3 _ q).2.2.1 hm), hl, ?_, ?_⟩, hk.mono (fun k _ q => by subst q; exact ⟨(h4 _ hm).1, (h4 _ hm).2.2⟩)⟩
  · intro k q
    have := h3 k q
    refine ⟨this.1, by omega, ?_, this.2.2.2⟩
    rintro (e | ⟨a, b⟩)
    · exact this.2.2.1 e
    · omega
  · rintro k (q | ⟨a, b⟩)
    · have := h4 k q; exact ⟨this.1, by omega, this.2.2⟩
    · exact ⟨by omega, b, fun e => by have := hE k e; omega⟩
theorem LedAt.grow (h : LedAt F w' g s) : LedAt (Grow F w w') w' g s := h.mono (fun _ => .inl)
theorem tl_learn {H : Nat → Prop} (h : TwoL B w g m s t E) (hB : B ≤ w.heap.size) (hE : ∀ q, E q → q < w.heap.size) {k : Int} (hk : okI k) {r : Req} {v : Value} (hv : Sl .change w H v r.changes) (hl : r.changes.length ≤ 4294967296) :
    Calls Try.prog 13 #[.pointer (some ⟨g, 0, none⟩), .int .i64 k, .agg (reqCs r v).toArray] w fun e w' => e = .returned (.int .i64 (learnS s k r).1) ∧ TwoL B w' g m (learnS s k r).2 t E ∧ Keep (fun q => B ≤ q ∧ ¬ E q) w w' := by
  obtain ⟨F, G, h1, h2, h3, h4⟩ := h
  refine (learn_calls h1 k hk.wf hv hl (fun k q => (h3 k q).2.1)).mono ?_
  rintro e w' ⟨he, hl', hkp⟩
  exact ⟨he, TwoL.left h1 h2 h3 h4 hB hE hl' hkp⟩
theorem tr_learn {H : Nat → Prop} (h : TwoL B w g m s t E) (hB : B ≤ w.heap.size) (hE : ∀ q, E q → q < w.heap.size) {k : Int} (hk : okI k) {r : Req} {v : Value} (hv : Sl .change w H v r.changes) (hr : r.Ok) (hl : r.changes.length ≤ 4294967296) (hs : t.l.length ≤ 100000) :
    Calls Try.prog 24 #[.pointer (some ⟨m, 0, none⟩), .int .i64 k, .agg (reqCs r v).toArray] w fun e w' => e = .returned (.int .i64 (rlearnS t k r).1) ∧ TwoL B w' g m s (rlearnS t k r).2 E ∧ Keep (fun q => B ≤ q ∧ ¬ E q) w w' := by
  obtain ⟨F, G, h1, h2, h3, h4⟩ := h
  refine (rlearn_calls h2 (fun k q => (h4 k q).2.1) k hk hv hr hl hs).mono ?_
  rintro e w' ⟨he, hl', hkp⟩
  exact ⟨he, TwoL.right h1 h2 h3 h4 hB hE hl' hkp⟩
theorem tl_step (h : TwoL B w g m s t E) (hB : B ≤ w.heap.size) (hE : ∀ q, E q → q < w.heap.size) (h0 : (Lit.int .i64 s.next).wf = true) (h0' : (Lit.int .i64 (s.next + 1)).wf = true) :
    Calls Try.prog 17 #[.pointer (some ⟨g, 0, none⟩)] w fun e w' => e = .returned (.bool (look s.l s.next).isSome) ∧ TwoL B w' g m (stepS s) t E ∧ Keep (fun q => B ≤ q ∧ ¬ E q) w w' := by
  obtain ⟨F, G, h1, h2, h3, h4⟩ := h
  refine (step_calls h1 h0 h0').mono ?_
  rintro e w' ⟨he, hl', hkp⟩
  have hg : F g := by obtain ⟨_, _, _, q, _⟩ := h1; exact q
  exact ⟨he, TwoL.left h1 h2 h3 h4 hB hE hl'.grow (hkp.mono (fun b _ e => by subst e; exact hg))⟩
theorem tr_step (h : TwoL B w g m s t E) (hB : B ≤ w.heap.size) (hE : ∀ q, E q → q < w.heap.size) (h0 : 0 ≤ t.next) (h1' : t.next < 1099511627776) :
    Calls Try.prog 25 #[.pointer (some ⟨m, 0, none⟩)] w fun e w' => e = .returned (.bool (look t.l t.next).isSome) ∧ TwoL B w' g m s (stepS t) E ∧ Keep (fun q => B ≤ q ∧ ¬ E q) w w' := by
  obtain ⟨F, G, h1, h2, h3, h4⟩ := h
  refine (rstep_calls h2 h0 h1').mono ?_
  rintro e w' ⟨he, hl', hkp⟩
  exact ⟨he, TwoL.right h1 h2 h3 h4 hB hE (hl'.mono (fun _ => .inl)) hkp⟩
theorem tl_cut (h : TwoL B w g m s t E) (hB : B ≤ w.heap.size) (hE : ∀ q, E q → q < w.heap.size) (slot : Int) :
    Calls Try.prog 19 #[.pointer (some ⟨g, 0, none⟩), .int .i64 slot] w fun e w' => e = .returned (.tuple #[]) ∧ TwoL B w' g m (cutS s slot) t E ∧ Keep (fun q => B ≤ q ∧ ¬ E q) w w' := by
  obtain ⟨F, G, h1, h2, h3, h4⟩ := h
  refine (cut_calls h1 (fun k q => (h3 k q).2.1) slot).mono ?_
  rintro e w' ⟨he, hl', hkp⟩
  exact ⟨he, TwoL.left h1 h2 h3 h4 hB hE hl'.grow hkp⟩
theorem tr_cut (h : TwoL B w g m s t E) (hB : B ≤ w.heap.size) (hE : ∀ q, E q → q < w.heap.size) (slot : Int) (hs : t.l.length ≤ 100000) :
    Calls Try.prog 26 #[.pointer (some ⟨m, 0, none⟩), .int .i64 slot] w fun e w' => e = .returned (.tuple #[]) ∧ TwoL B w' g m s (rcutS t slot) E ∧ Keep (fun q => B ≤ q ∧ ¬ E q) w w' := by
  obtain ⟨F, G, h1, h2, h3, h4⟩ := h
  refine (rcut_calls h2 (fun k q => (h4 k q).2.1) slot hs).mono ?_
  rintro e w' ⟨he, hl', hkp⟩
  exact ⟨he, TwoL.right h1 h2 h3 h4 hB hE hl' hkp⟩
theorem tl_jump (h : TwoL B w g m s t E) (hB : B ≤ w.heap.size) (hE : ∀ q, E q → q < w.heap.size) (slot : Int) :
    Calls Try.prog 27 #[.pointer (some ⟨g, 0, none⟩), .int .i64 slot] w fun e w' => e = .returned (.tuple #[]) ∧ TwoL B w' g m (jumpS s slot) t E ∧ Keep (fun q => B ≤ q ∧ ¬ E q) w w' := by
  obtain ⟨F, G, h1, h2, h3, h4⟩ := h
  refine (jump_calls h1 (fun k q => (h3 k q).2.1) slot).mono ?_
  rintro e w' ⟨he, hl', hkp⟩
  exact ⟨he, TwoL.left h1 h2 h3 h4 hB hE hl'.grow hkp⟩
theorem tr_jump (h : TwoL B w g m s t E) (hB : B ≤ w.heap.size) (hE : ∀ q, E q → q < w.heap.size) (slot : Int) (hs : t.l.length ≤ 100000) :
    Calls Try.prog 28 #[.pointer (some ⟨m, 0, none⟩), .int .i64 slot] w fun e w' => e = .returned (.tuple #[]) ∧ TwoL B w' g m s (jumpS t slot) E ∧ Keep (fun q => B ≤ q ∧ ¬ E q) w w' := by
  obtain ⟨F, G, h1, h2, h3, h4⟩ := h
  refine (rjump_calls h2 (fun k q => (h4 k q).2.1) slot hs).mono ?_
  rintro e w' ⟨he, hl', hkp⟩
  exact ⟨he, TwoL.right h1 h2 h3 h4 hB hE hl' hkp⟩
theorem tl_get (h : TwoL B w g m s t E) {k : Int} (hk : okI k) : Calls Try.prog 29 #[.pointer (some ⟨g, 0, none⟩), .int .i64 k] w (GetPost w s k) := by
  obtain ⟨F, G, h1, _⟩ := h
  exact get_calls h1 k hk.wf
theorem tr_get (h : TwoL B w g m s t E) (k : Int) : Calls Try.prog 30 #[.pointer (some ⟨m, 0, none⟩), .int .i64 k] w (GetPost w t k) := by
  obtain ⟨F, G, _, h1, _⟩ := h
  exact rget_calls h1 k
theorem tl_ready (h : TwoL B w g m s t E) (hk : (Lit.int .i64 s.next).wf = true) : Calls Try.prog 16 #[.pointer (some ⟨g, 0, none⟩)] w (GetPost w s s.next) := by
  obtain ⟨F, G, h1, _⟩ := h
  exact ready'_calls h1 hk
theorem TwoL.cells (h : TwoL B w g m s t E) : w.cell? ⟨m, 0, none⟩ = some (.int .i64 t.next) ∧ w.cell? ⟨m, 1, none⟩ = some (.int .i64 t.base) := by
  obtain ⟨F, G, _, ⟨v, h1, _⟩, _⟩ := h
  exact ⟨cell_at h1 0 _ rfl, cell_at h1 1 _ rfl⟩
end
theorem ldeed_cells2 {w : World} {F : Nat → Prop} {d : LDeed} {cs : List Value} (h : Rep.ldeed.cells w F d cs) : ∃ v, cs = .int .i64 d.do_ :: .int .i64 d.slot :: reqCs d.v v ∧ okI d.do_ ∧ okI d.slot ∧ Sl .change w F v d.v.changes ∧ d.v.Ok := by
  obtain ⟨a, b, rfl, ⟨h1, h2⟩, c, e, rfl, ⟨h3, h4⟩, h5⟩ := h
  have h1 : a = [.int .i64 d.do_] := h1
  have h3 : c = [.int .i64 d.slot] := h3
  subst h1 h3
  obtain ⟨v, rfl, h6, h7⟩ := req_cells h5
  exact ⟨v, rfl, h2, h4, h6, h7⟩
/-- Behind the deed. -/
def AfterP (B : Nat) (w0 : World) (g m gd : Nat) (s t : LS) (v9 : Value) (wx : World) : Prop := v9 = .bool true ∧ TwoL B wx g m s t (fun q => q = gd) ∧ Keep (fun q => B ≤ q ∧ ¬ q = gd) w0 wx
end Go.Proofs.Ytiomeoihekifeaa

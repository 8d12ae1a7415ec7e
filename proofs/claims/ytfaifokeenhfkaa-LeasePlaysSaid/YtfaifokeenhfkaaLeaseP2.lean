/- wapentakelaw18.LeasePlays: the lease and the reference's side by side, and the deed in its cell. -/
import Derived.Test.YtfaifokeenhfkaaLeaseP
import Derived.Test.YtfaifokeenhfkaaLeaseB
import Derived.Test.YtfaifokeenhfkaaRef15H
namespace Go.Proofs.Ytfaifokeenhfkaa
open Go.RowKit
theorem mostB_congr {M I J : List Int} (h : ∀ x, x ∈ I ↔ x ∈ J) : mostB M I = mostB M J := by
  have : (fun x => I.contains x) = (fun x => J.contains x) := by
    funext x
    rw [Bool.eq_iff_iff]
    simp [h]
  rw [mostB, mostB, cntM, cntM, this]
theorem MapI.nodupK {α : Type} {E : World → α → Value → Prop} {w : World} {b : Nat} {l : List (Int × α)} (h : MapI E w b l) : (l.map Prod.fst).Nodup := h.nodup
theorem LeAt.nodup {F : Nat → Prop} {w : World} {g : Nat} {s : LeS} (h : LeAt F w g s) : (s.given.map Prod.fst).Nodup := by
  obtain ⟨m, _, h2, _⟩ := h; exact h2.nodup
theorem LeAt.inF {F : Nat → Prop} {w : World} {g : Nat} {s : LeS} (h : LeAt F w g s) : F g := by
  obtain ⟨m, _, _, h, _⟩ := h; exact h
theorem RefAt.inF {F : Nat → Prop} {w : World} {g : Nat} {s : LeS} (h : RefAt F w g s) : F g := by
  obtain ⟨m, _, _, h, _⟩ := h; exact h
/-- The lease x, the reference's lease m, and a cell's block d: apart from one another, all of them above B. -/
def TwoL (B : Nat) (w : World) (x : Nat) (s1 : LeS) (m : Nat) (s2 : LeS) (D : Nat → Prop) : Prop :=
  ∃ F1 F2 : Nat → Prop, LeAt F1 w x s1 ∧ RefAt F2 w m s2 ∧ (∀ k, F1 k → ¬ F2 k) ∧ (∀ k, F1 k → B ≤ k ∧ k < w.heap.size) ∧ (∀ k, F2 k → B ≤ k ∧ k < w.heap.size) ∧ (∀ k, D k → ¬ F1 k ∧ ¬ F2 k) ∧ (∀ k, D k → k < w.heap.size)
/-- Only blocks above B, and none of D, have changed. -/
def Out (B : Nat) (D : Nat → Prop) : Nat → Prop := fun k => B ≤ k ∧ ¬ D k
section
variable {B x m : Nat} {w w' : World} {s1 s2 : LeS} {D : Nat → Prop}
theorem TwoL.keepF (h : TwoL B w x s1 m s2 D) (hk : Keep (fun _ => False) w w') : TwoL B w' x s1 m s2 D := by
  obtain ⟨F1, F2, h1, h2, h3, h4, h5, h6, h7⟩ := h
  have hs := hk.size
  exact ⟨F1, F2, h1.keep hk (fun _ _ => id), h2.keep hk (fun _ _ => id), h3, fun k hk => ⟨(h4 k hk).1, by have := (h4 k hk).2; omega⟩, fun k hk => ⟨(h5 k hk).1, by have := (h5 k hk).2; omega⟩, h6, fun k hk => by have := h7 k hk; omega⟩
/-- A new block stands apart. -/
theorem TwoL.withNew {D' : Nat → Prop} (h : TwoL B w x s1 m s2 D) (hk : Keep (fun _ => False) w w') (hD : ∀ k, D' k → w.heap.size ≤ k ∧ k < w'.heap.size) : TwoL B w' x s1 m s2 D' := by
  obtain ⟨F1, F2, h1, h2, h3, h4, h5, h6, h7⟩ := h
  have hs := hk.size
  exact ⟨F1, F2, h1.keep hk (fun _ _ => id), h2.keep hk (fun _ _ => id), h3, fun k hk => ⟨(h4 k hk).1, by have := (h4 k hk).2; omega⟩, fun k hk => ⟨(h5 k hk).1, by have := (h5 k hk).2; omega⟩, fun k hk => ⟨fun q => by have := (h4 k q).2; have := (hD k hk).1; omega, fun q => by have := (h5 k q).2; have := (hD k hk).1; omega⟩, fun k hk => (hD k hk).2⟩
/-- The cell's block is stored into. -/
theorem TwoL.keepD (h : TwoL B w x s1 m s2 D) (hk : Keep D w w') : TwoL B w' x s1 m s2 D := by
  obtain ⟨F1, F2, h1, h2, h3, h4, h5, h6, h7⟩ := h
  have hs := hk.size
  exact ⟨F1, F2, h1.keep hk (fun k a b => (h6 k b).1 a), h2.keep hk (fun k a b => (h6 k b).2 a), h3, fun k hk => ⟨(h4 k hk).1, by have := (h4 k hk).2; omega⟩, fun k hk => ⟨(h5 k hk).1, by have := (h5 k hk).2; omega⟩, h6, fun k hk => by have := h7 k hk; omega⟩
theorem TwoL.give (h : TwoL B w x s1 m s2 D) (id t : Int) (hid : okI id) : Calls Try.prog 11 #[.pointer (some ⟨x, 0, none⟩), .int .i64 id, .int .i64 t] w fun e w' => e = .returned (.bool (giveB s1 id t)) ∧ TwoL B w' x (giveS s1 id t) m s2 D ∧ Keep (Out B D) w w' := by
  obtain ⟨F1, F2, h1, h2, h3, h4, h5, h6, h7⟩ := h
  refine (give_calls h1 id t hid).mono ?_
  rintro e w' ⟨he, hl, hk⟩
  have hs := hk.size
  exact ⟨he, ⟨F1, F2, hl, h2.keep hk (fun k a b => h3 k b a), h3, fun k hk => ⟨(h4 k hk).1, by have := (h4 k hk).2; omega⟩, fun k hk => ⟨(h5 k hk).1, by have := (h5 k hk).2; omega⟩, h6, fun k hk => by have := h7 k hk; omega⟩, hk.mono (fun k _ q => ⟨(h4 k q).1, fun d => (h6 k d).1 q⟩)⟩
theorem TwoL.rgive (h : TwoL B w x s1 m s2 D) (id t : Int) : Calls Try.prog 19 #[.pointer (some ⟨m, 0, none⟩), .int .i64 id, .int .i64 t] w fun e w' => e = .returned (.bool (giveB s2 id t)) ∧ TwoL B w' x s1 m (giveS s2 id t) D ∧ Keep (Out B D) w w' := by
  obtain ⟨F1, F2, h1, h2, h3, h4, h5, h6, h7⟩ := h
  refine (rgive_calls h2 id t).mono ?_
  rintro e w' ⟨he, hl, hk⟩
  have hs := hk.size
  exact ⟨he, ⟨F1, F2, h1.keep hk h3, hl, h3, fun k hk => ⟨(h4 k hk).1, by have := (h4 k hk).2; omega⟩, fun k hk => ⟨(h5 k hk).1, by have := (h5 k hk).2; omega⟩, h6, fun k hk => by have := h7 k hk; omega⟩, hk.mono (fun k _ q => ⟨(h5 k q).1, fun d => (h6 k d).2 q⟩)⟩
theorem TwoL.bind (h : TwoL B w x s1 m s2 D) (b now : Int) : Calls Try.prog 10 #[.pointer (some ⟨x, 0, none⟩), .int .i64 b, .int .i64 now] w fun e w' => e = .returned (.tuple #[]) ∧ TwoL B w' x (bindS s1 b now) m s2 D ∧ Keep (Out B D) w w' := by
  obtain ⟨F1, F2, h1, h2, h3, h4, h5, h6, h7⟩ := h
  have hx := h1.inF
  refine (bind_calls h1 b now).mono ?_
  rintro e w' ⟨he, hl, hk⟩
  have hs := hk.size
  exact ⟨he, ⟨F1, F2, hl, h2.keep hk (fun k a b => h3 k (by rw [b]; exact hx) a), h3, fun k hk => ⟨(h4 k hk).1, by have := (h4 k hk).2; omega⟩, fun k hk => ⟨(h5 k hk).1, by have := (h5 k hk).2; omega⟩, h6, fun k hk => by have := h7 k hk; omega⟩, hk.mono (fun k _ q => ⟨by rw [q]; exact (h4 x hx).1, fun d => (h6 k d).1 (by rw [q]; exact hx)⟩)⟩
theorem TwoL.rbind (h : TwoL B w x s1 m s2 D) (b now : Int) : Calls Try.prog 20 #[.pointer (some ⟨m, 0, none⟩), .int .i64 b, .int .i64 now] w fun e w' => e = .returned (.tuple #[]) ∧ TwoL B w' x s1 m (bindS s2 b now) D ∧ Keep (Out B D) w w' := by
  obtain ⟨F1, F2, h1, h2, h3, h4, h5, h6, h7⟩ := h
  have hx := h2.inF
  refine (rbind_calls h2 b now).mono ?_
  rintro e w' ⟨he, hl, hk⟩
  have hs := hk.size
  exact ⟨he, ⟨F1, F2, h1.keep hk (fun k a b => h3 k a (by rw [b]; exact hx)), hl, h3, fun k hk => ⟨(h4 k hk).1, by have := (h4 k hk).2; omega⟩, fun k hk => ⟨(h5 k hk).1, by have := (h5 k hk).2; omega⟩, h6, fun k hk => by have := h7 k hk; omega⟩, hk.mono (fun k _ q => ⟨by rw [q]; exact (h5 m hx).1, fun d => (h6 k d).2 (by rw [q]; exact hx)⟩)⟩
theorem TwoL.drop (hB : B ≤ w.heap.size) (h : TwoL B w x s1 m s2 D) : Calls Try.prog 21 #[.pointer (some ⟨x, 0, none⟩)] w fun e w' => e = .returned (.tuple #[]) ∧ TwoL B w' x (dropS s1) m s2 D ∧ Keep (Out B D) w w' := by
  obtain ⟨F1, F2, h1, h2, h3, h4, h5, h6, h7⟩ := h
  have hx := h1.inF
  refine (drop_calls h1).mono ?_
  rintro e w' ⟨he, hl, hk⟩
  have hs := hk.size
  refine ⟨he, ⟨Grow F1 w w', F2, hl, h2.keep hk (fun k a b => h3 k (by rw [b]; exact hx) a), Grow.apart h3 (fun k hk => (h5 k hk).2), ?_, fun k hk => ⟨(h5 k hk).1, by have := (h5 k hk).2; omega⟩, fun k hk => ⟨fun q => q.elim (h6 k hk).1 (fun q => by have := h7 k hk; have := q.1; omega), (h6 k hk).2⟩, fun k hk => by have := h7 k hk; omega⟩, hk.mono (fun k _ q => ⟨by rw [q]; exact (h4 x hx).1, fun d => (h6 k d).1 (by rw [q]; exact hx)⟩)⟩
  rintro k (hk | ⟨q1, q2⟩)
  · exact ⟨(h4 k hk).1, by have := (h4 k hk).2; omega⟩
  · exact ⟨by omega, q2⟩
theorem TwoL.rdrop (hB : B ≤ w.heap.size) (h : TwoL B w x s1 m s2 D) : Calls Try.prog 22 #[.pointer (some ⟨m, 0, none⟩)] w fun e w' => e = .returned (.tuple #[]) ∧ TwoL B w' x s1 m (dropS s2) D ∧ Keep (Out B D) w w' := by
  obtain ⟨F1, F2, h1, h2, h3, h4, h5, h6, h7⟩ := h
  have hx := h2.inF
  have hok := h2.ok
  have hh : ∃ v, w.heap[m]? = some (R15Obj s2 v) ∧ F2 m := by obtain ⟨v, q, _, q3, _⟩ := h2; exact ⟨v, q, q3⟩
  refine (rdrop_calls hh hok).mono ?_
  rintro e w' ⟨he, hl, hk⟩
  have hs := hk.size
  refine ⟨he, ⟨F1, Grow F2 w w', h1.keep hk (fun k a b => h3 k a (by rw [b]; exact hx)), hl, fun k a b => b.elim (h3 k a) (fun q => by have := (h4 k a).2; have := q.1; omega), fun k hk => ⟨(h4 k hk).1, by have := (h4 k hk).2; omega⟩, ?_, fun k hk => ⟨(h6 k hk).1, fun q => q.elim (h6 k hk).2 (fun q => by have := h7 k hk; have := q.1; omega)⟩, fun k hk => by have := h7 k hk; omega⟩, hk.mono (fun k _ q => ⟨by rw [q]; exact (h5 m hx).1, fun d => (h6 k d).2 (by rw [q]; exact hx)⟩)⟩
  rintro k (hk | ⟨q1, q2⟩)
  · exact ⟨(h5 k hk).1, by have := (h5 k hk).2; omega⟩
  · exact ⟨by omega, q2⟩
/-- Which answers the lease gives, whatever has been made since. -/
def hB (s : LeS) (M : List Int) (now : Int) : Bool := mostB M (freshIds s now)
theorem TwoL.reads {s : LeS} (h : TwoL B w x s m s D) {G : Nat → Prop} {vm : Value} {M : List Int} (hM : Row G w vm M.length 1 (M.map I64)) (hl : M.length ≤ 1000000) :
    (∀ w', Keep (fun _ => False) w w' → Calls Try.prog 24 #[.pointer (some ⟨x, 0, none⟩)] w' fun e w'' => e = .returned (.int .i64 (shortP s)) ∧ Keep (fun _ => False) w w'') ∧
    (∀ w', Keep (fun _ => False) w w' → Calls Try.prog 25 #[.pointer (some ⟨m, 0, none⟩)] w' fun e w'' => e = .returned (.int .i64 (shortP s)) ∧ Keep (fun _ => False) w w'') ∧
    (∀ w', Keep (fun _ => False) w w' → Calls Try.prog 17 #[.pointer (some ⟨x, 0, none⟩)] w' fun e w'' => e = .returned (.int .i64 s.till) ∧ Keep (fun _ => False) w w'') ∧
    (∀ w' now, Keep (fun _ => False) w w' → okI now → Calls Try.prog 12 #[.pointer (some ⟨x, 0, none⟩), .int .i64 now, vm] w' fun e w'' => e = .returned (.bool (hB s M now)) ∧ Keep (fun _ => False) w w'') ∧
    (∀ w' now, Keep (fun _ => False) w w' → okI now → Calls Try.prog 26 #[.pointer (some ⟨m, 0, none⟩), .int .i64 now, vm] w' fun e w'' => e = .returned (.bool (hB s M now)) ∧ Keep (fun _ => False) w w'') ∧
    (∀ w' b now, Keep (fun _ => False) w w' → Calls Try.prog 13 #[.pointer (some ⟨x, 0, none⟩), .int .i64 b, .int .i64 now] w' fun e w'' => e = .returned (.bool (freeB s b now)) ∧ Keep (fun _ => False) w w'') ∧
    (∀ w' b now, Keep (fun _ => False) w w' → Calls Try.prog 27 #[.pointer (some ⟨m, 0, none⟩), .int .i64 b, .int .i64 now] w' fun e w'' => e = .returned (.bool (freeB s b now)) ∧ Keep (fun _ => False) w w'') := by
  obtain ⟨F1, F2, h1, h2, h3, h4, h5, h6, h7⟩ := h
  refine ⟨fun w' hk => ?_, fun w' hk => ?_, fun w' hk => ?_, fun w' now hk hn => ?_, fun w' now hk hn => ?_, fun w' b now hk => ?_, fun w' b now hk => ?_⟩
  · refine (short_calls (h1.keep hk (fun _ _ => id))).mono ?_
    rintro e w'' ⟨he, n, rfl⟩
    exact ⟨he, hk.drewN n⟩
  · refine (rshort_calls (h2.keep hk (fun _ _ => id))).mono ?_
    rintro e w'' ⟨he, n, rfl⟩
    exact ⟨he, hk.drewN n⟩
  · refine (until_calls (h1.keep hk (fun _ _ => id))).mono ?_
    rintro e w'' ⟨he, rfl⟩
    exact ⟨he, hk⟩
  · refine (holds_any (h1.keep hk (fun _ _ => id)) hn (hM.keep hk (fun _ _ => id)) hl).mono ?_
    rintro e w'' ⟨he, hk2⟩
    exact ⟨he, hk.trans hk2 (fun _ _ h => h)⟩
  · refine (rholds_calls (h2.keep hk (fun _ _ => id)) hn (hM.keep hk (fun _ _ => id)) hl).mono ?_
    rintro e w'' ⟨he, hk2⟩
    rw [mostB_congr (fun y => refIds_fresh h1.ok h1.nodup now y)] at he
    exact ⟨he, hk.trans hk2 (fun _ _ h => h)⟩
  · refine (free_calls (h1.keep hk (fun _ _ => id)) b now).mono ?_
    rintro e w'' ⟨he, rfl⟩
    exact ⟨he, hk⟩
  · refine (rfree_calls (h2.keep hk (fun _ _ => id)) b now).mono ?_
    rintro e w'' ⟨he, rfl⟩
    exact ⟨he, hk⟩
theorem TwoL.given (h : TwoL B w x s1 m s2 D) (id : Int) (hid : okI id) : Calls Try.prog 23 #[.pointer (some ⟨x, 0, none⟩), .int .i64 id] w fun e w' => e = .returned (.tuple #[.int .i64 ((look s1.given id).getD 0), .bool (look s1.given id).isSome]) ∧ w = w' := by
  obtain ⟨F1, F2, h1, _⟩ := h
  exact given_calls h1 id hid
/-- The cells that are read. -/
theorem TwoL.cells (h : TwoL B w x s1 m s2 D) : ∃ b cap, ∀ w', Keep (fun _ => False) w w' → w'.cell? ⟨m, 3, none⟩ = some (.slice (some ⟨b, 0, none⟩) 15 cap) ∧ w'.cell? ⟨m, 6, none⟩ = some (.int .i64 s2.till) ∧ ∀ i : Nat, i < 15 → w'.cell? ⟨b, i, none⟩ = some (.int .i64 ((look s2.given (i : Int)).getD (-1))) := by
  obtain ⟨F1, F2, h1, h2, h3, h4, h5, h6⟩ := h
  obtain ⟨v, hg, hown, _⟩ := h2
  obtain ⟨b, cap, rfl, hcell, hfr⟩ := own_shape hown (by decide)
  refine ⟨b, cap, fun w' hk => ⟨hk.cell (cell_at hg 3 _ rfl) id, hk.cell (cell_at hg 6 _ rfl) id, fun i hi => hk.cell (hcell i _ ?_) id⟩⟩
  rw [List.getElem?_map, gList_at s2 hi]; rfl
theorem TwoL.okS (h : TwoL B w x s1 m s2 D) : s1.Ok := by
  obtain ⟨F1, F2, h1, _⟩ := h
  exact h1.ok
end
theorem okI_wrap (x : Int) : okI (IntKind.i64.wrap x) := by
  rw [IntKind.wrap_i64]
  exact ⟨by omega, by omega⟩
theorem okI_wrap64 (x : Int) : okI (wrap64 x) := by
  unfold wrap64
  exact ⟨by omega, by omega⟩
end Go.Proofs.Ytfaifokeenhfkaa

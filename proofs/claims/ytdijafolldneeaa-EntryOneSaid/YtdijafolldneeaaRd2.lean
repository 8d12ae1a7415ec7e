/- The walks of codec's reader: the methods. -/
import Derived.Test.YtdijafolldneeaaRd
import Derived.Test.YtdijafolldneeaaStr
namespace Go.Proofs.Ytdijafolldneeaa
open Go.RowKit

section
variable {F : Nat → Prop} {w w' : World} {g b : Nat} {s : RS} {v0 : Value}
/-- What a method of the reader comes to. -/
def RdPost (F : Nat → Prop) (w : World) (g : Nat) (s' : RS) (val : Value → World → Prop) (e : Ending) (w' : World) : Prop :=
  ∃ v, e = .returned v ∧ val v w' ∧ RdAt F w' g s' ∧ Keep (fun k => k = g) w w'

/-- The two variables that a method lays. -/
abbrev mW (w : World) (g : Nat) (z : Value) (t : TypeId) : World := (w.alloc (.cells #[.pointer (some ⟨g, 0, none⟩)] 52)).alloc (.cells #[z] t)
theorem mW_a (w : World) (g : Nat) (z : Value) (t : TypeId) : Box (mW w g z t) w.heap.size (.pointer (some ⟨g, 0, none⟩)) := ⟨_, heap_alloc (heap_alloc_new w _) _⟩
theorem mW_o (w : World) (g : Nat) (z : Value) (t : TypeId) : Box (mW w g z t) (w.heap.size + 1) z :=
  ⟨t, by have := heap_alloc_new (w.alloc (.cells #[.pointer (some ⟨g, 0, none⟩)] 52)) (.cells #[z] t); simpa using this⟩
theorem mW_keep (w : World) (g : Nat) (z : Value) (t : TypeId) (S : Nat → Prop) : Keep S w (mW w g z t) := ((Keep.refl S w).alloc _).alloc _
theorem rds_keep (w : World) (g : Nat) (S : Nat → Prop) : Keep S w (rdsW w g) := ((Keep.refl S w).alloc _).alloc _

theorem RdAt.zero (h : RdAt F w g s) (hf : s.f = 0) : RdAt F w g ⟨s.b, 0⟩ := by
  obtain ⟨b, f⟩ := s
  obtain rfl : f = 0 := hf
  exact h
theorem num_f (s : RS) (hf : s.f ≠ 0) : rNum s = (0, s) := if_pos hf

/-- Behind reads: the three ways. -/
theorem reads_ways {α : Type} {o : Nat} {val : α → Value → World → Prop} {r : Int ⊕ (α × List UInt8)} {e : Ending} {zero : α} {z : Value} {W : World}
    (h : RdAt F W g s) (hF : ∀ k, F k → k < W.heap.size) (ho : Box W o z) (hog : o ≠ g) (hp : ReadsPost F W g o s val r e w') :
    (∃ v, e = .returned (.bool false) ∧ Box w' o v ∧ (rDo s zero r).1 = zero ∧ RdAt F w' g (rDo s zero r).2 ∧ Keep (fun k => k = g ∨ k = o) W w') ∨
    (∃ x v l w2, e = .returned (.bool true) ∧ rDo s zero r = (x, ⟨l, 0⟩) ∧ r = .inr (x, l) ∧ s.f = 0 ∧ ClPost F (rdsW W g) g o val r (.returned (.tuple #[])) w2 ∧ val x v w2 ∧ w' = w2.setCell ⟨W.heap.size + 1, 0, none⟩ (.bool true) ∧ Box w' o v ∧
      RdAt F w' g ⟨l, 0⟩ ∧ Keep (fun k => k = g ∨ k = o) W w') := by
  have hol := ho.lt
  have hgl : g < W.heap.size := by obtain ⟨v, hg, _⟩ := h; exact lt_heap hg
  rcases hp with ⟨hf, rfl, rfl⟩ | ⟨hf, e2, w2, hcl, hr⟩
  · left
    have hr : rDo s zero r = (zero, s) := if_pos hf
    rw [hr]
    exact ⟨z, rfl, ho.keep (rds_keep W g (fun _ => False)) id, rfl, h.keep (rds_keep W g (fun _ => False)) (fun _ _ => id), rds_keep W g _⟩
  · have hcl0 := hcl
    obtain ⟨hk2, v, hob, hc⟩ := hcl
    have hkW : Keep (fun k => k = g ∨ k = o) W w2 := (rds_keep W g _).trans hk2 (fun _ _ q => q)
    rcases r with er | ⟨x, l⟩
    · left
      have hrd : rDo s zero (.inl er : Int ⊕ (α × List UInt8)) = (zero, ⟨[], er⟩) := by simp [rDo, hf]
      obtain ⟨rfl, w3, hr3, hk3, rfl⟩ := hr
      rw [hrd]
      refine ⟨v, rfl, ?_, rfl, hr3.set (fun hF' => by have := hF _ hF'; omega) _, ?_⟩
      · exact (hob.keep hk3 hog).keep (S := fun k => k = W.heap.size + 1) ((Keep.refl _ _).setCell _ _ (fun _ => rfl)) (by omega)
      · exact (hkW.trans hk3 (fun _ _ q => .inl q)).setCell _ _ (fun q => by have q : W.heap.size + 1 < W.heap.size := q; omega)
    · right
      have hrd : rDo s zero (.inr (x, l) : Int ⊕ (α × List UInt8)) = (x, ⟨l, 0⟩) := by simp [rDo, hf]
      obtain ⟨rfl, rfl⟩ := hr
      obtain ⟨rfl, hval, hr2⟩ := hc
      refine ⟨x, v, l, w2, rfl, hrd, rfl, hf, hcl0, hval, rfl, ?_, hr2.set (fun hF' => by have := hF _ hF'; omega) _, ?_⟩
      · exact hob.keep (S := fun k => k = W.heap.size + 1) ((Keep.refl _ _).setCell _ _ (fun _ => rfl)) (by omega)
      · exact hkW.setCell _ _ (fun q => by have q : W.heap.size + 1 < W.heap.size := q; omega)

theorem RdAt.lt (h : RdAt F w g s) : g < w.heap.size := by obtain ⟨v, hg, _⟩ := h; exact lt_heap hg
theorem keep_out {o : Nat} {W w' : World} (h0 : Keep (fun k => k = g) w W) (ho : w.heap.size ≤ o) (h : Keep (fun k => k = g ∨ k = o) W w') : Keep (fun k => k = g) w w' :=
  h0.trans h (fun b hb q => q.elim id (fun q => by omega))

set_option maxHeartbeats 400000 in
theorem rnum_calls (h : RdAt F w g s) (hF : ∀ k, F k → k < w.heap.size) :
    Calls Try.prog 43 #[.pointer (some ⟨g, 0, none⟩)] w (RdPost F w g (rNum s).2 (fun v _ => v = .int .i64 (rNum s).1)) := by
  have hmf : ∀ (fn : Fn) (first cap : Array Value) (w : World), (Instr.makeFunc fn first cap).run Try.prog w = .ok (.func fn first cap) w := fun _ _ _ _ => rfl
  have hW := h.keep (mW_keep w g (.int .i64 0) 3 (fun _ => False)) (fun _ _ => id)
  have hgl := h.lt
  have hFW : ∀ k, F k → k < (mW w g (.int .i64 0) 3).heap.size := fun k hk => by have := hF k hk; simp; omega
  have hoF : ¬ F (w.heap.size + 1) := fun q => by have := hF _ q; omega
  go_enter Try.func43, Try.ntmps43
  go_wp2_with fail
  refine (reads_calls hW 68 _ (w.heap.size + 1) (fun (n : Nat) v _ => v = .int .i64 n) (decNum s.b) (by simp) (fun w => by kernel_rfl) (fun hf => ?_)).mono ?_
  · refine num1_calls ?_ ((mW_a w g _ _).keep (rds_keep _ g (fun _ => False)) id) ((mW_o w g _ _).keep (rds_keep _ g (fun _ => False)) id) hoF (by omega)
    exact (hW.keep (rds_keep _ g (fun _ => False)) (fun _ _ => id)).zero hf
  intro e w1 hp
  rcases reads_ways (zero := 0) hW hFW (mW_o w g _ _) (by omega) hp with ⟨v, rfl, hb, h1, h2, h3⟩ | ⟨x, v, l, w2, rfl, h1, h2, h3, h4, h5, h6, h7, h8, h9⟩
  · have c1 := hb.cell
    have f1 := hb.free
    have c2 := (hb.set (.int .i64 0)).cell
    clear hp
    go_wp2
    refine bodyPost_ret (v := .int .i64 0) (by simp [results, Try.results43, go_sem, c2]) rfl ⟨_, rfl, ?_, h2.set hoF _, ?_⟩
    · rw [rNum, h1]; rfl
    · exact (keep_out (mW_keep w g _ _ _) (by omega) h3).setCell _ _ (fun q => by have q : w.heap.size + 1 < w.heap.size := q; omega)
  · have c1 := h7.cell
    have f1 := h7.free
    have c2 := (h7.set (.int .i64 x)).cell
    clear h6 hp
    have H1 := hid h1
    have H2 := hid h2
    clear h1 h2 h4 h3
    go_wp2
    refine bodyPost_ret (v := .int .i64 x) (by simp [results, Try.results43, go_sem, c2]) rfl ⟨_, rfl, ?_, ?_, ?_⟩
    · rw [rNum, H1.out]
    · rw [rNum, H1.out]; exact h8.set hoF _
    · exact (keep_out (mW_keep w g _ _ _) (by omega) h9).setCell _ _ (fun q => by have q : w.heap.size + 1 < w.heap.size := q; omega)

set_option maxHeartbeats 400000 in
theorem rword_calls (h : RdAt F w g s) (hF : ∀ k, F k → k < w.heap.size) :
    Calls Try.prog 103 #[.pointer (some ⟨g, 0, none⟩)] w (RdPost F w g (rWord s).2 (fun v _ => v = .int .u64 (rWord s).1)) := by
  have hmf : ∀ (fn : Fn) (first cap : Array Value) (w : World), (Instr.makeFunc fn first cap).run Try.prog w = .ok (.func fn first cap) w := fun _ _ _ _ => rfl
  have hW := h.keep (mW_keep w g (.int .u64 0) 40 (fun _ => False)) (fun _ _ => id)
  have hgl := h.lt
  have hFW : ∀ k, F k → k < (mW w g (.int .u64 0) 40).heap.size := fun k hk => by have := hF k hk; simp; omega
  have hoF : ¬ F (w.heap.size + 1) := fun q => by have := hF _ q; omega
  go_enter Try.func103, Try.ntmps103
  go_wp2_with fail
  refine (reads_calls hW 108 _ (w.heap.size + 1) (fun (n : Nat) v _ => v = .int .u64 n) (decWord s.b) (by simp) (fun w => by kernel_rfl) (fun hf => ?_)).mono ?_
  · refine word1_calls ?_ ((mW_a w g _ _).keep (rds_keep _ g (fun _ => False)) id) ((mW_o w g _ _).keep (rds_keep _ g (fun _ => False)) id) hoF (by omega)
    exact (hW.keep (rds_keep _ g (fun _ => False)) (fun _ _ => id)).zero hf
  intro e w1 hp
  rcases reads_ways (zero := 0) hW hFW (mW_o w g _ _) (by omega) hp with ⟨v, rfl, hb, h1, h2, h3⟩ | ⟨x, v, l, w2, rfl, h1, h2, h3, h4, h5, h6, h7, h8, h9⟩
  · have c1 := hb.cell
    have f1 := hb.free
    have c2 := (hb.set (.int .u64 0)).cell
    clear hp
    go_wp2
    refine bodyPost_ret (v := .int .u64 0) (by simp [results, Try.results103, go_sem, c2]) rfl ⟨_, rfl, ?_, h2.set hoF _, ?_⟩
    · rw [rWord, h1]; rfl
    · exact (keep_out (mW_keep w g _ _ _) (by omega) h3).setCell _ _ (fun q => by have q : w.heap.size + 1 < w.heap.size := q; omega)
  · have c1 := h7.cell
    have f1 := h7.free
    have c2 := (h7.set (.int .u64 x)).cell
    clear h6 hp
    have H1 := hid h1
    have H2 := hid h2
    clear h1 h2 h4 h3
    go_wp2
    refine bodyPost_ret (v := .int .u64 x) (by simp [results, Try.results103, go_sem, c2]) rfl ⟨_, rfl, ?_, ?_, ?_⟩
    · rw [rWord, H1.out]
    · rw [rWord, H1.out]; exact h8.set hoF _
    · exact (keep_out (mW_keep w g _ _ _) (by omega) h9).setCell _ _ (fun q => by have q : w.heap.size + 1 < w.heap.size := q; omega)

set_option maxHeartbeats 400000 in
theorem rflag_calls (h : RdAt F w g s) (hF : ∀ k, F k → k < w.heap.size) :
    Calls Try.prog 102 #[.pointer (some ⟨g, 0, none⟩)] w (RdPost F w g (rFlag s).2 (fun v _ => v = .bool (rFlag s).1)) := by
  have hmf : ∀ (fn : Fn) (first cap : Array Value) (w : World), (Instr.makeFunc fn first cap).run Try.prog w = .ok (.func fn first cap) w := fun _ _ _ _ => rfl
  have hW := h.keep (mW_keep w g (.bool false) 4 (fun _ => False)) (fun _ _ => id)
  have hgl := h.lt
  have hFW : ∀ k, F k → k < (mW w g (.bool false) 4).heap.size := fun k hk => by have := hF k hk; simp; omega
  have hoF : ¬ F (w.heap.size + 1) := fun q => by have := hF _ q; omega
  go_enter Try.func102, Try.ntmps102
  go_wp2_with fail
  refine (reads_calls hW 107 _ (w.heap.size + 1) (fun (b : Bool) v _ => v = .bool b) (decFlag s.b) (by simp) (fun w => by kernel_rfl) (fun hf => ?_)).mono ?_
  · refine flag1_calls ?_ ((mW_a w g _ _).keep (rds_keep _ g (fun _ => False)) id) ((mW_o w g _ _).keep (rds_keep _ g (fun _ => False)) id) hoF (by omega)
    exact (hW.keep (rds_keep _ g (fun _ => False)) (fun _ _ => id)).zero hf
  intro e w1 hp
  rcases reads_ways (zero := false) hW hFW (mW_o w g _ _) (by omega) hp with ⟨v, rfl, hb, h1, h2, h3⟩ | ⟨x, v, l, w2, rfl, h1, h2, h3, h4, h5, h6, h7, h8, h9⟩
  · have c1 := hb.cell
    have f1 := hb.free
    have c2 := (hb.set (.bool false)).cell
    clear hp
    go_wp2
    refine bodyPost_ret (v := .bool false) (by simp [results, Try.results102, go_sem, c2]) rfl ⟨_, rfl, ?_, h2.set hoF _, ?_⟩
    · rw [rFlag, h1]
    · exact (keep_out (mW_keep w g _ _ _) (by omega) h3).setCell _ _ (fun q => by have q : w.heap.size + 1 < w.heap.size := q; omega)
  · have c1 := h7.cell
    have f1 := h7.free
    have c2 := (h7.set (.bool x)).cell
    clear h6 hp
    have H1 := hid h1
    have H2 := hid h2
    clear h1 h2 h4 h3
    subst h5
    go_wp2
    refine bodyPost_ret (v := .bool x) (by simp [results, Try.results102, go_sem, c2]) rfl ⟨_, rfl, ?_, ?_, ?_⟩
    · rw [rFlag, H1.out]
    · rw [rFlag, H1.out]; exact h8.set hoF _
    · exact (keep_out (mW_keep w g _ _ _) (by omega) h9).setCell _ _ (fun q => by have q : w.heap.size + 1 < w.heap.size := q; omega)

/-- The three variables that Bytes lays. -/
abbrev bW (w : World) (g : Nat) (most : Int) : World := ((w.alloc (.cells #[.pointer (some ⟨g, 0, none⟩)] 52)).alloc (.cells #[.int .i64 most] 3)).alloc (.cells #[.slice none 0 0] 23)
theorem bW_a (w : World) (g : Nat) (m : Int) : Box (bW w g m) w.heap.size (.pointer (some ⟨g, 0, none⟩)) := ⟨_, heap_alloc (heap_alloc (heap_alloc_new w _) _) _⟩
theorem bW_m (w : World) (g : Nat) (m : Int) : Box (bW w g m) (w.heap.size + 1) (.int .i64 m) :=
  ⟨3, heap_alloc (by have := heap_alloc_new (w.alloc (.cells #[.pointer (some ⟨g, 0, none⟩)] 52)) (.cells #[.int .i64 m] 3); simpa using this) _⟩
theorem bW_o (w : World) (g : Nat) (m : Int) : Box (bW w g m) (w.heap.size + 2) (.slice none 0 0) :=
  ⟨23, by have := heap_alloc_new ((w.alloc (.cells #[.pointer (some ⟨g, 0, none⟩)] 52)).alloc (.cells #[.int .i64 m] 3)) (.cells #[.slice none 0 0] 23); simpa using this⟩
theorem bW_keep (w : World) (g : Nat) (m : Int) (S : Nat → Prop) : Keep S w (bW w g m) := (((Keep.refl S w).alloc _).alloc _).alloc _

/-- Bytes of the call's own. -/
def OwnBytes (w w' : World) (v : Value) (l : List UInt8) : Prop := w'.ownsRow 0 5 1 v l.length (l.map U8) ∧ ∀ k, v.ownBlock = some k → NewIn w w' k

theorem rBytes_len (s : RS) (most : Int) : (rBytes s most).1.length ≤ s.b.length := by
  unfold rBytes rDo
  split
  · simp
  · split
    · simp
    · rename_i x l h
      exact decBytes_len h

set_option maxHeartbeats 400000 in
theorem rbytes_calls (h : RdAt F w g s) (hF : ∀ k, F k → k < w.heap.size) (most : Int) (hl : s.b.length ≤ 140737488355328) :
    Calls Try.prog 101 #[.pointer (some ⟨g, 0, none⟩), .int .i64 most] w (RdPost F w g (rBytes s most).2 (fun v w' => OwnBytes w w' v (rBytes s most).1)) := by
  have hmf : ∀ (fn : Fn) (first cap : Array Value) (w : World), (Instr.makeFunc fn first cap).run Try.prog w = .ok (.func fn first cap) w := fun _ _ _ _ => rfl
  have hW := h.keep (bW_keep w g most (fun _ => False)) (fun _ _ => id)
  have hgl := h.lt
  have hFW : ∀ k, F k → k < (bW w g most).heap.size := fun k hk => by have := hF k hk; simp; omega
  have hoF : ¬ F (w.heap.size + 2) := fun q => by have := hF _ q; omega
  go_enter Try.func101, Try.ntmps101
  go_wp2_with fail
  refine (reads_calls hW 105 _ (w.heap.size + 2) (fun (x : List UInt8) v w' => w'.ownsRow 0 5 1 v x.length (x.map U8) ∧ ∀ k, v.ownBlock = some k → NewIn (rdsW (bW w g most) g) w' k) (decBytes most s.b) (by simp) (fun w => by kernel_rfl) (fun hf => ?_)).mono ?_
  · refine bytes1_calls ?_ ((bW_a w g _).keep (rds_keep _ g (fun _ => False)) id) ((bW_m w g _).keep (rds_keep _ g (fun _ => False)) id) ((bW_o w g _).keep (rds_keep _ g (fun _ => False)) id) hoF (by omega) hl
    exact (hW.keep (rds_keep _ g (fun _ => False)) (fun _ _ => id)).zero hf
  intro e w1 hp
  rcases reads_ways (zero := []) hW hFW (bW_o w g _) (by omega) hp with ⟨v, rfl, hb, h1, h2, h3⟩ | ⟨x, v, l, w2, rfl, h1, h2, h3, h4, h5, h6, h7, h8, h9⟩
  · have c1 := hb.cell
    have f1 := hb.free
    have c2 := (hb.set (.slice none 0 0)).cell
    have H1 := hid h1
    clear hp h1
    go_wp2
    refine bodyPost_ret (v := .slice none 0 0) (by simp [results, Try.results101, go_sem, c2]) rfl ⟨_, rfl, ?_, h2.set hoF _, ?_⟩
    · rw [rBytes, H1.out]
      exact ⟨World.ownsRow_nil _ _ _ _, fun k hk => by simp [Value.ownBlock] at hk⟩
    · exact (keep_out (bW_keep w g _ _) (by omega) h3).setCell _ _ (fun q => by have q : w.heap.size + 2 < w.heap.size := q; omega)
  · obtain ⟨ho2, hn2⟩ := h5
    obtain ⟨A, c, rfl⟩ := own_slice ho2
    have c1 := h7.cell
    have f1 := h7.free
    have c2 := (h7.set (.slice A x.length c)).cell
    have H1 := hid h1
    have H2 := hid h2
    have H6 := hid h6
    clear h1 h2 h4 h3 h6 hp
    go_wp2
    have hs2 : w1.heap.size = w2.heap.size := by rw [H6.out]; simp
    have hbnd : ∀ k, (Value.slice A x.length c).ownBlock = some k → w.heap.size + 5 ≤ k ∧ k < w2.heap.size := fun k hk => by
      have := hn2 k hk
      simp only [NewIn, World.size_alloc] at this
      omega
    have ho1 : w1.ownsRow 0 5 1 (.slice A x.length c) x.length (x.map U8) := by
      rw [H6.out]
      exact ownsRow_setCell_other ho2 (fun e => by have := (hbnd _ e).1; simp only [World.size_alloc] at this; omega) _
    refine bodyPost_ret (v := .slice A x.length c) (by simp [results, Try.results101, go_sem, c2]) rfl ⟨_, rfl, ?_, ?_, ?_⟩
    · rw [rBytes, H1.out]
      refine ⟨ownsRow_setCell_other ho1 (fun e => by have := hbnd _ e; simp at this; omega) _, fun k hk => ?_⟩
      have := hbnd k hk
      exact ⟨by omega, by simp; omega⟩
    · rw [rBytes, H1.out]; exact h8.set hoF _
    · exact (keep_out (bW_keep w g _ _) (by omega) h9).setCell _ _ (fun q => by have q : w.heap.size + 2 < w.heap.size := q; omega)

theorem rtext_calls (h : RdAt F w g s) (hF : ∀ k, F k → k < w.heap.size) (most : Int) (hl : s.b.length ≤ 140737488355328) :
    Calls Try.prog 95 #[.pointer (some ⟨g, 0, none⟩), .int .i64 most] w (RdPost F w g (rBytes s most).2 (fun v _ => v = .string ⟨(rBytes s most).1.toArray⟩)) := by
  go_enter Try.func95, Try.ntmps95
  go_wp2_with fail
  refine (rbytes_calls h hF most hl).mono ?_
  rintro e w1 ⟨v, rfl, ⟨ho, hn⟩, hr, hk⟩
  have hcv := run_str_of (P := Try.prog) (Row.ofOwn ho) 23 5 9 Try.underlying23 Try.underlying5 Try.underlying9
  go_wp2
  go_ret
  exact ⟨_, rfl, rfl, hr, hk⟩

theorem left_calls (h : RdAt F w g s) :
    Calls Try.prog 46 #[.pointer (some ⟨g, 0, none⟩)] w fun e w' => e = .returned (.int .i64 s.b.length) ∧ w = w' := by
  obtain ⟨v, hg, ⟨A, c, rfl, _⟩, hF⟩ := h
  have c1 := cell_at hg 1 (.slice A s.b.length c) rfl
  clear hg
  go_enter Try.func46, Try.ntmps46
  go_wp2
  go_ret
  exact ⟨rfl, rfl⟩
theorem fail_calls (h : RdAt F w g s) :
    Calls Try.prog 45 #[.pointer (some ⟨g, 0, none⟩)] w fun e w' => e = .returned (.int .i64 s.f) ∧ w = w' := by
  obtain ⟨v, hg, _, hF⟩ := h
  have c0 := cell_at hg 0 (.bool true) rfl
  have c1 := cell_at hg 2 (.int .i64 s.f) rfl
  clear hg
  go_enter Try.func45, Try.ntmps45
  go_wp2
  go_ret
  exact ⟨rfl, rfl⟩
theorem end_calls (h : RdAt F w g s) :
    Calls Try.prog 27 #[.pointer (some ⟨g, 0, none⟩)] w fun e w' => e = .returned (.int .i64 (rEnd s)) ∧ w = w' := by
  go_enter Try.func27, Try.ntmps27
  go_wp2_with fail
  refine (fail_calls h).mono ?_
  rintro e w' ⟨rfl, rfl⟩
  by_cases hf : s.f = 0
  · have hb : (s.f != 0) = false := by simp [hf]
    have HE := hid (show rEnd s = if 0 < s.b.length then 3 else 0 by simp [rEnd, hf])
    clear hf
    go_wp2_with fail
    refine (left_calls h).mono ?_
    rintro e w' ⟨rfl, rfl⟩
    by_cases hl : 0 < s.b.length
    · have HL := hid hl
      have hd : decide (0 < s.b.length) = true := decide_eq_true hl
      go_wp2
      all_goals
        go_ret
        rw [HE.out, if_pos HL.out]
        exact ⟨rfl, rfl⟩
    · have HL := hid hl
      have hd : decide (0 < s.b.length) = false := decide_eq_false hl
      go_wp2
      all_goals
        go_ret
        rw [HE.out, if_neg HL.out]
        exact ⟨rfl, rfl⟩
  · have hb : (s.f != 0) = true := by simpa using hf
    have HE := hid (show rEnd s = s.f by simp [rEnd, hf])
    go_wp2
    go_ret
    rw [HE.out]
    exact ⟨rfl, rfl⟩
theorem rrefuse_calls (h : RdAt F w g s) :
    Calls Try.prog 97 #[.pointer (some ⟨g, 0, none⟩)] w (RdPost F w g (rStop s 4) (fun v _ => v = .tuple #[])) := by
  go_enter Try.func97, Try.ntmps97
  go_wp2_with fail
  by_cases hf : s.f = 0
  · refine (give_calls (h.zero hf) 4).mono ?_
    rintro e w1 ⟨rfl, hr, hk⟩
    go_wp2
    go_end0
    refine ⟨_, rfl, rfl, ?_, hk⟩
    rw [show rStop s 4 = ⟨[], 4⟩ by simp [rStop, hf]]
    exact hr
  · refine (give_idle h hf 4).mono ?_
    rintro e w1 ⟨rfl, rfl⟩
    go_wp2
    go_end0
    refine ⟨_, rfl, rfl, ?_, Keep.refl _ _⟩
    rw [show rStop s 4 = s by simp [rStop, hf]]
    exact h
/-- A new reader. -/
theorem newReader_calls {G : Nat → Prop} {v : Value} {l : List UInt8} (hv : Row G w v l.length 1 (l.map U8)) (hl : l.length ≤ 140737488355328) :
    Calls Try.prog 25 #[v] w fun e w' => ∃ g, e = .returned (.pointer (some ⟨g, 0, none⟩)) ∧ RdAt (NewIn w w') w' g ⟨l, 0⟩ ∧ Keep (fun _ => False) w w' := by
  go_enter Try.func25, Try.ntmps25
  go_wp2_with (at_builtin; refine stopHere ?_)
  refine goOn (wpl_app (v := .slice none 0 0) rfl rfl Try.bytesT' rfl (World.ownsRow_nil w 0 _ 1) rfl hv (by simp [U8, Value.oneCell']) (by omega) (by omega) ?_)
  intro A c w1 ho1 hk1 hn1
  go_wp2
  go_ret
  have hb : ∀ k, (Value.slice A (0 + l.length) c).ownBlock = some k → w.heap.size ≤ k ∧ k < w1.heap.size := fun k hk => ⟨(hn1 k hk).elim (fun q => by simp [Value.ownBlock] at q) id, own_lt' ho1 k hk⟩
  have hk0 : Keep (fun _ => False) w w1 := hk1.mono (fun b _ q => by simp [Value.ownBlock] at q)
  have hs1 := hk0.size
  refine ⟨w1.heap.size, rfl, ⟨_, heap_alloc_new w1 _, ?_, ⟨by omega, by simp⟩⟩, hk0.alloc _⟩
  have hrow := (Row.ofOwn (ho1.alloc (.cells #[.bool true, .slice A l.length c, .int .i64 0] 82))).mono (G := fun k => NewIn w (w1.alloc (.cells #[.bool true, .slice A l.length c, .int .i64 0] 82)) k ∧ k ≠ w1.heap.size) (fun k hk => by
    have := hb k hk.symm
    exact ⟨⟨this.1, by simp; omega⟩, by omega⟩)
  simpa using hrow
end
end Go.Proofs.Ytdijafolldneeaa

/- The walks of the reference's writer. -/
import Derived.Test.YtdijafolldneeaaWr
import Derived.Test.YtdijafolldneeaaRd
import Derived.Test.YtdijafolldneeaaRef1
namespace Go.Proofs.Ytdijafolldneeaa
open Go.RowKit

/-- The reference's writer's struct at block g. -/
abbrev MwObj (v : Value) (f : Int) : Obj := .cells #[v, .int .i64 f] 61 (0, 0)
def MwAt (F : Nat → Prop) (w : World) (g : Nat) (s : WS) : Prop :=
  ∃ v, w.heap[g]? = some (MwObj v s.f) ∧ w.ownsRow 0 5 1 v s.b.length (s.b.map U8) ∧ F g ∧ ∀ k, v.ownBlock = some k → F k ∧ k ≠ g
theorem MwAt.keep {F S : Nat → Prop} {w w' : World} {g : Nat} {s : WS} (h : MwAt F w g s) (hk : Keep S w w') (hd : ∀ k, F k → ¬ S k) : MwAt F w' g s := by
  obtain ⟨v, h1, h2, h3, h4⟩ := h
  exact ⟨v, hk.heap h1 (hd g h3), hk.owns h2 (fun k hv => hd k (h4 k hv).1), h3, h4⟩
theorem MwAt.mono {F G : Nat → Prop} {w : World} {g : Nat} {s : WS} (h : MwAt F w g s) (hFG : ∀ k, F k → G k) : MwAt G w g s := by
  obtain ⟨v, h1, h2, h3, h4⟩ := h
  exact ⟨v, h1, h2, hFG _ h3, fun k hv => ⟨hFG _ (h4 k hv).1, (h4 k hv).2⟩⟩
def MwPost (F : Nat → Prop) (w : World) (g : Nat) (s : WS) (e : Ending) (w' : World) : Prop :=
  e = .returned (.tuple #[]) ∧ MwAt (Grow F w w') w' g s ∧ Keep F w w'
theorem mw_stored {F : Nat → Prop} {w w0 w1 : World} {g : Nat} {v v' : Value} {n : Nat} {cs : List Value} {l' : List UInt8} (hF : F g) (hk : Hid (∀ k, v.ownBlock = some k → F k ∧ k ≠ g))
    (hg : w0.heap[g]? = some (MwObj v 0)) (h0 : Keep F w w0) (ho1 : w1.ownsRow 0 5 1 v' n cs) (hk1 : Keep (fun k => some k = v.ownBlock) w0 w1) (hn1 : SameOrNew w0 v v')
    (hcs : cs = l'.map U8) : MwPost F w g ⟨l', 0⟩ (.returned (.tuple #[])) (w1.setCell ⟨g, 0, none⟩ v') := by
  have hk := hk.out
  have hn : n = l'.length := by have := ho1.1; rw [hcs] at this; simpa using this.symm
  subst hn
  subst hcs
  have hg1 : w1.heap[g]? = some (MwObj v 0) := hk1.heap hg (fun e => ((hk g e.symm).2 rfl))
  have hv' : ∀ k, v'.ownBlock = some k → k ≠ g := by
    intro k hv e
    subst e
    rcases hn1 _ hv with h | h
    · exact (hk _ h).2 rfl
    · have := lt_heap hg; omega
  refine ⟨rfl, ⟨v', ?_, ?_, .inl hF, ?_⟩, ?_⟩
  · rw [heap_set hg1]; rfl
  · exact ownsRow_setCell_other ho1 (fun e => hv' g e rfl) _
  · intro k hv
    refine ⟨?_, hv' k hv⟩
    rcases hn1 _ hv with h | h
    · exact .inl (hk k h).1
    · exact .inr ⟨Nat.le_trans h0.size h, by simpa using own_lt' ho1 k hv⟩
  · exact Keep.setCell (h0.trans hk1 (fun b _ hb => (hk b hb.symm).1)) _ _ (fun _ => hF)
theorem mw_cell {w0 w1 : World} {F : Nat → Prop} {g : Nat} {v : Value} (hk : Hid (∀ k, v.ownBlock = some k → F k ∧ k ≠ g)) (hg : w0.heap[g]? = some (MwObj v 0))
    (hk1 : Keep (fun k => some k = v.ownBlock) w0 w1) : w1.cell? ⟨g, 0, none⟩ = some v ∧ w1.frozen? ⟨g, 0, none⟩ = false := by
  have hg1 : w1.heap[g]? = some (MwObj v 0) := hk1.heap hg (fun e => ((hk.out g e.symm).2 rfl))
  exact ⟨cell_at hg1 0 v rfl, free_at hg1 0⟩
theorem MwPost.after {F : Nat → Prop} {w w1 w2 : World} {g : Nat} {s : WS} {e : Ending} (hk : Keep F w w1) (h : MwPost (Grow F w w1) w1 g s e w2) : MwPost F w g s e w2 :=
  ⟨h.1, h.2.1.mono (Grow.trans hk.size h.2.2.size), hk.then h.2.2⟩

section
variable {F : Nat → Prop} {w : World} {g : Nat} {s : WS}
theorem MwAt.same (h : MwAt F w g s) : MwAt (Grow F w w) w g s := by
  obtain ⟨v, h1, h2, h3, h4⟩ := h
  exact ⟨v, h1, h2, .inl h3, fun k hk => ⟨.inl (h4 k hk).1, (h4 k hk).2⟩⟩
theorem MwPost.failed (h : MwAt F w g s) {s' : WS} (hs : s' = s) : MwPost F w g s' (.returned (.tuple #[])) w := by
  subst hs
  exact ⟨rfl, h.same, Keep.refl _ _⟩
theorem mw_fails {l : List UInt8} (h : MwAt F w g ⟨l, 0⟩) (e : Int) : MwPost F w g ⟨l, e⟩ (.returned (.tuple #[])) (w.setCell ⟨g, 1, none⟩ (.int .i64 e)) := by
  obtain ⟨v, hg, ho, hF, hk⟩ := h
  refine ⟨rfl, ⟨v, ?_, ?_, .inl hF, fun k hv => ⟨.inl (hk k hv).1, (hk k hv).2⟩⟩, (Keep.refl F w).setCell _ _ (fun _ => hF)⟩
  · rw [heap_set hg]; rfl
  · exact ownsRow_setCell_other ho (fun e => (hk g e).2 rfl) _

theorem mrefuse_calls (h : MwAt F w g s) : Calls Try.prog 47 #[.pointer (some ⟨g, 0, none⟩)] w (MwPost F w g (wRefuse s)) := by
  have h0 := h
  obtain ⟨v, hg, ho, hF, hk⟩ := h
  have c1 := cell_at hg 1 (.int .i64 s.f) rfl
  have f1 := free_at hg 1
  by_cases hf : s.f = 0
  · obtain ⟨l, f⟩ := s
    obtain rfl : f = 0 := hf
    clear hg hk
    go_enter Try.func47, Try.ntmps47
    go_wp2
    go_end0
    rw [wRefuse_ok]
    exact mw_fails h0 1
  · have hb : (s.f == 0) = false := by simpa using hf
    clear hg hk
    go_enter Try.func47, Try.ntmps47
    go_wp2
    go_end0
    exact MwPost.failed h0 (if_pos hf)

set_option maxHeartbeats 400000 in
theorem mflag_calls (h : MwAt F w g s) (b : Bool) (hl : s.b.length ≤ 70368744177664) :
    Calls Try.prog 81 #[.pointer (some ⟨g, 0, none⟩), .bool b] w (MwPost F w g (wFlag s b)) := by
  have h0 := h
  obtain ⟨v, hg, ho, hF, hk⟩ := h
  have c2 := cell_at hg 1 (.int .i64 s.f) rfl
  by_cases hf : s.f = 0
  · obtain ⟨l, f⟩ := s
    obtain rfl : f = 0 := hf
    have HK := hid hk
    have HG := hid hg
    have c1 := cell_at hg 0 v rfl
    clear hk hg
    cases b
    all_goals
      go_enter Try.func81, Try.ntmps81
      go_wp2_with (at_builtin; refine stopHere ?_)
      refine goOn (wpl_app (v := v) rfl rfl Try.bytesT rfl (ownsAlloc ho _) rfl (Row.one w _ _) (by simp [Value.oneCell']) (by simp at hl ⊢; omega) (by simp at hl ⊢; omega) ?_)
      intro A c w1 ho1 hk1 hn1
      obtain ⟨d1, e1⟩ := mw_cell HK (heap_alloc HG.out _) hk1
      go_wp2
      go_end0
      rw [wFlag_ok]
      exact mw_stored hF HK (heap_alloc HG.out _) ((Keep.refl F w).alloc _) ho1 hk1 hn1 (by simp [U8])
  · have hb : (s.f != 0) = true := by simpa using hf
    clear hg hk
    go_enter Try.func81, Try.ntmps81
    go_wp2
    refine bodyPost_ret (results_none rfl _ _ _) rfl ?_
    exact MwPost.failed h0 (if_pos hf)

theorem or128_i64 {d : Nat} (hd : d < 128) : bits .or .i64 ((d : Nat) : Int) 128 = ((d + 128 : Nat) : Int) := by
  rw [or_comm', bits_join .i64 50 (by decide) wraps_i64 7 _ _ (by decide) (by decide) (by decide) (by omega) (by omega) (by omega)]
  omega
theorem low128 {d : Nat} (hd : d < 128) : Value.int .u8 ((d : Int) + 128) = U8 (UInt8.ofNat (d + 128)) := by
  unfold U8
  congr 1
  simp only [UInt8.toNat_ofNat']
  omega

def MNumLoop (F : Nat → Prop) (w wr : World) (g : Nat) (l : List UInt8) (n : Nat) (k : Nat) : Prop :=
  ∃ l', MwAt (Grow F w wr) wr g ⟨l ++ l', 0⟩ ∧ Keep F w wr ∧ l' ++ encNum k = encNum n ∧ k ≤ 1099511627776

set_option maxRecDepth 20000 in
set_option maxHeartbeats 400000 in
theorem mnum_ok (h : MwAt F w g ⟨s.b, 0⟩) (n : Nat) (hn : n ≤ 1099511627776) (hl : s.b.length ≤ 70368744177664) :
    Calls Try.prog 48 #[.pointer (some ⟨g, 0, none⟩), .int .i64 n] w (MwPost F w g ⟨s.b ++ encNum n, 0⟩) := by
  have hh := h.same
  have HL : MNumLoop F w w g s.b n n := ⟨[], by simpa using hh, Keep.refl _ _, by simp, hn⟩
  obtain ⟨v, hg, ho, hF, hk⟩ := h
  have hd : decide ((1099511627776 : Int) < n) = false := decide_eq_false (by omega)
  have h6 := encNum_small hn
  have c2 := cell_at hg 1 (.int .i64 0) rfl
  clear hg ho hk hh
  go_enter Try.func48, Try.ntmps48
  go_wp2_with fail
  go_loopw [1] (fun nv wr => ∃ k : Nat, nv = .int .i64 k ∧ MNumLoop F w wr g s.b n k) (fun nv _ => (intOf nv).toNat)
  case atStart => exact ⟨n, rfl, HL⟩
  case round =>
    obtain ⟨k, rfl, l', hw, hkp, he, hk6⟩ := hrel
    obtain ⟨v, hg, ho, hF', hk⟩ := hw
    have HK := hid hk
    have HG := hid hg
    have c1 := cell_at hg 0 v rfl
    have hlen : (s.b ++ l').length + 1 ≤ 140737488355328 := by
      have := congrArg List.length he
      simp only [List.length_append] at this ⊢
      omega
    have HE := hid he
    generalize (s.b ++ l').length = N at ho hlen
    clear hk hg he c2 hd
    by_cases h128 : k < 128
    · go_wp2_with (at_builtin; refine stopHere ?_)
      refine goOn (wpl_app (v := v) rfl rfl Try.bytesT rfl (ownsAlloc ho _) rfl (Row.one wr _ _) (by simp [Value.oneCell']) (by omega) (by omega) ?_)
      intro A c w1 ho1 hk1 hn1
      obtain ⟨d1, e1⟩ := mw_cell HK (heap_alloc HG.out _) hk1
      go_wp2
      go_end0
      refine MwPost.after hkp (mw_stored hF' HK (heap_alloc HG.out _) ((Keep.refl _ wr).alloc _) ho1 hk1 hn1 ?_)
      rw [← HE.out, encNum_lt h128, low7 h128]
      simp
    · obtain ⟨d, hd⟩ : ∃ d, d = k % 128 := ⟨_, rfl⟩
      have b1 := digit_and k
      have b2 := or128_i64 (d := k % 128) (by omega)
      have b3 := low128 (d := k % 128) (by omega)
      rw [← hd] at b1 b2 b3
      have B3 := hid b3
      have HD := hid hd
      have hdl : d < 128 := by omega
      clear b3 hd
      go_wp2_with (at_builtin; refine stopHere ?_)
      refine goOn (wpl_app (v := v) rfl rfl Try.bytesT rfl (ownsAlloc ho _) rfl (Row.one wr _ _) (by simp [Value.oneCell']) (by omega) (by omega) ?_)
      intro A c w1 ho1 hk1 hn1
      obtain ⟨d1, e1⟩ := mw_cell HK (heap_alloc HG.out _) hk1
      go_wp2
      refine ⟨⟨k / 128, by simp, l' ++ [UInt8.ofNat (k % 128 + 128)], ?_⟩, by simp [intOf]; omega⟩
      have fin := MwPost.after hkp (mw_stored hF' HK (heap_alloc HG.out _) ((Keep.refl _ wr).alloc _) ho1 hk1 hn1 (l' := s.b ++ (l' ++ [UInt8.ofNat (d + 128)])) (by
        rw [B3.out]
        simp))
      refine ⟨by rw [← HD.out]; exact fin.2.1, fin.2.2, ?_, by omega⟩
      rw [← HE.out, encNum_ge h128]
      simp

theorem mnum_calls (h : MwAt F w g s) (n : Int) (hl : s.b.length ≤ 70368744177664) :
    Calls Try.prog 48 #[.pointer (some ⟨g, 0, none⟩), .int .i64 n] w (MwPost F w g (wNum s n)) := by
  by_cases hf : s.f = 0
  · obtain ⟨l, f⟩ := s
    obtain rfl : f = 0 := hf
    by_cases hn : 0 ≤ n ∧ n ≤ 1099511627776
    · have e : wNum ⟨l, 0⟩ n = ⟨l ++ encNum n.toNat, 0⟩ := by simp [wNum, hn.1, hn.2]
      obtain ⟨k, rfl⟩ := Int.eq_ofNat_of_zero_le hn.1
      rw [e]
      exact mnum_ok (s := ⟨l, 0⟩) h k (by omega) hl
    · have e : wNum ⟨l, 0⟩ n = ⟨l, 1⟩ := by simp only [wNum, ne_eq, not_true_eq_false, if_false, if_neg hn]
      have h0 := h
      obtain ⟨v, hg, ho, hF, hk⟩ := h
      rw [e]
      have c2 := cell_at hg 1 (.int .i64 0) rfl
      have f2 := free_at hg 1
      clear hg hk
      by_cases h0n : 0 ≤ n
      · have d0 : decide (n < 0) = false := decide_eq_false (by omega)
        have d1 : decide (1099511627776 < n) = true := decide_eq_true (by omega)
        go_enter Try.func48, Try.ntmps48
        go_wp2
        refine bodyPost_ret (results_none rfl _ _ _) rfl ?_
        exact mw_fails h0 1
      · have d0 : decide (n < 0) = true := decide_eq_true (by omega)
        go_enter Try.func48, Try.ntmps48
        go_wp2
        refine bodyPost_ret (results_none rfl _ _ _) rfl ?_
        exact mw_fails h0 1
  · have h0 := h
    obtain ⟨v, hg, ho, hF, hk⟩ := h
    have c2 := cell_at hg 1 (.int .i64 s.f) rfl
    have hb : (s.f != 0) = true := by simpa using hf
    clear hg hk
    go_enter Try.func48, Try.ntmps48
    go_wp2
    refine bodyPost_ret (results_none rfl _ _ _) rfl ?_
    exact MwPost.failed h0 (if_pos hf)

def MWordLoop (F : Nat → Prop) (w wr : World) (g : Nat) (l : List UInt8) (x k : Nat) : Prop :=
  ∃ l', MwAt (Grow F w wr) wr g ⟨l ++ l', 0⟩ ∧ Keep F w wr ∧ l' ++ layBytes k x = layBytes 8 x ∧ l'.length + k = 8

set_option maxRecDepth 20000 in
set_option maxHeartbeats 400000 in
theorem mword_calls (h : MwAt F w g s) (x : Nat) (hl : s.b.length ≤ 70368744177664) :
    Calls Try.prog 82 #[.pointer (some ⟨g, 0, none⟩), .int .u64 x] w (MwPost F w g (wWord s x)) := by
  by_cases hf : s.f = 0
  · obtain ⟨l, f⟩ := s
    obtain rfl : f = 0 := hf
    have e : wWord ⟨l, 0⟩ x = ⟨l ++ layBytes 8 x, 0⟩ := by simp [wWord]
    rw [e]
    have hh := h.same
    have HL : MWordLoop F w w g l x 8 := ⟨[], by simpa using hh, Keep.refl _ _, by simp, rfl⟩
    clear h hh e
    go_enter Try.func82, Try.ntmps82
    go_wp2_with fail
    go_loopw [4] (fun i wr => ∃ k : Nat, k ≤ 8 ∧ i = .int .i64 ((k : Int) - 1) ∧ MWordLoop F w wr g l x k) (fun i _ => (intOf i + 1).toNat)
    case atStart => exact ⟨8, by omega, rfl, HL⟩
    case round =>
      obtain ⟨k, hk8, rfl, l', hw, hkp, he, hlk⟩ := hrel
      obtain ⟨v, hg, ho, hF', hk⟩ := hw
      have HE := hid he
      have HLK := hid hlk
      have HK := hid hk
      have HG := hid hg
      have c1 := cell_at hg 0 v rfl
      have c2 := cell_at hg 1 (.int .i64 0) rfl
      have hlen : (l ++ l').length + 1 ≤ 140737488355328 := by
        simp only [List.length_append] at hl ⊢
        omega
      generalize (l ++ l').length = N at ho hlen
      clear he HL hk hg hlk
      by_cases h0 : k = 0
      · subst h0
        go_wp2_with (at_builtin; refine stopHere ?_)
        go_end0
        have h80 : l' = layBytes 8 x := by have := HE.out; rwa [show layBytes 0 x = [] from rfl, List.append_nil] at this
        rw [← h80]
        exact ⟨rfl, ⟨v, HG.out, by have hN := ho.1; simp at hN; subst hN; simpa using ho, hF', HK.out⟩, hkp⟩
      · go_wp2_with (at_builtin; refine stopHere ?_)
        refine goOn (wpl_app (v := v) rfl rfl Try.bytesT rfl (ownsAlloc ho _) rfl (Row.one wr _ _) (by simp [Value.oneCell']) (by omega) (by omega) ?_)
        intro A c w1 ho1 hk1 hn1
        obtain ⟨d1, e1⟩ := mw_cell HK (heap_alloc HG.out _) hk1
        go_wp2
        have fin := MwPost.after hkp (mw_stored hF' HK (heap_alloc HG.out _) ((Keep.refl _ wr).alloc _) ho1 hk1 hn1 (l' := l ++ (l' ++ [UInt8.ofNat (x / 256 ^ (k - 1))])) (by rw [lay8]; simp))
        refine ⟨⟨k - 1, by omega, by congr 1; omega, _, fin.2.1, fin.2.2, ?_, ?_⟩, by simp [intOf]; omega⟩
        · rw [← HE.out, layBytes_pos h0]; simp
        · have := HLK.out; simp; omega
  · have h0 := h
    obtain ⟨v, hg, ho, hF, hk⟩ := h
    have c2 := cell_at hg 1 (.int .i64 s.f) rfl
    have hb : (s.f == 0) = false := by simpa using hf
    clear hg hk
    go_enter Try.func82, Try.ntmps82
    go_wp2_with fail
    refine wp_loop_rounds 1 ?_
    rw [rounds_succ]
    go_wp2
    go_end0
    exact MwPost.failed h0 (if_pos hf)

set_option maxHeartbeats 400000 in
theorem mtext_calls (h : MwAt F w g s) (t : ByteArray) (ht : t.size ≤ 140737488355328) (hl : s.b.length ≤ 35184372088832) :
    Calls Try.prog 49 #[.pointer (some ⟨g, 0, none⟩), .string t] w (MwPost F w g (wText s t.data.toList)) := by
  have h0 := h
  obtain ⟨v, hg, ho, hF, hk⟩ := h
  have hsz : t.data.toList.length = t.size := by simp
  have c2 := cell_at hg 1 (.int .i64 s.f) rfl
  have f2 := free_at hg 1
  clear hsz hg hk ho
  by_cases hf : s.f = 0
  · obtain ⟨l, f⟩ := s
    obtain rfl : f = 0 := hf
    by_cases hbig : t.size ≤ 1048576
    · have e : wText ⟨l, 0⟩ t.data.toList = ⟨l ++ encNum t.size ++ t.data.toList, 0⟩ := by simp [wText, hbig]
      rw [e]
      have hd : decide ((1048576 : Int) < t.size) = false := decide_eq_false (by omega)
      have hn6 := encNum_small (n := t.size) (by omega)
      go_enter Try.func49, Try.ntmps49
      go_wp2_with fail
      refine (mnum_ok (s := ⟨l, 0⟩) h0 t.size (by omega) (by simp only at hl ⊢; omega)).mono ?_
      rintro e w1 ⟨rfl, hw1, hk1⟩
      obtain ⟨v, hg, ho, hF', hk⟩ := hw1
      have HK := hid hk
      have HG := hid hg
      have c1 := cell_at hg 0 v rfl
      have hN : (l ++ encNum t.size).length ≤ 35184372088832 + 6 := by
        simp only [List.length_append] at hl ⊢; omega
      generalize (l ++ encNum t.size).length = N at ho hN
      clear hk hg hF hd
      go_wp2_with (at_builtin; refine stopHere ?_)
      refine goOn (wpl_app_str (v := v) rfl rfl Try.bytesT Try.underlying9 rfl ho rfl (by omega) ?_)
      intro A c w2 ho2 hk2 hn2
      obtain ⟨d1, e1⟩ := mw_cell HK HG.out hk2
      go_wp2
      go_end0
      refine MwPost.after hk1 (mw_stored hF' HK HG.out (Keep.refl _ w1) ho2 hk2 hn2 ?_)
      simp only [List.map_append, Lib.strCells]
      rfl
    · have e : wText ⟨l, 0⟩ t.data.toList = ⟨l, 3⟩ := by simp [wText, hbig]
      rw [e]
      have hd : decide ((1048576 : Int) < t.size) = true := decide_eq_true (by omega)
      go_enter Try.func49, Try.ntmps49
      go_wp2
      go_end0
      exact mw_fails h0 3
  · have hb : (s.f == 0) = false := by simpa using hf
    go_enter Try.func49, Try.ntmps49
    go_wp2
    go_end0
    exact MwPost.failed h0 (if_pos hf)

theorem mdone_calls (h : MwAt F w g s) (hl : s.b.length ≤ 35184372088832) :
    Calls Try.prog 30 #[.pointer (some ⟨g, 0, none⟩)] w (DonePost w s) := by
  obtain ⟨v, hg, ho, hF, hk⟩ := h
  have c1 := cell_at hg 0 v rfl
  have c2 := cell_at hg 1 (.int .i64 s.f) rfl
  clear hg hk
  by_cases hf : s.f = 0
  · obtain ⟨l, f⟩ := s
    obtain rfl : f = 0 := hf
    go_enter Try.func30, Try.ntmps30
    go_wp2_with fail
    refine (copy_calls (Row.ofOwn ho) (Nat.le_trans hl (by decide))).mono ?_
    rintro e w1 ⟨v', rfl, ho1, hn1, hk1⟩
    go_wp2
    go_ret2
    exact ⟨_, rfl, by simpa using ho1, hn1, hk1⟩
  · have hne : (s.f != 0) = true := by simpa using hf
    go_enter Try.func30, Try.ntmps30
    go_wp2
    go_quiet (fail)
    go_wp2
    go_ret2
    rw [DonePost, if_neg hf]
    exact ⟨_, rfl, World.ownsRow_nil _ 0 _ 1, fun k hk => by simp [Value.ownBlock] at hk, by exact (Keep.refl _ w).drewN _⟩
end
end Go.Proofs.Ytdijafolldneeaa

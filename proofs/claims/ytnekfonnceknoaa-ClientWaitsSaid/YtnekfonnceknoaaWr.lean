/- The walks of codec's writer. -/
import Derived.Test.YtnekfonnceknoaaBa
import Derived.Test.YtnekfonnceknoaaPu
import Derived.Test.YtnekfonnceknoaaProg
import Derived.Laws.BytesArg
import Derived.Deep.QuietTactic
import Derived.BigQuiet
namespace Go.Proofs.Ytnekfonnceknoaa
open Go.RowKit

/-- A writer's struct at block g. -/
abbrev WrObj (v : Value) (f : Int) : Obj := .cells #[.bool true, v, .int .i64 f] 106 (0, 0)

section
variable {w : World} {g : Nat} {v : Value} {f : Int}
theorem may_failed (hg : w.heap[g]? = some (WrObj v f)) (hf : f ≠ 0) (ok : Bool) (e : Int) :
    Calls Try.prog 86 #[.pointer (some ⟨g, 0, none⟩), .bool ok, .int .i64 e] w fun en w' => en = .returned (.bool false) ∧ w = w' := by
  have c0 := cell_at hg 0 _ rfl
  have c2 := cell_at hg 2 _ rfl
  have hf' : (f != 0) = true := by simpa using hf
  clear hg
  go_enter Try.func86, Try.ntmps86
  go_wp2
  go_ret
  exact ⟨rfl, rfl⟩
theorem may_ok (hg : w.heap[g]? = some (WrObj v 0)) (e : Int) :
    Calls Try.prog 86 #[.pointer (some ⟨g, 0, none⟩), .bool true, .int .i64 e] w fun en w' => en = .returned (.bool true) ∧ w = w' := by
  have c0 := cell_at hg 0 _ rfl
  have c2 := cell_at hg 2 _ rfl
  clear hg
  go_enter Try.func86, Try.ntmps86
  go_wp2
  go_ret
  exact ⟨rfl, rfl⟩
theorem may_no (hg : w.heap[g]? = some (WrObj v 0)) (e : Int) :
    Calls Try.prog 86 #[.pointer (some ⟨g, 0, none⟩), .bool false, .int .i64 e] w fun en w' => en = .returned (.bool false) ∧ w.setCell ⟨g, 2, none⟩ (.int .i64 e) = w' := by
  have c0 := cell_at hg 0 _ rfl
  have c2 := cell_at hg 2 _ rfl
  have f2 := free_at hg 2
  clear hg
  go_enter Try.func86, Try.ntmps86
  go_wp2
  go_ret
  exact ⟨rfl, rfl⟩
end

theorem Try.bytesT : SlT Try.prog 31 5 (.int .u8 0) 1 1 := SlT.mk' Try.underlying31 (by kernel_rfl) rfl (by decide)

/-- A writer at block g: what it has written, what it failed by; its blocks are of F. -/
def WrAt (F : Nat → Prop) (w : World) (g : Nat) (s : WS) : Prop :=
  ∃ v, w.heap[g]? = some (WrObj v s.f) ∧ w.ownsRow 0 5 1 v s.b.length (s.b.map U8) ∧ F g ∧ ∀ k, v.ownBlock = some k → F k ∧ k ≠ g
theorem WrAt.keep {F S : Nat → Prop} {w w' : World} {g : Nat} {s : WS} (h : WrAt F w g s) (hk : Keep S w w') (hd : ∀ k, F k → ¬ S k) : WrAt F w' g s := by
  obtain ⟨v, h1, h2, h3, h4⟩ := h
  exact ⟨v, hk.heap h1 (hd g h3), hk.owns h2 (fun k hv => hd k (h4 k hv).1), h3, h4⟩

theorem WrAt.mono {F G : Nat → Prop} {w : World} {g : Nat} {s : WS} (h : WrAt F w g s) (hFG : ∀ k, F k → G k) : WrAt G w g s := by
  obtain ⟨v, h1, h2, h3, h4⟩ := h
  exact ⟨v, h1, h2, hFG _ h3, fun k hv => ⟨hFG _ (h4 k hv).1, (h4 k hv).2⟩⟩
/-- What a method of the writer comes to. -/
def WrPost (F : Nat → Prop) (w : World) (g : Nat) (s : WS) (e : Ending) (w' : World) : Prop :=
  e = .returned (.tuple #[]) ∧ WrAt (Grow F w w') w' g s ∧ Keep F w w'

/-- Behind an append to the writer's bytes, and the store of the slice. -/
theorem wr_stored {F : Nat → Prop} {w w0 w1 : World} {g : Nat} {v v' : Value} {n : Nat} {cs : List Value} {l' : List UInt8} (hF : F g) (hk : Hid (∀ k, v.ownBlock = some k → F k ∧ k ≠ g))
    (hg : w0.heap[g]? = some (WrObj v 0)) (h0 : Keep F w w0) (ho1 : w1.ownsRow 0 5 1 v' n cs) (hk1 : Keep (fun k => some k = v.ownBlock) w0 w1) (hn1 : SameOrNew w0 v v')
    (hcs : cs = l'.map U8) : WrPost F w g ⟨l', 0⟩ (.returned (.tuple #[])) (w1.setCell ⟨g, 1, none⟩ v') := by
  have hk := hk.out
  have hn : n = l'.length := by have := ho1.1; rw [hcs] at this; simpa using this.symm
  subst hn
  subst hcs
  have hg1 : w1.heap[g]? = some (WrObj v 0) := hk1.heap hg (fun e => ((hk g e.symm).2 rfl))
  have hv' : ∀ k, v'.ownBlock = some k → k ≠ g := by
    intro k hv e
    subst e
    rcases hn1 _ hv with h | h
    · exact (hk _ h).2 rfl
    · have := lt_heap hg; omega
  refine ⟨rfl, ⟨v', ?_, ?_, .inl hF, ?_⟩, ?_⟩
  · rw [heap_set hg1]; rfl
  · exact ownsRow_setCell_other ho1 (fun e => hv' g e rfl) _
  · intro k hv
    refine ⟨?_, hv' k hv⟩
    rcases hn1 _ hv with h | h
    · exact .inl (hk k h).1
    · exact .inr ⟨Nat.le_trans h0.size h, by simpa using own_lt' ho1 k hv⟩
  · exact Keep.setCell (h0.trans hk1 (fun b _ hb => (hk b hb.symm).1)) _ _ (fun _ => hF)
theorem wr_cell {w0 w1 : World} {F : Nat → Prop} {g : Nat} {v : Value} (hk : Hid (∀ k, v.ownBlock = some k → F k ∧ k ≠ g)) (hg : w0.heap[g]? = some (WrObj v 0))
    (hk1 : Keep (fun k => some k = v.ownBlock) w0 w1) : w1.cell? ⟨g, 1, none⟩ = some v ∧ w1.frozen? ⟨g, 1, none⟩ = false := by
  have hg1 : w1.heap[g]? = some (WrObj v 0) := hk1.heap hg (fun e => ((hk.out g e.symm).2 rfl))
  exact ⟨cell_at hg1 1 v rfl, free_at hg1 1⟩

theorem WrPost.after {F : Nat → Prop} {w w1 w2 : World} {g : Nat} {s : WS} {e : Ending} (hk : Keep F w w1) (h : WrPost (Grow F w w1) w1 g s e w2) : WrPost F w g s e w2 :=
  ⟨h.1, h.2.1.mono (Grow.trans hk.size h.2.2.size), hk.then h.2.2⟩

section
variable {F : Nat → Prop} {w : World} {g : Nat} {s : WS}
theorem WrAt.same (h : WrAt F w g s) : WrAt (Grow F w w) w g s := by
  obtain ⟨v, h1, h2, h3, h4⟩ := h
  exact ⟨v, h1, h2, .inl h3, fun k hk => ⟨.inl (h4 k hk).1, (h4 k hk).2⟩⟩

theorem wFlag_ok (l : List UInt8) (b : Bool) : wFlag ⟨l, 0⟩ b = ⟨l ++ [if b then 1 else 0], 0⟩ := by simp [wFlag]
theorem WrPost.failed (h : WrAt F w g s) {s' : WS} (hs : s' = s) : WrPost F w g s' (.returned (.tuple #[])) w := by
  subst hs
  exact ⟨rfl, h.same, Keep.refl _ _⟩

set_option maxHeartbeats 400000 in
theorem flag_calls (h : WrAt F w g s) (b : Bool) (hl : s.b.length ≤ 70368744177664) :
    Calls Try.prog 94 #[.pointer (some ⟨g, 0, none⟩), .bool b] w (WrPost F w g (wFlag s b)) := by
  have h0 := h
  obtain ⟨v, hg, ho, hF, hk⟩ := h
  by_cases hf : s.f = 0
  · obtain ⟨l, f⟩ := s
    obtain rfl : f = 0 := hf
    have HK := hid hk
    have HG := hid hg
    have c1 := cell_at hg 1 v rfl
    clear hk hg
    cases b
    all_goals
      go_enter Try.func94, Try.ntmps94
      go_wp2_with fail
      refine (may_ok HG.out 0).mono ?_
      rintro e w' ⟨rfl, rfl⟩
      go_wp2_with (at_builtin; refine stopHere ?_)
      refine goOn (wpl_app (v := v) rfl rfl Try.bytesT rfl (ownsAlloc ho _) rfl (Row.one w _ _) (by simp [Value.oneCell']) (by simp at hl ⊢; omega) (by simp at hl ⊢; omega) ?_)
      intro A c w1 ho1 hk1 hn1
      obtain ⟨d1, e1⟩ := wr_cell HK (heap_alloc HG.out _) hk1
      go_wp2
      go_end0
      rw [wFlag_ok]
      exact wr_stored hF HK (heap_alloc HG.out _) ((Keep.refl F w).alloc _) ho1 hk1 hn1 (by simp [U8])
  · have hf' : wFlag s b = s := if_pos hf
    go_enter Try.func94, Try.ntmps94
    go_wp2_with fail
    refine (may_failed hg hf _ _).mono ?_
    rintro e w' ⟨rfl, rfl⟩
    go_wp2
    go_end0
    exact WrPost.failed h0 hf'

theorem wRefuse_ok (l : List UInt8) : wRefuse ⟨l, 0⟩ = ⟨l, 1⟩ := by simp [wRefuse]
theorem wr_fails {l : List UInt8} (h : WrAt F w g ⟨l, 0⟩) (e : Int) : WrPost F w g ⟨l, e⟩ (.returned (.tuple #[])) (w.setCell ⟨g, 2, none⟩ (.int .i64 e)) := by
  obtain ⟨v, hg, ho, hF, hk⟩ := h
  refine ⟨rfl, ⟨v, ?_, ?_, .inl hF, fun k hv => ⟨.inl (hk k hv).1, (hk k hv).2⟩⟩, (Keep.refl F w).setCell _ _ (fun _ => hF)⟩
  · rw [heap_set hg]; rfl
  · exact ownsRow_setCell_other ho (fun e => (hk g e).2 rfl) _
theorem refuse_calls (h : WrAt F w g s) :
    Calls Try.prog 66 #[.pointer (some ⟨g, 0, none⟩)] w (WrPost F w g (wRefuse s)) := by
  have h0 := h
  obtain ⟨v, hg, ho, hF, hk⟩ := h
  go_enter Try.func66, Try.ntmps66
  go_wp2_with fail
  by_cases hf : s.f = 0
  · obtain ⟨l, f⟩ := s
    obtain rfl : f = 0 := hf
    refine (may_no hg _).mono ?_
    rintro e w' ⟨rfl, rfl⟩
    go_wp2
    go_end0
    rw [wRefuse_ok]
    exact wr_fails h0 1
  · refine (may_failed hg hf _ _).mono ?_
    rintro e w' ⟨rfl, rfl⟩
    go_wp2
    go_end0
    exact WrPost.failed h0 (if_pos hf)

def NumLoop (F : Nat → Prop) (w wr : World) (g : Nat) (l : List UInt8) (n : Nat) (k : Nat) : Prop :=
  ∃ l', WrAt (Grow F w wr) wr g ⟨l ++ l', 0⟩ ∧ Keep F w wr ∧ l' ++ encNum k = encNum n ∧ k ≤ 1099511627776

theorem or128_all : ∀ x : Fin 256, bits .or .u8 ((x.val : Nat) : Int) 128 = ((x.val % 128 + 128 : Nat) : Int) := by decide +kernel
theorem or128 (k : Nat) : Value.int .u8 (bits .or .u8 ((k : Int) % 256) 128) = U8 (UInt8.ofNat (k % 128 + 128)) := by
  have h := or128_all ⟨k % 256, Nat.mod_lt _ (by omega)⟩
  simp only [Int.natCast_emod] at h
  have h2 : ((k : Int) % 256) = (k : Int) % ((256 : Nat) : Int) := rfl
  rw [h2, h]
  unfold U8
  congr 1
  simp only [UInt8.toNat_ofNat']
  omega
theorem low7 {k : Nat} (h : k < 128) : Value.int .u8 (k : Int) = U8 (UInt8.ofNat k) := by
  unfold U8
  congr 1
  simp only [UInt8.toNat_ofNat']
  omega

set_option maxRecDepth 20000 in
set_option maxHeartbeats 400000 in
theorem num_ok (h : WrAt F w g ⟨s.b, 0⟩) (n : Nat) (hn : n ≤ 1099511627776) (hl : s.b.length ≤ 70368744177664) :
    Calls Try.prog 67 #[.pointer (some ⟨g, 0, none⟩), .int .i64 n] w (WrPost F w g ⟨s.b ++ encNum n, 0⟩) := by
  have hh := h.same
  have HL : NumLoop F w w g s.b n n := ⟨[], by simpa using hh, Keep.refl _ _, by simp, hn⟩
  obtain ⟨v, hg, ho, hF, hk⟩ := h
  have hd : decide ((n : Int) ≤ 1099511627776) = true := decide_eq_true (by omega)
  have h6 := encNum_small hn
  go_enter Try.func67, Try.ntmps67
  go_wp2_with fail
  refine (may_ok hg _).mono ?_
  rintro e w' ⟨rfl, rfl⟩
  clear hg ho hk hh
  go_wp2_with fail
  go_loopw [1] (fun nv wr => ∃ k : Nat, nv = .int .i64 k ∧ NumLoop F w wr g s.b n k) (fun nv _ => (intOf nv).toNat)
  case atStart => exact ⟨n, rfl, HL⟩
  case round =>
    obtain ⟨k, rfl, l', hw, hkp, he, hk6⟩ := hrel
    obtain ⟨v, hg, ho, hF', hk⟩ := hw
    have HK := hid hk
    have HG := hid hg
    have c1 := cell_at hg 1 v rfl
    have hlen : (s.b ++ l').length + 1 ≤ 140737488355328 := by
      have := congrArg List.length he
      simp only [List.length_append] at this ⊢
      omega
    have HE := hid he
    generalize (s.b ++ l').length = N at ho hlen
    clear hk hg he
    by_cases h128 : k < 128
    · go_wp2_with (at_builtin; refine stopHere ?_)
      refine goOn (wpl_app (v := v) rfl rfl Try.bytesT rfl (ownsAlloc ho _) rfl (Row.one wr _ _) (by simp [Value.oneCell']) (by omega) (by omega) ?_)
      intro A c w1 ho1 hk1 hn1
      obtain ⟨d1, e1⟩ := wr_cell HK (heap_alloc HG.out _) hk1
      go_wp2
      go_end0
      refine WrPost.after hkp (wr_stored hF' HK (heap_alloc HG.out _) ((Keep.refl _ wr).alloc _) ho1 hk1 hn1 ?_)
      rw [← HE.out, encNum_lt h128, low7 h128]
      simp
    · go_wp2_with (at_builtin; refine stopHere ?_)
      refine goOn (wpl_app (v := v) rfl rfl Try.bytesT rfl (ownsAlloc ho _) rfl (Row.one wr _ _) (by simp [Value.oneCell']) (by omega) (by omega) ?_)
      intro A c w1 ho1 hk1 hn1
      obtain ⟨d1, e1⟩ := wr_cell HK (heap_alloc HG.out _) hk1
      go_wp2
      refine ⟨⟨k / 128, by simp, l' ++ [UInt8.ofNat (k % 128 + 128)], ?_⟩, by simp [intOf]; omega⟩
      have fin := WrPost.after hkp (wr_stored hF' HK (heap_alloc HG.out _) ((Keep.refl _ wr).alloc _) ho1 hk1 hn1 (l' := s.b ++ (l' ++ [UInt8.ofNat (k % 128 + 128)])) (by rw [or128]; simp))
      refine ⟨fin.2.1, fin.2.2, ?_, by omega⟩
      rw [← HE.out, encNum_ge h128]
      simp

theorem num_calls (h : WrAt F w g s) (n : Int) (hl : s.b.length ≤ 70368744177664) :
    Calls Try.prog 67 #[.pointer (some ⟨g, 0, none⟩), .int .i64 n] w (WrPost F w g (wNum s n)) := by
  by_cases hf : s.f = 0
  · obtain ⟨l, f⟩ := s
    obtain rfl : f = 0 := hf
    by_cases hn : 0 ≤ n ∧ n ≤ 1099511627776
    · have e : wNum ⟨l, 0⟩ n = ⟨l ++ encNum n.toNat, 0⟩ := by simp [wNum, hn.1, hn.2]
      obtain ⟨k, rfl⟩ := Int.eq_ofNat_of_zero_le hn.1
      rw [e]
      exact num_ok (s := ⟨l, 0⟩) h k (by omega) hl
    · have e : wNum ⟨l, 0⟩ n = ⟨l, 1⟩ := by simp only [wNum, ne_eq, not_true_eq_false, if_false, if_neg hn]
      have h0 := h
      obtain ⟨v, hg, ho, hF, hk⟩ := h
      rw [e]
      by_cases h0n : 0 ≤ n
      · have d1 : decide (n ≤ 1099511627776) = false := decide_eq_false (by omega)
        go_enter Try.func67, Try.ntmps67
        go_wp2_with fail
        refine (may_no hg _).mono ?_
        rintro e w' ⟨rfl, rfl⟩
        go_wp2
        refine bodyPost_ret (results_none rfl _ _ _) rfl ?_
        exact wr_fails h0 1
      · have d1 : decide (0 ≤ n) = false := decide_eq_false (by omega)
        go_enter Try.func67, Try.ntmps67
        go_wp2_with fail
        refine (may_no hg _).mono ?_
        rintro e w' ⟨rfl, rfl⟩
        go_wp2
        refine bodyPost_ret (results_none rfl _ _ _) rfl ?_
        exact wr_fails h0 1
  · have h0 := h
    obtain ⟨v, hg, ho, hF, hk⟩ := h
    have b0 : ∃ b, b = decide (0 ≤ n) := ⟨_, rfl⟩
    have b1 : ∃ b, b = decide (n ≤ 1099511627776) := ⟨_, rfl⟩
    go_enter Try.func67, Try.ntmps67
    go_wp2_with fail
    all_goals
      refine (may_failed hg hf _ _).mono ?_
      rintro e w' ⟨rfl, rfl⟩
      go_wp2
      refine bodyPost_ret (results_none rfl _ _ _) rfl ?_
      exact WrPost.failed h0 (if_pos hf)

/-! ### lay: a number's bytes behind others -/
def LayLoop (w wr : World) (v v' : Value) (l : List UInt8) (n x k : Nat) : Prop :=
  ∃ l', wr.ownsRow 0 5 1 v' (l.length + (n - k)) ((l ++ l').map U8) ∧ l' ++ layBytes k x = layBytes n x ∧ Keep (fun b => some b = v.ownBlock) w wr ∧ SameOrNew w v v' ∧ k ≤ n

theorem lay8 (x m : Nat) : Value.int .u8 ((x : Int) / 2 ^ (8 * m) % 256) = U8 (UInt8.ofNat (x / 256 ^ m)) := by
  unfold U8
  congr 1
  have h : (2 : Nat) ^ (8 * m) = 256 ^ m := by rw [Nat.pow_mul]
  have h2 : ((2 : Int) ^ (8 * m)) = ((256 ^ m : Nat) : Int) := by rw [← h]; simp
  rw [h2, ← Int.natCast_ediv]
  simp only [UInt8.toNat_ofNat']
  omega
theorem layBytes_pos {k x : Nat} (h : k ≠ 0) : layBytes k x = UInt8.ofNat (x / 256 ^ (k - 1)) :: layBytes (k - 1) x := by
  obtain ⟨m, rfl⟩ : ∃ m, k = m + 1 := ⟨k - 1, by omega⟩
  rfl

set_option maxRecDepth 20000 in
set_option maxHeartbeats 400000 in
theorem lay_calls {v : Value} {l : List UInt8} (ho : w.ownsRow 0 5 1 v l.length (l.map U8)) (n x : Nat) (hn : n ≤ 8) (hl : l.length ≤ 70368744177664) :
    Calls Try.prog 102 #[v, .int .i64 n, .int .u64 x] w fun e w' => ∃ v', e = .returned v' ∧ w'.ownsRow 0 5 1 v' (l.length + n) ((l ++ layBytes n x).map U8) ∧ Keep (fun b => some b = v.ownBlock) w w' ∧ SameOrNew w v v' := by
  have HL : LayLoop w w v v l n x n := ⟨[], by simpa using ho, by simp, Keep.refl _ _, fun k hk => .inl hk, Nat.le_refl _⟩
  go_enter Try.func102, Try.ntmps102
  go_wp2_with fail
  go_loopw [0, 7] (fun v' i wr => ∃ k : Nat, i = .int .i64 (8 * ((k : Int) - 1)) ∧ LayLoop w wr v v' l n x k) (fun _ i _ => (intOf i + 8).toNat)
  case atStart => exact ⟨n, rfl, HL⟩
  case round =>
    obtain ⟨k, rfl, l', ho1, he, hkp, hn1, hkn⟩ := hrel
    have HE := hid he
    clear he HL ho
    by_cases h0 : k = 0
    · subst h0
      go_wp2_with (at_builtin; refine stopHere ?_)
      go_ret
      refine ⟨_, rfl, ?_, hkp, hn1⟩
      rw [← HE.out]
      simpa [layBytes] using ho1
    · generalize hN : l.length + (n - k) = N at ho1
      have hN2 : N + 1 ≤ 140737488355328 := by omega
      have HN := hid hN
      clear hN
      go_wp2_with (at_builtin; refine stopHere ?_)
      refine goOn (wpl_app (v := u0) rfl rfl Try.bytesT rfl (ownsAlloc ho1 _) rfl (Row.one wr _ _) (by simp [Value.oneCell']) (by omega) (by omega) ?_)
      intro A c w1 ho2 hk2 hn2
      go_wp2
      have hs := hkp.size
      refine ⟨⟨k - 1, ?_, l' ++ [UInt8.ofNat (x / 256 ^ (k - 1))], ?_, ?_, ?_, ?_, by omega⟩, ?_⟩
      · congr 1; omega
      · rw [lay8] at ho2
        have hh : l.length + (n - (k - 1)) = N + 1 := by rw [← HN.out]; omega
        rw [hh]
        simpa using ho2
      · rw [← HE.out, layBytes_pos h0]
        simp
      · exact (hkp.alloc _).trans hk2 (fun b hb e => (hn1 b e.symm).elim (fun q => q.symm) (fun q => absurd hb (by omega)))
      · intro b hb
        rcases hn2 b hb with q | q
        · exact hn1 b q
        · exact .inr (by simp at q; omega)
      · simp [intOf]; omega

set_option maxHeartbeats 400000 in
theorem word_calls (h : WrAt F w g s) (x : Nat) (hl : s.b.length ≤ 70368744177664) :
    Calls Try.prog 95 #[.pointer (some ⟨g, 0, none⟩), .int .u64 x] w (WrPost F w g (wWord s x)) := by
  have h0 := h
  obtain ⟨v, hg, ho, hF, hk⟩ := h
  by_cases hf : s.f = 0
  · obtain ⟨l, f⟩ := s
    obtain rfl : f = 0 := hf
    have HK := hid hk
    have HG := hid hg
    have c1 := cell_at hg 1 v rfl
    clear hk hg
    have e : wWord ⟨l, 0⟩ x = ⟨l ++ layBytes 8 x, 0⟩ := by simp [wWord]
    rw [e]
    go_enter Try.func95, Try.ntmps95
    go_wp2_with fail
    refine (may_ok HG.out 0).mono ?_
    rintro e w' ⟨rfl, rfl⟩
    go_wp2_with fail
    refine (lay_calls ho 8 x (by omega) hl).mono ?_
    rintro e w1 ⟨v', rfl, ho1, hk1, hn1⟩
    obtain ⟨A, c, rfl⟩ := own_slice ho1
    obtain ⟨d1, e1⟩ := wr_cell HK HG.out hk1
    go_wp2
    go_end0
    exact wr_stored hF HK HG.out (Keep.refl F w) ho1 hk1 hn1 rfl
  · go_enter Try.func95, Try.ntmps95
    go_wp2_with fail
    refine (may_failed hg hf _ _).mono ?_
    rintro e w' ⟨rfl, rfl⟩
    go_wp2
    go_end0
    exact WrPost.failed h0 (if_pos hf)

set_option maxHeartbeats 400000 in
theorem text_calls (h : WrAt F w g s) (t : ByteArray) (ht : t.size ≤ 140737488355328) (hl : s.b.length ≤ 35184372088832) :
    Calls Try.prog 93 #[.pointer (some ⟨g, 0, none⟩), .string t] w (WrPost F w g (wText s t.data.toList)) := by
  have h0 := h
  obtain ⟨v, hg, ho, hF, hk⟩ := h
  have hsz : t.data.toList.length = t.size := by simp
  by_cases hf : s.f = 0
  · obtain ⟨l, f⟩ := s
    obtain rfl : f = 0 := hf
    by_cases hbig : t.size ≤ 1048576
    · have e : wText ⟨l, 0⟩ t.data.toList = ⟨l ++ encNum t.size ++ t.data.toList, 0⟩ := by simp [wText, hbig]
      rw [e]
      have HSZ := hid hsz
      clear hsz
      have hd : decide ((t.size : Int) ≤ 1048576) = true := decide_eq_true (by omega)
      have hn6 := encNum_small (n := t.size) (by omega)
      go_enter Try.func93, Try.ntmps93
      go_wp2_with fail
      refine (may_ok hg _).mono ?_
      rintro e w' ⟨rfl, rfl⟩
      clear hg ho hk
      go_wp2_with fail
      refine (num_ok (s := ⟨l, 0⟩) h0 t.size (by omega) (by simp only at hl ⊢; omega)).mono ?_
      rintro e w1 ⟨rfl, hw1, hk1⟩
      obtain ⟨v, hg, ho, hF', hk⟩ := hw1
      have HK := hid hk
      have HG := hid hg
      have c1 := cell_at hg 1 v rfl
      have hN : (l ++ encNum t.size).length ≤ 35184372088832 + 6 := by
        simp only [List.length_append] at hl ⊢; omega
      generalize (l ++ encNum t.size).length = N at ho hN
      clear hk hg hF hd
      go_wp2_with (at_builtin; refine stopHere ?_)
      refine goOn (wpl_app_str (v := v) rfl rfl Try.bytesT Try.underlying9 rfl ho rfl (by omega) ?_)
      intro A c w2 ho2 hk2 hn2
      obtain ⟨d1, e1⟩ := wr_cell HK HG.out hk2
      go_wp2
      go_end0
      refine WrPost.after hk1 (wr_stored hF' HK HG.out (Keep.refl _ w1) ho2 hk2 hn2 ?_)
      simp only [List.map_append, Lib.strCells]
      rfl
    · have e : wText ⟨l, 0⟩ t.data.toList = ⟨l, 3⟩ := by simp [wText, hbig]
      rw [e]
      have hd : decide ((t.size : Int) ≤ 1048576) = false := decide_eq_false (by omega)
      clear hsz
      go_enter Try.func93, Try.ntmps93
      go_wp2_with fail
      refine (may_no hg _).mono ?_
      rintro e w' ⟨rfl, rfl⟩
      go_wp2
      go_end0
      exact wr_fails h0 3
  · clear hsz
    go_enter Try.func93, Try.ntmps93
    go_wp2_with fail
    refine (may_failed hg hf _ _).mono ?_
    rintro e w' ⟨rfl, rfl⟩
    go_wp2
    go_end0
    exact WrPost.failed h0 (if_pos hf)

/-! ### Done, NewWriter -/
def DonePost (w : World) (s : WS) (e : Ending) (w' : World) : Prop :=
  ∃ v, e = .returned (.tuple #[v, .int .i64 s.f]) ∧ w'.ownsRow 0 5 1 v (if s.f = 0 then s.b else []).length ((if s.f = 0 then s.b else []).map U8) ∧ (∀ k, v.ownBlock = some k → NewIn w w' k) ∧ Keep (fun _ => False) w w'
theorem done_calls (h : WrAt F w g s) (hl : s.b.length ≤ 35184372088832) :
    Calls Try.prog 50 #[.pointer (some ⟨g, 0, none⟩)] w (DonePost w s) := by
  obtain ⟨v, hg, ho, hF, hk⟩ := h
  have c0 := cell_at hg 0 _ rfl
  have c1 := cell_at hg 1 v rfl
  have c2 := cell_at hg 2 _ rfl
  by_cases hf : s.f = 0
  · obtain ⟨l, f⟩ := s
    obtain rfl : f = 0 := hf
    clear hg hk
    go_enter Try.func50, Try.ntmps50
    go_wp2_with (at_builtin; refine stopHere ?_)
    refine goOn (wpl_app (v := .slice none 0 0) rfl rfl Try.bytesT rfl (World.ownsRow_nil w 0 _ 1) rfl (Row.ofOwn ho) (by simp [U8, Value.oneCell']) (by simp at hl ⊢; omega) (by simp at hl ⊢; omega) ?_)
    intro A c w1 ho1 hk1 hn1
    go_wp2
    go_ret2
    refine ⟨_, rfl, by simpa using ho1, fun k hk => ?_, hk1.mono (fun b _ hb => by simp [Value.ownBlock] at hb)⟩
    rcases hn1 k (by simpa using hk) with q | q
    · simp [Value.ownBlock] at q
    · exact ⟨q, own_lt' ho1 k (by simpa using hk)⟩
  · have hne : (s.f != 0) = true := by simpa using hf
    clear hg hk
    go_enter Try.func50, Try.ntmps50
    go_wp2
    go_quiet (fail)
    go_wp2
    go_ret2
    rw [DonePost, if_neg hf]
    exact ⟨_, rfl, World.ownsRow_nil _ 0 _ 1, fun k hk => by simp [Value.ownBlock] at hk, by exact (Keep.refl _ w).drewN _⟩

theorem newWriter_calls (w : World) :
    Calls Try.prog 48 #[] w fun e w' => e = .returned (.pointer (some ⟨w.heap.size, 0, none⟩)) ∧ w.alloc (WrObj (.slice none 0 0) 0) = w' := by
  go_enter Try.func48, Try.ntmps48
  go_wp2
  go_ret
  exact ⟨rfl, rfl⟩
theorem WrAt.fresh (w : World) : WrAt (NewIn w (w.alloc (WrObj (.slice none 0 0) 0))) (w.alloc (WrObj (.slice none 0 0) 0)) w.heap.size ⟨[], 0⟩ :=
  ⟨.slice none 0 0, heap_alloc_new w _, World.ownsRow_nil _ 0 _ 1, ⟨Nat.le_refl _, by simp⟩, fun k hk => by simp [Value.ownBlock] at hk⟩
end
end Go.Proofs.Ytnekfonnceknoaa

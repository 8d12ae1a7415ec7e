/- The lease: how it lies, what its methods do. -/
import Derived.Test.YtfaifokeenhfkaaMapR
import Derived.Test.YtfaifokeenhfkaaProg
import Derived.Deep.QuietTactic
import Derived.BigQuiet
import Derived.Carry
import Derived.Laws.Cover3
import Derived.BigRegion
namespace Go.Proofs.Ytfaifokeenhfkaa
open Go.RowKit
def okI (n : Int) : Prop := -9223372036854775808 ≤ n ∧ n ≤ 9223372036854775807
theorem okI.wf {n : Int} (h : okI n) : (Lit.int .i64 n).wf = true := by
  obtain ⟨h1, h2⟩ := h
  simp [Lit.wf, IntKind.min, IntKind.max, IntKind.signed, IntKind.bits]; omega
structure LeS where
  len : Int
  num : Int
  den : Int
  given : List (Int × Int)
  bound : Bool
  ballot : Int
  till : Int
structure LeS.Ok (s : LeS) : Prop where
  len0 : 0 ≤ s.len
  len1 : s.len ≤ 1048576
  num0 : 1 ≤ s.num
  num1 : s.num ≤ 1000
  den0 : 1 ≤ s.den
  den1 : s.den ≤ s.num
  till0 : 0 ≤ s.till
  till1 : s.till ≤ 1100000000000
  giv : ∀ p ∈ s.given, 0 ≤ p.1 ∧ p.1 < 15 ∧ 0 ≤ p.2 ∧ p.2 ≤ 1099511627776
def EI (_ : World) (a : Int) (v : Value) : Prop := v = .int .i64 a
abbrev LeObj (s : LeS) (m : Nat) : Obj := .cells #[.int .i64 s.len, .int .i64 s.num, .int .i64 s.den, .map (some m), .bool s.bound, .int .i64 s.ballot, .int .i64 s.till] 54
def LeAt (F : Nat → Prop) (w : World) (g : Nat) (s : LeS) : Prop := ∃ m, w.heap[g]? = some (LeObj s m) ∧ MapI EI w m s.given ∧ F g ∧ F m ∧ g ≠ m ∧ s.Ok
def shortP (s : LeS) : Int := s.len * s.den / s.num
section
variable {F S : Nat → Prop} {w w' : World} {g : Nat} {s : LeS}
theorem LeAt.keep (h : LeAt F w g s) (hk : Keep S w w') (hd : ∀ k, F k → ¬ S k) : LeAt F w' g s := by
  obtain ⟨m, h1, h2, h3, h4, h5⟩ := h
  exact ⟨m, hk.heap h1 (hd g h3), h2.keep hk (hd m h4) (fun _ _ h => h), h3, h4, h5⟩
theorem LeAt.mono {G : Nat → Prop} (h : LeAt F w g s) (hFG : ∀ k, F k → G k) : LeAt G w g s := by
  obtain ⟨m, h1, h2, h3, h4, h5⟩ := h
  exact ⟨m, h1, h2, hFG _ h3, hFG _ h4, h5⟩
theorem LeAt.lt (h : LeAt F w g s) : g < w.heap.size := by obtain ⟨_, h, _⟩ := h; exact lt_heap h
theorem LeAt.ok (h : LeAt F w g s) : s.Ok := by obtain ⟨_, _, _, _, _, _, h⟩ := h; exact h
set_option maxRecDepth 20000 in
theorem made_calls (h : LeAt F w g s) : Calls Try.prog 28 #[.pointer (some ⟨g, 0, none⟩)] w fun e w' => e = .returned (.bool true) ∧ w = w' := by
  obtain ⟨m, hg, _⟩ := h
  have c3 := cell_at hg 3 (.map (some m)) rfl
  have hne := fun w => run_neq_map_nil (P := Try.prog) w 52 3 3 (some m) Try.underlying52
  clear hg
  go_enter Try.func28, Try.ntmps28
  go_wp2_with fail
  go_ret
  exact ⟨rfl, rfl⟩
set_option maxRecDepth 20000 in
theorem time_calls (t : Int) : Calls Try.prog 29 #[.int .i64 t] w fun e w' => e = .returned (.bool (decide (0 ≤ t ∧ t ≤ 1099511627776))) ∧ w = w' := by
  by_cases h1 : 0 ≤ t
  · by_cases h2 : t ≤ 1099511627776
    · rw [decide_eq_true (⟨h1, h2⟩ : 0 ≤ t ∧ t ≤ 1099511627776)]
      go_enter Try.func29, Try.ntmps29
      go_wp2_with fail
      go_ret
      exact ⟨rfl, rfl⟩
    · rw [decide_eq_false (fun h : 0 ≤ t ∧ t ≤ 1099511627776 => h2 h.2)]
      go_enter Try.func29, Try.ntmps29
      go_wp2_with fail
      go_ret
      exact ⟨rfl, rfl⟩
  · rw [decide_eq_false (fun h : 0 ≤ t ∧ t ≤ 1099511627776 => h1 h.1)]
    go_enter Try.func29, Try.ntmps29
    go_wp2_with fail
    go_ret
    exact ⟨rfl, rfl⟩
set_option maxRecDepth 20000 in
theorem until_calls (h : LeAt F w g s) : Calls Try.prog 17 #[.pointer (some ⟨g, 0, none⟩)] w fun e w' => e = .returned (.int .i64 s.till) ∧ w = w' := by
  have h0 := h
  obtain ⟨m, hg, _⟩ := h
  have c6 := cell_at hg 6 (.int .i64 s.till) rfl
  clear hg
  go_enter Try.func17, Try.ntmps17
  go_wp2_with fail
  refine (made_calls h0).mono ?_
  rintro e w' ⟨rfl, rfl⟩
  go_wp2_with fail
  go_ret
  exact ⟨rfl, rfl⟩
theorem short_bound (h : s.Ok) : s.len * s.den ≤ 1048576000 ∧ 0 ≤ s.len * s.den := by
  have h1 := h.len0; have h2 := h.len1; have h3 := h.den0; have h4 := h.den1; have h5 := h.num1
  constructor
  · have : s.len * s.den ≤ 1048576 * 1000 := Int.mul_le_mul h2 (by omega) (by omega) (by omega)
    omega
  · exact Int.mul_nonneg h1 (by omega)
theorem short_le (h : s.Ok) : 0 ≤ shortP s ∧ shortP s ≤ s.len := by
  have h1 := h.len0; have h3 := h.den0; have h4 := h.den1; have h5 := h.num0
  have hb := (short_bound h).2
  refine ⟨Int.ediv_nonneg hb (by omega), ?_⟩
  have : s.len * s.den ≤ s.len * s.num := Int.mul_le_mul_of_nonneg_left h4 h1
  have h6 : s.len * s.den / s.num ≤ s.len * s.num / s.num := Int.ediv_le_ediv (by omega) this
  rwa [Int.mul_ediv_cancel _ (by omega)] at h6
set_option maxRecDepth 20000 in
theorem short_calls (h : LeAt F w g s) : Calls Try.prog 24 #[.pointer (some ⟨g, 0, none⟩)] w fun e w' => e = .returned (.int .i64 (shortP s)) ∧ ∃ n, w' = w.drewN n := by
  have h0 := h
  have hok := h.ok
  obtain ⟨m, hg, _⟩ := h
  have c0 := cell_at hg 0 (.int .i64 s.len) rfl
  have c1 := cell_at hg 1 (.int .i64 s.num) rfl
  have c2 := cell_at hg 2 (.int .i64 s.den) rfl
  have hb := short_bound hok
  have hn0 := hok.num0
  have hn1 := hok.num1
  have hs : shortP s = s.len * s.den / s.num := rfl
  have hsl := short_le hok
  have hl1 := hok.len1
  have HS := hid hs
  obtain ⟨p, hp⟩ : ∃ p, p = s.len * s.den := ⟨_, rfl⟩
  have HP := hid hp
  clear hg hs hok
  rw [← hp] at hb
  clear hp
  go_enter Try.func24, Try.ntmps24
  go_wp2_with fail
  refine (made_calls h0).mono ?_
  rintro e w' ⟨rfl, rfl⟩
  go_wp2_with fail
  have hw : wrap64 (s.len * s.den) = s.len * s.den := by have := HP.out; unfold wrap64; omega
  have hq : (s.num == 0) = false := by simp; omega
  go_quiet (fail)
  go_wp2_with fail
  go_ret
  have e1 : wrap64 ((s.len * s.den).tdiv s.num) = shortP s := by
    rw [Int.tdiv_eq_ediv_of_nonneg (by have := HP.out; omega), ← HS.out]
    unfold wrap64; omega
  exact ⟨congrArg (fun x => Ending.returned (.int .i64 x)) e1, _, rfl⟩
theorem mem_put {α : Type} {l : List (Int × α)} {k : Int} {a : α} {p : Int × α} (h : p ∈ putE l k a) : p = (k, a) ∨ p ∈ l := by
  induction l with
  | nil => simp [putE] at h; exact .inl h
  | cons q l ih =>
    rw [putE] at h
    split at h
    · rcases List.mem_cons.1 h with h | h
      · exact .inl h
      · exact .inr (List.mem_cons_of_mem _ h)
    · rcases List.mem_cons.1 h with h | h
      · exact .inr (by rw [h]; simp)
      · rcases ih h with h | h
        · exact .inl h
        · exact .inr (List.mem_cons_of_mem _ h)
def giveOk (id t : Int) : Prop := 0 ≤ id ∧ id < 15 ∧ 0 ≤ t ∧ t ≤ 1099511627776
instance (id t : Int) : Decidable (giveOk id t) := inferInstanceAs (Decidable (_ ∧ _))
/-- What Give answers, and what it leaves. -/
def giveB (s : LeS) (id t : Int) : Bool := decide (giveOk id t) && !(match look s.given id with | some o => decide (t ≤ o) | none => false)
def giveS (s : LeS) (id t : Int) : LeS := if giveB s id t then { s with given := putE s.given id t } else s
theorem LeAt.give (h : LeAt F w g s) {id t : Int} (hok : giveOk id t) {m : Nat} (hm : w.heap[g]? = some (LeObj s m)) :
    ∃ w', (Instr.mapUpdate 52 (.map (some m)) (.int .i64 id) (.int .i64 t)).run Try.prog w = .ok () w' ∧ LeAt F w' g { s with given := putE s.given id t } ∧ Keep F w w' := by
  obtain ⟨m', h1, h2, h3, h4, h5, h6⟩ := h
  have e : m' = m := by rw [hm] at h1; simpa using h1.symm
  subst e
  obtain ⟨w', hr, q1, q2⟩ := h2.update Try.underlying52 Try.underlying3 (k := id) (a := t) (v := .int .i64 t) (okI.wf ⟨by have := hok.1; omega, by have := hok.2.1; omega⟩) rfl (fun _ _ _ _ h => h)
  refine ⟨w', hr, ⟨m', q2.heap h1 (fun e => h5 e), q1, h3, h4, h5, ⟨h6.len0, h6.len1, h6.num0, h6.num1, h6.den0, h6.den1, h6.till0, h6.till1, fun p hp => ?_⟩⟩, q2.mono (fun _ _ e => by subst e; exact h4)⟩
  rcases mem_put hp with rfl | hp
  · exact hok
  · exact h6.giv p hp
set_option maxRecDepth 20000 in
set_option maxHeartbeats 400000 in
theorem give_calls (h : LeAt F w g s) (id t : Int) (hid1 : okI id) : Calls Try.prog 11 #[.pointer (some ⟨g, 0, none⟩), .int .i64 id, .int .i64 t] w fun e w' => e = .returned (.bool (giveB s id t)) ∧ LeAt F w' g (giveS s id t) ∧ Keep F w w' := by
  have H := hid h
  obtain ⟨m, hg, hm, _⟩ := h
  have c3 := cell_at hg 3 (.map (some m)) rfl
  have hz : (zeroValue 3).run Try.prog w = .ok (.int .i64 0) w := by kernel_rfl
  have hlk := hm.lookup Try.underlying52 Try.underlying3 hid1.wf hz true
  have hgv := fun (q : giveOk id t) => H.out.give q hg
  have hmade := made_calls H.out
  clear hm hg
  have htc := time_calls (w := w) t
  by_cases hok : giveOk id t
  · have hok' := hok
    obtain ⟨q1, q2, q3, q4⟩ := hok'
    obtain ⟨w2, hupd, hl2, hk2⟩ := hgv hok
    rw [decide_eq_true (⟨q3, q4⟩ : 0 ≤ t ∧ t ≤ 1099511627776)] at htc
    have HL2 := hid hl2
    have HOK := hid hok
    clear hl2 hok hgv
    rcases hlk with ⟨hlo, hrun⟩ | ⟨a, v, hlo, hv, hrun⟩
    · have hB : giveB s id t = true := by simp [giveB, HOK.out, hlo]
      have hS : giveS s id t = { s with given := putE s.given id t } := by rw [giveS, if_pos hB]
      simp only [if_true] at hrun
      rw [hB, hS]
      clear hB hS hlo
      go_enter Try.func11, Try.ntmps11
      go_wp2_with fail
      refine hmade.mono ?_
      rintro e w' ⟨rfl, rfl⟩
      go_wp2_with fail
      refine htc.mono ?_
      rintro e w' ⟨rfl, rfl⟩
      go_wp2_with fail
      go_ret
      exact ⟨rfl, HL2.out, hk2⟩
    · obtain rfl : v = .int .i64 a := hv
      simp only [if_true] at hrun
      by_cases hle : t ≤ a
      · have hB : giveB s id t = false := by simp [giveB, HOK.out, hlo, hle]
        have hS : giveS s id t = s := by rw [giveS, if_neg (by rw [hB]; simp)]
        rw [hB, hS]
        clear hB hS hlo
        go_enter Try.func11, Try.ntmps11
        go_wp2_with fail
        refine hmade.mono ?_
        rintro e w' ⟨rfl, rfl⟩
        go_wp2_with fail
        refine htc.mono ?_
        rintro e w' ⟨rfl, rfl⟩
        go_wp2_with fail
        go_ret
        exact ⟨rfl, H.out, Keep.refl _ _⟩
      · have hB : giveB s id t = true := by simp [giveB, HOK.out, hlo]; omega
        have hS : giveS s id t = { s with given := putE s.given id t } := by rw [giveS, if_pos hB]
        rw [hB, hS]
        clear hB hS hlo
        go_enter Try.func11, Try.ntmps11
        go_wp2_with fail
        refine hmade.mono ?_
        rintro e w' ⟨rfl, rfl⟩
        go_wp2_with fail
        refine htc.mono ?_
        rintro e w' ⟨rfl, rfl⟩
        go_wp2_with fail
        go_ret
        exact ⟨rfl, HL2.out, hk2⟩
  · have hB : giveB s id t = false := by simp [giveB, hok]
    have hS : giveS s id t = s := by rw [giveS, if_neg (by rw [hB]; simp)]
    rw [hB, hS]
    clear hB hS hlk hgv
    by_cases b1 : id < 0
    · go_enter Try.func11, Try.ntmps11
      go_wp2_with fail
      refine hmade.mono ?_
      rintro e w' ⟨rfl, rfl⟩
      go_wp2_with fail
      go_ret
      exact ⟨rfl, H.out, Keep.refl _ _⟩
    by_cases b2 : 15 ≤ id
    · go_enter Try.func11, Try.ntmps11
      go_wp2_with fail
      refine hmade.mono ?_
      rintro e w' ⟨rfl, rfl⟩
      go_wp2_with fail
      go_ret
      exact ⟨rfl, H.out, Keep.refl _ _⟩
    · rw [decide_eq_false (fun q : 0 ≤ t ∧ t ≤ 1099511627776 => hok ⟨by omega, by omega, q.1, q.2⟩)] at htc
      clear hok
      go_enter Try.func11, Try.ntmps11
      go_wp2_with fail
      refine hmade.mono ?_
      rintro e w' ⟨rfl, rfl⟩
      go_wp2_with fail
      refine htc.mono ?_
      rintro e w' ⟨rfl, rfl⟩
      go_wp2_with fail
      go_ret
      exact ⟨rfl, H.out, Keep.refl _ _⟩
set_option maxRecDepth 20000 in
theorem given_calls (h : LeAt F w g s) (id : Int) (hid1 : okI id) : Calls Try.prog 23 #[.pointer (some ⟨g, 0, none⟩), .int .i64 id] w fun e w' => e = .returned (.tuple #[.int .i64 ((look s.given id).getD 0), .bool (look s.given id).isSome]) ∧ w = w' := by
  have H := hid h
  obtain ⟨m, hg, hm, _⟩ := h
  have c3 := cell_at hg 3 (.map (some m)) rfl
  have hz : (zeroValue 3).run Try.prog w = .ok (.int .i64 0) w := by kernel_rfl
  have hlk := hm.lookup Try.underlying52 Try.underlying3 hid1.wf hz true
  have hmade := made_calls H.out
  clear hm hg
  rcases hlk with ⟨hlo, hrun⟩ | ⟨a, v, hlo, hv, hrun⟩
  · simp only [if_true] at hrun
    rw [hlo]
    clear hlo
    simp only [Option.getD_none, Option.isSome_none]
    go_enter Try.func23, Try.ntmps23
    go_wp2_with fail
    refine hmade.mono ?_
    rintro e w' ⟨rfl, rfl⟩
    go_wp2_with fail
    go_ret2
    exact ⟨rfl, rfl⟩
  · obtain rfl : v = .int .i64 a := hv
    simp only [if_true] at hrun
    rw [hlo]
    clear hlo
    simp only [Option.getD_some, Option.isSome_some]
    go_enter Try.func23, Try.ntmps23
    go_wp2_with fail
    refine hmade.mono ?_
    rintro e w' ⟨rfl, rfl⟩
    go_wp2_with fail
    go_ret2
    exact ⟨rfl, rfl⟩
def dropS (s : LeS) : LeS := { s with given := [] }
theorem LeAt.drop (h : LeAt F w g s) : LeAt (Grow F w ((w.alloc (.map #[] 0)).setCell ⟨g, 3, none⟩ (.map (some w.heap.size)))) ((w.alloc (.map #[] 0)).setCell ⟨g, 3, none⟩ (.map (some w.heap.size))) g (dropS s) ∧ Keep (fun k => k = g) w ((w.alloc (.map #[] 0)).setCell ⟨g, 3, none⟩ (.map (some w.heap.size))) := by
  obtain ⟨m, h1, h2, h3, h4, h5, h6⟩ := h
  have hg := lt_heap h1
  refine ⟨⟨w.heap.size, ?_, (MapI.new EI w).keep ((Keep.refl (fun k => k = g) _).setCell _ _ (fun _ => rfl)) (by omega) (fun _ _ h => h), .inl h3, .inr ⟨Nat.le_refl _, by simp⟩, by omega, ⟨h6.len0, h6.len1, h6.num0, h6.num1, h6.den0, h6.den1, h6.till0, h6.till1, fun p hp => by simp [dropS] at hp⟩⟩, ((Keep.refl _ w).alloc _).setCell _ _ (fun _ => rfl)⟩
  rw [heap_set (heap_alloc h1 _)]
  rfl
set_option maxRecDepth 20000 in
theorem drop_calls (h : LeAt F w g s) : Calls Try.prog 21 #[.pointer (some ⟨g, 0, none⟩)] w fun e w' => e = .returned (.tuple #[]) ∧ LeAt (Grow F w w') w' g (dropS s) ∧ Keep (fun k => k = g) w w' := by
  have H := hid h
  obtain ⟨m, hg, hm, _⟩ := h
  have hmm := @run_makeMap Try.prog
  have c3 := fun o => heap_alloc hg o
  have c3' := fun o => cell_at (c3 o) 3 (.map (some m)) rfl
  have f3' := fun o => free_at (c3 o) 3
  have hmade := made_calls H.out
  clear hm hg c3
  go_enter Try.func21, Try.ntmps21
  go_wp2_with fail
  refine hmade.mono ?_
  rintro e w' ⟨rfl, rfl⟩
  go_wp2_with fail
  go_end0
  exact ⟨rfl, H.out.drop.1, H.out.drop.2⟩
end
end Go.Proofs.Ytfaifokeenhfkaa

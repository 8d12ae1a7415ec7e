/- The lease, on: Bind, Free, New, what is fresh. -/
import Derived.Test.YtfaifokeenhfkaaLease
namespace Go.Proofs.Ytfaifokeenhfkaa
open Go.RowKit
section
variable {F S : Nat → Prop} {w w' : World} {g : Nat} {s : LeS}
def bindS (s : LeS) (b now : Int) : LeS := if 0 ≤ now ∧ now ≤ 1099511627776 then { s with bound := true, ballot := b, till := max s.till (now + s.len) } else s
def freeB (s : LeS) (b now : Int) : Bool := decide (0 ≤ now ∧ now ≤ 1099511627776) && (!s.bound || decide (s.till ≤ now) || (b == s.ballot))
theorem LeAt.cells {b now : Int} (h : LeAt F w g s) (hn : 0 ≤ now ∧ now ≤ 1099511627776) {m : Nat} (hm : w.heap[g]? = some (LeObj s m)) (hk : Keep (fun k => k = g) w w') (hb : w'.heap[g]? = some (LeObj (bindS s b now) m)) : LeAt F w' g (bindS s b now) := by
  obtain ⟨m', h1, h2, h3, h4, h5, h6⟩ := h
  have e : m' = m := by rw [hm] at h1; simpa using h1.symm
  subst e
  rw [bindS, if_pos hn] at hb ⊢
  exact ⟨m', hb, h2.keep hk (fun e => h5 e.symm) (fun _ _ h => h), h3, h4, h5, ⟨h6.len0, h6.len1, h6.num0, h6.num1, h6.den0, h6.den1, by have := h6.till0; simp only; omega, by have := h6.till1; have := h6.len1; simp only; omega, h6.giv⟩⟩
theorem bind_fin {b now : Int} (h : LeAt F w g s) (hn : 0 ≤ now ∧ now ≤ 1099511627776) {m : Nat} (hg : w.heap[g]? = some (LeObj s m)) (x : Int) (hx : x = max s.till (now + s.len)) :
    LeAt F (((w.setCell ⟨g, 4, none⟩ (.bool true)).setCell ⟨g, 5, none⟩ (.int .i64 b)).setCell ⟨g, 6, none⟩ (.int .i64 x)).drew g (bindS s b now) ∧ Keep (fun k => k = g) w (((w.setCell ⟨g, 4, none⟩ (.bool true)).setCell ⟨g, 5, none⟩ (.int .i64 b)).setCell ⟨g, 6, none⟩ (.int .i64 x)).drew := by
  have hk : Keep (fun k => k = g) w (((w.setCell ⟨g, 4, none⟩ (.bool true)).setCell ⟨g, 5, none⟩ (.int .i64 b)).setCell ⟨g, 6, none⟩ (.int .i64 x)).drew := ((((Keep.refl (fun k => k = g) w).setCell ⟨g, 4, none⟩ (.bool true) (fun _ => rfl)).setCell ⟨g, 5, none⟩ (.int .i64 b) (fun _ => rfl)).setCell ⟨g, 6, none⟩ _ (fun _ => rfl)).drew
  refine ⟨h.cells hn hg hk ?_, hk⟩
  refine (heap_set (heap_set (heap_set hg 4 (.bool true)) 5 (.int .i64 b)) 6 _).trans ?_
  rw [bindS, if_pos hn, hx]
  rfl
set_option maxRecDepth 20000 in
set_option maxHeartbeats 1000000 in
theorem bind_calls (h : LeAt F w g s) (b now : Int) : Calls Try.prog 10 #[.pointer (some ⟨g, 0, none⟩), .int .i64 b, .int .i64 now] w fun e w' => e = .returned (.tuple #[]) ∧ LeAt F w' g (bindS s b now) ∧ Keep (fun k => k = g) w w' := by
  have H := hid h
  have hok := h.ok
  obtain ⟨m, hg, hm, hF, _⟩ := h
  have hmade := made_calls H.out
  have htc := time_calls (w := w) now
  by_cases hn : 0 ≤ now ∧ now ≤ 1099511627776
  · rw [decide_eq_true hn] at htc
    have c0 := cell_at hg 0 (.int .i64 s.len) rfl
    have c4 := cell_at hg 4 (.bool s.bound) rfl
    have c5 := cell_at hg 5 (.int .i64 s.ballot) rfl
    have c6 := cell_at hg 6 (.int .i64 s.till) rfl
    have f6 := fun o => free_at hg o
    have h0 := hok.len0
    have h1 := hok.len1
    have HG := hid hg
    have hw : wrap64 (now + s.len) = now + s.len := by unfold wrap64; omega
    have HN := hid hn
    have HF := hid (fun (x : Int) (hx : x = max s.till (now + s.len)) => bind_fin (b := b) H.out hn hg x hx)
    clear hg hm hok hn HG
    go_enter Try.func10, Try.ntmps10
    go_wp2_with fail
    refine hmade.mono ?_
    rintro e w' ⟨rfl, rfl⟩
    go_wp2_with fail
    refine htc.mono ?_
    rintro e w' ⟨rfl, rfl⟩
    go_wp2_with fail
    clear hmade htc
    go_region
    go_wp2_with fail
    all_goals (
      go_end0
      exact ⟨rfl, HF.out _ (by omega)⟩)
  · rw [decide_eq_false hn] at htc
    rw [bindS, if_neg hn]
    clear hn hg hm
    go_enter Try.func10, Try.ntmps10
    go_wp2_with fail
    refine hmade.mono ?_
    rintro e w' ⟨rfl, rfl⟩
    go_wp2_with fail
    refine htc.mono ?_
    rintro e w' ⟨rfl, rfl⟩
    go_wp2_with fail
    go_end0
    exact ⟨rfl, H.out, Keep.refl _ _⟩
set_option maxRecDepth 20000 in
theorem free_calls (h : LeAt F w g s) (b now : Int) : Calls Try.prog 13 #[.pointer (some ⟨g, 0, none⟩), .int .i64 b, .int .i64 now] w fun e w' => e = .returned (.bool (freeB s b now)) ∧ w = w' := by
  have hmade := made_calls h
  have htc := time_calls (w := w) now
  obtain ⟨m, hg, hm, hF, _⟩ := h
  have c4 := cell_at hg 4 (.bool s.bound) rfl
  have c5 := cell_at hg 5 (.int .i64 s.ballot) rfl
  have c6 := cell_at hg 6 (.int .i64 s.till) rfl
  clear hg hm
  by_cases hn : 0 ≤ now ∧ now ≤ 1099511627776
  · rw [decide_eq_true hn] at htc
    have hfb : freeB s b now = (!s.bound || decide (s.till ≤ now) || (b == s.ballot)) := by simp only [freeB, decide_eq_true hn, Bool.true_and]
    rw [hfb]
    clear hfb hn
    obtain ⟨bd, hbd⟩ : ∃ bd, bd = s.bound := ⟨_, rfl⟩
    rw [← hbd] at c4 ⊢
    clear hbd
    cases bd
    · simp only [Bool.not_false, Bool.true_or]
      go_enter Try.func13, Try.ntmps13
      go_wp2_with fail
      refine hmade.mono ?_
      rintro e w' ⟨rfl, rfl⟩
      go_wp2_with fail
      refine htc.mono ?_
      rintro e w' ⟨rfl, rfl⟩
      go_wp2_with fail
      go_ret
      exact ⟨rfl, rfl⟩
    · by_cases hle : s.till ≤ now
      · simp only [hle, decide_true, Bool.not_true, Bool.false_or, Bool.true_or]
        go_enter Try.func13, Try.ntmps13
        go_wp2_with fail
        refine hmade.mono ?_
        rintro e w' ⟨rfl, rfl⟩
        go_wp2_with fail
        refine htc.mono ?_
        rintro e w' ⟨rfl, rfl⟩
        go_wp2_with fail
        go_ret
        exact ⟨rfl, rfl⟩
      · simp only [Bool.not_true, Bool.false_or]
        go_enter Try.func13, Try.ntmps13
        go_wp2_with fail
        refine hmade.mono ?_
        rintro e w' ⟨rfl, rfl⟩
        go_wp2_with fail
        refine htc.mono ?_
        rintro e w' ⟨rfl, rfl⟩
        go_wp2_with fail
        go_ret
        exact ⟨rfl, rfl⟩
  · rw [decide_eq_false hn] at htc
    have hfb : freeB s b now = false := by simp only [freeB, decide_eq_false hn, Bool.false_and]
    rw [hfb]
    clear hfb hn
    go_enter Try.func13, Try.ntmps13
    go_wp2_with fail
    refine hmade.mono ?_
    rintro e w' ⟨rfl, rfl⟩
    go_wp2_with fail
    refine htc.mono ?_
    rintro e w' ⟨rfl, rfl⟩
    go_wp2_with fail
    go_ret
    exact ⟨rfl, rfl⟩
def newOk (len num den : Int) : Prop := 0 ≤ len ∧ len ≤ 1048576 ∧ 1 ≤ num ∧ num ≤ 1000 ∧ 1 ≤ den ∧ den ≤ num
instance (len num den : Int) : Decidable (newOk len num den) := inferInstanceAs (Decidable (_ ∧ _))
set_option maxRecDepth 20000 in
theorem new_calls {len num den : Int} (h : newOk len num den) : Calls Try.prog 9 #[.int .i64 len, .int .i64 num, .int .i64 den] w fun e w' => ∃ g, e = .returned (.tuple #[.pointer (some ⟨g, 0, none⟩), .int .i64 0]) ∧ LeAt (NewIn w w') w' g ⟨len, num, den, [], false, 0, 0⟩ ∧ Keep (fun _ => False) w w' := by
  have h0 := h
  obtain ⟨h1, h2, h3, h4, h5, h6⟩ := h
  have hmm := @run_makeMap Try.prog
  go_enter Try.func9, Try.ntmps9
  go_wp2_with fail
  go_ret2
  refine ⟨_, rfl, ⟨w.heap.size, ?_, ?_, ⟨by omega, by simp⟩, ⟨by omega, by simp; omega⟩, by omega, ⟨h1, h2, h3, h4, h5, h6, Int.le_refl _, by show (0 : Int) ≤ 1100000000000; omega, by simp⟩⟩, ((Keep.refl _ w).alloc _).alloc _⟩
  · have := heap_alloc_new (w.alloc (.map #[] 0)) (LeObj ⟨len, num, den, [], false, 0, 0⟩ w.heap.size)
    simpa only [World.size_alloc] using this
  · exact (MapI.new _ w).keep ((Keep.refl (fun _ => False) _).alloc _) id (fun _ _ h => h)
set_option maxRecDepth 20000 in
theorem new_bad {len num den : Int} (h : ¬ newOk len num den) : Calls Try.prog 9 #[.int .i64 len, .int .i64 num, .int .i64 den] w fun e w' => e = .returned (.tuple #[.pointer none, .int .i64 1]) ∧ w = w' := by
  by_cases h1 : len < 0
  · clear h
    go_enter Try.func9, Try.ntmps9
    go_wp2_with fail
    go_ret2
    exact ⟨rfl, rfl⟩
  by_cases h2 : 1048576 < len
  · clear h
    go_enter Try.func9, Try.ntmps9
    go_wp2_with fail
    go_ret2
    exact ⟨rfl, rfl⟩
  by_cases h3 : num < 1
  · clear h
    go_enter Try.func9, Try.ntmps9
    go_wp2_with fail
    go_ret2
    exact ⟨rfl, rfl⟩
  by_cases h4 : 1000 < num
  · clear h
    go_enter Try.func9, Try.ntmps9
    go_wp2_with fail
    go_ret2
    exact ⟨rfl, rfl⟩
  by_cases h5 : den < 1
  · clear h
    go_enter Try.func9, Try.ntmps9
    go_wp2_with fail
    go_ret2
    exact ⟨rfl, rfl⟩
  · have h6 : num < den := by
      by_cases q : num < den
      · exact q
      · exact absurd (⟨by omega, by omega, by omega, by omega, by omega, by omega⟩ : newOk len num den) h
    clear h
    go_enter Try.func9, Try.ntmps9
    go_wp2_with fail
    go_ret2
    exact ⟨rfl, rfl⟩
/-- Is a time fresh? -/
def freshB (s : LeS) (now t : Int) : Bool := decide (t ≤ now) && decide (now - t < shortP s)
theorem quietC {P : Program} {f : FuncId} {args : Array Value} {w : World} {n : Nat} {v : Value}
    (h : Calls P f args (w.drewN n) fun e w' => e = .returned v ∧ ∃ m, w' = (w.drewN n).drewN m) : Calls P f args (w.drewN n) fun e w'' => e = .returned v ∧ ∃ m, w'' = w.drewN m :=
  h.mono fun _ _ ⟨he, m, hm⟩ => ⟨he, n + m, by rw [hm, World.drewN_drewN]⟩
set_option maxRecDepth 20000 in
theorem fresh_calls {b4 b3 : Nat} {now t : Int} (h : LeAt F w g s) (hn : w.cell? ⟨b4, 0, none⟩ = some (.int .i64 now)) (hp : w.cell? ⟨b3, 0, none⟩ = some (.pointer (some ⟨g, 0, none⟩))) (ht : 0 ≤ t) (hnow : okI now) :
    Calls Try.prog 30 #[.int .i64 t, .pointer (some ⟨b4, 0, none⟩), .pointer (some ⟨b3, 0, none⟩)] w fun e w' => e = .returned (.bool (freshB s now t)) ∧ ∃ n, w' = w.drewN n := by
  have h1 := hnow.1
  have h2 := hnow.2
  have hsh : ∀ n, Calls Try.prog 24 #[.pointer (some ⟨g, 0, none⟩)] (w.drewN n) fun e w' => e = .returned (.int .i64 (shortP s)) ∧ ∃ m, w' = (w.drewN n).drewN m := fun n => short_calls (h.keep ((Keep.refl (fun _ => False) w).drewN n) (fun _ _ => id))
  by_cases hle : t ≤ now
  · have hw : wrap64 (now - t) = now - t := by unfold wrap64; omega
    have hfb : freshB s now t = decide (now - t < shortP s) := by simp only [freshB, hle, decide_true, Bool.true_and]
    rw [hfb]
    generalize shortP s = sh at *
    clear hfb h
    go_enter Try.func30, Try.ntmps30
    go_wp2_with fail
    go_quiet ((first | (go_at_call 24; exact quietC (hsh _))))
    go_wp2_with fail
    go_ret
    exact ⟨rfl, _, rfl⟩
  · have hfb : freshB s now t = false := by simp only [freshB, hle, decide_false, Bool.false_and]
    rw [hfb]
    have hd : decide (t ≤ now) = false := by simp; omega
    clear hfb h hsh
    go_enter Try.func30, Try.ntmps30
    go_wp2_with fail
    go_quiet (fail)
    go_wp2_with fail
    go_ret
    exact ⟨rfl, _, rfl⟩
end
end Go.Proofs.Ytfaifokeenhfkaa

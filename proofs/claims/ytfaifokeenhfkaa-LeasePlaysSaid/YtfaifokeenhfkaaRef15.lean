/- wapentakeref15.Lease: how it lies, what its methods do (begun: Replica, good, Short, Free). -/
import Derived.Test.YtfaifokeenhfkaaLeaseN
namespace Go.Proofs.Ytfaifokeenhfkaa
open Go.RowKit
/-- The times of the fifteen members, -1 where there is none. -/
def gList (s : LeS) : List Int := (List.range 15).map fun (i : Nat) => (look s.given (i : Int)).getD (-1)
abbrev R15Obj (s : LeS) (v : Value) : Obj := .cells #[.int .i64 s.len, .int .i64 s.num, .int .i64 s.den, v, .bool s.bound, .int .i64 s.ballot, .int .i64 s.till] 49
def RefAt (F : Nat → Prop) (w : World) (g : Nat) (s : LeS) : Prop := ∃ v, w.heap[g]? = some (R15Obj s v) ∧ w.ownsRow 0 3 1 v 15 ((gList s).map I64) ∧ F g ∧ (∀ b, v.ownBlock = some b → F b ∧ b ≠ g) ∧ s.Ok
section
variable {F S : Nat → Prop} {w w' : World} {g : Nat} {s : LeS}
theorem RefAt.keep (h : RefAt F w g s) (hk : Keep S w w') (hd : ∀ k, F k → ¬ S k) : RefAt F w' g s := by
  obtain ⟨v, h1, h2, h3, h4, h5⟩ := h
  exact ⟨v, hk.heap h1 (hd g h3), hk.owns h2 (fun k hk => hd k (h4 k hk).1), h3, h4, h5⟩
theorem RefAt.mono {G : Nat → Prop} (h : RefAt F w g s) (hFG : ∀ k, F k → G k) : RefAt G w g s := by
  obtain ⟨v, h1, h2, h3, h4, h5⟩ := h
  exact ⟨v, h1, h2, hFG _ h3, fun b hb => ⟨hFG _ (h4 b hb).1, (h4 b hb).2⟩, h5⟩
theorem RefAt.ok (h : RefAt F w g s) : s.Ok := by obtain ⟨_, _, _, _, _, h⟩ := h; exact h
set_option maxRecDepth 20000 in
theorem replica_calls (t : Int) : Calls Try.prog 33 #[.int .i64 t] w fun e w' => e = .returned (.bool (decide (0 ≤ t ∧ t < 15))) ∧ w = w' := by
  by_cases h1 : 0 ≤ t
  · by_cases h2 : t < 15
    · rw [decide_eq_true (⟨h1, h2⟩ : 0 ≤ t ∧ t < 15)]
      go_enter Try.func33, Try.ntmps33
      go_wp2_with fail
      go_ret
      exact ⟨rfl, rfl⟩
    · rw [decide_eq_false (fun h : 0 ≤ t ∧ t < 15 => h2 h.2)]
      go_enter Try.func33, Try.ntmps33
      go_wp2_with fail
      go_ret
      exact ⟨rfl, rfl⟩
  · rw [decide_eq_false (fun h : 0 ≤ t ∧ t < 15 => h1 h.1)]
    go_enter Try.func33, Try.ntmps33
    go_wp2_with fail
    go_ret
    exact ⟨rfl, rfl⟩
set_option maxRecDepth 20000 in
theorem good15_calls (t : Int) : Calls Try.prog 34 #[.int .i64 t] w fun e w' => e = .returned (.bool (decide (0 ≤ t ∧ t ≤ 1099511627776))) ∧ w = w' := by
  by_cases h1 : 0 ≤ t
  · by_cases h2 : t ≤ 1099511627776
    · rw [decide_eq_true (⟨h1, h2⟩ : 0 ≤ t ∧ t ≤ 1099511627776)]
      go_enter Try.func34, Try.ntmps34
      go_wp2_with fail
      go_ret
      exact ⟨rfl, rfl⟩
    · rw [decide_eq_false (fun h : 0 ≤ t ∧ t ≤ 1099511627776 => h2 h.2)]
      go_enter Try.func34, Try.ntmps34
      go_wp2_with fail
      go_ret
      exact ⟨rfl, rfl⟩
  · rw [decide_eq_false (fun h : 0 ≤ t ∧ t ≤ 1099511627776 => h1 h.1)]
    go_enter Try.func34, Try.ntmps34
    go_wp2_with fail
    go_ret
    exact ⟨rfl, rfl⟩
set_option maxRecDepth 20000 in
theorem rshort_calls (h : RefAt F w g s) : Calls Try.prog 25 #[.pointer (some ⟨g, 0, none⟩)] w fun e w' => e = .returned (.int .i64 (shortP s)) ∧ ∃ n, w' = w.drewN n := by
  have hok := h.ok
  obtain ⟨v, hg, _⟩ := h
  have c0 := cell_at hg 0 (.int .i64 s.len) rfl
  have c1 := cell_at hg 1 (.int .i64 s.num) rfl
  have c2 := cell_at hg 2 (.int .i64 s.den) rfl
  have hb := short_bound hok
  have hn0 := hok.num0
  have hn1 := hok.num1
  have hs : shortP s = s.len * s.den / s.num := rfl
  have hsl := short_le hok
  have hl1 := hok.len1
  have HS := hid hs
  obtain ⟨p, hp⟩ : ∃ p, p = s.len * s.den := ⟨_, rfl⟩
  have HP := hid hp
  clear hg hs hok
  rw [← hp] at hb
  clear hp
  go_enter Try.func25, Try.ntmps25
  go_wp2_with fail
  have hw : wrap64 (s.len * s.den) = s.len * s.den := by have := HP.out; unfold wrap64; omega
  have hq : (s.num == 0) = false := by simp; omega
  go_quiet (fail)
  go_wp2_with fail
  go_ret
  have e1 : wrap64 ((s.len * s.den).tdiv s.num) = shortP s := by
    rw [Int.tdiv_eq_ediv_of_nonneg (by have := HP.out; omega), ← HS.out]
    unfold wrap64; omega
  exact ⟨congrArg (fun x => Ending.returned (.int .i64 x)) e1, _, rfl⟩
set_option maxRecDepth 20000 in
theorem rfree_calls (h : RefAt F w g s) (b now : Int) : Calls Try.prog 27 #[.pointer (some ⟨g, 0, none⟩), .int .i64 b, .int .i64 now] w fun e w' => e = .returned (.bool (freeB s b now)) ∧ w = w' := by
  have htc := good15_calls (w := w) now
  obtain ⟨v, hg, _⟩ := h
  have c4 := cell_at hg 4 (.bool s.bound) rfl
  have c5 := cell_at hg 5 (.int .i64 s.ballot) rfl
  have c6 := cell_at hg 6 (.int .i64 s.till) rfl
  clear hg
  by_cases hn : 0 ≤ now ∧ now ≤ 1099511627776
  · rw [decide_eq_true hn] at htc
    have hfb : freeB s b now = (!s.bound || decide (s.till ≤ now) || (b == s.ballot)) := by simp only [freeB, decide_eq_true hn, Bool.true_and]
    rw [hfb]
    clear hfb hn
    obtain ⟨bd, hbd⟩ : ∃ bd, bd = s.bound := ⟨_, rfl⟩
    rw [← hbd] at c4 ⊢
    clear hbd
    cases bd
    · simp only [Bool.not_false, Bool.true_or]
      go_enter Try.func27, Try.ntmps27
      go_wp2_with fail
      refine htc.mono ?_
      rintro e w' ⟨rfl, rfl⟩
      go_wp2_with fail
      go_ret
      exact ⟨rfl, rfl⟩
    · by_cases hle : s.till ≤ now
      · simp only [hle, decide_true, Bool.not_true, Bool.false_or, Bool.true_or]
        go_enter Try.func27, Try.ntmps27
        go_wp2_with fail
        refine htc.mono ?_
        rintro e w' ⟨rfl, rfl⟩
        go_wp2_with fail
        go_ret
        exact ⟨rfl, rfl⟩
      · simp only [Bool.not_true, Bool.false_or]
        go_enter Try.func27, Try.ntmps27
        go_wp2_with fail
        refine htc.mono ?_
        rintro e w' ⟨rfl, rfl⟩
        go_wp2_with fail
        go_ret
        exact ⟨rfl, rfl⟩
  · rw [decide_eq_false hn] at htc
    have hfb : freeB s b now = false := by simp only [freeB, decide_eq_false hn, Bool.false_and]
    rw [hfb]
    clear hfb hn
    go_enter Try.func27, Try.ntmps27
    go_wp2_with fail
    refine htc.mono ?_
    rintro e w' ⟨rfl, rfl⟩
    go_wp2_with fail
    go_ret
    exact ⟨rfl, rfl⟩
theorem own_set {e : TypeId} {n i b cap : Nat} {xs : List Value} (h : w.ownsRow 0 e 1 (.slice (some ⟨b, 0, none⟩) n cap) n xs) (u : Value) (_hi : i < n) : (w.setCell ⟨b, i, none⟩ u).ownsRow 0 e 1 (.slice (some ⟨b, 0, none⟩) n cap) n (xs.set i u) := by
  obtain ⟨h1, ⟨h2, _⟩ | ⟨g, c, cur, he, hb, hg, hn, hc, hs, ht⟩⟩ := h
  · simp at h2
  · simp only [Value.slice.injEq, Option.some.injEq, Addr.mk.injEq, and_true, true_and] at he
    obtain ⟨rfl, rfl⟩ := he
    refine ⟨by simpa using h1, .inr ⟨b, cap, cur.setIfInBounds i u, rfl, hb, heap_set hg i u, hn, hc, by simpa using hs, ?_⟩⟩
    rw [Array.toList_setIfInBounds, List.take_set, ht]
theorem gList_at (s : LeS) {i : Nat} (hi : i < 15) : (gList s)[i]? = some ((look s.given (i : Int)).getD (-1)) := by
  rw [gList, List.getElem?_map, List.getElem?_range hi]; rfl
theorem gList_put (s : LeS) {i : Nat} (_hi : i < 15) (t : Int) : gList { s with given := putE s.given (i : Int) t } = (gList s).set i t := by
  apply List.ext_getElem?
  intro j
  by_cases hj : j < 15
  · rw [gList_at _ hj, List.getElem?_set, look_put]
    by_cases hij : i = j
    · subst hij
      rw [if_pos rfl, if_pos rfl, if_pos (by simp [gList]; omega)]
      rfl
    · rw [if_neg (by omega), if_neg hij, gList_at _ hj]
  · rw [List.getElem?_eq_none (by simp [gList]; omega), List.getElem?_eq_none (by simp [gList]; omega)]
theorem own_shape {e : TypeId} {v : Value} {n : Nat} {xs : List Value} (h : w.ownsRow 0 e 1 v n xs) (hn : 0 < n) : ∃ b cap, v = .slice (some ⟨b, 0, none⟩) n cap ∧ (∀ j u, xs[j]? = some u → w.cell? ⟨b, j, none⟩ = some u) ∧ (∀ j, w.frozen? ⟨b, j, none⟩ = false) := by
  have h0 := h
  obtain ⟨h1, ⟨h2, h3⟩ | ⟨g, c, cur, rfl, hb, hg, hnc, hc, hs, ht⟩⟩ := h
  · omega
  · refine ⟨g, c, rfl, fun j u hu => ?_, fun j => free_at hg j⟩
    have := h0.cells (g := g) rfl j u hu
    rw [Addr.add_lit, Nat.zero_add] at this
    exact this
theorem giveB_ref {id t : Int} (h : giveOk id t) : giveB s id t = !decide (t ≤ (look s.given id).getD (-1)) := by
  have h3 := h.2.2.1
  rw [giveB, decide_eq_true h]
  cases look s.given id with
  | none =>
    have : ¬ t ≤ -1 := by omega
    simp [this]
  | some o => simp
theorem RefAt.give {i : Nat} {t : Int} (h : RefAt F w g s) (hok : giveOk (i : Int) t) {b cap : Nat} (hg : w.heap[g]? = some (R15Obj s (.slice (some ⟨b, 0, none⟩) 15 cap))) :
    RefAt F (w.setCell ⟨b, i, none⟩ (.int .i64 t)) g { s with given := putE s.given (i : Int) t } ∧ Keep F w (w.setCell ⟨b, i, none⟩ (.int .i64 t)) := by
  obtain ⟨v, h1, h2, h3, h4, h5⟩ := h
  have hi : i < 15 := by have := hok.2.1; omega
  have e : v = .slice (some ⟨b, 0, none⟩) 15 cap := by rw [hg] at h1; simpa using h1.symm
  subst e
  have hb := h4 b rfl
  refine ⟨⟨_, heap_set_ne hg _ _ (fun e => hb.2 e.symm), ?_, h3, h4, ⟨h5.len0, h5.len1, h5.num0, h5.num1, h5.den0, h5.den1, h5.till0, h5.till1, fun p hp => ?_⟩⟩, (Keep.refl F w).setCell _ _ (fun _ => hb.1)⟩
  · have := own_set h2 (.int .i64 t) hi
    rw [gList_put s hi t, List.map_set]
    exact this
  · rcases mem_put hp with rfl | hp
    · exact hok
    · exact h5.giv p hp
set_option maxRecDepth 20000 in
set_option maxHeartbeats 1600000 in
theorem rgive_calls (h : RefAt F w g s) (id t : Int) : Calls Try.prog 19 #[.pointer (some ⟨g, 0, none⟩), .int .i64 id, .int .i64 t] w fun e w' => e = .returned (.bool (giveB s id t)) ∧ RefAt F w' g (giveS s id t) ∧ Keep F w w' := by
  have H := hid h
  obtain ⟨v, hg, hown, _⟩ := h
  obtain ⟨b, cap, rfl, hcell, hfr⟩ := own_shape hown (by decide)
  have hrep := replica_calls (w := w) id
  have hgd := good15_calls (w := w) t
  have c3 := cell_at hg 3 (.slice (some ⟨b, 0, none⟩) 15 cap) rfl
  have HG := hid hg
  have HCELL := hid hcell
  clear hg hown hcell
  by_cases hok : giveOk id t
  · obtain ⟨q1, q2, q3, q4⟩ := hok
    obtain ⟨i, hi⟩ : ∃ i : Nat, (i : Int) = id := ⟨id.toNat, by omega⟩
    subst hi
    have hi15 : i < 15 := by omega
    rw [decide_eq_true (⟨q1, q2⟩ : 0 ≤ (i : Int) ∧ (i : Int) < 15)] at hrep
    rw [decide_eq_true (⟨q3, q4⟩ : 0 ≤ t ∧ t ≤ 1099511627776)] at hgd
    have hB := giveB_ref (s := s) (⟨q1, q2, q3, q4⟩ : giveOk (i : Int) t)
    have HGV := hid (H.out.give (⟨q1, q2, q3, q4⟩ : giveOk (i : Int) t) HG.out)
    obtain ⟨x, hx⟩ : ∃ x, x = (look s.given (i : Int)).getD (-1) := ⟨_, rfl⟩
    have ci : w.cell? ⟨b, i, none⟩ = some (.int .i64 x) := HCELL.out i _ (by rw [List.getElem?_map, gList_at s hi15, ← hx]; rfl)
    rw [← hx] at hB
    have fi := hfr i
    clear hx hfr q1 q2
    by_cases hle : t ≤ x
    · rw [decide_eq_true hle] at hB
      have hS : giveS s (i : Int) t = s := by rw [giveS, hB]; rfl
      have dle : decide (t ≤ x) = true := decide_eq_true hle
      rw [hB, hS]
      clear hB hS
      go_enter Try.func19, Try.ntmps19
      go_wp2_with fail
      refine hrep.mono ?_
      rintro e w' ⟨rfl, rfl⟩
      go_wp2_with fail
      refine hgd.mono ?_
      rintro e w' ⟨rfl, rfl⟩
      go_wp2_with fail
      go_ret
      exact ⟨rfl, H.out, Keep.refl _ _⟩
    · rw [decide_eq_false hle] at hB
      have hS : giveS s (i : Int) t = { s with given := putE s.given (i : Int) t } := by rw [giveS, hB]; rfl
      have dle : decide (t ≤ x) = false := decide_eq_false hle
      rw [hB, hS]
      clear hB hS
      go_enter Try.func19, Try.ntmps19
      go_wp2_with fail
      refine hrep.mono ?_
      rintro e w' ⟨rfl, rfl⟩
      go_wp2_with fail
      refine hgd.mono ?_
      rintro e w' ⟨rfl, rfl⟩
      go_wp2_with fail
      go_ret
      exact ⟨rfl, HGV.out.1, HGV.out.2⟩
  · have hB : giveB s id t = false := by simp [giveB, hok]
    have hS : giveS s id t = s := by rw [giveS, if_neg (by rw [hB]; simp)]
    rw [hB, hS]
    clear hB hS
    by_cases b1 : 0 ≤ id ∧ id < 15
    · rw [decide_eq_true b1] at hrep
      rw [decide_eq_false (fun q : 0 ≤ t ∧ t ≤ 1099511627776 => hok ⟨b1.1, b1.2, q.1, q.2⟩)] at hgd
      clear hok
      go_enter Try.func19, Try.ntmps19
      go_wp2_with fail
      refine hrep.mono ?_
      rintro e w' ⟨rfl, rfl⟩
      go_wp2_with fail
      refine hgd.mono ?_
      rintro e w' ⟨rfl, rfl⟩
      go_wp2_with fail
      go_ret
      exact ⟨rfl, H.out, Keep.refl _ _⟩
    · rw [decide_eq_false b1] at hrep
      clear hok
      go_enter Try.func19, Try.ntmps19
      go_wp2_with fail
      refine hrep.mono ?_
      rintro e w' ⟨rfl, rfl⟩
      go_wp2_with fail
      go_ret
      exact ⟨rfl, H.out, Keep.refl _ _⟩
theorem rbind_fin {b now : Int} (h : RefAt F w g s) (hn : 0 ≤ now ∧ now ≤ 1099511627776) {v : Value} (hg : w.heap[g]? = some (R15Obj s v)) (x : Int) (hx : x = max s.till (now + s.len)) :
    RefAt F ((((w.setCell ⟨g, 6, none⟩ (.int .i64 x)).drew).setCell ⟨g, 5, none⟩ (.int .i64 b)).setCell ⟨g, 4, none⟩ (.bool true)) g (bindS s b now) ∧ Keep (fun k => k = g) w ((((w.setCell ⟨g, 6, none⟩ (.int .i64 x)).drew).setCell ⟨g, 5, none⟩ (.int .i64 b)).setCell ⟨g, 4, none⟩ (.bool true)) := by
  have hk : Keep (fun k => k = g) w ((((w.setCell ⟨g, 6, none⟩ (.int .i64 x)).drew).setCell ⟨g, 5, none⟩ (.int .i64 b)).setCell ⟨g, 4, none⟩ (.bool true)) := ((((Keep.refl (fun k => k = g) w).setCell ⟨g, 6, none⟩ _ (fun _ => rfl)).drew).setCell ⟨g, 5, none⟩ (.int .i64 b) (fun _ => rfl)).setCell ⟨g, 4, none⟩ (.bool true) (fun _ => rfl)
  refine ⟨?_, hk⟩
  obtain ⟨v', h1, h2, h3, h4, h5⟩ := h
  have e : v' = v := by rw [hg] at h1; simpa using h1.symm
  subst e
  refine ⟨v', ?_, ?_, h3, h4, ?_⟩
  · have q1 := heap_set h1 6 (.int .i64 x)
    have q2 : ((w.setCell ⟨g, 6, none⟩ (.int .i64 x)).drew).heap[g]? = _ := q1
    have q3 := heap_set (heap_set q2 5 (.int .i64 b)) 4 (.bool true)
    refine q3.trans ?_
    rw [bindS, if_pos hn, hx]
    rfl
  · have := hk.owns h2 (fun k hk => (h4 k hk).2)
    rw [bindS, if_pos hn]
    exact this
  · rw [bindS, if_pos hn]
    exact ⟨h5.len0, h5.len1, h5.num0, h5.num1, h5.den0, h5.den1, by have := h5.till0; simp only; omega, by have := h5.till1; have := h5.len1; simp only; omega, h5.giv⟩
set_option maxRecDepth 20000 in
set_option maxHeartbeats 1000000 in
theorem rbind_calls (h : RefAt F w g s) (b now : Int) : Calls Try.prog 20 #[.pointer (some ⟨g, 0, none⟩), .int .i64 b, .int .i64 now] w fun e w' => e = .returned (.tuple #[]) ∧ RefAt F w' g (bindS s b now) ∧ Keep (fun k => k = g) w w' := by
  have H := hid h
  have hok := h.ok
  obtain ⟨v, hg, _⟩ := h
  have htc := good15_calls (w := w) now
  by_cases hn : 0 ≤ now ∧ now ≤ 1099511627776
  · rw [decide_eq_true hn] at htc
    have c0 := cell_at hg 0 (.int .i64 s.len) rfl
    have c6 := cell_at hg 6 (.int .i64 s.till) rfl
    have c4 := cell_at hg 4 (.bool s.bound) rfl
    have c5 := cell_at hg 5 (.int .i64 s.ballot) rfl
    have f6 := fun o => free_at hg o
    have h0 := hok.len0
    have h1 := hok.len1
    have hw : wrap64 (now + s.len) = now + s.len := by unfold wrap64; omega
    have HF := hid (fun (x : Int) (hx : x = max s.till (now + s.len)) => rbind_fin (b := b) H.out hn hg x hx)
    have HN := hid hn
    clear hg hok hn
    go_enter Try.func20, Try.ntmps20
    go_wp2_with fail
    refine htc.mono ?_
    rintro e w' ⟨rfl, rfl⟩
    go_wp2_with fail
    go_region
    obtain ⟨x, hx⟩ : ∃ x, x = max s.till (now + s.len) := ⟨_, rfl⟩
    rw [← hx]
    have HX := hid hx
    clear hx
    go_wp2_with fail
    go_end0
    exact ⟨rfl, HF.out x HX.out⟩
  · rw [decide_eq_false hn] at htc
    rw [bindS, if_neg hn]
    clear hn hg
    go_enter Try.func20, Try.ntmps20
    go_wp2_with fail
    refine htc.mono ?_
    rintro e w' ⟨rfl, rfl⟩
    go_wp2_with fail
    refine bodyPost_ret (v := .tuple #[]) (by simp [results, Try.results20, go_sem]) rfl ?_
    exact ⟨rfl, H.out, Keep.refl _ _⟩
set_option maxRecDepth 20000 in
set_option maxHeartbeats 1600000 in
theorem rdrop_calls (hg : ∃ v, w.heap[g]? = some (R15Obj s v) ∧ F g) (hok : s.Ok) : Calls Try.prog 22 #[.pointer (some ⟨g, 0, none⟩)] w fun e w' => e = .returned (.tuple #[]) ∧ RefAt (Grow F w w') w' g (dropS s) ∧ Keep (fun k => k = g) w w' := by
  have T : SlT Try.prog 33 3 (.int .i64 0) 1 8 := SlT.mk' Try.underlying33 (by kernel_rfl) rfl (by decide)
  obtain ⟨v, hg, hF⟩ := hg
  have c3 := cell_at hg 3 v rfl
  have f3 := free_at hg 3
  have hgl := lt_heap hg
  have HG := hid hg
  clear hg
  go_enter Try.func22, Try.ntmps22
  go_wp2_with fail
  go_loopw [2] (fun i wr => ∃ (k : Nat) (u : Value), k ≤ 15 ∧ i = .int .i64 k ∧ wr.heap[g]? = some (R15Obj s u) ∧ wr.ownsRow 0 3 1 u k (List.replicate k (I64 (-1))) ∧ (∀ b, u.ownBlock = some b → w.heap.size ≤ b ∧ b < wr.heap.size) ∧ Keep (fun k => k = g) w wr) (fun i _ => 15 - (intOf i).toNat)
  case atStart => exact ⟨0, .slice none 0 0, by omega, rfl, heap_set HG.out 3 _, by simpa using World.ownsRow_nil _ _ _ _, fun b hb => by simp [Value.ownBlock] at hb, (Keep.refl _ w).setCell _ _ (fun _ => rfl)⟩
  case round =>
    obtain ⟨k, u, hk, rfl, hgr, ho, hnb, hkp⟩ := hrel
    by_cases hlt : k < 15
    · have d3 := cell_at hgr 3 u rfl
      have HGR := hid hgr; have HNB := hid hnb; have HKP := hid hkp
      clear hgr hnb hkp c3 f3
      go_wp2_with (at_builtin; refine stopHere ?_)
      refine goOn (wpl_app (v := u) rfl rfl T rfl (ownsAlloc ho _) rfl (Row.one wr _ _) (by simp [Value.oneCell']) (by omega) (by omega) ?_)
      intro A c w1 ho1 hk1 hn1
      have hug : ¬ some g = u.ownBlock := fun e => by have := (HNB.out g e.symm).1; omega
      have hg1 := hk1.heap (heap_alloc HGR.out _) hug
      have e3 := cell_at hg1 3 u rfl
      have g3 := free_at hg1 3
      have HG1 := hid hg1
      clear hg1
      go_wp2
      have hs1 := hk1.size
      have hs0 := HKP.out.size
      simp at hs1
      have hown : ∀ b, (Value.slice A (k + 1) c).ownBlock = some b → w.heap.size ≤ b ∧ b < w1.heap.size := fun b hb => by
        have q2 := own_lt' ho1 b hb
        rcases hn1 b hb with q | q
        · exact ⟨(HNB.out b q).1, q2⟩
        · have : wr.heap.size + 1 ≤ b := by simpa using q
          exact ⟨by omega, q2⟩
      refine ⟨⟨k + 1, .slice A (k + 1) c, by omega, by simp, heap_set HG1.out 3 _, ?_, fun b hb => ?_, ?_⟩, by simp [intOf]; omega⟩
      · have ks : Keep (fun q => q = g) w1 (w1.setCell ⟨g, 3, none⟩ (.slice A (k + 1) c)) := (Keep.refl _ w1).setCell _ _ (fun _ => rfl)
        have := ks.owns ho1 (fun b hb e => by have := (hown b hb).1; omega)
        rw [List.replicate_succ']
        exact this
      · have := hown b hb
        exact ⟨this.1, by simpa using this.2⟩
      · exact ((HKP.out.alloc _).trans hk1 (fun b hb e => by have := (HNB.out b e.symm).1; omega)).setCell _ _ (fun _ => rfl)
    · obtain rfl : k = 15 := by omega
      have HGR := hid hgr; have HNB := hid hnb; have HKP := hid hkp; have HO := hid ho
      clear hgr hnb hkp ho c3 f3
      go_wp2_with fail
      go_end0
      refine ⟨rfl, ⟨u, HGR.out, ?_, .inl hF, fun b hb => ⟨.inr (HNB.out b hb), by have := (HNB.out b hb).1; omega⟩, ⟨hok.len0, hok.len1, hok.num0, hok.num1, hok.den0, hok.den1, hok.till0, hok.till1, fun p hp => by simp [dropS] at hp⟩⟩, HKP.out⟩
      have e : (gList (dropS s)).map I64 = List.replicate 15 (I64 (-1)) := by rfl
      rw [e]
      exact HO.out
set_option maxRecDepth 20000 in
set_option maxHeartbeats 1600000 in
theorem rnew_calls {B : Nat} (hB : B ≤ w.heap.size) {len num den : Int} (h : newOk len num den) : Calls Try.prog 18 #[.int .i64 len, .int .i64 num, .int .i64 den] w fun e w' => ∃ g, e = .returned (.tuple #[.pointer (some ⟨g, 0, none⟩), .int .i64 0]) ∧ RefAt (fun k => B ≤ k) w' g (s0 len num den) ∧ Keep (fun _ => False) w w' := by
  have hok : (s0 len num den).Ok := ⟨h.1, h.2.1, h.2.2.1, h.2.2.2.1, h.2.2.2.2.1, h.2.2.2.2.2, Int.le_refl _, by show (0 : Int) ≤ 1100000000000; omega, fun p hp => by simp [s0] at hp⟩
  obtain ⟨h1, h2, h3, h4, h5, h6⟩ := h
  go_enter Try.func18, Try.ntmps18
  go_wp2_with fail
  have hdrop := rdrop_calls (F := fun k => B ≤ k) (w := w.alloc (R15Obj (s0 len num den) (.slice none 0 0))) (g := w.heap.size) (s := s0 len num den) ⟨_, heap_alloc_new w _, hB⟩ hok
  refine hdrop.mono ?_
  rintro e w2 ⟨rfl, hr, hk⟩
  have HR := hid hr; have HK := hid hk
  clear hr hk hdrop
  go_wp2_with fail
  go_ret2
  refine ⟨_, rfl, HR.out.mono (fun k hk => hk.elim id (fun q => by have := q.1; simp at this; omega)), ((Keep.refl (fun _ => False) w).alloc _).trans HK.out (fun b hb e => by omega)⟩
set_option maxRecDepth 20000 in
theorem rnew_bad {len num den : Int} (h : ¬ newOk len num den) : Calls Try.prog 18 #[.int .i64 len, .int .i64 num, .int .i64 den] w fun e w' => e = .returned (.tuple #[.pointer none, .int .i64 1]) ∧ w = w' := by
  by_cases h1 : len < 0
  · clear h
    go_enter Try.func18, Try.ntmps18
    go_wp2_with fail
    go_ret2
    exact ⟨rfl, rfl⟩
  by_cases h2 : 1048576 < len
  · clear h
    go_enter Try.func18, Try.ntmps18
    go_wp2_with fail
    go_ret2
    exact ⟨rfl, rfl⟩
  by_cases h3 : num < 1
  · clear h
    go_enter Try.func18, Try.ntmps18
    go_wp2_with fail
    go_ret2
    exact ⟨rfl, rfl⟩
  by_cases h4 : 1000 < num
  · clear h
    go_enter Try.func18, Try.ntmps18
    go_wp2_with fail
    go_ret2
    exact ⟨rfl, rfl⟩
  by_cases h5 : den < 1
  · clear h
    go_enter Try.func18, Try.ntmps18
    go_wp2_with fail
    go_ret2
    exact ⟨rfl, rfl⟩
  have h6 : num < den := by
    by_cases q : num < den
    · exact q
    · exact absurd (⟨by omega, by omega, by omega, by omega, by omega, by omega⟩ : newOk len num den) h
  clear h
  by_cases h7 : 1000 < den
  · go_enter Try.func18, Try.ntmps18
    go_wp2_with fail
    go_ret2
    exact ⟨rfl, rfl⟩
  · go_enter Try.func18, Try.ntmps18
    go_wp2_with fail
    go_ret2
    exact ⟨rfl, rfl⟩
end
end Go.Proofs.Ytfaifokeenhfkaa

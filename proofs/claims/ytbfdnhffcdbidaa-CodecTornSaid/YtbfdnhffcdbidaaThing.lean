/- wapentakelaw1.Thing; room, put, model. -/
import Derived.Test.YtbfdnhffcdbidaaRep
import Derived.Test.YtbfdnhffcdbidaaMw
namespace Go.Proofs.Ytbfdnhffcdbidaa
open Go.RowKit

/-- Something to write or to read. -/
structure Thing where
  d : Int
  n : Int
  x : Nat
  s : ByteArray
  b : List UInt8
  flag : Bool
def Rep.thing : Rep Thing := (Rep.pair .int (.pair .int (.pair .u64 (.pair .str (.pair (.slice .u8) .bool))))).as fun t => (t.d, t.n, t.x, t.s, t.b, t.flag)
theorem thing_cells {w : World} {F : Nat → Prop} {t : Thing} {cs : List Value} (h : Rep.thing.cells w F t cs) :
    ∃ v, cs = [.int .i64 t.d, .int .i64 t.n, .int .u64 t.x, .string t.s, v, .bool t.flag] ∧ Sl .u8 w F v t.b := by
  obtain ⟨_, _, rfl, ⟨rfl, _⟩, _, _, rfl, ⟨rfl, _⟩, _, _, rfl, ⟨rfl, _⟩, _, _, rfl, rfl, _, _, rfl, ⟨v, rfl, hv⟩, rfl⟩ := h
  exact ⟨v, rfl, hv⟩
theorem thing_word {w : World} {F : Nat → Prop} {v : Value} {l : List Thing} (h : Sl .thing w F v l) {t : Thing} (ht : t ∈ l) : t.x ≤ 18446744073709551615 := by
  obtain ⟨i, hi⟩ := List.getElem?_of_mem ht
  obtain ⟨A, c, rfl⟩ := h.shape
  obtain ⟨b, off, _, _, cs, hcs, _⟩ := h.elem hi
  obtain ⟨_, _, rfl, _, _, _, rfl, _, _, _, rfl, ⟨rfl, hx⟩, _⟩ := hcs
  exact hx
/-- An element of a slice of things. -/
theorem thing_at {w : World} {F : Nat → Prop} {A : Option Addr} {n c : Nat} {l : List Thing} (h : Sl .thing w F (.slice A n c) l) {i : Nat} {t : Thing} (ht : l[i]? = some t) :
    ∃ b off v, A = some ⟨b, off, none⟩ ∧ F b ∧ Sl .u8 w F v t.b ∧ w.cell? ⟨b, off + i * 6, none⟩ = some (.int .i64 t.d) ∧ w.cell? ⟨b, off + i * 6 + 1, none⟩ = some (.int .i64 t.n) ∧ w.cell? ⟨b, off + i * 6 + 2, none⟩ = some (.int .u64 t.x) ∧
      w.cell? ⟨b, off + i * 6 + 3, none⟩ = some (.string t.s) ∧ w.cell? ⟨b, off + i * 6 + 4, none⟩ = some v ∧ w.cell? ⟨b, off + i * 6 + 5, none⟩ = some (.bool t.flag) := by
  obtain ⟨b, off, hA, hF, cs, hcs, hcell⟩ := h.elem ht
  obtain ⟨v, rfl, hv⟩ := thing_cells hcs
  exact ⟨b, off, v, hA, hF, hv, hcell 0 _ rfl, hcell 1 _ rfl, hcell 2 _ rfl, hcell 3 _ rfl, hcell 4 _ rfl, hcell 5 _ rfl⟩

/-- Are things few and small? -/
def roomP (l : List Thing) : Prop := l.length ≤ 300 ∧ ∀ t ∈ l, t.s.size ≤ 2000 ∧ t.b.length ≤ 2000
instance (l : List Thing) : Decidable (roomP l) := inferInstanceAs (Decidable (_ ∧ _))

set_option maxRecDepth 20000 in
set_option maxHeartbeats 400000 in
theorem room_calls {F : Nat → Prop} {w : World} {v : Value} {l : List Thing} (h : Sl .thing w F v l) :
    Calls Try.prog 19 #[v] w fun e w' => e = .returned (.bool (decide (roomP l))) ∧ w = w' := by
  obtain ⟨A, c, rfl⟩ := h.shape
  obtain ⟨n, hn⟩ : ∃ n, n = l.length := ⟨_, rfl⟩
  have hmax : n ≤ 9223372036854775807 := by obtain ⟨_, _, _, h1, h2, _⟩ := h; unfold maxLen at h2; omega
  have HH := hid h
  rw [← hn]
  have HN := hid hn
  clear h hn
  by_cases h3 : n ≤ 300
  · have hd : decide (300 < (n : Int)) = false := decide_eq_false (by omega)
    go_enter Try.func19, Try.ntmps19
    go_wp2_with fail
    go_loop [3] (fun i => ∃ k : Nat, k ≤ n ∧ i = .int .i64 k ∧ ∀ t ∈ l.take k, t.s.size ≤ 2000 ∧ t.b.length ≤ 2000) (fun i => n - (intOf i).toNat)
    case atStart => exact ⟨0, Nat.zero_le _, rfl, by simp⟩
    case round =>
      obtain ⟨k, hk, rfl, hall⟩ := hrel
      have HALL := hid hall
      clear hall
      by_cases hlt : k < n
      · obtain ⟨t, ht⟩ : ∃ t, l[k]? = some t := ⟨l[k]'(by rw [← HN.out]; exact hlt), by simp [← HN.out, hlt]⟩
        obtain ⟨b, off, v, rfl, hFb, hv, c0, c1, c2, c3, c4, c5⟩ := thing_at HH.out ht
        obtain ⟨A2, c', rfl⟩ := hv.shape
        have HT := hid ht
        clear ht c0 c1 c2 c5 hv
        have htl : k < l.length := by rw [← HN.out]; exact hlt
        have hmem : t ∈ l := by
          have := HT.out
          exact List.mem_of_getElem? this
        by_cases hs : t.s.size ≤ 2000 ∧ t.b.length ≤ 2000
        · have e1 : decide ((2000 : Int) < t.s.size) = false := decide_eq_false (by omega)
          have e2 : decide ((2000 : Int) < t.b.length) = false := decide_eq_false (by omega)
          go_wp2_with fail
          refine ⟨⟨k + 1, by omega, by simp, fun u hu => ?_⟩, by simp [intOf]; omega⟩
          rw [List.take_add_one, HT.out] at hu
          simp at hu
          rcases hu with hu | rfl
          · exact HALL.out u hu
          · exact hs
        · have hr : ¬ roomP l := fun h => hs (h.2 t hmem)
          have HR := hid hr
          clear hr
          have hc : (2000 < t.s.size) ∨ (t.s.size ≤ 2000 ∧ 2000 < t.b.length) := by omega
          rcases hc with hc | ⟨hc, hc2⟩
          · have e1 : decide ((2000 : Int) < t.s.size) = true := decide_eq_true (by omega)
            go_wp2_with fail
            all_goals go_ret
            all_goals simp [HR.out]
          · have e1 : decide ((2000 : Int) < t.s.size) = false := decide_eq_false (by omega)
            have e2 : decide ((2000 : Int) < t.b.length) = true := decide_eq_true (by omega)
            go_wp2_with fail
            all_goals go_ret
            all_goals simp [HR.out]
      · go_wp2_with fail
        go_ret
        obtain rfl : k = n := by omega
        have := HALL.out
        rw [List.take_of_length_le (by rw [HN.out]; exact Nat.le_refl _)] at this
        have hr : roomP l := ⟨by rw [← HN.out]; exact h3, this⟩
        simp [hr]
  · have hd : decide (300 < (n : Int)) = true := decide_eq_true (by omega)
    go_enter Try.func19, Try.ntmps19
    go_wp2
    go_ret
    have hr : ¬ roomP l := fun h => h3 (by rw [HN.out]; exact h.1)
    simp [hr]

/-- A thing is written. -/
def wPut (s : WS) (t : Thing) : WS :=
  if t.d ≤ 1 then wNum s t.n else if t.d = 2 then wText s t.s.data.toList else if t.d = 3 then wText s t.b else if t.d = 4 then wFlag s t.flag else if t.d = 5 then wWord s t.x else wRefuse s
/-- A thing as a value. -/
abbrev thingV (t : Thing) (v : Value) : Value := .agg #[.int .i64 t.d, .int .i64 t.n, .int .u64 t.x, .string t.s, v, .bool t.flag]


/-- The world in which a thing that was handed over lies in a variable. -/
abbrev tW (w : World) (t : Thing) (v : Value) : World := w.alloc (.cells #[.int .i64 t.d, .int .i64 t.n, .int .u64 t.x, .string t.s, v, .bool t.flag] 44)
theorem tW_keep (w : World) (t : Thing) (v : Value) (S : Nat → Prop) : Keep S w (tW w t v) := (Keep.refl S w).alloc _
/-- Which kind of thing it is: as the tests have it. -/
theorem d_cases (d : Int) : d ≤ 1 ∨ d = 2 ∨ d = 3 ∨ d = 4 ∨ d = 5 ∨ 6 ≤ d := by omega

set_option maxRecDepth 20000 in
set_option maxHeartbeats 1000000 in
theorem put_calls {F G : Nat → Prop} {w : World} {g : Nat} {s : WS} {t : Thing} {v : Value} (h : WrAt F w g s) (hv : Sl .u8 w G v t.b) (hts : t.s.size ≤ 140737488355328) (htb : t.b.length ≤ 140737488355328) (hl : s.b.length ≤ 35184372088832) :
    Calls Try.prog 20 #[.pointer (some ⟨g, 0, none⟩), thingV t v] w (WrPost F w g (wPut s t)) := by
  obtain ⟨A, c, rfl⟩ := hv.shape
  have hk := tW_keep w t (.slice A t.b.length c) (fun _ => False)
  have h1 := (h.keep hk (fun _ _ => id)).mono (G := Grow F w (tW w t (.slice A t.b.length c))) (fun _ => .inl)
  have hv1 := (hv.keep hk (fun _ _ => id)).row
  have hl2 : s.b.length ≤ 70368744177664 := by omega
  rcases d_cases t.d with e1 | e1 | e1 | e1 | e1 | e1
  · have HB := hid (show wPut s t = wNum s t.n by simp [wPut, e1])
    have b1 : decide (t.d ≤ 1) = true := decide_eq_true e1
    clear e1
    go_enter Try.func20, Try.ntmps20
    go_wp2_with fail
    refine (num_calls h1 _ hl2).mono ?_
    rintro e w1 hp
    obtain ⟨rfl, hp1, hp2⟩ := hp
    go_wp2
    go_end0
    rw [HB.out]
    exact WrPost.after (tW_keep w t _ F) ⟨rfl, hp1, hp2⟩
  · have HB := hid (show wPut s t = wText s t.s.data.toList by simp [wPut, e1])
    have b1 : decide (t.d ≤ 1) = false := decide_eq_false (by omega)
    have b2 : (t.d == 2) = true := by simp; omega
    clear e1
    go_enter Try.func20, Try.ntmps20
    go_wp2_with fail
    refine (text_calls h1 _ hts hl).mono ?_
    rintro e w1 hp
    obtain ⟨rfl, hp1, hp2⟩ := hp
    go_wp2
    go_end0
    rw [HB.out]
    exact WrPost.after (tW_keep w t _ F) ⟨rfl, hp1, hp2⟩
  · have HB := hid (show wPut s t = wText s t.b by simp [wPut, e1])
    have b1 : decide (t.d ≤ 1) = false := decide_eq_false (by omega)
    have b2 : (t.d == 2) = false := by simp; omega
    have b3 : (t.d == 3) = true := by simp; omega
    clear e1
    go_enter Try.func20, Try.ntmps20
    go_wp2_with fail
    refine (bytes_calls h1 hv1 htb hl).mono ?_
    rintro e w1 hp
    obtain ⟨rfl, hp1, hp2⟩ := hp
    go_wp2
    go_end0
    rw [HB.out]
    exact WrPost.after (tW_keep w t _ F) ⟨rfl, hp1, hp2⟩
  · have HB := hid (show wPut s t = wFlag s t.flag by simp [wPut, e1])
    have b1 : decide (t.d ≤ 1) = false := decide_eq_false (by omega)
    have b2 : (t.d == 2) = false := by simp; omega
    have b3 : (t.d == 3) = false := by simp; omega
    have b4 : (t.d == 4) = true := by simp; omega
    clear e1
    go_enter Try.func20, Try.ntmps20
    go_wp2_with fail
    refine (flag_calls h1 _ hl2).mono ?_
    rintro e w1 hp
    obtain ⟨rfl, hp1, hp2⟩ := hp
    go_wp2
    go_end0
    rw [HB.out]
    exact WrPost.after (tW_keep w t _ F) ⟨rfl, hp1, hp2⟩
  · have HB := hid (show wPut s t = wWord s t.x by simp [wPut, e1])
    have b1 : decide (t.d ≤ 1) = false := decide_eq_false (by omega)
    have b2 : (t.d == 2) = false := by simp; omega
    have b3 : (t.d == 3) = false := by simp; omega
    have b4 : (t.d == 4) = false := by simp; omega
    have b5 : (t.d == 5) = true := by simp; omega
    clear e1
    go_enter Try.func20, Try.ntmps20
    go_wp2_with fail
    refine (word_calls h1 _ hl2).mono ?_
    rintro e w1 hp
    obtain ⟨rfl, hp1, hp2⟩ := hp
    go_wp2
    go_end0
    rw [HB.out]
    exact WrPost.after (tW_keep w t _ F) ⟨rfl, hp1, hp2⟩
  · have HB := hid (show wPut s t = wRefuse s by simp [wPut, show ¬ t.d ≤ 1 by omega, show ¬ t.d = 2 by omega, show ¬ t.d = 3 by omega, show ¬ t.d = 4 by omega, show ¬ t.d = 5 by omega])
    have b1 : decide (t.d ≤ 1) = false := decide_eq_false (by omega)
    have b2 : (t.d == 2) = false := by simp; omega
    have b3 : (t.d == 3) = false := by simp; omega
    have b4 : (t.d == 4) = false := by simp; omega
    have b5 : (t.d == 5) = false := by simp; omega
    clear e1
    go_enter Try.func20, Try.ntmps20
    go_wp2_with fail
    refine (refuse_calls h1).mono ?_
    rintro e w1 hp
    obtain ⟨rfl, hp1, hp2⟩ := hp
    go_wp2
    go_end0
    rw [HB.out]
    exact WrPost.after (tW_keep w t _ F) ⟨rfl, hp1, hp2⟩

set_option maxRecDepth 20000 in
set_option maxHeartbeats 1000000 in
theorem model_calls {F G : Nat → Prop} {w : World} {g : Nat} {s : WS} {t : Thing} {v : Value} (h : MwAt F w g s) (hv : Sl .u8 w G v t.b) (hG : ∀ k, G k → ¬ F k ∧ k < w.heap.size) (hts : t.s.size ≤ 140737488355328) (htb : t.b.length ≤ 140737488355328) (hl : s.b.length ≤ 35184372088832) :
    Calls Try.prog 21 #[.pointer (some ⟨g, 0, none⟩), thingV t v] w (MwPost F w g (wPut s t)) := by
  obtain ⟨A, c, rfl⟩ := hv.shape
  have hk := tW_keep w t (.slice A t.b.length c) (fun _ => False)
  have h1 := (h.keep hk (fun _ _ => id)).mono (G := Grow F w (tW w t (.slice A t.b.length c))) (fun _ => .inl)
  have hv1 := (hv.keep hk (fun _ _ => id)).row
  have hG1 : ∀ k, G k → ¬ Grow F w (tW w t (.slice A t.b.length c)) k := fun k hk => by
    rintro (q | ⟨q, _⟩)
    · exact (hG k hk).1 q
    · have := (hG k hk).2; omega
  have hl2 : s.b.length ≤ 70368744177664 := by omega
  rcases d_cases t.d with e1 | e1 | e1 | e1 | e1 | e1
  · have HB := hid (show wPut s t = wNum s t.n by simp [wPut, e1])
    have b1 : decide (t.d ≤ 1) = true := decide_eq_true e1
    clear e1
    go_enter Try.func21, Try.ntmps21
    go_wp2_with fail
    refine (mnum_calls h1 _ hl2).mono ?_
    rintro e w1 hp
    obtain ⟨rfl, hp1, hp2⟩ := hp
    go_wp2
    go_end0
    rw [HB.out]
    exact MwPost.after (tW_keep w t _ F) ⟨rfl, hp1, hp2⟩
  · have HB := hid (show wPut s t = wText s t.s.data.toList by simp [wPut, e1])
    have b1 : decide (t.d ≤ 1) = false := decide_eq_false (by omega)
    have b2 : (t.d == 2) = true := by simp; omega
    clear e1
    go_enter Try.func21, Try.ntmps21
    go_wp2_with fail
    refine (mtext_calls h1 _ hts hl).mono ?_
    rintro e w1 hp
    obtain ⟨rfl, hp1, hp2⟩ := hp
    go_wp2
    go_end0
    rw [HB.out]
    exact MwPost.after (tW_keep w t _ F) ⟨rfl, hp1, hp2⟩
  · have HB := hid (show wPut s t = wText s t.b by simp [wPut, e1])
    have b1 : decide (t.d ≤ 1) = false := decide_eq_false (by omega)
    have b2 : (t.d == 2) = false := by simp; omega
    have b3 : (t.d == 3) = true := by simp; omega
    clear e1
    go_enter Try.func21, Try.ntmps21
    go_wp2_with fail
    refine (mbytes_calls h1 hv1 hG1 htb hl).mono ?_
    rintro e w1 hp
    obtain ⟨rfl, hp1, hp2⟩ := hp
    go_wp2
    go_end0
    rw [HB.out]
    exact MwPost.after (tW_keep w t _ F) ⟨rfl, hp1, hp2⟩
  · have HB := hid (show wPut s t = wFlag s t.flag by simp [wPut, e1])
    have b1 : decide (t.d ≤ 1) = false := decide_eq_false (by omega)
    have b2 : (t.d == 2) = false := by simp; omega
    have b3 : (t.d == 3) = false := by simp; omega
    have b4 : (t.d == 4) = true := by simp; omega
    clear e1
    go_enter Try.func21, Try.ntmps21
    go_wp2_with fail
    refine (mflag_calls h1 _ hl2).mono ?_
    rintro e w1 hp
    obtain ⟨rfl, hp1, hp2⟩ := hp
    go_wp2
    go_end0
    rw [HB.out]
    exact MwPost.after (tW_keep w t _ F) ⟨rfl, hp1, hp2⟩
  · have HB := hid (show wPut s t = wWord s t.x by simp [wPut, e1])
    have b1 : decide (t.d ≤ 1) = false := decide_eq_false (by omega)
    have b2 : (t.d == 2) = false := by simp; omega
    have b3 : (t.d == 3) = false := by simp; omega
    have b4 : (t.d == 4) = false := by simp; omega
    have b5 : (t.d == 5) = true := by simp; omega
    clear e1
    go_enter Try.func21, Try.ntmps21
    go_wp2_with fail
    refine (mword_calls h1 _ hl2).mono ?_
    rintro e w1 hp
    obtain ⟨rfl, hp1, hp2⟩ := hp
    go_wp2
    go_end0
    rw [HB.out]
    exact MwPost.after (tW_keep w t _ F) ⟨rfl, hp1, hp2⟩
  · have HB := hid (show wPut s t = wRefuse s by simp [wPut, show ¬ t.d ≤ 1 by omega, show ¬ t.d = 2 by omega, show ¬ t.d = 3 by omega, show ¬ t.d = 4 by omega, show ¬ t.d = 5 by omega])
    have b1 : decide (t.d ≤ 1) = false := decide_eq_false (by omega)
    have b2 : (t.d == 2) = false := by simp; omega
    have b3 : (t.d == 3) = false := by simp; omega
    have b4 : (t.d == 4) = false := by simp; omega
    have b5 : (t.d == 5) = false := by simp; omega
    clear e1
    go_enter Try.func21, Try.ntmps21
    go_wp2_with fail
    refine (mrefuse_calls h1).mono ?_
    rintro e w1 hp
    obtain ⟨rfl, hp1, hp2⟩ := hp
    go_wp2
    go_end0
    rw [HB.out]
    exact MwPost.after (tW_keep w t _ F) ⟨rfl, hp1, hp2⟩
end Go.Proofs.Ytbfdnhffcdbidaa

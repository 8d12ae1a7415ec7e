/- wapentakeref6.Has: is a number in a list? -/
import Derived.Test.YtiomeoihekifeaaMem
import Derived.Test.YtiomeoihekifeaaProg
namespace Go.Proofs.Ytiomeoihekifeaa
open Go.RowKit
abbrev I64 (n : Int) : Value := .int .i64 n
theorem Row.int' {F : Nat → Prop} {w : World} {v : Value} {l : List Int} (h : Row F w v l.length 1 (l.map I64)) :
    ∃ A c, v = .slice A l.length c ∧ (0 < l.length → ∃ b off, A = some ⟨b, off, none⟩ ∧ F b ∧ ∀ j, j < l.length → w.cell? ⟨b, off + j, none⟩ = some (.int .i64 (l.getD j 0))) := by
  obtain ⟨A, c, rfl, hl, hn, hc, rfl | ⟨b, off, rfl, hF, hb, hcell⟩⟩ := h
  · exact ⟨_, _, rfl, fun h => by omega⟩
  · exact ⟨_, _, rfl, fun _ => ⟨b, off, rfl, hF, fun j hj => hcell j _ (by simp [hj])⟩⟩
set_option maxRecDepth 20000 in
theorem has_calls {F : Nat → Prop} {w : World} {v : Value} {l : List Int} (h : Row F w v l.length 1 (l.map I64)) (n : Int) :
    Calls Try.prog 15 #[v, .int .i64 n] w fun e w' => e = .returned (.bool (decide (n ∈ l))) ∧ w = w' := by
  have hmax : l.length ≤ 9223372036854775807 := by obtain ⟨_, _, _, _, h1, h2, _⟩ := h; unfold maxLen at h2; omega
  obtain ⟨A, c, rfl, hcell⟩ := h.int'
  obtain ⟨len, hlen⟩ : ∃ len, len = l.length := ⟨_, rfl⟩
  rw [← hlen] at hcell hmax ⊢
  have HL := hid hlen
  have HC := hid hcell
  clear hcell hlen h
  go_enter Try.func15, Try.ntmps15
  go_wp2_with fail
  go_loop [5] (fun i => ∃ k : Nat, k ≤ len ∧ i = .int .i64 k ∧ ∀ j, j < k → l.getD j 0 ≠ n) (fun i => len - (intOf i).toNat)
  case atStart => exact ⟨0, Nat.zero_le _, rfl, fun j hj => by omega⟩
  case round =>
    obtain ⟨k, hk, rfl, hno⟩ := hrel
    by_cases hlt : k < len
    · obtain ⟨b, off, rfl, _, hc⟩ := HC.out (by omega)
      have hcell := hc k hlt
      have HNO := hid hno
      clear hc hno
      obtain ⟨x, hx⟩ : ∃ x, x = l.getD k 0 := ⟨_, rfl⟩
      rw [← hx] at hcell
      have HX := hid hx
      clear hx
      by_cases he : x = n
      · have hb : (x == n) = true := by simpa using he
        have HE := hid he
        clear he
        go_wp2_with fail
        refine bodyPost_ret (v := .bool true) (by simp [results, Try.results15, go_sem]) rfl ?_
        have hm : n ∈ l := by
          rw [← HE.out, HX.out]
          have hkl : k < l.length := by rw [← HL.out]; exact hlt
          rw [List.getD_eq_getElem?_getD, List.getElem?_eq_getElem hkl, Option.getD_some]
          exact List.getElem_mem hkl
        rw [decide_eq_true hm]
        exact ⟨rfl, rfl⟩
      · have hb : (x == n) = false := by simpa using he
        have HE := hid he
        clear he
        go_wp2_with fail
        refine ⟨⟨k + 1, by omega, by simp, fun j hj => ?_⟩, by simp [intOf]; omega⟩
        by_cases hjk : j = k
        · subst hjk; rw [← HX.out]; exact HE.out
        · exact HNO.out j (by omega)
    · have HNO := hid hno
      clear hno
      go_wp2_with fail
      refine bodyPost_ret (v := .bool false) (by simp [results, Try.results15, go_sem]) rfl ?_
      have hm : ¬ n ∈ l := fun h => by
        obtain ⟨i, hi⟩ := List.getElem?_of_mem h
        have hil := (List.getElem?_eq_some_iff.1 hi).1
        exact HNO.out i (by have := HL.out; omega) (by rw [List.getD_eq_getElem?_getD, hi, Option.getD_some])
      rw [decide_eq_false hm]
      exact ⟨rfl, rfl⟩
end Go.Proofs.Ytiomeoihekifeaa

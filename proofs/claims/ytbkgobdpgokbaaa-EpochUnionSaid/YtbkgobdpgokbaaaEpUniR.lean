/- wapentakeref6: Union. -/
import Derived.Test.YtbkgobdpgokbaaaEpUni
import Derived.Test.YtbkgobdpgokbaaaEpRefCh
import Derived.Test.YtbkgobdpgokbaaaEpRefN
import Derived.Test.YtbkgobdpgokbaaaMostR
namespace Go.Proofs.Ytbkgobdpgokbaaa
open Go.RowKit
/-- Who is a member of any epoch. -/
def inU (L : List Ep) (x : Int) : Bool := L.any (fun e => e.2.contains x)
section
variable {F G S : Nat → Prop} {w w' : World} {v vm : Value} {L : List Ep} {M : List Int} {g B : Nat} {al : Int}
theorem any_take_succ {p : Ep → Bool} {k : Nat} {x : Ep} (h : L[k]? = some x) : (L.take (k + 1)).any p = ((L.take k).any p || p x) := by
  rw [take_succ_get h, List.any_append]; simp
set_option maxRecDepth 20000 in
set_option maxHeartbeats 1600000 in
theorem runion_calls (h : REpAt F w g al L) (hl : L.length ≤ 100000) : Calls Try.prog 32 #[.pointer (some ⟨g, 0, none⟩)] w fun e w' => ∃ A c, e = .returned (.slice A (memL (inU L)).length c) ∧ w'.ownsRow 0 3 1 (.slice A (memL (inU L)).length c) (memL (inU L)).length ((memL (inU L)).map I64) ∧ Keep (fun _ => False) w w' := by
  obtain ⟨v, hg, hs⟩ := h.val
  have HS := hid hs
  obtain ⟨A0, c0, rfl⟩ := hs.shape
  obtain ⟨n, hn⟩ : ∃ n, n = L.length := ⟨_, rfl⟩
  have c1 := cell_at hg 1 (.slice A0 L.length c0) rfl
  rw [← hn] at HS c1 hl
  have HN := hid hn
  clear hg hs h hn
  go_enter Try.func32, Try.ntmps32
  go_wp2_with fail
  go_loopw [3, 4] (fun ms i wr => ∃ (k : Nat) (A : Option Addr) (c : Nat), k ≤ 15 ∧ i = .int .i64 k ∧ ms = .slice A (memK (inU L) k).length c ∧ wr.ownsRow 0 3 1 (.slice A (memK (inU L) k).length c) (memK (inU L) k).length ((memK (inU L) k).map I64) ∧
    (∀ b, (Value.slice A (memK (inU L) k).length c).ownBlock = some b → w.heap.size ≤ b) ∧ Keep (fun _ => False) w wr) (fun _ i _ => 15 - (intOf i).toNat)
  case atStart => exact ⟨0, none, 0, by omega, rfl, rfl, World.ownsRow_nil _ 0 _ _, fun b hb => by simp [Value.ownBlock] at hb, Keep.refl _ _⟩
  case round =>
    obtain ⟨k, A, c2, hk, rfl, rfl, ho, hnb, hkp⟩ := hrel
    by_cases hlt : k < 15
    · have hNk := memK_len (inU L) k
      obtain ⟨N, hN⟩ : ∃ N, N = (memK (inU L) k).length := ⟨_, rfl⟩
      rw [← hN] at ho hnb hNk ⊢
      have HNL := hid hN; have HO := hid ho; have HNB := hid hnb; have HKP := hid hkp
      have d15 : decide ((k : Int) < 15) = true := decide_eq_true (by omega)
      clear hN ho hnb hkp
      go_wp2_with fail
      go_loopw [5, 6] (fun b j wr2 => ∃ jn : Nat, jn ≤ n ∧ j = .int .i64 jn ∧ b = .bool ((L.take jn).any (fun e => e.2.contains (k : Int))) ∧ wr2 = wr) (fun _ j _ => n - (intOf j).toNat)
      case atStart => exact ⟨0, Nat.zero_le _, rfl, by simp, rfl⟩
      case round =>
        obtain ⟨jn, hj, rfl, rfl, rfl⟩ := hrel
        have e1 := HKP.out.cell c1 id
        by_cases hlt2 : jn < n
        · obtain ⟨x, hx⟩ : ∃ x, L[jn]? = some x := ⟨L[jn]'(by rw [← HN.out]; exact hlt2), by simp [show jn < L.length by rw [← HN.out]; exact hlt2]⟩
          obtain ⟨b, off, vm, rfl, _, d0, d1, d2, _⟩ := (HS.out.keepF HKP.out).elem hx
          have hh := has_calls d2 (k : Int)
          obtain ⟨Am, cm, rfl⟩ := d2.shape
          have hany := any_take_succ (p := fun e => e.2.contains (k : Int)) hx
          have hdc : x.2.contains (k : Int) = decide ((k : Int) ∈ x.2) := by simp
          rw [hdc] at hany
          obtain ⟨q, hq⟩ : ∃ q, q = (L.take jn).any (fun e => e.2.contains (k : Int)) := ⟨_, rfl⟩
          rw [← hq] at hany ⊢
          obtain ⟨r, hr⟩ : ∃ r, r = decide ((k : Int) ∈ x.2) := ⟨_, rfl⟩
          rw [← hr] at hany hh
          have HANY := hid hany
          clear hany hx d0 d2 hdc hq hr
          cases q with
          | true =>
            go_wp2_with fail
            exact ⟨⟨jn + 1, by omega, by simp, by rw [HANY.out]; rfl, trivial⟩, by simp [intOf]; omega⟩
          | false =>
            cases r <;> (
              go_wp2_with fail
              refine hh.mono ?_
              rintro e w' ⟨rfl, rfl⟩
              go_wp2_with fail
              exact ⟨⟨jn + 1, by omega, by simp, by rw [HANY.out]; rfl, trivial⟩, by simp [intOf]; omega⟩)
        · obtain rfl : jn = n := by omega
          have hany : (L.take jn).any (fun e => e.2.contains (k : Int)) = inU L k := by rw [List.take_of_length_le (by rw [← HN.out]; exact Nat.le_refl _)]; rfl
          rw [hany]
          cases hp : inU L k with
          | true =>
            have HP := hid hp
            clear hp hany
            go_wp2_with (at_builtin; refine stopHere ?_)
            refine goOn (wpl_app (v := .slice A N c2) rfl rfl SLI7 rfl (ownsAlloc HO.out _) rfl (Row.one wr _ _) (by simp [Value.oneCell']) (by omega) (by omega) ?_)
            intro A5 c5 w5 ho5 hk5 hn5
            go_wp2_with fail
            have hS : memK (inU L) (k + 1) = memK (inU L) k ++ [(k : Int)] := by rw [memK_succ, if_pos HP.out]
            have hlen : (memK (inU L) (k + 1)).length = N + 1 := by rw [hS, List.length_append, ← HNL.out]; rfl
            refine ⟨⟨k + 1, A5, c5, by omega, by simp, by rw [hlen], by rw [hlen, hS, List.map_append]; exact ho5, fun q hq => ?_, HKP.out.trans (((Keep.refl _ wr).alloc _).trans hk5 (fun _ _ h => h)) (fun q h1 h2 => by have := HNB.out q h2.symm; omega)⟩, by simp [intOf]; omega⟩
            rcases hn5 q (by rw [hlen] at hq; exact hq) with e | e
            · exact HNB.out q e
            · have e : wr.heap.size + 1 ≤ q := by simpa using e
              have := HKP.out.size
              omega
          | false =>
            have HP := hid hp
            clear hp hany
            go_wp2_with fail
            have hS : memK (inU L) (k + 1) = memK (inU L) k := by rw [memK_succ, if_neg (by rw [HP.out]; simp), List.append_nil]
            exact ⟨⟨k + 1, A, c2, by omega, by simp, by rw [hS, HNL.out], by rw [hS, ← HNL.out]; exact HO.out, by rw [hS, ← HNL.out]; exact HNB.out, HKP.out⟩, by simp [intOf]; omega⟩
    · obtain rfl : k = 15 := by omega
      have HO := hid ho; have HKP := hid hkp
      clear ho hkp hnb
      go_wp2_with fail
      go_ret
      exact ⟨A, c2, rfl, HO.out, HKP.out⟩
end
end Go.Proofs.Ytbkgobdpgokbaaa

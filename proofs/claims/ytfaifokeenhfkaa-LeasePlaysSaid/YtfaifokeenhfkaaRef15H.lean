/- wapentakeref15.Lease: Holds. -/
import Derived.Test.YtfaifokeenhfkaaRef15
import Derived.Test.YtfaifokeenhfkaaMostR
namespace Go.Proofs.Ytfaifokeenhfkaa
open Go.RowKit
def xAt (s : LeS) (i : Nat) : Int := (look s.given (i : Int)).getD (-1)
def refIds (s : LeS) (now : Int) : Nat → List Int
  | 0 => []
  | k + 1 => refIds s now k ++ if 0 ≤ xAt s k ∧ freshB s now (xAt s k) = true then [(k : Int)] else []
theorem refIds_len (s : LeS) (now : Int) : ∀ k, (refIds s now k).length ≤ k
  | 0 => Nat.le_refl _
  | k + 1 => by
    have := refIds_len s now k
    rw [refIds, List.length_append]
    split <;> simp <;> omega
theorem refIds_mem (s : LeS) (now : Int) (x : Int) : ∀ k, x ∈ refIds s now k ↔ ∃ i : Nat, i < k ∧ x = (i : Int) ∧ 0 ≤ xAt s i ∧ freshB s now (xAt s i) = true
  | 0 => by simp [refIds]
  | k + 1 => by
    rw [refIds, List.mem_append, refIds_mem s now x k]
    constructor
    · rintro (⟨i, h1, h2⟩ | h)
      · exact ⟨i, by omega, h2⟩
      · split at h
        · rename_i hc
          rw [List.mem_singleton] at h
          exact ⟨k, by omega, h, hc⟩
        · cases h
    · rintro ⟨i, h1, h2, h3⟩
      by_cases hi : i < k
      · exact .inl ⟨i, hi, h2, h3⟩
      · obtain rfl : i = k := by omega
        right
        rw [if_pos h3, h2]; simp
theorem refIds_fresh {s : LeS} (hok : s.Ok) (hn : (s.given.map Prod.fst).Nodup) (now x : Int) : x ∈ refIds s now 15 ↔ x ∈ freshIds s now := by
  rw [refIds_mem, freshIds, List.mem_map]
  constructor
  · rintro ⟨i, h1, rfl, h2, h3⟩
    cases hl : look s.given (i : Int) with
    | none => simp [xAt, hl] at h2
    | some a =>
      simp [xAt, hl] at h3
      exact ⟨((i : Int), a), List.mem_filter.2 ⟨look_mem hl, h3⟩, rfl⟩
  · rintro ⟨⟨k, a⟩, h1, rfl⟩
    obtain ⟨h2, h3⟩ := List.mem_filter.1 h1
    have hg := hok.giv _ h2
    obtain ⟨j, hj⟩ := List.getElem?_of_mem h2
    have hl := look_at hn hj
    simp only at hg hl h3
    refine ⟨k.toNat, by omega, by omega, ?_⟩
    rw [xAt, show ((k.toNat : Nat) : Int) = k by omega, hl]
    exact ⟨hg.2.2.1, h3⟩
section
variable {F G : Nat → Prop} {w w' : World} {g : Nat} {s : LeS} {vm : Value} {M : List Int}
set_option maxRecDepth 20000 in
set_option maxHeartbeats 4000000 in
theorem rholds_calls (h : RefAt F w g s) {now : Int} (hnow : okI now) (hM : Row G w vm M.length 1 (M.map I64)) (hl : M.length ≤ 1000000) :
    Calls Try.prog 26 #[.pointer (some ⟨g, 0, none⟩), .int .i64 now, vm] w fun e w' => e = .returned (.bool (mostB M (refIds s now 15))) ∧ Keep (fun _ => False) w w' := by
  have T : SlT Try.prog 33 3 (.int .i64 0) 1 8 := SlT.mk' Try.underlying33 (by kernel_rfl) rfl (by decide)
  have H := hid h
  have HM := hid hM
  obtain ⟨v, hg, hown, _⟩ := h
  obtain ⟨b, cap, rfl, hcell, _⟩ := own_shape hown (by decide)
  have HC3 := hid (cell_at hg 3 (.slice (some ⟨b, 0, none⟩) 15 cap) rfl)
  have HCELL := hid hcell
  have hn1 := hnow.1
  have hn2 := hnow.2
  clear hg hown hcell hM
  go_enter Try.func26, Try.ntmps26
  go_wp2_with fail
  go_loopw [7, 8] (fun u i wr => ∃ (k : Nat), k ≤ 15 ∧ i = .int .i64 k ∧ wr.ownsRow 0 3 1 u (refIds s now k).length ((refIds s now k).map I64) ∧ (∀ b, u.ownBlock = some b → w.heap.size ≤ b) ∧ Keep (fun _ => False) w wr) (fun _ i _ => 15 - (intOf i).toNat)
  case atStart => exact ⟨0, by omega, rfl, by simpa [refIds] using World.ownsRow_nil _ _ _ _, fun b hb => by simp [Value.ownBlock] at hb, Keep.refl _ _⟩
  case round =>
    obtain ⟨k, hk, rfl, ho, hnb, hkp⟩ := hrel
    by_cases hlt : k < 15
    · have c3 := hkp.cell HC3.out id
      obtain ⟨x, hx⟩ : ∃ x, x = xAt s k := ⟨_, rfl⟩
      have ci := hkp.cell (HCELL.out k (.int .i64 x) (by rw [List.getElem?_map, gList_at s hlt, hx]; rfl)) id
      have hsh : ∀ m, Calls Try.prog 25 #[.pointer (some ⟨g, 0, none⟩)] (wr.drewN m) fun e w' => e = .returned (.int .i64 (shortP s)) ∧ ∃ q, w' = (wr.drewN m).drewN q := fun m => rshort_calls (H.out.keep (hkp.drewN m) (fun _ _ => id))
      have hnext : refIds s now (k + 1) = refIds s now k ++ if 0 ≤ x ∧ freshB s now x = true then [(k : Int)] else [] := by rw [hx]; rfl
      have hlen := refIds_len s now k
      obtain ⟨ids, hids⟩ : ∃ ids, ids = refIds s now k := ⟨_, rfl⟩
      rw [← hids] at ho hnext hlen
      obtain ⟨sh, hs⟩ : ∃ sh, sh = shortP s := ⟨_, rfl⟩
      rw [← hs] at hsh
      have HS := hid hs
      have HNX := hid hnext; have HNB := hid hnb; have HKP := hid hkp; have HO := hid ho
      clear hx hids hs hnext hnb hkp ho
      have hno : ¬ (0 ≤ x ∧ freshB s now x = true) → ∀ m, ∃ k' : Nat, k' ≤ 15 ∧ (Value.int .i64 ((k : Int) + 1)) = .int .i64 k' ∧ (wr.drewN m).ownsRow 0 3 1 u7 (refIds s now k').length ((refIds s now k').map I64) ∧ (∀ b, (u7 : Value).ownBlock = some b → w.heap.size ≤ b) ∧ Keep (fun _ => False) w (wr.drewN m) := fun hc m => by
        refine ⟨k + 1, by omega, by simp, ?_, HNB.out, HKP.out.drewN m⟩
        rw [HNX.out, if_neg hc, List.append_nil]
        exact ((Keep.refl (fun _ => False) wr).drewN m).owns HO.out (fun _ _ => id)
      have HNO := hid hno
      clear hno
      by_cases x0 : 0 ≤ x
      case neg =>
        have d0 : decide (0 ≤ x) = false := decide_eq_false x0
        have HN1 := hid (HNO.out (fun q => x0 q.1))
        go_wp2_with fail
        go_quiet ((first | (go_at_call 25; exact quietC (hsh _))))
        go_wp2_with fail
        exact ⟨HN1.out _, by simp [intOf]; omega⟩
      have d0 : decide (0 ≤ x) = true := decide_eq_true x0
      by_cases xn : x ≤ now
      case neg =>
        have d1 : decide (x ≤ now) = false := decide_eq_false xn
        have HN1 := hid (HNO.out (fun q => by have := q.2; simp [freshB, xn] at this))
        go_wp2_with fail
        go_quiet ((first | (go_at_call 25; exact quietC (hsh _))))
        go_wp2_with fail
        exact ⟨HN1.out _, by simp [intOf]; omega⟩
      have d1 : decide (x ≤ now) = true := decide_eq_true xn
      have hw : wrap64 (now - x) = now - x := by unfold wrap64; omega
      by_cases xs : now - x < sh
      case neg =>
        have d2 : decide (now - x < sh) = false := decide_eq_false xs
        have HN1 := hid (HNO.out (fun q => by
          have h1 := q.2
          have h2 : ¬ now - x < shortP s := by rw [← HS.out]; exact xs
          rw [freshB, decide_eq_true xn, decide_eq_false h2] at h1
          cases h1))
        go_wp2_with fail
        go_quiet ((first | (go_at_call 25; exact quietC (hsh _))))
        go_wp2_with fail
        exact ⟨HN1.out _, by simp [intOf]; omega⟩
      have d2 : decide (now - x < sh) = true := decide_eq_true xs
      have hyes : 0 ≤ x ∧ freshB s now x = true := ⟨x0, by
        have h2 : now - x < shortP s := by rw [← HS.out]; exact xs
        rw [freshB, decide_eq_true xn, decide_eq_true h2]; rfl⟩
      have HYES := hid hyes
      clear hyes
      go_wp2_with fail
      go_quiet ((first | (go_at_call 25; exact quietC (hsh _))))
      have hod := ((Keep.refl (fun _ => False) wr).drewN nq).owns HO.out (fun _ _ => id)
      go_wp2_with (at_builtin; refine stopHere ?_)
      refine goOn (wpl_app (v := u7) rfl rfl T rfl (ownsAlloc hod _) rfl (Row.one (wr.drewN nq) _ _) (by simp [Value.oneCell']) (by omega) (by omega) ?_)
      intro A c w6 ho6 hk6 hn6
      go_wp2
      have hws := HKP.out.size
      refine ⟨⟨k + 1, by omega, by simp, ?_, fun q hq => ?_, ?_⟩, by simp [intOf]; omega⟩
      · rw [HNX.out, if_pos HYES.out]
        simpa using ho6
      · rcases hn6 q (by simpa using hq) with r | r
        · exact HNB.out q r
        · have : (wr.drewN nq).heap.size + 1 ≤ q := by simpa using r
          have : (wr.drewN nq).heap.size = wr.heap.size := rfl
          omega
      · exact ((HKP.out.drewN nq).alloc _).trans hk6 (fun b hb e => by have := HNB.out b e.symm; omega)
    · obtain rfl : k = 15 := by omega
      have hmost := rmost_calls (M := M) (HM.out.keep hkp (fun _ _ => id)) hl (Row.ofOwn ho)
      rw [mostB_ref] at hmost
      have HKP := hid hkp
      clear hkp ho hnb
      go_wp2_with fail
      refine hmost.mono ?_
      rintro e w7 ⟨rfl, k7⟩
      go_wp2_with fail
      go_ret
      exact ⟨rfl, HKP.out.trans k7 (fun _ _ h => h)⟩
end
end Go.Proofs.Ytfaifokeenhfkaa

/- wapentakeref6.May, Has, Most, Quorum. -/
import Derived.Test.YthlgnilgjeebaaaInts
namespace Go.Proofs.Ythlgnilgjeebaaa
open Go.RowKit
set_option maxRecDepth 20000 in
theorem has_calls {F : Nat → Prop} {w : World} {v : Value} {l : List Int} (h : Row F w v l.length 1 (l.map I64)) (n : Int) :
    Calls Try.prog 11 #[v, .int .i64 n] w fun e w' => e = .returned (.bool (decide (n ∈ l))) ∧ w = w' := by
  have hmax : l.length ≤ 9223372036854775807 := by obtain ⟨_, _, _, _, h1, h2, _⟩ := h; unfold maxLen at h2; omega
  obtain ⟨A, c, rfl, hcell⟩ := h.int'
  obtain ⟨len, hlen⟩ : ∃ len, len = l.length := ⟨_, rfl⟩
  rw [← hlen] at hcell hmax ⊢
  have HL := hid hlen
  have HC := hid hcell
  clear hcell hlen h
  go_enter Try.func11, Try.ntmps11
  go_wp2_with fail
  go_loop [5] (fun i => ∃ k : Nat, k ≤ len ∧ i = .int .i64 k ∧ ∀ j, j < k → l.getD j 0 ≠ n) (fun i => len - (intOf i).toNat)
  case atStart => exact ⟨0, Nat.zero_le _, rfl, fun j hj => by omega⟩
  case round =>
    obtain ⟨k, hk, rfl, hno⟩ := hrel
    by_cases hlt : k < len
    · obtain ⟨b, off, rfl, _, hc⟩ := HC.out (by omega)
      have hcell := hc k hlt
      have HNO := hid hno
      clear hc hno
      obtain ⟨x, hx⟩ : ∃ x, x = l.getD k 0 := ⟨_, rfl⟩
      rw [← hx] at hcell
      have HX := hid hx
      clear hx
      by_cases he : x = n
      · have hb : (x == n) = true := by simpa using he
        have HE := hid he
        clear he
        go_wp2_with fail
        refine bodyPost_ret (v := .bool true) (by simp [results, Try.results11, go_sem]) rfl ?_
        have hm : n ∈ l := by
          rw [← HE.out, HX.out]
          have hkl : k < l.length := by rw [← HL.out]; exact hlt
          rw [List.getD_eq_getElem?_getD, List.getElem?_eq_getElem hkl, Option.getD_some]
          exact List.getElem_mem hkl
        rw [decide_eq_true hm]
        exact ⟨rfl, rfl⟩
      · have hb : (x == n) = false := by simpa using he
        have HE := hid he
        clear he
        go_wp2_with fail
        refine ⟨⟨k + 1, by omega, by simp, fun j hj => ?_⟩, by simp [intOf]; omega⟩
        by_cases hjk : j = k
        · subst hjk; rw [← HX.out]; exact HE.out
        · exact HNO.out j (by omega)
    · have HNO := hid hno
      clear hno
      go_wp2_with fail
      refine bodyPost_ret (v := .bool false) (by simp [results, Try.results11, go_sem]) rfl ?_
      have hm : ¬ n ∈ l := fun h => by
        obtain ⟨i, hi⟩ := List.getElem?_of_mem h
        have hil := (List.getElem?_eq_some_iff.1 hi).1
        exact HNO.out i (by have := HL.out; omega) (by rw [List.getD_eq_getElem?_getD, hi, Option.getD_some])
      rw [decide_eq_false hm]
      exact ⟨rfl, rfl⟩
theorem quietS {P : Program} {f : FuncId} {args : Array Value} {w : World} {n : Nat} {v : Value}
    (h : Calls P f args (w.drewN n) fun e w' => e = .returned v ∧ w.drewN n = w') : Calls P f args (w.drewN n) fun e w'' => e = .returned v ∧ ∃ m, w'' = w.drewN m :=
  h.mono fun _ _ ⟨he, hm⟩ => ⟨he, n, hm.symm⟩
theorem Row.drewN {F : Nat → Prop} {w : World} {v : Value} {n size : Nat} {cs : List Value} (h : Row F w v n size cs) (k : Nat) : Row F (w.drewN k) v n size cs := h.keep ((Keep.refl (fun _ => False) w).drewN k) (fun _ _ => id)
/-- Members that may be. -/
def GoodM (M : List Int) : Prop := 0 < M.length ∧ M.length ≤ 15 ∧ ∀ j, j + 1 < M.length → M.getD j 0 < M.getD (j + 1) 0
def MayPost (l : List Int) (w : World) (e : Ending) (w' : World) : Prop := ∃ b, e = .returned (.bool b) ∧ (b = true → GoodM l) ∧ Keep (fun _ => False) w w'
section
variable {F G : Nat → Prop} {w : World} {v vm vi : Value} {l M I : List Int}
set_option maxRecDepth 20000 in
set_option maxHeartbeats 4000000 in
theorem may_calls (h : Row F w v l.length 1 (l.map I64)) : Calls Try.prog 21 #[v] w (MayPost l w) := by
  have hmax : l.length ≤ 9223372036854775807 := by obtain ⟨_, _, _, _, h1, h2, _⟩ := h; unfold maxLen at h2; omega
  obtain ⟨A, c, rfl, hcell⟩ := h.int'
  obtain ⟨n, hn⟩ : ∃ n, n = l.length := ⟨_, rfl⟩
  rw [← hn] at hcell hmax ⊢
  have HN := hid hn
  have HC := hid hcell
  clear hcell hn h
  by_cases h1 : n < 1
  · have q1 : decide ((n : Int) < 1) = true := by simp; omega
    go_enter Try.func21, Try.ntmps21
    go_wp2_with fail
    go_ret
    exact ⟨false, rfl, by simp, Keep.refl _ _⟩
  have q1 : decide ((n : Int) < 1) = false := by simp; omega
  by_cases h2 : 15 < n
  · have q2 : decide (15 < (n : Int)) = true := by simp; omega
    go_enter Try.func21, Try.ntmps21
    go_wp2_with fail
    go_ret
    exact ⟨false, rfl, by simp, Keep.refl _ _⟩
  have q2 : decide (15 < (n : Int)) = false := by simp; omega
  go_enter Try.func21, Try.ntmps21
  go_wp2_with fail
  go_loopw [3] (fun i wr => ∃ k : Nat, k ≤ n ∧ i = .int .i64 k ∧ (∀ j, j + 1 < k → l.getD j 0 < l.getD (j + 1) 0) ∧ Keep (fun _ => False) w wr) (fun i _ => n - (intOf i).toNat)
  case atStart => exact ⟨0, Nat.zero_le _, rfl, fun j hj => by omega, Keep.refl _ _⟩
  case round =>
    obtain ⟨k, hk, rfl, hinc, hkp⟩ := hrel
    have HINC := hid hinc
    clear hinc
    by_cases hlt : k < n
    · obtain ⟨b, off, rfl, _, hcc⟩ := HC.out (by omega)
      have d1 := hkp.cell (hcc k hlt) id
      obtain ⟨x, hx⟩ : ∃ x, x = l.getD k 0 := ⟨_, rfl⟩
      rw [← hx] at d1
      have HX := hid hx
      have HCC := hid hcc
      have HKP := hid hkp
      clear hx hcc hkp
      by_cases x0 : x < 0
      · have d0 : decide (x < 0) = true := decide_eq_true x0
        go_wp2_with fail
        go_quiet (fail)
        go_wp2_with fail
        go_ret
        exact ⟨false, rfl, by simp, HKP.out.drewN _⟩
      have d0 : decide (x < 0) = false := decide_eq_false x0
      by_cases x15 : 15 ≤ x
      · have d15 : decide (15 ≤ x) = true := decide_eq_true x15
        go_wp2_with fail
        go_quiet (fail)
        go_wp2_with fail
        go_ret
        exact ⟨false, rfl, by simp, HKP.out.drewN _⟩
      have d15 : decide (15 ≤ x) = false := decide_eq_false x15
      by_cases hk0 : k = 0
      · have hz : decide (0 < k) = false := by simp; omega
        have HK0 := hid hk0
        clear hk0
        go_wp2_with fail
        go_quiet (fail)
        go_wp2_with fail
        exact ⟨⟨k + 1, by omega, by simp, fun j hj => by have := HK0.out; omega, HKP.out.drewN _⟩, by simp [intOf]; omega⟩
      · obtain ⟨j, hj⟩ : ∃ j, j + 1 = k := ⟨k - 1, by omega⟩
        have hjn : j < n := by omega
        have d2 := HKP.out.cell (HCC.out j hjn) id
        obtain ⟨y, hy⟩ : ∃ y, y = l.getD j 0 := ⟨_, rfl⟩
        rw [← hy] at d2
        have HY := hid hy
        have e1 : wrap64 ((k : Int) - 1) = (j : Int) := by unfold wrap64; omega
        have e2 : IntKind.i64.wrap ((k : Int) - 1) = (j : Int) := by simp [IntKind.wrap, IntKind.signed, IntKind.bits]; omega
        have HJ := hid hj
        have hz : decide (0 < k) = true := by simp; omega
        clear hy hj hk0
        by_cases hxy : x ≤ y
        · have dxy : decide (x ≤ y) = true := decide_eq_true hxy
          go_wp2_with fail
          go_quiet (fail)
          go_wp2_with fail
          go_ret
          exact ⟨false, rfl, by simp, HKP.out.drewN _⟩
        · have dxy : decide (x ≤ y) = false := decide_eq_false hxy
          go_wp2_with fail
          go_quiet (fail)
          go_wp2_with fail
          refine ⟨⟨k + 1, by omega, by simp, fun i hi => ?_, HKP.out.drewN _⟩, by simp [intOf]; omega⟩
          have hj := HJ.out
          by_cases hij : i = j
          · subst hij
            rw [hj, ← HX.out, ← HY.out]; omega
          · exact HINC.out i (by omega)
    · go_wp2_with fail
      go_ret
      obtain rfl : k = n := by omega
      have hnn := HN.out
      exact ⟨true, rfl, fun _ => ⟨by omega, by omega, fun j hj => HINC.out j (by omega)⟩, hkp⟩
set_option maxRecDepth 20000 in
theorem rquorum_calls (h : Row F w v l.length 1 (l.map I64)) (hl : l.length ≤ 1000000) : Calls Try.prog 51 #[v] w fun e w' => e = .returned (.int .i64 (quoN l)) ∧ w = w' := by
  obtain ⟨A, c, rfl⟩ := h.shape
  have e1 : wrap64 (wrap64 ((l.length : Int).tdiv 2) + 1) = quoN l := by unfold quoN; rw [Int.tdiv_eq_ediv_of_nonneg (by omega)]; unfold wrap64; omega
  have e2 : wrap64 ((l.length : Int).tdiv 2) = l.length / 2 := by rw [Int.tdiv_eq_ediv_of_nonneg (by omega)]; unfold wrap64; omega
  go_enter Try.func51, Try.ntmps51
  go_wp2_with fail
  go_ret
  refine ⟨congrArg (fun x => Ending.returned (.int .i64 x)) (a₂ := (quoN l : Int)) ?_, rfl⟩
  unfold quoN
  first | rfl | omega | (simp; done) | (rw [e2]; unfold wrap64; omega)
/-- How many of the first k members are among I, each once. -/
def cntR (M I : List Int) : Nat → Nat
  | 0 => 0
  | k + 1 => cntR M I k + if M.getD k 0 ∈ I ∧ M.getD k 0 ∉ M.take k then 1 else 0
theorem cntR_le (M I : List Int) : ∀ k, cntR M I k ≤ k
  | 0 => Nat.le_refl _
  | k + 1 => by have := cntR_le M I k; rw [cntR]; split <;> omega
theorem Row.uptoI {A : Option Addr} {c k : Nat} (h : Row F w (.slice A l.length c) l.length 1 (l.map I64)) (hk : k ≤ l.length) : Row F w (.slice A k c) (l.take k).length 1 ((l.take k).map I64) := by
  obtain ⟨A', c', he, hl, hnc, hc, hA⟩ := h
  simp only [Value.slice.injEq, true_and] at he
  obtain ⟨rfl, rfl⟩ := he
  have e : (l.take k).length = k := by simp; omega
  rw [e]
  refine ⟨A, c, rfl, by simp; omega, by omega, hc, hA.imp id ?_⟩
  rintro ⟨b, off, hA, hF, hb, hcell⟩
  refine ⟨b, off, hA, hF, hb, fun j u hu => hcell j u ?_⟩
  rw [List.map_take, List.getElem?_take] at hu
  split at hu
  · exact hu
  · cases hu
set_option maxRecDepth 20000 in
set_option maxHeartbeats 4000000 in
theorem rmost_calls (hM : Row F w vm M.length 1 (M.map I64)) (hl : M.length ≤ 1000000) (hI : Row G w vi I.length 1 (I.map I64)) :
    Calls Try.prog 22 #[vm, vi] w fun e w' => e = .returned (.bool (decide (quoN M ≤ cntR M I M.length))) ∧ Keep (fun _ => False) w w' := by
  have HM := hid hM
  have HI := hid hI
  have hcap : ∀ A n c, vm = .slice A n c → n ≤ c ∧ c ≤ maxLen := fun A n c e => by
    obtain ⟨A', c', he, _, q1, q2, _⟩ := hM
    rw [e] at he
    simp only [Value.slice.injEq] at he
    obtain ⟨rfl, rfl, rfl⟩ := he
    exact ⟨q1, q2⟩
  obtain ⟨A, c, rfl, hcell⟩ := hM.int'
  obtain ⟨n, hn⟩ : ∃ n, n = M.length := ⟨_, rfl⟩
  have HCell := hid hcell
  have HN := hid hn
  obtain ⟨hcap1, hcap2⟩ := hcap _ _ _ rfl
  rw [← hn] at hcap1
  unfold maxLen at hcap2
  clear hcell hM hI hcap
  rw [← hn] at hl ⊢
  clear hn
  go_enter Try.func22, Try.ntmps22
  go_wp2_with fail
  go_loopw [5, 6] (fun u i wr => ∃ k : Nat, k ≤ n ∧ i = .int .i64 k ∧ u = .int .i64 (cntR M I k : Nat) ∧ Keep (fun _ => False) w wr) (fun _ i _ => n - (intOf i).toNat)
  case atStart => exact ⟨0, Nat.zero_le _, rfl, rfl, Keep.refl _ _⟩
  case round =>
    obtain ⟨k, hk, rfl, rfl, hkp⟩ := hrel
    by_cases hlt : k < n
    · obtain ⟨b, off, rfl, _, hcc⟩ := HCell.out (by have := HN.out; omega)
      have hcell := hkp.cell (hcc k (by have := HN.out; omega)) id
      have hcx : cntR M I (k + 1) = cntR M I k + if M.getD k 0 ∈ I ∧ M.getD k 0 ∉ M.take k then 1 else 0 := rfl
      have hc6 := cntR_le M I k
      obtain ⟨x, hx⟩ : ∃ x, x = M.getD k 0 := ⟨_, rfl⟩
      rw [← hx] at hcell hcx
      obtain ⟨cnt, hct⟩ : ∃ cnt, cnt = cntR M I k := ⟨_, rfl⟩
      rw [← hct] at hcx hc6 ⊢
      have HCX := hid hcx
      have K1 := fun m => has_calls ((HI.out.keep hkp (fun _ _ => id)).drewN m) x
      have K2 := fun m => has_calls (((HM.out.keep hkp (fun _ _ => id)).uptoI (k := k) (by have := HN.out; omega)).drewN m) x
      obtain ⟨b1, hb1⟩ : ∃ b1, b1 = decide (x ∈ I) := ⟨_, rfl⟩
      obtain ⟨b2, hb2⟩ : ∃ b2, b2 = decide (x ∈ M.take k) := ⟨_, rfl⟩
      rw [← hb1] at K1
      rw [← hb2] at K2
      have HKP := hid hkp
      have hval : cntR M I (k + 1) = cnt + if b1 = true ∧ b2 = false then 1 else 0 := by
        rw [hcx, hb1, hb2]
        by_cases q1 : x ∈ I <;> by_cases q2 : x ∈ M.take k <;> simp [q1, q2]
      have HV := hid hval
      clear hct hx hcx hb1 hb2 hkp hcc hval HCX
      cases b1
      · go_wp2_with fail
        go_quiet ((first | (go_at_call 11; first | with_reducible exact quietS (K1 _) | exact quietS (K2 _))))
        go_wp2_with fail
        exact ⟨⟨k + 1, by omega, by simp, by rw [HV.out]; simp, HKP.out.drewN _⟩, by simp [intOf]; omega⟩
      · cases b2
        · go_wp2_with fail
          go_quiet ((first | (go_at_call 11; first | with_reducible exact quietS (K1 _) | exact quietS (K2 _))))
          go_wp2_with fail
          exact ⟨⟨k + 1, by omega, by simp, by rw [HV.out]; simp, HKP.out.drewN _⟩, by simp [intOf]; omega⟩
        · go_wp2_with fail
          go_quiet ((first | (go_at_call 11; first | with_reducible exact quietS (K1 _) | exact quietS (K2 _))))
          go_wp2_with fail
          exact ⟨⟨k + 1, by omega, by simp, by rw [HV.out]; simp, HKP.out.drewN _⟩, by simp [intOf]; omega⟩
    · obtain rfl : k = n := by omega
      have hq := rquorum_calls (HM.out.keep hkp (fun _ _ => id)) (by have := HN.out; omega)
      have hnn := HN.out
      rw [← hnn] at hq
      have HKP := hid hkp
      clear hkp hnn
      go_wp2_with fail
      refine hq.mono ?_
      rintro e w' ⟨rfl, rfl⟩
      go_wp2_with fail
      refine bodyPost_ret (v := .bool (decide (((quoN M : Nat) : Int) ≤ ((cntR M I k : Nat) : Int)))) (by simp [results, Try.results22, go_sem]) rfl ?_
      exact ⟨by simp, HKP.out⟩
end
end Go.Proofs.Ythlgnilgjeebaaa

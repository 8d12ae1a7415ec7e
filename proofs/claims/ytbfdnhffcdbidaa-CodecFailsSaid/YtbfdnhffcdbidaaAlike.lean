/- wapentakelaw1.alike: a reader and the model read the same thing. -/
import Derived.Test.YtbfdnhffcdbidaaThing
import Derived.Test.YtbfdnhffcdbidaaMr2
import Derived.Deep.QuietTactic
import Derived.BigQuiet
namespace Go.Proofs.Ytbfdnhffcdbidaa
open Go.RowKit

/-- A thing is read. -/
def rOp (s : RS) (t : Thing) : RS :=
  if t.d ≤ 1 then (rNum s).2 else if t.d = 2 then (rBytes s t.n).2 else if t.d = 3 then (rBytes s t.n).2 else if t.d = 4 then (rFlag s).2 else if t.d = 5 then (rWord s).2 else rStop s 4
theorem quiet_of' {P : Program} {f : FuncId} {args : Array Value} {w : World} {n : Nat} {v : Value}
    (h : Calls P f args (w.drewN n) fun e w' => e = .returned v ∧ w.drewN n = w') : Calls P f args (w.drewN n) fun e w'' => e = .returned v ∧ ∃ m, w'' = w.drewN m :=
  h.mono fun _ _ ⟨he, hm⟩ => ⟨he, n, hm.symm⟩
theorem RdAt.drewN {F : Nat → Prop} {w : World} {g : Nat} {s : RS} (h : RdAt F w g s) (n : Nat) : RdAt F (w.drewN n) g s := h.keep ((Keep.refl (fun _ => False) w).drewN n) (fun _ _ => id)
theorem MrAt.drewN {F : Nat → Prop} {w : World} {g : Nat} {s : RS} (h : MrAt F w g s) (n : Nat) : MrAt F (w.drewN n) g s := h.keep ((Keep.refl (fun _ => False) w).drewN n) (fun _ _ => id)
theorem alKeep {w w0 w1 w2 : World} {g m : Nat} (h : Keep (fun _ => False) w w0) (h1 : Keep (fun k => k = g) w0 w1) (h2 : Keep (fun k => k = m) w1 w2) :
    Keep (fun k => k = g ∨ k = m) w w2 :=
  ((h.mono (fun _ _ q => q.elim)).trans h1 (fun _ _ q => .inl q)).trans h2 (fun _ _ q => .inr q)
/-- What alike comes to. -/
def AlPost (F1 F2 : Nat → Prop) (w : World) (g m : Nat) (s : RS) (e : Ending) (w' : World) : Prop :=
  e = .returned (.bool true) ∧ RdAt F1 w' g s ∧ MrAt F2 w' m s ∧ Keep (fun k => k = g ∨ k = m) w w'

set_option maxRecDepth 40000 in
set_option maxHeartbeats 2000000 in
theorem alike_calls {F1 F2 G : Nat → Prop} {w : World} {g m : Nat} {s : RS} {t : Thing} {v : Value} (hr : RdAt F1 w g s) (hm : MrAt F2 w m s) (hF1 : ∀ k, F1 k → k < w.heap.size) (h12 : ∀ k, F1 k → k ≠ m) (h21 : ∀ k, F2 k → k ≠ g) (hv : Sl .u8 w G v t.b) (hl : s.b.length ≤ 140737488355328) :
    Calls Try.prog 23 #[.pointer (some ⟨g, 0, none⟩), .pointer (some ⟨m, 0, none⟩), thingV t v] w (AlPost F1 F2 w g m (rOp s t)) := by
  obtain ⟨A, c, rfl⟩ := hv.shape
  have hk := tW_keep w t (.slice A t.b.length c) (fun _ => False)
  have hr1 := hr.keep hk (fun _ _ => id)
  have hm1 := hm.keep hk (fun _ _ => id)
  have hF1' : ∀ k, F1 k → k < (tW w t (.slice A t.b.length c)).heap.size := fun k q => by have := hF1 k q; simp; omega
  have hmw : m < w.heap.size := by obtain ⟨_, h, _⟩ := hm; exact lt_heap h
  have hgw : g < w.heap.size := hr.lt
  have HF := hid hF1
  clear hv hr hm hF1
  rcases d_cases t.d with e1 | e1 | e1 | e1 | e1 | e1
  · have HB := hid (show rOp s t = (rNum s).2 by simp [rOp, e1])
    have b1 : decide (t.d ≤ 1) = true := decide_eq_true e1
    clear e1
    go_enter Try.func23, Try.ntmps23
    go_wp2_with fail
    refine (rnum_calls hr1 hF1').mono ?_
    rintro e w1 ⟨v1, rfl, hv1, hr2, hk2⟩
    have hm2 := hm1.keep hk2 (fun k q r => h21 k q r)
    subst hv1
    go_wp2_with fail
    refine (mrnum_calls hm2).mono ?_
    rintro e w2 ⟨v2, rfl, hv2, hm3, hk3⟩
    have hr3 := hr2.keep hk3 (fun k q r => h12 k q r)
    subst hv2
    go_wp2_with fail
    generalize (rNum s).2 = s' at *
    obtain ⟨A3, c3, hg3, _⟩ := hm3.open
    have q0 := cell_at hg3 0 (.slice A3 s'.b.length c3) rfl
    have q1 := cell_at hg3 1 (.int .i64 s'.f) rfl
    clear hg3
    go_wp2
    go_quiet ((first
      | (go_at_call 15; exact quiet_of' (left_calls (hr3.drewN _)))
      | (go_at_call 14; exact quiet_of' (fail_calls (hr3.drewN _)))
      | (go_at_call 35; exact quiet_of' (end_calls (hr3.drewN _)))
      | (go_at_call 58; exact quiet_of' (mend_calls (hm3.drewN _)))))
    go_wp2
    go_ret
    have k3 := alKeep hk hk2 hk3
    rw [HB.out]
    exact ⟨rfl, hr3.drewN _, hm3.drewN _, (k3).drewN _⟩
  · have HB := hid (show rOp s t = (rBytes s t.n).2 by simp [rOp, e1])
    have b1 : decide (t.d ≤ 1) = false := decide_eq_false (by omega)
    have b2 : (t.d == 2) = true := by simp; omega
    clear e1
    go_enter Try.func23, Try.ntmps23
    go_wp2_with fail
    refine (rtext_calls hr1 hF1' _ hl).mono ?_
    rintro e w1 ⟨v1, rfl, hv1, hr2, hk2⟩
    have hm2 := hm1.keep hk2 (fun k q r => h21 k q r)
    have hbx : (tW w t (.slice A t.b.length c)).cell? ⟨w.heap.size, 1, none⟩ = some (.int .i64 t.n) := by simp
    have hbx1 := hk2.cell hbx (by simp; omega)
    clear hbx
    subst hv1
    go_wp2_with fail
    refine (mtext_r_calls hm2 _ hl).mono ?_
    rintro e w2 ⟨v2, rfl, hv2, hm3, hk3⟩
    have hr3 := hr2.keep hk3 (fun k q r => h12 k q r)
    subst hv2
    go_wp2_with fail
    generalize (rBytes s t.n).2 = s' at *
    obtain ⟨A3, c3, hg3, _⟩ := hm3.open
    have q0 := cell_at hg3 0 (.slice A3 s'.b.length c3) rfl
    have q1 := cell_at hg3 1 (.int .i64 s'.f) rfl
    clear hg3
    go_wp2
    go_quiet ((first
      | (go_at_call 15; exact quiet_of' (left_calls (hr3.drewN _)))
      | (go_at_call 14; exact quiet_of' (fail_calls (hr3.drewN _)))
      | (go_at_call 35; exact quiet_of' (end_calls (hr3.drewN _)))
      | (go_at_call 58; exact quiet_of' (mend_calls (hm3.drewN _)))))
    go_wp2
    go_ret
    have k3 := alKeep hk hk2 hk3
    rw [HB.out]
    exact ⟨rfl, hr3.drewN _, hm3.drewN _, (k3).drewN _⟩
  · have HB := hid (show rOp s t = (rBytes s t.n).2 by simp [rOp, e1])
    have b1 : decide (t.d ≤ 1) = false := decide_eq_false (by omega)
    have b2 : (t.d == 2) = false := by simp; omega
    have b3 : (t.d == 3) = true := by simp; omega
    clear e1
    go_enter Try.func23, Try.ntmps23
    go_wp2_with fail
    refine (rbytes_calls hr1 hF1' _ hl).mono ?_
    rintro e w1 ⟨v1, rfl, hv1, hr2, hk2⟩
    have hm2 := hm1.keep hk2 (fun k q r => h21 k q r)
    have hbx : (tW w t (.slice A t.b.length c)).cell? ⟨w.heap.size, 1, none⟩ = some (.int .i64 t.n) := by simp
    have hbx1 := hk2.cell hbx (by simp; omega)
    clear hbx
    go_wp2_with fail
    refine (mbytes_r_calls hm2 _ hl).mono ?_
    rintro e w2 ⟨v2, rfl, hv2, hm3, hk3⟩
    have hr3 := hr2.keep hk3 (fun k q r => h12 k q r)
    have hrow1 := (Row.ofOwn hv1.1).keep hk3 (fun b q r => by have h1 := hv1.2 b q.symm; have h2 : tW w t (.slice A t.b.length c) = tW w t (.slice A t.b.length c) := rfl; have h3 := h1.1; simp at h3; omega)
    have hrow2 := Row.ofOwn hv2.1
    go_wp2_with fail
    refine (same_calls hrow1 hrow2).mono ?_
    rintro e w3 ⟨rfl, hk4⟩
    have hr4 := hr3.keep hk4 (fun _ _ => id)
    have hm4 := hm3.keep hk4 (fun _ _ => id)
    simp only [decide_true]
    go_wp2_with fail
    generalize (rBytes s t.n).2 = s' at *
    obtain ⟨A3, c3, hg3, _⟩ := hm4.open
    have q0 := cell_at hg3 0 (.slice A3 s'.b.length c3) rfl
    have q1 := cell_at hg3 1 (.int .i64 s'.f) rfl
    clear hg3
    go_wp2
    go_quiet ((first
      | (go_at_call 15; exact quiet_of' (left_calls (hr4.drewN _)))
      | (go_at_call 14; exact quiet_of' (fail_calls (hr4.drewN _)))
      | (go_at_call 35; exact quiet_of' (end_calls (hr4.drewN _)))
      | (go_at_call 58; exact quiet_of' (mend_calls (hm4.drewN _)))))
    go_wp2
    go_ret
    have k3 := alKeep hk hk2 hk3
    rw [HB.out]
    exact ⟨rfl, hr4.drewN _, hm4.drewN _, (k3.trans hk4 (fun _ _ q => q.elim)).drewN _⟩
  · have HB := hid (show rOp s t = (rFlag s).2 by simp [rOp, e1])
    have b1 : decide (t.d ≤ 1) = false := decide_eq_false (by omega)
    have b2 : (t.d == 2) = false := by simp; omega
    have b3 : (t.d == 3) = false := by simp; omega
    have b4 : (t.d == 4) = true := by simp; omega
    clear e1
    go_enter Try.func23, Try.ntmps23
    go_wp2_with fail
    refine (rflag_calls hr1 hF1').mono ?_
    rintro e w1 ⟨v1, rfl, hv1, hr2, hk2⟩
    have hm2 := hm1.keep hk2 (fun k q r => h21 k q r)
    subst hv1
    go_wp2_with fail
    refine (mflag_r_calls hm2).mono ?_
    rintro e w2 ⟨v2, rfl, hv2, hm3, hk3⟩
    have hr3 := hr2.keep hk3 (fun k q r => h12 k q r)
    subst hv2
    go_wp2_with fail
    generalize (rFlag s).2 = s' at *
    obtain ⟨A3, c3, hg3, _⟩ := hm3.open
    have q0 := cell_at hg3 0 (.slice A3 s'.b.length c3) rfl
    have q1 := cell_at hg3 1 (.int .i64 s'.f) rfl
    clear hg3
    go_wp2
    go_quiet ((first
      | (go_at_call 15; exact quiet_of' (left_calls (hr3.drewN _)))
      | (go_at_call 14; exact quiet_of' (fail_calls (hr3.drewN _)))
      | (go_at_call 35; exact quiet_of' (end_calls (hr3.drewN _)))
      | (go_at_call 58; exact quiet_of' (mend_calls (hm3.drewN _)))))
    go_wp2
    go_ret
    have k3 := alKeep hk hk2 hk3
    rw [HB.out]
    exact ⟨rfl, hr3.drewN _, hm3.drewN _, (k3).drewN _⟩
  · have HB := hid (show rOp s t = (rWord s).2 by simp [rOp, e1])
    have b1 : decide (t.d ≤ 1) = false := decide_eq_false (by omega)
    have b2 : (t.d == 2) = false := by simp; omega
    have b3 : (t.d == 3) = false := by simp; omega
    have b4 : (t.d == 4) = false := by simp; omega
    have b5 : (t.d == 5) = true := by simp; omega
    clear e1
    go_enter Try.func23, Try.ntmps23
    go_wp2_with fail
    refine (rword_calls hr1 hF1').mono ?_
    rintro e w1 ⟨v1, rfl, hv1, hr2, hk2⟩
    have hm2 := hm1.keep hk2 (fun k q r => h21 k q r)
    subst hv1
    go_wp2_with fail
    refine (mword_r_calls hm2).mono ?_
    rintro e w2 ⟨v2, rfl, hv2, hm3, hk3⟩
    have hr3 := hr2.keep hk3 (fun k q r => h12 k q r)
    subst hv2
    go_wp2_with fail
    generalize (rWord s).2 = s' at *
    obtain ⟨A3, c3, hg3, _⟩ := hm3.open
    have q0 := cell_at hg3 0 (.slice A3 s'.b.length c3) rfl
    have q1 := cell_at hg3 1 (.int .i64 s'.f) rfl
    clear hg3
    go_wp2
    go_quiet ((first
      | (go_at_call 15; exact quiet_of' (left_calls (hr3.drewN _)))
      | (go_at_call 14; exact quiet_of' (fail_calls (hr3.drewN _)))
      | (go_at_call 35; exact quiet_of' (end_calls (hr3.drewN _)))
      | (go_at_call 58; exact quiet_of' (mend_calls (hm3.drewN _)))))
    go_wp2
    go_ret
    have k3 := alKeep hk hk2 hk3
    rw [HB.out]
    exact ⟨rfl, hr3.drewN _, hm3.drewN _, (k3).drewN _⟩
  · have HB := hid (show rOp s t = rStop s 4 by simp [rOp, show ¬ t.d ≤ 1 by omega, show ¬ t.d = 2 by omega, show ¬ t.d = 3 by omega, show ¬ t.d = 4 by omega, show ¬ t.d = 5 by omega])
    have b1 : decide (t.d ≤ 1) = false := decide_eq_false (by omega)
    have b2 : (t.d == 2) = false := by simp; omega
    have b3 : (t.d == 3) = false := by simp; omega
    have b4 : (t.d == 4) = false := by simp; omega
    have b5 : (t.d == 5) = false := by simp; omega
    clear e1
    go_enter Try.func23, Try.ntmps23
    go_wp2_with fail
    refine (rrefuse_calls hr1).mono ?_
    rintro e w1 ⟨v1, rfl, hv1, hr2, hk2⟩
    have hm2 := hm1.keep hk2 (fun k q r => h21 k q r)
    subst hv1
    go_wp2_with fail
    refine (mrefuse_r_calls hm2).mono ?_
    rintro e w2 ⟨v2, rfl, hv2, hm3, hk3⟩
    have hr3 := hr2.keep hk3 (fun k q r => h12 k q r)
    subst hv2
    go_wp2_with fail
    generalize rStop s 4 = s' at *
    obtain ⟨A3, c3, hg3, _⟩ := hm3.open
    have q0 := cell_at hg3 0 (.slice A3 s'.b.length c3) rfl
    have q1 := cell_at hg3 1 (.int .i64 s'.f) rfl
    clear hg3
    go_wp2
    go_quiet ((first
      | (go_at_call 15; exact quiet_of' (left_calls (hr3.drewN _)))
      | (go_at_call 14; exact quiet_of' (fail_calls (hr3.drewN _)))
      | (go_at_call 35; exact quiet_of' (end_calls (hr3.drewN _)))
      | (go_at_call 58; exact quiet_of' (mend_calls (hm3.drewN _)))))
    go_wp2
    go_ret
    have k3 := alKeep hk hk2 hk3
    rw [HB.out]
    exact ⟨rfl, hr3.drewN _, hm3.drewN _, (k3).drewN _⟩
end Go.Proofs.Ytbfdnhffcdbidaa

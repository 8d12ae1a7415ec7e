/- wapentakeref6: CopyEpochs. -/
import Derived.Test.YtbkgobdpgokbaaaEpCut
import Derived.Test.YtbkgobdpgokbaaaStep
namespace Go.Proofs.Ytbkgobdpgokbaaa
open Go.RowKit
section
variable {F G S : Nat → Prop} {w w' : World} {v vm : Value} {L : List Ep} {M : List Int} {g B : Nat} {al : Int}
theorem SLI7 : SlT Try.prog 22 3 (.int .i64 0) 1 8 := SlT.mk' Try.underlying22 (by kernel_rfl) rfl (by decide)
theorem owns_empty (w : World) (e : TypeId) (size : Nat) : (w.alloc (.cells #[] e)).ownsRow 0 e size (.slice (some ⟨w.heap.size, 0, none⟩) 0 0) 0 [] :=
  ⟨by simp, .inr ⟨w.heap.size, 0, #[], rfl, Nat.zero_le _, heap_alloc_new w _, Nat.le_refl _, by simp, by simp, by simp⟩⟩
theorem ints_one (l : List Int) : ∀ u ∈ l.map I64, u.oneCell' = true := fun u hu => by
  obtain ⟨y, _, rfl⟩ := List.mem_map.1 hu; rfl
theorem keep_emp {w6 : World} {o : Obj} (hk : Keep (fun q => some q = (Value.slice (some ⟨w.heap.size, 0, none⟩) 0 0).ownBlock) (w.drew.alloc o) w6) : Keep (fun _ => False) w w6 :=
  ((Keep.refl (fun _ => False) w).drew.alloc o).trans hk (fun b hb e => by simp only [Value.ownBlock, Option.some.injEq] at e; omega)
/-- One epoch more, copied. -/
theorem EpRow.more {cs : List Value} {x : Ep} {A1 A2 : Option Addr} {c1 c2 c k : Nat} {A : Option Addr} {w6 w8 : World} {k0 : Nat} {n0 : Nat} (hn0 : n0 = x.2.length)
    (hr : EpRow w' (fun b => w.heap.size ≤ b ∧ b < w'.heap.size ∧ some b ≠ (Value.slice A k c).ownBlock) L cs) (h1 : okI x.1) (h2 : ∀ y ∈ x.2, okI y)
    (hob : ∀ b, (Value.slice A k c).ownBlock = some b → w.heap.size ≤ b ∧ b < w'.heap.size) (hw : w.heap.size ≤ w'.heap.size)
    (ho6 : w6.ownsRow 0 3 1 (.slice A1 n0 c1) n0 (x.2.map I64)) (hb6 : ∀ b, (Value.slice A1 n0 c1).ownBlock = some b → w'.heap.size ≤ b) (hk6 : Keep (fun _ => False) w' w6) (e : TypeId)
    (hk8 : Keep (fun q => some q = (Value.slice A k c).ownBlock) (w6.alloc (.cells #[.int .i64 x.1, .slice A1 n0 c1] e)) w8) (hn8 : SameOrNew (w6.alloc (.cells #[.int .i64 x.1, .slice A1 n0 c1] e)) (.slice A k c) (.slice A2 k0 c2)) :
    EpRow w8 (fun b => w.heap.size ≤ b ∧ b < w8.heap.size ∧ some b ≠ (Value.slice A2 k0 c2).ownBlock) (L ++ [x]) (cs ++ [.int .i64 x.1, .slice A1 n0 c1]) := by
  have hs6 := hk6.size
  have hs8 := hk8.size
  simp only [World.size_alloc] at hs8
  have hk68 : Keep (fun q => some q = (Value.slice A k c).ownBlock) w6 w8 := (((Keep.refl _ w6).alloc _)).trans hk8 (fun _ _ h => h)
  have hk : Keep (fun q => some q = (Value.slice A k c).ownBlock) w' w8 := (hk6.mono (fun _ _ h => h.elim)).trans hk68 (fun _ _ h => h)
  have hne : ∀ b, b < w6.heap.size → some b ≠ (Value.slice A k c).ownBlock → some b ≠ (Value.slice A2 k0 c2).ownBlock := fun b hb hne e => by
    rcases hn8 b e.symm with q | q
    · exact hne q.symm
    · simp only [World.size_alloc] at q; omega
  refine EpRow.app ((hr.keep hk (fun b hb e => hb.2.2 e)).mono (fun b hb => ⟨hb.1, by omega, hne b (by omega) hb.2.2⟩)) (EpRow.one ?_ h1 h2)
  subst hn0
  have hr6 := (Row.ofOwn ho6).keep hk68 (fun b hb e => by have h3 := hb6 b hb.symm; have := (hob b e.symm).2; omega)
  refine hr6.mono (fun b hb => ?_)
  have h3 := hb6 b hb.symm
  have h4 := own_lt' ho6 b hb.symm
  exact ⟨by omega, by omega, hne b h4 (fun e => by have := (hob b e.symm).2; omega)⟩
set_option maxRecDepth 20000 in
set_option maxHeartbeats 1600000 in
theorem copyE_calls (h : EpSl F F w v L) (hF : ∀ k, F k → k < w.heap.size) (hm : ∀ x ∈ L, x.2.length ≤ 1000) (hl : L.length ≤ 100000) :
    Calls Try.prog 42 #[v] w fun e w' => ∃ v', e = .returned v' ∧ EpOwn (fun b => w.heap.size ≤ b) (fun b => w.heap.size ≤ b ∧ b < w'.heap.size ∧ some b ≠ v'.ownBlock) w' v' L ∧ Keep (fun _ => False) w w' := by
  have HS := hid h
  have HF := hid hF
  have HM := hid hm
  obtain ⟨A0, c0, rfl⟩ := h.shape
  obtain ⟨n, hn⟩ : ∃ n, n = L.length := ⟨_, rfl⟩
  rw [← hn] at hl HS ⊢
  have HN := hid hn
  clear h hF hm hn
  go_enter Try.func42, Try.ntmps42
  go_wp2_with fail
  go_loopw [3, 4] (fun o i wr => ∃ (k : Nat) (A : Option Addr) (c : Nat) (cs : List Value), k ≤ n ∧ i = .int .i64 k ∧ o = .slice A k c ∧ wr.ownsRow 0 42 2 (.slice A k c) k cs ∧
    EpRow wr (fun b => w.heap.size ≤ b ∧ b < wr.heap.size ∧ some b ≠ (Value.slice A k c).ownBlock) (L.take k) cs ∧ (∀ b, (Value.slice A k c).ownBlock = some b → w.heap.size ≤ b) ∧ Keep (fun _ => False) w wr) (fun _ i _ => n - (intOf i).toNat)
  case atStart => exact ⟨0, none, 0, [], Nat.zero_le _, rfl, rfl, World.ownsRow_nil _ 0 _ _, rfl, fun b hb => by simp [Value.ownBlock] at hb, Keep.refl _ _⟩
  case round =>
    obtain ⟨k, A, c, cs, hk, rfl, rfl, ho, hr, hb, hkp⟩ := hrel
    by_cases hlt : k < n
    · obtain ⟨x, hx⟩ : ∃ x, L[k]? = some x := ⟨L[k]'(by rw [← HN.out]; exact hlt), by simp [show k < L.length by rw [← HN.out]; exact hlt]⟩
      obtain ⟨b, off, vm, rfl, hFb, d0, d1, d2, h1, h2⟩ := (HS.out.keepF hkp).elem hx
      obtain ⟨Am, cm, rfl⟩ := d2.shape
      have hx0 := HM.out x (List.mem_of_getElem? hx)
      have hbw := HF.out b hFb
      have hs := hkp.size
      obtain ⟨m, hme⟩ : ∃ m, m = x.2.length := ⟨_, rfl⟩
      obtain ⟨fr, hfr⟩ : ∃ fr, fr = x.1 := ⟨_, rfl⟩
      rw [← hme] at d1 d2 hx0
      rw [← hfr] at d0 h1
      have HC := hid (fun w' (hk : Keep (fun q => w.heap.size ≤ q) wr w') => (⟨hk.cell d0 (show ¬ w.heap.size ≤ b by omega), hk.cell d1 (show ¬ w.heap.size ≤ b by omega)⟩ : w'.cell? ⟨b, off + k * 2, none⟩ = some (.int .i64 fr) ∧ w'.cell? ⟨b, off + k * 2 + 1, none⟩ = some (.slice Am m cm)))
      have HX := hid hx; have HO := hid ho; have HR := hid hr; have HB := hid hb; have HKP := hid hkp; have HD2 := hid d2; have H1 := hid h1; have H2 := hid h2; have HME := hid hme; have HFR := hid hfr
      have kd : Keep (fun q => w.heap.size ≤ q) wr wr.drew := (Keep.refl _ wr).drew
      clear hx ho hr hb hkp d0 d1 d2 h1 h2 hme hfr hbw hFb
      go_wp2_with fail
      go_region_held3 (fun w' => w'.cell? ⟨b, off + k * 2, none⟩ = some (.int .i64 fr) ∧ w'.cell? ⟨b, off + k * 2 + 1, none⟩ = some (.slice Am m cm)) (first | exact HC.out _ (by assumption) | exact HC.out _ (Keep.alloc (by assumption) _)) (first
        | (refine step_app (v := .slice (some ⟨wr.heap.size, 0, none⟩) 0 0) (by rfl) (by rfl) SLI7 (by rfl) (owns_empty wr.drew 3 1) (by rfl) ((HD2.out.keep ((Keep.refl (fun _ => False) wr).drew.alloc _) (fun _ _ => id))) (ints_one _) (by omega) (by omega) ?_; intro A6 c6 w6 ho6 hk6 hn6; have k6 := keep_emp hk6; have k6' := k6.mono (T := fun q => w.heap.size ≤ q) (fun _ _ h => h.elim))
        | (refine step_app (v := .slice A k c) (by rfl) (by rfl) SLE (by rfl) (ownsAlloc (k6.owns HO.out (fun _ _ => id)) _) (by rfl) (row_one2 w6 _ _ _) (by simp [Value.oneCell']) (by omega) (by omega) ?_; intro A8 c8 w8 ho8 hk8 hn8; have k8' := k6'.trans (((Keep.refl _ w6).alloc _).trans hk8 (fun _ _ h => h)) (fun q _ e => HB.out q e.symm)))
      all_goals (
        go_wp2_with fail
        simp only [Nat.zero_add, List.nil_append] at ho6 hn6 ho8 hk8 hn8
        have hbo : ∀ q, (Value.slice A k c).ownBlock = some q → w.heap.size ≤ q ∧ q < wr.heap.size := fun q hq => ⟨HB.out q hq, own_lt' HO.out q hq⟩
        have hb6 : ∀ q, (Value.slice A6 m c6).ownBlock = some q → wr.heap.size ≤ q := fun q hq => by
          rcases hn6 q hq with e | e
          · simp only [Value.ownBlock, Option.some.injEq] at e; omega
          · have e : wr.heap.size + 1 ≤ q := by simpa using e
            omega
        have hs6 := k6.size
        refine ⟨⟨k + 1, A8, c8, _, by omega, by simp, rfl, ho8, ?_, ?_, HKP.out.trans k8' (fun q h1 h2 => by omega)⟩, by simp [intOf]; omega⟩
        · rw [take_succ_get HX.out]
          rw [HFR.out] at hk8 hn8 ⊢
          exact EpRow.more HME.out HR.out (by rw [← HFR.out]; exact H1.out) H2.out hbo hs ho6 hb6 k6 _ hk8 hn8
        · intro q hq
          rcases hn8 q hq with e | e
          · exact HB.out q e
          · have e : w6.heap.size + 1 ≤ q := by simpa using e
            have := HKP.out.size
            omega)
    · obtain rfl : k = n := by omega
      have HO := hid ho; have HR := hid hr; have HB := hid hb; have HKP := hid hkp
      clear ho hr hb hkp
      go_wp2_with fail
      go_ret
      have hr := HR.out
      rw [HN.out, List.take_length] at hr
      rw [← HN.out] at hr
      exact ⟨_, rfl, ⟨cs, by rw [← HN.out]; exact HO.out, hr, fun q hq => ⟨HB.out q hq, fun e => e.2.2 hq.symm⟩⟩, HKP.out⟩
end
end Go.Proofs.Ytbkgobdpgokbaaa

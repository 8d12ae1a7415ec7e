/- wapentakeref23.Net: NewNet, place, Send, Take, Twice. -/
import Derived.Test.YtofljidmdabkcaaGreatNb
import Derived.Test.YtofljidmdabkcaaGreatRChk4
import Derived.Test.YtofljidmdabkcaaGreatCopyMM
import Derived.Test.YtofljidmdabkcaaGreatMsgSmall
namespace Go.Proofs.YtofljidmdabkcaaGreat
open Go.RowKit Go.Lib
section
variable {F S G : Nat → Prop} {w w' : World} {g : Nat} {most : Int} {L : List Msg} {m : Msg} {ms : List Value} {k : Int}
theorem rcheck_any (h : Rep.msg.cells w G m ms) (hG : ∀ q, G q → q < w.heap.size) : Calls Tryz.prog 23 #[.agg ms.toArray] w fun e w' => e = .returned (.int .i64 (if mchkB m then 0 else 1)) ∧ Keep (fun _ => False) w w' := by
  obtain ⟨vc, vv, vi, vk, rfl, h1, h2, h3, h4, _⟩ := msg_cells h
  obtain ⟨Ac, cc, rfl⟩ := h1.shape
  obtain ⟨Av, cv, rfl⟩ := h2.shape
  obtain ⟨Ai, ci, rfl⟩ := h3.shape
  obtain ⟨Ak, ck, rfl⟩ := h4.shape
  exact rcheck_calls (F := G) ⟨h1, h2, h3, h4, hG⟩
/-- Few votes and commits. -/
def Few (m : Msg) : Prop := m.votes.length ≤ 1000000 ∧ m.verdict.commits.length ≤ 1000000
theorem copyM_new (h : Rep.msg.cells w G m ms) (hG : ∀ q, G q → q < w.heap.size) (hf : m.Fits) (hw : Few m) : Calls Tryz.prog 24 #[.agg ms.toArray] w fun e w' => ∃ u, e = .returned u ∧ ∃ vs, u = .agg vs.toArray ∧ Rep.msg.cells w' (NewIn w w') m vs ∧ Keep (fun _ => False) w w' := by
  obtain ⟨vc, vv, vi, vk, rfl, h1, h2, h3, h4, hok⟩ := msg_cells h
  refine (copyM_calls h1 h2 h3 h4 hG hf hw.1 hw.2).mono ?_
  rintro e w5 ⟨Ac, Av, Ai, Ak, cc, cv, ci, ck, rfl, hom, k5⟩
  exact ⟨_, rfl, _, rfl, msg_mk hom.1.1 hom.2.1.1 (Sl.ofBytes ((Row.ofOwn hom.2.2.1).mono (fun b hb => ⟨hom.2.2.2.1 b hb.symm, own_lt' hom.2.2.1 b hb.symm⟩))) hom.2.2.2.2 hok, k5⟩
set_option maxRecDepth 20000 in
theorem rnew_calls (n : Int) (h1 : 1 ≤ n) (h2 : n ≤ 100000) :
    Calls Tryz.prog 7 #[.int .i64 n] w fun e w' => ∃ g, e = .returned (.tuple #[.pointer (some ⟨g, 0, none⟩), .int .i64 0]) ∧ NetAt 54 (NewIn w w') w' g n [] ∧ Keep (fun _ => False) w w' := by
  have d1 : decide (n < 1) = false := decide_eq_false (by omega)
  have d2 : decide (100000 < n) = false := decide_eq_false (by omega)
  go_enter Tryz.func7, Tryz.ntmps7
  go_wp2_with (first
    | (refine wpl_boxB (v := .agg #[.int .i64 n, .slice none 0 0]) rfl rfl rfl ?_; intro g1 w1 hg1 hb1 k1 s1; have HG1 := hid hg1; clear hg1 s1))
  go_ret2
  exact ⟨g1, rfl, NetAt.new hb1 (Nat.le_of_eq HG1.out.symm) (by omega) h2, k1⟩
set_option maxRecDepth 20000 in
theorem rnew_bad (n : Int) (h : n < 1 ∨ 100000 < n) :
    Calls Tryz.prog 7 #[.int .i64 n] w fun e w' => e = .returned (.tuple #[.pointer none, .int .i64 1]) ∧ w = w' := by
  rcases h with h | h
  · have d1 : decide (n < 1) = true := decide_eq_true h
    go_enter Tryz.func7, Tryz.ntmps7
    go_wp2_with fail
    go_ret2
    exact ⟨rfl, rfl⟩
  · have d1 : decide (n < 1) = false := decide_eq_false (by omega)
    have d2 : decide (100000 < n) = true := decide_eq_true h
    go_enter Tryz.func7, Tryz.ntmps7
    go_wp2_with fail
    go_ret2
    exact ⟨rfl, rfl⟩
theorem place_ref (k : Int) (n : Nat) (hn : 0 < n) : (placeN k n : Int) = if k.tmod n < 0 then k.tmod n + n else k.tmod n := by
  rw [← place_eq k n hn]
  have h4 := Int.tmod_lt_of_pos k (show (0 : Int) < n by omega)
  have h5 := Int.lt_tmod_of_pos k (show (0 : Int) < n by omega)
  rw [Int.tmod_eq_emod_of_nonneg (a := k.tmod n + n) (by omega)]
  split
  · exact Int.emod_eq_of_lt (by omega) (by omega)
  · rw [Int.add_emod_right]; exact Int.emod_eq_of_lt (by omega) (by omega)
def RPlace (w : World) (k : Int) (n : Nat) (e : Ending) (w' : World) : Prop := e = .returned (.int .i64 (if n = 0 then -1 else (placeN k n : Int))) ∧ w = w'
set_option maxRecDepth 20000 in
theorem rplace_calls (h : NetAt 54 F w g most L) (hk : okI k) : Calls Tryz.prog 27 #[.pointer (some ⟨g, 0, none⟩), .int .i64 k] w (RPlace w k L.length) := by
  have hle := h.le
  obtain ⟨v, cs, h⟩ := h
  obtain ⟨A, c, rfl⟩ := h.shape
  have q1 := cell_at h.obj 1 (.slice A L.length c) rfl
  obtain ⟨n, hn⟩ : ∃ n, n = L.length := ⟨_, rfl⟩
  rw [← hn] at q1 hle ⊢
  clear h hn
  by_cases h0 : n = 0
  · subst h0
    have HK := hid hk
    clear hk hle
    go_enter Tryz.func27, Tryz.ntmps27
    go_wp2_with fail
    go_ret
    exact ⟨rfl, rfl⟩
  obtain ⟨n1, rfl⟩ : ∃ n1, n = n1 + 1 := ⟨n - 1, by omega⟩
  have hp := place_ref k (n1 + 1) (by omega)
  have h4 := Int.tmod_lt_of_pos k (show (0 : Int) < ((n1 + 1 : Nat) : Int) by omega)
  have h5 := Int.lt_tmod_of_pos k (show (0 : Int) < ((n1 + 1 : Nat) : Int) by omega)
  simp only [Int.natCast_add, Int.natCast_one] at hp h4 h5
  have hb1 : (((n1 : Int) + 1) == 0) = false := by rw [beq_eq_false_iff_ne]; omega
  have hz : ¬ ((n1 : Int) + 1) = 0 := by omega
  have hn9 : (n1 : Int) + 1 ≤ 100000 := by omega
  obtain ⟨r, hr⟩ : ∃ r, r = k.tmod ((n1 : Int) + 1) := ⟨_, rfl⟩
  rw [← hr] at hp h4 h5
  have HR := hid hr; have HP := hid hp; have HK := hid hk
  clear hr hp hk hle
  by_cases hneg : r < 0
  · have d1 : decide (k.tmod ((n1 : Int) + 1) < 0) = true := decide_eq_true (by rw [← HR.out]; exact hneg)
    have hw : IntKind.i64.wrap (k.tmod ((n1 : Int) + 1) + ((n1 : Int) + 1)) = r + ((n1 : Int) + 1) := by rw [← HR.out]; simp [IntKind.wrap, IntKind.signed, IntKind.bits]; omega
    have hw2 : wrap64 (k.tmod ((n1 : Int) + 1) + ((n1 : Int) + 1)) = r + ((n1 : Int) + 1) := by rw [← HR.out]; unfold wrap64; omega
    have HW := hid hw; have HW2 := hid hw2; have HNG := hid hneg; have H4 := hid h4; have H5 := hid h5
    clear hw hw2 hneg h4 h5
    go_enter Tryz.func27, Tryz.ntmps27
    go_wp2_with fail
    go_ret
    refine ⟨?_, rfl⟩
    rw [if_neg (by omega), HP.out, if_pos HNG.out]
    first
      | (show Ending.returned (.int .i64 _) = _; rw [HW2.out])
      | (show Ending.returned (.int .i64 _) = _; rw [HW.out])
      | (simp only [HW2.out]; rfl)
      | (rw [HR.out]; rfl)
  · have d1 : decide (k.tmod ((n1 : Int) + 1) < 0) = false := decide_eq_false (by rw [← HR.out]; exact hneg)
    have HNG := hid hneg
    clear hneg h4 h5
    go_enter Tryz.func27, Tryz.ntmps27
    go_wp2_with fail
    go_ret
    refine ⟨?_, rfl⟩
    rw [if_neg (by omega), HP.out, if_neg (by have := HNG.out; omega), HR.out]
    rfl
end
end Go.Proofs.YtofljidmdabkcaaGreat

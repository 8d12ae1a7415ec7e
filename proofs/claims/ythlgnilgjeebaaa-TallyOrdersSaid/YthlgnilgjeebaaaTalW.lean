/- The tally: Vote, Voters. -/
import Derived.Test.YthlgnilgjeebaaaTalV
import Derived.Test.YthlgnilgjeebaaaInts
namespace Go.Proofs.Ythlgnilgjeebaaa
open Go.RowKit Go.MapKept
theorem plLaid : Go.laidOutB Try.prog = true := by kernel_rfl
theorem plRow : (79 : TypeId) < Try.prog.types.size := of_decide_eq_true (by kernel_rfl)
theorem plWide : (match Try.prog.underlying 79 with | some (.array _ _) | some (.struct _) => true | _ => false) = true := by kernel_rfl
set_option maxRecDepth 100000 in
theorem plLaw : WideMaps.KeyLaw Try.prog 79 := Go.deep_law_laid plLaid (m := 2) (by omega) plRow (by kernel_rfl) plWide
theorem plCells : Try.prog.cellsOf 79 = 2 := by kernel_rfl
theorem plCellsI : Try.prog.cellsOf 3 = 1 := by kernel_rfl
theorem plKeyT : Try.prog.keyType 79 = true := by kernel_rfl
/-- A key of two numbers reads. -/
theorem key2 {P : Program} {K I : TypeId} {f1 f2 : Field} (hu : P.underlying K = some (.struct #[f1, f2])) (hi : P.underlying I = some (.int .i64)) (ht1 : f1.type = I) (ht2 : f2.type = I) (ho1 : f1.offset = 0) (ho2 : f2.offset = 1)
    (hn1 : (f1.name != "_") = true) (hn2 : (f2.name != "_") = true) (hc : P.cellsOf K = 2) (hci : P.cellsOf I = 1) (hkt : P.keyType K = true) {m : Nat} (hm : P.types.size = m + 1) (k : Pl) (hk : plOk k) : ∃ l, keyOf P K (plV k) = some l := by
  have hf : (plV k).formed P K = true := by simp [Value.formed, plV, hu, hc]
  have h1 : P.keyLits (m + 1) I [.int .i64 k.1] = some [.int .i64 k.1] := by simp [Program.keyLits, hi, hk.1]
  have h2 : P.keyLits (m + 1) I [.int .i64 k.2] = some [.int .i64 k.2] := by simp [Program.keyLits, hi, hk.2]
  have h3 : P.keyLits (m + 1 + 1) K [.int .i64 k.1, .int .i64 k.2] = some [.int .i64 k.1, .int .i64 k.2] := by
    have hn : (#[f1, f2].all (·.name != "_")) = true := by simp only [List.all_toArray, List.all_cons, List.all_nil, hn1, hn2]; rfl
    unfold Program.keyLits
    simp only [hu]
    rw [if_pos ⟨by simp [hc], hn⟩]
    simp [List.mapM_cons, ht1, ht2, ho1, ho2, hci, h1, h2]
  refine ⟨.string (keyBytes [.int .i64 k.1, .int .i64 k.2]), ?_⟩
  unfold keyOf
  simp only [hu, hkt, hf, Bool.and_self, if_true]
  rw [hm]
  show (P.keyLits (m + 1 + 1) K [.int .i64 k.1, .int .i64 k.2]).map _ = _
  rw [h3]
  rfl
theorem plK : PlK Try.prog 79 where
  keyed := Go.Maps.Keyed.of_law plLaw
  ok := by
    obtain ⟨m, hm⟩ := Nat.exists_eq_succ_of_ne_zero (Nat.ne_of_gt (Nat.lt_of_le_of_lt (Nat.zero_le _) plRow))
    exact key2 Try.underlying79 Try.underlying3 rfl rfl rfl rfl (by kernel_rfl) (by kernel_rfl) plCells plCellsI plKeyT hm
section
variable {F S : Nat → Prop} {w w' : World} {g m1 m2 m3 : Nat} {s : TS}
def vtAt (s : TS) (k : Pl) : Int := (lookP s.vt k).getD 0
def voteB (s : TS) (slot id : Int) : Bool := repB id && !decide (0 < vtAt s (slot, id))
def voteS (s : TS) (slot id : Int) : TS := if voteB s slot id then { s with vt := putP s.vt (slot, id) (vtAt s (slot, id) + 1) } else s
theorem rep_ok {id : Int} (h : repB id = true) : okI id := by
  simp [repB] at h; exact ⟨by omega, by omega⟩
theorem vt_look (h : TalM F w g s m1 m2 m3) (k : Pl) (hk : plOk k) :
    (Instr.lookup 61 (.map (some m3)) (plV k) false).run Try.prog w = .ok (.int .i64 (vtAt s k)) w := by
  have hz : (zeroValue 3).run Try.prog w = .ok (.int .i64 0) w := by kernel_rfl
  rcases h.vt.lookup Try.underlying61 plK hk hz false with ⟨hl, hrun⟩ | ⟨x, u0, hl, rfl, hrun⟩
  · rw [vtAt, hl]; exact hrun
  · rw [vtAt, hl]; exact hrun
theorem TalM.vote (h : TalM F w g s m1 m2 m3) (k : Pl) (a : Int) {w1 w2 : World} (k1 : Keep (fun x => x = m3) w w1) (k2 : Keep (fun x => x = m3) w1 w2) (hv : MapP IntE w2 m3 (putP s.vt k a)) : TalM F w2 g { s with vt := putP s.vt k a } m1 m2 m3 := by
  have kk := k1.trans k2 (fun _ _ e => e)
  exact { h with
    obj := kk.heap h.obj h.g3
    pr := h.pr.keep kk h.d13 (fun _ _ q => q)
    best := h.best.keep kk h.d23 (VotE.keep kk (fun k q => q.2.2.2.2))
    vt := hv }
theorem MapP.drewN {E : World → Int → Value → Prop} {b : Nat} {l : List (Pl × Int)} (h : MapP E w b l) (hE : ∀ w w' a v, E w a v → E w' a v) (n : Nat) : MapP E (w.drewN n) b l := h.keep ((Keep.refl (fun _ => False) w).drewN n) id (fun _ _ q => hE _ _ _ _ q)
theorem vt_entry (h : TalM F w g s m1 m2 m3) (k : Pl) (hk : plOk k) (hl : s.vt.length ≤ maxLen) (a : Int) :
    ∃ (v0 : Value) (st : Nat) (w1 w2 : World), (Instr.mapEntry 61 (.map (some m3)) (plV k)).run Try.prog w = .ok (.tuple #[v0, .int .i64 st]) w1 ∧ (Instr.entryStore 61 (.map (some m3)) (.int .i64 st) (.int .i64 a)).run Try.prog w1 = .ok () w2 ∧
      (Instr.lookup 61 (.map (some m3)) (plV k) false).run Try.prog w1 = .ok (.int .i64 (vtAt s k)) w1 ∧ TalM F w2 g { s with vt := putP s.vt k a } m1 m2 m3 ∧ Keep (fun x => x = m3) w w2 := by
  obtain ⟨v0, st, w1, h1, k1, _, ⟨l1, hm1, hl1⟩, hst⟩ := h.vt.entry Try.underlying61 plK plLaw hk (z := .int .i64 0) (fun w => by kernel_rfl) (fun _ _ _ _ q => q) hl rfl
  have hlk : (Instr.lookup 61 (.map (some m3)) (plV k) false).run Try.prog w1 = .ok (.int .i64 (vtAt s k)) w1 := by
    have hz : (zeroValue 3).run Try.prog w1 = .ok (.int .i64 0) w1 := by kernel_rfl
    rw [vtAt, ← hl1]
    rcases hm1.lookup Try.underlying61 plK hk hz false with ⟨hl, hrun⟩ | ⟨x, u0, hl, rfl, hrun⟩
    · rw [hl]; exact hrun
    · rw [hl]; exact hrun
  obtain ⟨w2, h2, h3, k2⟩ := hst a (.int .i64 a) rfl
  exact ⟨v0, st, w1, w2, h1, h2, hlk, h.vote k a k1 k2 h3, k1.trans k2 (fun _ _ e => e)⟩
set_option maxRecDepth 20000 in
set_option maxHeartbeats 800000 in
theorem tvote_calls (h : TalAt F w g s) (slot id : Int) (hs : okI slot) (hl : s.vt.length ≤ 1000000) (hb : ∀ k, okI (vtAt s k + 1)) :
    Calls Try.prog 25 #[.pointer (some ⟨g, 0, none⟩), .int .i64 slot, .int .i64 id] w fun e w' => e = .returned (.bool (voteB s slot id)) ∧ TalAt F w' g (voteS s slot id) ∧ Keep F w w' := by
  rw [voteS]
  by_cases hr : repB id = true
  · by_cases hv : 0 < vtAt s (slot, id)
    · have e1 : voteB s slot id = false := by simp [voteB, hv]
      rw [e1]
      have H := hid h
      obtain ⟨m1, m2, m3, hm⟩ := h
      have hlook := vt_look hm (slot, id) ⟨hs.wf, (rep_ok hr).wf⟩
      simp only [plV] at hlook
      have c5 := cell_at hm.obj 5 (.map (some m3)) rfl
      have HM := hid hm
      clear hm hb
      generalize vtAt s (slot, id) = q at *
      have hv : decide (0 < q) = true := by simpa using hv
      go_enter Try.func25, Try.ntmps25
      go_wp2_with fail
      refine (made_calls H.out).mono ?_
      rintro e w' ⟨rfl, rfl⟩
      go_wp2_with fail
      refine (trep_calls id).mono ?_
      rintro e w' ⟨rfl, rfl⟩
      rw [hr]
      go_wp2_with fail
      go_ret
      exact ⟨rfl, H.out, Keep.refl _ _⟩
    · have e1 : voteB s slot id = true := by simp [voteB, hv, hr]
      rw [e1]
      have H := hid h
      obtain ⟨m1, m2, m3, hm⟩ := h
      have kd : Keep (fun _ => False) w w.drew := (Keep.refl _ w).drew
      have hlook := vt_look (hm.keep kd (fun _ _ q => q)) (slot, id) ⟨hs.wf, (rep_ok hr).wf⟩
      have hlook0 := vt_look hm (slot, id) ⟨hs.wf, (rep_ok hr).wf⟩
      obtain ⟨v0, st, w1, w2, h1, h2, hlk1, h3, h4⟩ := vt_entry (hm.keep kd (fun _ _ q => q)) (slot, id) ⟨hs.wf, (rep_ok hr).wf⟩ (by unfold maxLen; omega) (vtAt s (slot, id) + 1)
      have hwr : IntKind.i64.wrap (vtAt s (slot, id) + 1) = vtAt s (slot, id) + 1 := by have := hb (slot, id); unfold okI at this; rw [IntKind.wrap_i64]; omega
      simp only [plV] at hlook hlook0 h1 hlk1
      have c5 := cell_at hm.obj 5 (.map (some m3)) rfl
      have H3 := hid h3
      have H4 := hid h4
      have HF3 := hid hm.f3
      clear hm h3 h4 hb
      generalize vtAt s (slot, id) = q at *
      have hv : decide (0 < q) = false := by simpa using hv
      go_enter Try.func25, Try.ntmps25
      go_wp2_with fail
      refine (made_calls H.out).mono ?_
      rintro e w' ⟨rfl, rfl⟩
      go_wp2_with fail
      refine (trep_calls id).mono ?_
      rintro e w' ⟨rfl, rfl⟩
      rw [hr]
      go_wp2_with fail
      go_region_with fail
      all_goals
        go_wp2_with fail
        go_ret
        exact ⟨rfl, ⟨m1, m2, m3, H3.out⟩, (kd.mono (fun _ _ f => f.elim)).trans H4.out (fun b _ e => by have e : b = m3 := e; subst e; exact HF3.out)⟩
  · have hr : repB id = false := by simpa using hr
    have e1 : voteB s slot id = false := by simp [voteB, hr]
    rw [e1]
    have H := hid h
    go_enter Try.func25, Try.ntmps25
    go_wp2_with fail
    refine (made_calls H.out).mono ?_
    rintro e w' ⟨rfl, rfl⟩
    go_wp2_with fail
    refine (trep_calls id).mono ?_
    rintro e w' ⟨rfl, rfl⟩
    rw [hr]
    go_wp2_with fail
    go_ret
    exact ⟨rfl, H.out, Keep.refl _ _⟩
end
end Go.Proofs.Ythlgnilgjeebaaa

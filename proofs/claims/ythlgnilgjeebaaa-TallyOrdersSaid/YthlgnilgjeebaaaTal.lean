/- The tally: how it lies; New, made, replica, Top, Ballot, From; wapentakelaw16.x. -/
import Derived.Test.YthlgnilgjeebaaaMapP2
import Derived.Test.YthlgnilgjeebaaaMapR
import Derived.Test.YthlgnilgjeebaaaCopyR
import Derived.Test.YthlgnilgjeebaaaSlc
import Derived.Deep.RegionHeld3
import Derived.Carry
import Derived.Deep.RegionWith
namespace Go.Proofs.Ythlgnilgjeebaaa
open Go.RowKit Go.MapKept

def IntE (_ : World) (n : Int) (v : Value) : Prop := v = .int .i64 n
/-- How a vote lies that a map holds. -/
def VotE (F : Nat → Prop) (w : World) (x : Vote) (v : Value) : Prop := ∃ u, v = .agg (voteCs x u).toArray ∧ Sl .change w F u x.value.changes ∧ x.value.changes.length ≤ 4294967296
theorem VotE.keep {F S : Nat → Prop} {w w' : World} (hk : Keep S w w') (hd : ∀ k, F k → ¬ S k) (x : Vote) (v : Value) (h : VotE F w x v) : VotE F w' x v := by
  obtain ⟨u, h1, h2, h3⟩ := h; exact ⟨u, h1, h2.keep hk hd, h3⟩
theorem VotE.mono {F G : Nat → Prop} {w : World} (hd : ∀ k, F k → G k) (x : Vote) (v : Value) (h : VotE F w x v) : VotE G w x v := by
  obtain ⟨u, h1, h2, h3⟩ := h; exact ⟨u, h1, h2.mono hd, h3⟩
structure TS where
  ballot : Int
  from' : Int
  pr : List (Int × Int)
  best : List (Int × Vote)
  top : Int
  vt : List (Pl × Int)
abbrev TalObj (s : TS) (m1 m2 m3 : Nat) : Obj := .cells #[.int .i64 s.ballot, .int .i64 s.from', .map (some m1), .map (some m2), .int .i64 s.top, .map (some m3)] 63
structure TalM (F : Nat → Prop) (w : World) (g : Nat) (s : TS) (m1 m2 m3 : Nat) : Prop where
  obj : w.heap[g]? = some (TalObj s m1 m2 m3)
  pr : MapI IntE w m1 s.pr
  best : MapI (VotE (fun k => F k ∧ k ≠ g ∧ k ≠ m1 ∧ k ≠ m2 ∧ k ≠ m3)) w m2 s.best
  vt : MapP IntE w m3 s.vt
  fg : F g
  f1 : F m1
  f2 : F m2
  f3 : F m3
  g1 : g ≠ m1
  g2 : g ≠ m2
  g3 : g ≠ m3
  d12 : m1 ≠ m2
  d13 : m1 ≠ m3
  d23 : m2 ≠ m3
def TalAt (F : Nat → Prop) (w : World) (g : Nat) (s : TS) : Prop := ∃ m1 m2 m3, TalM F w g s m1 m2 m3
section
variable {F S : Nat → Prop} {w w' : World} {g m1 m2 m3 : Nat} {s : TS}
theorem MapI.mono {α : Type} {E E' : World → α → Value → Prop} {w : World} {b : Nat} {l : List (Int × α)} (h : MapI E w b l) (hE : ∀ a v, E w a v → E' w a v) : MapI E' w b l := by
  obtain ⟨es, clock, h1, h2, h3, h4, h5⟩ := h
  refine ⟨es, clock, h1, h2, h3, h4, fun i p hp => ?_⟩
  obtain ⟨e, q1, q2, q3, q4⟩ := h5 i p hp
  exact ⟨e, q1, q2, q3, hE _ _ q4⟩
theorem TalM.keep (h : TalM F w g s m1 m2 m3) (hk : Keep S w w') (hd : ∀ k, F k → ¬ S k) : TalM F w' g s m1 m2 m3 :=
  { h with
    obj := hk.heap h.obj (hd g h.fg)
    pr := h.pr.keep hk (hd _ h.f1) (fun _ _ q => q)
    best := h.best.keep hk (hd _ h.f2) (VotE.keep hk (fun k q => hd k q.1))
    vt := h.vt.keep hk (hd _ h.f3) (fun _ _ q => q) }
theorem TalM.mono {G : Nat → Prop} (h : TalM F w g s m1 m2 m3) (hFG : ∀ k, F k → G k) : TalM G w g s m1 m2 m3 :=
  { h with
    best := h.best.mono (VotE.mono (fun k q => ⟨hFG k q.1, q.2⟩))
    fg := hFG _ h.fg
    f1 := hFG _ h.f1
    f2 := hFG _ h.f2
    f3 := hFG _ h.f3 }
theorem TalAt.keep (h : TalAt F w g s) (hk : Keep S w w') (hd : ∀ k, F k → ¬ S k) : TalAt F w' g s := by
  obtain ⟨m1, m2, m3, h⟩ := h; exact ⟨m1, m2, m3, h.keep hk hd⟩
theorem TalAt.mono {G : Nat → Prop} (h : TalAt F w g s) (hFG : ∀ k, F k → G k) : TalAt G w g s := by
  obtain ⟨m1, m2, m3, h⟩ := h; exact ⟨m1, m2, m3, h.mono hFG⟩
theorem TalAt.lt (h : TalAt F w g s) : g < w.heap.size := by obtain ⟨_, _, _, h⟩ := h; exact lt_heap h.obj
theorem TalAt.drewN (h : TalAt F w g s) (n : Nat) : TalAt F (w.drewN n) g s := h.keep ((Keep.refl (fun _ => False) w).drewN n) (fun _ _ => id)
theorem TalAt.wild (h : TalAt F w g s) (o : Obj) : TalAt F (w.alloc o) g s := h.keep ((Keep.refl (fun _ => False) w).alloc o) (fun _ _ => id)
set_option maxRecDepth 20000 in
theorem tnew_calls (bal fr : Int) :
    Calls Try.prog 10 #[.int .i64 bal, .int .i64 fr] w fun e w' => ∃ g, e = .returned (.pointer (some ⟨g, 0, none⟩)) ∧ TalAt (NewIn w w') w' g ⟨bal, fr, [], [], fr, []⟩ ∧ Keep (fun _ => False) w w' := by
  have hmm := @run_makeMap Try.prog
  go_enter Try.func10, Try.ntmps10
  go_wp2_with fail
  go_ret
  have e0 : (w.alloc (.map #[] 0)).heap[w.heap.size]? = some (.map #[] 0) := heap_alloc_new w _
  have e1 : ((w.alloc (.map #[] 0)).alloc (.map #[] 0)).heap[w.heap.size + 1]? = some (.map #[] 0) := by simpa using heap_alloc_new (w.alloc (.map #[] 0)) (.map #[] 0)
  have e2 : (((w.alloc (.map #[] 0)).alloc (.map #[] 0)).alloc (.map #[] 0)).heap[w.heap.size + 2]? = some (.map #[] 0) := by simpa using heap_alloc_new ((w.alloc (.map #[] 0)).alloc (.map #[] 0)) (.map #[] 0)
  have e3 := heap_alloc_new (((w.alloc (.map #[] 0)).alloc (.map #[] 0)).alloc (.map #[] 0)) (TalObj ⟨bal, fr, [], [], fr, []⟩ w.heap.size (w.heap.size + 1) (w.heap.size + 2))
  simp only [World.size_alloc] at e3
  have hI : ∀ {α : Type} (E : World → α → Value → Prop) {W : World} {b : Nat}, W.heap[b]? = some (.map #[] 0) → MapI E W b [] := fun {α} E {W b} h => ⟨#[], 0, h, stamped_empty 0, rfl, by simp, by simp⟩
  have hP : ∀ (E : World → Int → Value → Prop) {W : World} {b : Nat}, W.heap[b]? = some (.map #[] 0) → MapP E W b [] := fun E {W b} h => ⟨#[], 0, h, stamped_empty 0, rfl, by simp, by simp⟩
  refine ⟨w.heap.size + 3, rfl, ⟨w.heap.size, w.heap.size + 1, w.heap.size + 2, ⟨e3, hI _ (heap_alloc (heap_alloc (heap_alloc e0 _) _) _), hI _ (heap_alloc (heap_alloc e1 _) _), hP _ (heap_alloc e2 _), ?_, ?_, ?_, ?_, ?_, ?_, ?_, ?_, ?_, ?_⟩⟩, (((((Keep.refl _ w).alloc _).alloc _).alloc _).alloc _)⟩
  all_goals first | omega | (refine ⟨by omega, ?_⟩; simp; done) | (refine ⟨by omega, ?_⟩; simp; omega)
set_option maxRecDepth 20000 in
theorem made_calls (h : TalAt F w g s) : Calls Try.prog 40 #[.pointer (some ⟨g, 0, none⟩)] w fun e w' => e = .returned (.bool true) ∧ w = w' := by
  obtain ⟨m1, m2, m3, h⟩ := h
  have c5 := cell_at h.obj 5 (.map (some m3)) rfl
  have hnm := fun w => Go.run_neq_map_nil (P := Try.prog) w 61 79 3 (some m3) Try.underlying61
  clear h
  go_enter Try.func40, Try.ntmps40
  go_wp2_with fail
  go_ret
  exact ⟨rfl, rfl⟩
def repB (t : Int) : Bool := decide (0 ≤ t ∧ t < 15)
set_option maxRecDepth 20000 in
theorem trep_calls (t : Int) : Calls Try.prog 41 #[.int .i64 t] w fun e w' => e = .returned (.bool (repB t)) ∧ w = w' := by
  rw [repB]
  by_cases h0 : 0 ≤ t
  · by_cases h1 : t < 15
    · rw [decide_eq_true ⟨h0, h1⟩]
      go_enter Try.func41, Try.ntmps41
      go_wp2_with fail
      go_ret
      exact ⟨rfl, rfl⟩
    · rw [decide_eq_false (fun q => h1 q.2)]
      go_enter Try.func41, Try.ntmps41
      go_wp2_with fail
      go_ret
      exact ⟨rfl, rfl⟩
  · rw [decide_eq_false (fun q => h0 q.1)]
    go_enter Try.func41, Try.ntmps41
    go_wp2_with fail
    go_ret
    exact ⟨rfl, rfl⟩
set_option maxRecDepth 20000 in
theorem top_calls (h : TalAt F w g s) : Calls Try.prog 16 #[.pointer (some ⟨g, 0, none⟩)] w fun e w' => e = .returned (.int .i64 s.top) ∧ w = w' := by
  have h0 := h
  obtain ⟨m1, m2, m3, h⟩ := h
  have c4 := cell_at h.obj 4 (.int .i64 s.top) rfl
  clear h
  go_enter Try.func16, Try.ntmps16
  go_wp2_with fail
  refine (made_calls h0).mono ?_
  rintro e w' ⟨rfl, rfl⟩
  go_wp2_with fail
  go_ret
  exact ⟨rfl, rfl⟩
set_option maxRecDepth 20000 in
theorem ballot_calls (h : TalAt F w g s) : Calls Try.prog 38 #[.pointer (some ⟨g, 0, none⟩)] w fun e w' => e = .returned (.int .i64 s.ballot) ∧ w = w' := by
  obtain ⟨m1, m2, m3, h⟩ := h
  have c4 := cell_at h.obj 0 (.int .i64 s.ballot) rfl
  clear h
  go_enter Try.func38, Try.ntmps38
  go_wp2_with fail
  go_ret
  exact ⟨rfl, rfl⟩
set_option maxRecDepth 20000 in
theorem from_calls (h : TalAt F w g s) : Calls Try.prog 39 #[.pointer (some ⟨g, 0, none⟩)] w fun e w' => e = .returned (.int .i64 s.from') ∧ w = w' := by
  obtain ⟨m1, m2, m3, h⟩ := h
  have c4 := cell_at h.obj 1 (.int .i64 s.from') rfl
  clear h
  go_enter Try.func39, Try.ntmps39
  go_wp2_with fail
  go_ret
  exact ⟨rfl, rfl⟩
abbrev reqX (n : Int) : Req := ⟨3, ByteArray.empty, n, 1, 0, ByteArray.empty, [], ByteArray.empty, 0, 0, 0⟩
set_option maxRecDepth 20000 in
theorem x_calls (n : Int) : Calls Try.prog 12 #[.int .i64 n] w fun e w' => e = .returned (reqV (reqX n) (.slice none 0 0)) ∧ Keep (fun _ => False) w w' := by
  go_enter Try.func12, Try.ntmps12
  go_wp2_with fail
  refine bodyPost_ret (v := reqV (reqX n) (.slice none 0 0)) (by simp [results, Try.results12, go_sem]; rfl) rfl ?_
  exact ⟨rfl, (Keep.refl _ w).alloc _⟩
end
end Go.Proofs.Ythlgnilgjeebaaa

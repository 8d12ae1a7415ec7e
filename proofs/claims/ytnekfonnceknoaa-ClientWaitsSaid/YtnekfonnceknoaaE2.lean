/- entry's writer of verdicts: the parts, each a method (all but the commits). entry's writer of verdicts: the commits. entry's writer of verdicts: which parts a code has. -/
import Derived.Test.YtnekfonnceknoaaE1
import Derived.Test.YtnekfonnceknoaaEntAlike
import Derived.Test.YtnekfonnceknoaaEntPut
namespace Go.Proofs.Ytnekfonnceknoaa
open Go.RowKit
def eCommit (s : WS) (c : Commit) : WS := eList (eWord (wNum (wNum s c.rev) c.base) c.ref) c.changes
def eComs (s : WS) (l : List Commit) : WS := if 32 < l.length then wRefuse s else l.foldl eCommit (wNum s l.length)
/-- A part of a verdict. -/
inductive VPart
  | opened | rev | of | digest | commits | who
deriving DecidableEq
def vPart (x : Verdict) : VPart → WS → WS
  | .opened, s => wNum s x.session
  | .rev, s => wNum s x.rev
  | .of, s => eWord s x.path
  | .digest, s => wWord s x.digest
  | .commits, s => eComs s x.commits
  | .who, s => wNum s x.member
def vParts (k : Int) : List VPart :=
  if k = 1 then [.opened] else if k = 2 ∨ k = 4 ∨ k = 8 then [.rev] else if k = 3 then [.of, .rev] else if k = 9 then [.of, .digest, .rev] else if k = 10 then [.of]
  else if k = 11 then [.commits] else if k = 12 ∨ k = 13 ∨ k = 14 then [.who] else []
/-- A verdict with the fields alone that its code names. -/
def onlyV (x : Verdict) : Verdict :=
  ⟨x.code, if x.code = 1 then x.session else 0, if x.code = 2 ∨ x.code = 4 ∨ x.code = 8 ∨ x.code = 3 ∨ x.code = 9 then x.rev else 0, if x.code = 3 ∨ x.code = 9 ∨ x.code = 10 then x.path else ByteArray.empty,
    if x.code = 9 then x.digest else 0, if x.code = 11 then x.commits else [], if x.code = 12 ∨ x.code = 13 ∨ x.code = 14 then x.member else 0⟩
def eTold (s : WS) (x : Verdict) : WS :=
  if (0 ≤ x.code ∧ x.code < 15) ∧ x = onlyV x then (vParts x.code).foldl (fun s p => vPart x p s) (wNum s x.code) else wRefuse s
section
variable {F : Nat → Prop} {w : World} {gw gx : Nat} {s : WS} {r : Req} {v u : Value} {x : Verdict}
set_option maxRecDepth 20000 in
set_option maxHeartbeats 2000000 in
theorem vpart_opened (hx : w.heap[gx]? = some (XObj gw r v x u)) (h : WrAt F w gw s) (hgx : ¬ F gx) (hl : s.b.length ≤ 30000000000000) :
    Calls Try.prog 96 #[.pointer (some ⟨gx, 0, none⟩)] w (WrPost F w gw (vPart x .opened s)) := by
  have c0 := cell_at hx 0 (.pointer (some ⟨gw, 0, none⟩)) rfl
  have c1 := cell_at hx 13 (.int .i64 x.session) rfl
  have HC := hid (fun (y : World) (hk : Keep F w y) => (⟨hk.cell c0 hgx, hk.cell c1 hgx⟩ : y.cell? ⟨gx, 0, none⟩ = some (.pointer (some ⟨gw, 0, none⟩)) ∧ y.cell? ⟨gx, 13, none⟩ = some (.int .i64 x.session)))
  have NC : ∀ y, Keep (fun _ => False) w y → Calls Try.prog 67 #[.pointer (some ⟨gw, 0, none⟩), .int .i64 x.session] y fun e w' => e = .returned (.tuple #[]) ∧ WrAt (Grow F w w') w' gw (vPart x .opened s) ∧ Keep F w w' := fun y hk => by
    refine (num_calls (h.keep hk (fun _ _ => id)) x.session (by omega)).mono ?_
    rintro e w' ⟨he, h1, h2⟩
    have hz := hk.size
    exact ⟨he, h1.mono (fun q hq => hq.imp id (fun ⟨a, b⟩ => ⟨by omega, b⟩)), (hk.mono (fun _ _ f => f.elim)).trans h2 (fun _ _ q => q)⟩
  have kd : Keep (fun _ => False) w w.drew := (Keep.refl _ w).drew
  have kdF : Keep F w w.drew := (Keep.refl _ w).drew
  clear h hx
  go_enter Try.func96, Try.ntmps96
  go_wp2_with fail
  go_region_held3 (fun y => y.cell? ⟨gx, 0, none⟩ = some (.pointer (some ⟨gw, 0, none⟩)) ∧ y.cell? ⟨gx, 13, none⟩ = some (.int .i64 x.session)) (exact HC.out _ (by assumption)) (first
    | (go_at_call 67; with_reducible refine (NC _ (by assumption)).mono ?_; rintro e w2 ⟨rfl, h2, k2⟩))
  all_goals (
    go_wp2_with fail
    go_end0
    exact ⟨rfl, h2, k2⟩)
set_option maxRecDepth 20000 in
set_option maxHeartbeats 2000000 in
theorem vpart_rev (hx : w.heap[gx]? = some (XObj gw r v x u)) (h : WrAt F w gw s) (hgx : ¬ F gx) (hl : s.b.length ≤ 30000000000000) :
    Calls Try.prog 97 #[.pointer (some ⟨gx, 0, none⟩)] w (WrPost F w gw (vPart x .rev s)) := by
  have c0 := cell_at hx 0 (.pointer (some ⟨gw, 0, none⟩)) rfl
  have c1 := cell_at hx 14 (.int .i64 x.rev) rfl
  have HC := hid (fun (y : World) (hk : Keep F w y) => (⟨hk.cell c0 hgx, hk.cell c1 hgx⟩ : y.cell? ⟨gx, 0, none⟩ = some (.pointer (some ⟨gw, 0, none⟩)) ∧ y.cell? ⟨gx, 14, none⟩ = some (.int .i64 x.rev)))
  have NC : ∀ y, Keep (fun _ => False) w y → Calls Try.prog 67 #[.pointer (some ⟨gw, 0, none⟩), .int .i64 x.rev] y fun e w' => e = .returned (.tuple #[]) ∧ WrAt (Grow F w w') w' gw (vPart x .rev s) ∧ Keep F w w' := fun y hk => by
    refine (num_calls (h.keep hk (fun _ _ => id)) x.rev (by omega)).mono ?_
    rintro e w' ⟨he, h1, h2⟩
    have hz := hk.size
    exact ⟨he, h1.mono (fun q hq => hq.imp id (fun ⟨a, b⟩ => ⟨by omega, b⟩)), (hk.mono (fun _ _ f => f.elim)).trans h2 (fun _ _ q => q)⟩
  have kd : Keep (fun _ => False) w w.drew := (Keep.refl _ w).drew
  have kdF : Keep F w w.drew := (Keep.refl _ w).drew
  clear h hx
  go_enter Try.func97, Try.ntmps97
  go_wp2_with fail
  go_region_held3 (fun y => y.cell? ⟨gx, 0, none⟩ = some (.pointer (some ⟨gw, 0, none⟩)) ∧ y.cell? ⟨gx, 14, none⟩ = some (.int .i64 x.rev)) (exact HC.out _ (by assumption)) (first
    | (go_at_call 67; with_reducible refine (NC _ (by assumption)).mono ?_; rintro e w2 ⟨rfl, h2, k2⟩))
  all_goals (
    go_wp2_with fail
    go_end0
    exact ⟨rfl, h2, k2⟩)
set_option maxRecDepth 20000 in
set_option maxHeartbeats 2000000 in
theorem vpart_of (hx : w.heap[gx]? = some (XObj gw r v x u)) (h : WrAt F w gw s) (hgx : ¬ F gx) (hl : s.b.length ≤ 30000000000000) :
    Calls Try.prog 98 #[.pointer (some ⟨gx, 0, none⟩)] w (WrPost F w gw (vPart x .of s)) := by
  have c0 := cell_at hx 0 (.pointer (some ⟨gw, 0, none⟩)) rfl
  have c1 := cell_at hx 15 (.string x.path) rfl
  have HC := hid (fun (y : World) (hk : Keep F w y) => (⟨hk.cell c0 hgx, hk.cell c1 hgx⟩ : y.cell? ⟨gx, 0, none⟩ = some (.pointer (some ⟨gw, 0, none⟩)) ∧ y.cell? ⟨gx, 15, none⟩ = some (.string x.path)))
  have NC : ∀ y, Keep (fun _ => False) w y → Calls Try.prog 88 #[.pointer (some ⟨gw, 0, none⟩), .string x.path] y fun e w' => e = .returned (.tuple #[]) ∧ WrAt (Grow F w w') w' gw (vPart x .of s) ∧ Keep F w w' := fun y hk => by
    refine (word'_calls (h.keep hk (fun _ _ => id)) x.path (by omega)).mono ?_
    rintro e w' ⟨he, h1, h2⟩
    have hz := hk.size
    exact ⟨he, h1.mono (fun q hq => hq.imp id (fun ⟨a, b⟩ => ⟨by omega, b⟩)), (hk.mono (fun _ _ f => f.elim)).trans h2 (fun _ _ q => q)⟩
  have kd : Keep (fun _ => False) w w.drew := (Keep.refl _ w).drew
  have kdF : Keep F w w.drew := (Keep.refl _ w).drew
  clear h hx
  go_enter Try.func98, Try.ntmps98
  go_wp2_with fail
  go_region_held3 (fun y => y.cell? ⟨gx, 0, none⟩ = some (.pointer (some ⟨gw, 0, none⟩)) ∧ y.cell? ⟨gx, 15, none⟩ = some (.string x.path)) (exact HC.out _ (by assumption)) (first
    | (go_at_call 88; with_reducible refine (NC _ (by assumption)).mono ?_; rintro e w2 ⟨rfl, h2, k2⟩))
  all_goals (
    go_wp2_with fail
    go_end0
    exact ⟨rfl, h2, k2⟩)
set_option maxRecDepth 20000 in
set_option maxHeartbeats 2000000 in
theorem vpart_digest (hx : w.heap[gx]? = some (XObj gw r v x u)) (h : WrAt F w gw s) (hgx : ¬ F gx) (hl : s.b.length ≤ 30000000000000) :
    Calls Try.prog 99 #[.pointer (some ⟨gx, 0, none⟩)] w (WrPost F w gw (vPart x .digest s)) := by
  have c0 := cell_at hx 0 (.pointer (some ⟨gw, 0, none⟩)) rfl
  have c1 := cell_at hx 16 (.int .u64 x.digest) rfl
  have HC := hid (fun (y : World) (hk : Keep F w y) => (⟨hk.cell c0 hgx, hk.cell c1 hgx⟩ : y.cell? ⟨gx, 0, none⟩ = some (.pointer (some ⟨gw, 0, none⟩)) ∧ y.cell? ⟨gx, 16, none⟩ = some (.int .u64 x.digest)))
  have NC : ∀ y, Keep (fun _ => False) w y → Calls Try.prog 95 #[.pointer (some ⟨gw, 0, none⟩), .int .u64 x.digest] y fun e w' => e = .returned (.tuple #[]) ∧ WrAt (Grow F w w') w' gw (vPart x .digest s) ∧ Keep F w w' := fun y hk => by
    refine (word_calls (h.keep hk (fun _ _ => id)) x.digest (by omega)).mono ?_
    rintro e w' ⟨he, h1, h2⟩
    have hz := hk.size
    exact ⟨he, h1.mono (fun q hq => hq.imp id (fun ⟨a, b⟩ => ⟨by omega, b⟩)), (hk.mono (fun _ _ f => f.elim)).trans h2 (fun _ _ q => q)⟩
  have kd : Keep (fun _ => False) w w.drew := (Keep.refl _ w).drew
  have kdF : Keep F w w.drew := (Keep.refl _ w).drew
  clear h hx
  go_enter Try.func99, Try.ntmps99
  go_wp2_with fail
  go_region_held3 (fun y => y.cell? ⟨gx, 0, none⟩ = some (.pointer (some ⟨gw, 0, none⟩)) ∧ y.cell? ⟨gx, 16, none⟩ = some (.int .u64 x.digest)) (exact HC.out _ (by assumption)) (first
    | (go_at_call 95; with_reducible refine (NC _ (by assumption)).mono ?_; rintro e w2 ⟨rfl, h2, k2⟩))
  all_goals (
    go_wp2_with fail
    go_end0
    exact ⟨rfl, h2, k2⟩)
set_option maxRecDepth 20000 in
set_option maxHeartbeats 2000000 in
theorem vpart_who (hx : w.heap[gx]? = some (XObj gw r v x u)) (h : WrAt F w gw s) (hgx : ¬ F gx) (hl : s.b.length ≤ 30000000000000) :
    Calls Try.prog 101 #[.pointer (some ⟨gx, 0, none⟩)] w (WrPost F w gw (vPart x .who s)) := by
  have c0 := cell_at hx 0 (.pointer (some ⟨gw, 0, none⟩)) rfl
  have c1 := cell_at hx 18 (.int .i64 x.member) rfl
  have HC := hid (fun (y : World) (hk : Keep F w y) => (⟨hk.cell c0 hgx, hk.cell c1 hgx⟩ : y.cell? ⟨gx, 0, none⟩ = some (.pointer (some ⟨gw, 0, none⟩)) ∧ y.cell? ⟨gx, 18, none⟩ = some (.int .i64 x.member)))
  have NC : ∀ y, Keep (fun _ => False) w y → Calls Try.prog 67 #[.pointer (some ⟨gw, 0, none⟩), .int .i64 x.member] y fun e w' => e = .returned (.tuple #[]) ∧ WrAt (Grow F w w') w' gw (vPart x .who s) ∧ Keep F w w' := fun y hk => by
    refine (num_calls (h.keep hk (fun _ _ => id)) x.member (by omega)).mono ?_
    rintro e w' ⟨he, h1, h2⟩
    have hz := hk.size
    exact ⟨he, h1.mono (fun q hq => hq.imp id (fun ⟨a, b⟩ => ⟨by omega, b⟩)), (hk.mono (fun _ _ f => f.elim)).trans h2 (fun _ _ q => q)⟩
  have kd : Keep (fun _ => False) w w.drew := (Keep.refl _ w).drew
  have kdF : Keep F w w.drew := (Keep.refl _ w).drew
  clear h hx
  go_enter Try.func101, Try.ntmps101
  go_wp2_with fail
  go_region_held3 (fun y => y.cell? ⟨gx, 0, none⟩ = some (.pointer (some ⟨gw, 0, none⟩)) ∧ y.cell? ⟨gx, 18, none⟩ = some (.int .i64 x.member)) (exact HC.out _ (by assumption)) (first
    | (go_at_call 67; with_reducible refine (NC _ (by assumption)).mono ?_; rintro e w2 ⟨rfl, h2, k2⟩))
  all_goals (
    go_wp2_with fail
    go_end0
    exact ⟨rfl, h2, k2⟩)
end
end Go.Proofs.Ytnekfonnceknoaa
namespace Go.Proofs.Ytnekfonnceknoaa
open Go.RowKit
theorem eCommit_len {s : WS} {c : Commit} : (eCommit s c).b.length ≤ s.b.length + 17600 := by
  unfold eCommit
  have h1 := wNum_len (s := s) (n := c.rev)
  have h2 := wNum_len (s := wNum s c.rev) (n := c.base)
  have h3 := eWord_len (s := wNum (wNum s c.rev) c.base) (t := c.ref)
  have h4 := eList_len (s := eWord (wNum (wNum s c.rev) c.base) c.ref) (l := c.changes)
  omega
theorem foldC_len (l : List Commit) (s : WS) : (l.foldl eCommit s).b.length ≤ s.b.length + l.length * 17600 := by
  induction l generalizing s with
  | nil => simp
  | cons c l ih =>
    rw [List.foldl_cons, List.length_cons, Nat.succ_mul]
    have := ih (eCommit s c)
    have := eCommit_len (s := s) (c := c)
    omega
theorem eComs_len {s : WS} {l : List Commit} : (eComs s l).b.length ≤ s.b.length + 600000 := by
  unfold eComs
  split
  · rw [wRefuse_len]; omega
  · have := foldC_len l (wNum s l.length)
    have := wNum_len (s := s) (n := l.length)
    omega
section
variable {F G : Nat → Prop} {w : World} {gw gx : Nat} {s : WS} {r : Req} {v u : Value} {x : Verdict}
/-- One step of a chain of writes. -/
theorem chain_step {Fk : Nat → Prop} {w6 wj y w' : World} {t : WS} {e : Ending} (hk : Keep (fun _ => False) wj y) (Kj : Keep Fk w6 wj) (hp : WrPost (Grow Fk w6 wj) y gw t e w') :
    e = .returned (.tuple #[]) ∧ WrAt (Grow Fk w6 w') w' gw t ∧ Keep Fk w6 w' := by
  obtain ⟨he, h1, h2⟩ := hp
  have z1 := hk.size; have z2 := h2.size; have z3 := Kj.size
  refine ⟨he, h1.mono (fun q hq => ?_), Kj.then ((hk.mono (fun _ _ f => f.elim)).trans h2 (fun _ _ q => q))⟩
  rcases hq with (hq | ⟨a, b⟩) | ⟨a, b⟩
  · exact .inl hq
  · exact .inr ⟨a, by omega⟩
  · exact .inr ⟨by omega, b⟩
set_option maxRecDepth 20000 in
set_option maxHeartbeats 8000000 in
theorem vpart_commits (hx : w.heap[gx]? = some (XObj gw r v x u)) (h : WrAt F w gw s) (hgx : ¬ F gx) (hl : s.b.length ≤ 20000000000000) (hv : Sl .commit w G u x.commits) (hG : ∀ k, G k → ¬ F k ∧ k < w.heap.size) (hF : ∀ k, F k → k < w.heap.size) :
    Calls Try.prog 100 #[.pointer (some ⟨gx, 0, none⟩)] w (WrPost F w gw (vPart x .commits s)) := by
  obtain ⟨A, c, rfl⟩ := hv.shape
  have hmax : x.commits.length ≤ 9223372036854775807 := by obtain ⟨_, _, _, q1, q2, _⟩ := hv; unfold maxLen at q2; omega
  obtain ⟨n, hn⟩ : ∃ n, n = x.commits.length := ⟨_, rfl⟩
  rw [← hn] at hv hmax hx
  have HN := hid hn; have HV := hid hv; have HG := hid hG; have HF := hid hF; have HX := hid hx; have HGX := hid hgx; have HW := hid h
  have c0 := cell_at hx 0 (.pointer (some ⟨gw, 0, none⟩)) rfl
  have c1 := cell_at hx 17 (.slice A n c) rfl
  clear hv hn hG hF hx h hgx
  by_cases h32 : 32 < n
  · have e := hid (show vPart x .commits s = wRefuse s from if_pos (by rw [← HN.out]; exact h32))
    go_enter Try.func100, Try.ntmps100
    go_wp2_with fail
    refine (refuse_calls HW.out).mono ?_
    rintro en w1 ⟨rfl, h1, h2⟩
    go_wp2_with fail
    go_end0
    rw [e.out]
    exact ⟨rfl, h1, h2⟩
  have e := hid (show vPart x .commits s = x.commits.foldl eCommit (wNum s n) by rw [vPart, eComs, if_neg (by rw [← HN.out]; exact h32), HN.out])
  have hnl := wNum_len (s := s) (n := n)
  have HC0 := hid (fun (y : World) (hk : Keep F w y) => (⟨hk.cell c0 HGX.out, hk.cell c1 HGX.out⟩ : y.cell? ⟨gx, 0, none⟩ = some (.pointer (some ⟨gw, 0, none⟩)) ∧ y.cell? ⟨gx, 17, none⟩ = some (.slice A n c)))
  have NC : ∀ y, Keep (fun _ => False) w y → Calls Try.prog 67 #[.pointer (some ⟨gw, 0, none⟩), .int .i64 n] y fun e w' => e = .returned (.tuple #[]) ∧ WrAt (Grow F w w') w' gw (wNum s n) ∧ Keep F w w' := fun y hk => by
    refine (num_calls (HW.out.keep hk (fun _ _ => id)) n (by omega)).mono ?_
    rintro e w' ⟨he, h1, h2⟩
    have hz := hk.size
    exact ⟨he, h1.mono (fun q hq => hq.imp id (fun ⟨a, b⟩ => ⟨by omega, b⟩)), (hk.mono (fun _ _ f => f.elim)).trans h2 (fun _ _ q => q)⟩
  have kd : Keep (fun _ => False) w w.drew := (Keep.refl _ w).drew
  have kdF : Keep F w w.drew := (Keep.refl _ w).drew
  go_enter Try.func100, Try.ntmps100
  go_wp2_with fail
  go_region_held3 (fun y => y.cell? ⟨gx, 0, none⟩ = some (.pointer (some ⟨gw, 0, none⟩)) ∧ y.cell? ⟨gx, 17, none⟩ = some (.slice A n c)) (exact HC0.out _ (by assumption)) (first
    | (go_at_call 67; with_reducible refine (NC _ (by assumption)).mono ?_; rintro e w2 ⟨rfl, h2, k2⟩))
  generalize wNum s n = s1 at *
  have H1 := hid h2; have K1 := hid k2
  obtain ⟨d0, d1⟩ := HC0.out _ k2
  clear h2 k2 NC kd kdF c0 c1 HC0
  go_wp2_with fail
  go_loopw [33] (fun i wr => ∃ k : Nat, k ≤ n ∧ i = .int .i64 k ∧ WrAt (Grow F w wr) wr gw ((x.commits.take k).foldl eCommit s1) ∧ Keep F w wr) (fun i _ => n - (intOf i).toNat)
  case atStart => exact ⟨0, Nat.zero_le _, rfl, H1.out, K1.out⟩
  case round =>
    obtain ⟨k, hk, rfl, hW, hkp⟩ := hrel
    clear d0 d1
    by_cases hlt : k < n
    · obtain ⟨t, ht⟩ : ∃ t, x.commits[k]? = some t := ⟨x.commits[k]'(by rw [← HN.out]; exact hlt), by simp [show k < x.commits.length by rw [← HN.out]; exact hlt]⟩
      have hvk := HV.out.keep hkp (fun q hq => (HG.out q hq).1)
      obtain ⟨A', c', b, off, cs, he, rfl, hcs, hcell⟩ := elem_cells7 hvk HN.out ht
      simp only [Value.slice.injEq, true_and] at he
      obtain ⟨rfl, rfl⟩ := he
      obtain ⟨v1, rfl, hs1, _⟩ := commit_cells hcs
      obtain ⟨A1, c1, rfl⟩ := hs1.shape
      have hsz : Rep.commit.size = 4 := rfl
      rw [hsz] at hcell
      obtain ⟨m, hm⟩ : ∃ m, m = t.changes.length := ⟨_, rfl⟩
      rw [← hm] at hs1 hcell
      have p0 : wr.cell? ⟨b, off + k * 4, none⟩ = some (.int .i64 t.rev) := hcell 0 _ rfl
      have p1 : wr.cell? ⟨b, off + k * 4 + 1, none⟩ = some (.int .i64 t.base) := hcell 1 _ rfl
      have p2 : wr.cell? ⟨b, off + k * 4 + 2, none⟩ = some (.string t.ref) := hcell 2 _ rfl
      have p3 : wr.cell? ⟨b, off + k * 4 + 3, none⟩ = some (.slice A1 m c1) := hcell 3 _ rfl
      have htk : (x.commits.take (k + 1)).foldl eCommit s1 = eCommit ((x.commits.take k).foldl eCommit s1) t := by rw [List.take_add_one, ht, List.foldl_append]; rfl
      have hln := foldC_len (x.commits.take k) s1
      have hlk : (x.commits.take k).length ≤ 32 := by rw [List.length_take]; omega
      have hln2 : ((x.commits.take k).foldl eCommit s1).b.length ≤ 20000001000000 := by omega
      generalize (x.commits.take k).foldl eCommit s1 = sk at *
      have HTK := hid htk; have HWk := hid hW; have HKP := hid hkp; have HS1 := hid hs1; have HM := hid hm
      have hrk := hkp.size
      have hXk := hkp.heap HX.out HGX.out
      have HXk := hid hXk
      clear hcell hcs hvk ht htk hW hkp hln hlk hs1 hsz hm hXk
      go_wp2_with (first
        | (refine wpl_allocB (z := .agg (commitCs cmZ (.slice none 0 0)).toArray) rfl rfl (by kernel_rfl) ?_; intro g5 w5 hg5 hb5 k5 s5; have HG5 := hid hg5; have K5 := hid k5; clear hg5 k5 s5)
        | (refine wpl_storeB (v := .agg (commitCs t (.slice A1 m c1)).toArray) rfl rfl rfl rfl hb5 (by kernel_rfl) (Nat.le_refl 4) (by simp [Value.oneCell', commitCs, Value.cells]) ?_; intro w6 hb6 k6 s6; rw [show spl (Value.agg (commitCs cmZ (.slice none 0 0)).toArray).cells 0 (Value.agg (commitCs t (.slice A1 m c1)).toArray).cells.toList = (commitCs t (.slice A1 m c1)).toArray from spl_whole _ _ (Nat.le_refl 4)] at hb6; have K06 := hid (K5.out.trans k6 (fun b hb e => by have := HG5.out; omega)); have HB6 := hid hb6; clear k6 s6 hb5 hb6))
      have hg5F : ¬ Grow F w wr g5 := fun e => by
        have := HG5.out
        rcases e with e | ⟨_, e⟩
        · have := HF.out _ e; omega
        · omega
      have hgxF : ¬ Grow F w wr gx := fun e => by
        rcases e with e | ⟨e, _⟩
        · exact HGX.out e
        · have := lt_heap HX.out; omega
      have HX6 := hid (K06.out.heap HXk.out id)
      have HC := hid (fun (y : World) (hk : Keep (Grow F w wr) w6 y) => (⟨hk.cell (cell_at HX6.out 0 (.pointer (some ⟨gw, 0, none⟩)) rfl) hgxF, hk.cell (cell_at HB6.out 0 (.int .i64 t.rev) rfl) hg5F, hk.cell (cell_at HB6.out 1 (.int .i64 t.base) rfl) hg5F, hk.cell (cell_at HB6.out 2 (.string t.ref) rfl) hg5F, hk.cell (cell_at HB6.out 3 (.slice A1 m c1) rfl) hg5F⟩ : y.cell? ⟨gx, 0, none⟩ = some (.pointer (some ⟨gw, 0, none⟩)) ∧ y.cell? ⟨g5, 0, none⟩ = some (.int .i64 t.rev) ∧ y.cell? ⟨g5, 1, none⟩ = some (.int .i64 t.base) ∧ y.cell? ⟨g5, 2, none⟩ = some (.string t.ref) ∧ y.cell? ⟨g5, 3, none⟩ = some (.slice A1 m c1)))
      have HGF := hid (fun q (hq : G q) => (⟨fun e => e.elim (HG.out q hq).1 (fun e => by have := e.1; have := (HG.out q hq).2; omega), by have := (HG.out q hq).2; have := K06.out.size; omega⟩ : ¬ Grow F w wr q ∧ q < w6.heap.size))
      have HS6 := hid (HS1.out.keep K06.out (fun _ _ => id))
      have hF6 := hid (fun q (hq : Grow F w wr q) => (by have := K06.out.size; rcases hq with e | ⟨_, e⟩; · have := HF.out _ e; omega
                                                         · omega : q < w6.heap.size))
      have h6 := (HWk.out.keep K06.out (fun _ _ => id))
      have H6 := hid (show WrAt (Grow (Grow F w wr) w6 w6) w6 gw sk from h6.mono (fun q hq => .inl hq))
      have K6 := hid (Keep.refl (Grow F w wr) w6)
      clear hg5F hgxF h6 p0 p1 p2 p3
      have hl0 := wNum_len (s := sk) (n := t.rev)
      have hl1 := wNum_len (s := wNum sk t.rev) (n := t.base)
      have hl2 := eWord_len (s := wNum (wNum sk t.rev) t.base) (t := t.ref)
      have NC : ∀ y, Keep (fun _ => False) w6 y → Calls Try.prog 67 #[.pointer (some ⟨gw, 0, none⟩), .int .i64 t.rev] y fun e w' => e = .returned (.tuple #[]) ∧ WrAt (Grow (Grow F w wr) w6 w') w' gw (wNum sk t.rev) ∧ Keep (Grow F w wr) w6 w' := fun y hk => by
        exact (num_calls (H6.out.keep hk (fun _ _ => id)) t.rev (by omega)).mono (fun _ _ hp => chain_step hk K6.out hp)
      have kd : Keep (fun _ => False) w6 w6.drew := (Keep.refl _ w6).drew
      have kdF : Keep (Grow F w wr) w6 w6.drew := K6.out.drew
      go_wp2_with fail
      go_region_held3 (fun y => y.cell? ⟨gx, 0, none⟩ = some (.pointer (some ⟨gw, 0, none⟩)) ∧ y.cell? ⟨g5, 0, none⟩ = some (.int .i64 t.rev)) (exact ⟨(HC.out _ (by assumption)).1, (HC.out _ (by assumption)).2.1⟩) (first
        | (go_at_call 67; with_reducible refine (NC _ (by assumption)).mono ?_; rintro e w7 ⟨rfl, h7, k7⟩))
      have H7 := hid h7; have K7 := hid k7
      clear h7 k7 NC kd kdF
      have NC : ∀ y, Keep (fun _ => False) w7 y → Calls Try.prog 67 #[.pointer (some ⟨gw, 0, none⟩), .int .i64 t.base] y fun e w' => e = .returned (.tuple #[]) ∧ WrAt (Grow (Grow F w wr) w6 w') w' gw (wNum (wNum sk t.rev) t.base) ∧ Keep (Grow F w wr) w6 w' := fun y hk => by
        exact (num_calls (H7.out.keep hk (fun _ _ => id)) t.base (by omega)).mono (fun _ _ hp => chain_step hk K7.out hp)
      have kd : Keep (fun _ => False) w7 w7.drew := (Keep.refl _ w7).drew
      have kdF : Keep (Grow F w wr) w6 w7.drew := K7.out.drew
      go_wp2_with fail
      go_region_held3 (fun y => y.cell? ⟨gx, 0, none⟩ = some (.pointer (some ⟨gw, 0, none⟩)) ∧ y.cell? ⟨g5, 1, none⟩ = some (.int .i64 t.base)) (exact ⟨(HC.out _ (by assumption)).1, (HC.out _ (by assumption)).2.2.1⟩) (first
        | (go_at_call 67; with_reducible refine (NC _ (by assumption)).mono ?_; rintro e w8 ⟨rfl, h8, k8⟩))
      have H8 := hid h8; have K8 := hid k8
      clear h8 k8 NC kd kdF
      have NC : ∀ y, Keep (fun _ => False) w8 y → Calls Try.prog 88 #[.pointer (some ⟨gw, 0, none⟩), .string t.ref] y fun e w' => e = .returned (.tuple #[]) ∧ WrAt (Grow (Grow F w wr) w6 w') w' gw (eWord (wNum (wNum sk t.rev) t.base) t.ref) ∧ Keep (Grow F w wr) w6 w' := fun y hk => by
        exact (word'_calls (H8.out.keep hk (fun _ _ => id)) t.ref (by omega)).mono (fun _ _ hp => chain_step hk K8.out hp)
      have kd : Keep (fun _ => False) w8 w8.drew := (Keep.refl _ w8).drew
      have kdF : Keep (Grow F w wr) w6 w8.drew := K8.out.drew
      go_wp2_with fail
      go_region_held3 (fun y => y.cell? ⟨gx, 0, none⟩ = some (.pointer (some ⟨gw, 0, none⟩)) ∧ y.cell? ⟨g5, 2, none⟩ = some (.string t.ref)) (exact ⟨(HC.out _ (by assumption)).1, (HC.out _ (by assumption)).2.2.2.1⟩) (first
        | (go_at_call 88; with_reducible refine (NC _ (by assumption)).mono ?_; rintro e w9 ⟨rfl, h9, k9⟩))
      have H9 := hid h9; have K9 := hid k9
      clear h9 k9 NC kd kdF
      have hFj : ∀ q, Grow (Grow F w wr) w6 w9 q → q < w9.heap.size := fun q hq => by
        have := K9.out.size
        rcases hq with e | ⟨_, e⟩
        · have := hF6.out _ e; omega
        · omega
      have NC : ∀ y, Keep (fun _ => False) w9 y → Calls Try.prog 89 #[.pointer (some ⟨gw, 0, none⟩), .slice A1 m c1] y fun e w' => e = .returned (.tuple #[]) ∧ WrAt (Grow (Grow F w wr) w6 w') w' gw (eCommit sk t) ∧ Keep (Grow F w wr) w6 w' := fun y hk => by
        rw [HM.out]
        exact (list_calls (G := G) (H9.out.keep hk (fun _ _ => id)) (fun q hq => by have := hk.size; have := hFj q hq; omega) (by rw [HM.out] at HS6; exact (HS6.out.keep K9.out (fun q hq => (HGF.out q hq).1)).keep hk (fun _ _ => id)) (fun q hq => ⟨fun e => e.elim (HGF.out q hq).1 (fun e => by have := e.1; have := (HGF.out q hq).2; omega), by have := (HGF.out q hq).2; have := K9.out.size; have := hk.size; omega⟩) (by omega)).mono (fun _ _ hp => chain_step hk K9.out hp)
      have kd : Keep (fun _ => False) w9 w9.drew := (Keep.refl _ w9).drew
      have kdF : Keep (Grow F w wr) w6 w9.drew := K9.out.drew
      go_wp2_with fail
      go_region_held3 (fun y => y.cell? ⟨gx, 0, none⟩ = some (.pointer (some ⟨gw, 0, none⟩)) ∧ y.cell? ⟨g5, 3, none⟩ = some (.slice A1 m c1)) (exact ⟨(HC.out _ (by assumption)).1, (HC.out _ (by assumption)).2.2.2.2⟩) (first
        | (go_at_call 89; with_reducible refine (NC _ (by assumption)).mono ?_; rintro e w10 ⟨rfl, h10, k10⟩))
      have H10 := hid h10; have K10 := hid k10
      clear h10 k10 NC kd kdF
      go_wp2_with fail
      have kend : Keep F w w10 := HKP.out.then ((K06.out.mono (fun _ _ f => f.elim)).trans K10.out (fun _ _ q => q))
      refine ⟨⟨k + 1, by omega, by simp, ?_, kend⟩, by simp [intOf]; omega⟩
      rw [HTK.out]
      refine H10.out.mono (fun q hq => ?_)
      have z1 := K06.out.size; have z2 := K10.out.size
      rcases hq with (hq | ⟨a, b⟩) | ⟨a, b⟩
      · exact .inl hq
      · exact .inr ⟨a, by omega⟩
      · exact .inr ⟨by omega, b⟩
    · obtain rfl : k = n := by omega
      have HWk := hid hW; have HKP := hid hkp
      clear hW hkp
      go_wp2_with fail
      go_end0
      rw [e.out]
      have := HWk.out
      rw [List.take_of_length_le (by rw [← HN.out]; exact Nat.le_refl _)] at this
      exact ⟨rfl, this, HKP.out⟩
end
end Go.Proofs.Ytnekfonnceknoaa
namespace Go.Proofs.Ytnekfonnceknoaa
open Go.RowKit
def vpartF : VPart → FuncId
  | .opened => 96
  | .rev => 97
  | .of => 98
  | .digest => 99
  | .commits => 100
  | .who => 101
abbrev vpartV (g : Nat) (p : VPart) : Value := .func (.func (vpartF p)) #[.pointer (some ⟨g, 0, none⟩)] #[]
def VPartsPost (w : World) (gx : Nat) (k : Int) (e : Ending) (w' : World) : Prop :=
  ∃ A c n, n = (vParts k).length ∧ e = .returned (.tuple #[.slice A n c, .bool (decide (0 ≤ k ∧ k < 15))]) ∧ Row (NewIn w w') w' (.slice A n c) n 1 ((vParts k).map (vpartV gx)) ∧ Keep (fun _ => False) w w'
section
variable {w : World} {gx : Nat}
theorem VPartsPost.of {w' : World} {k : Int} {A : Option Addr} {n c : Nat} {l : List VPart} {b : Bool} (hl : vParts k = l) (hn : n = l.length) (hb : decide (0 ≤ k ∧ k < 15) = b) (hr : Row (NewIn w w') w' (.slice A n c) n 1 (l.map (vpartV gx))) (hk : Keep (fun _ => False) w w') :
    VPartsPost w gx k (.returned (.tuple #[.slice A n c, .bool b])) w' := ⟨A, c, n, by rw [hl]; exact hn, by rw [hb], by rw [hl]; exact hr, hk⟩
set_option maxRecDepth 20000 in
set_option maxHeartbeats 2000000 in
theorem vparts_0 : Calls Try.prog 91 #[.pointer (some ⟨gx, 0, none⟩), .int .i64 0] w (VPartsPost w gx 0) := by
  go_enter Try.func91, Try.ntmps91
  go_wp2_with fail
  go_ret2
  exact VPartsPost.of (l := []) rfl rfl rfl ⟨none, 0, rfl, by simp, Nat.le_refl _, Nat.zero_le _, .inl rfl⟩ (Keep.refl _ w)
set_option maxRecDepth 20000 in
set_option maxHeartbeats 2000000 in
theorem vparts_1 : Calls Try.prog 91 #[.pointer (some ⟨gx, 0, none⟩), .int .i64 1] w (VPartsPost w gx 1) := by
  go_enter Try.func91, Try.ntmps91
  go_wp2_with fail
  go_ret2
  refine VPartsPost.of (l := [.opened]) rfl rfl rfl ((row_lit (n := 1) w [vpartV gx .opened] _ rfl (by decide)).mono (fun b hb => ?_)) ((Keep.refl _ w).alloc _)
  exact ⟨by omega, by simp; omega⟩
set_option maxRecDepth 20000 in
set_option maxHeartbeats 2000000 in
theorem vparts_2 : Calls Try.prog 91 #[.pointer (some ⟨gx, 0, none⟩), .int .i64 2] w (VPartsPost w gx 2) := by
  go_enter Try.func91, Try.ntmps91
  go_wp2_with fail
  go_ret2
  refine VPartsPost.of (l := [.rev]) rfl rfl rfl ((row_lit (n := 1) w [vpartV gx .rev] _ rfl (by decide)).mono (fun b hb => ?_)) ((Keep.refl _ w).alloc _)
  exact ⟨by omega, by simp; omega⟩
set_option maxRecDepth 20000 in
set_option maxHeartbeats 2000000 in
theorem vparts_3 : Calls Try.prog 91 #[.pointer (some ⟨gx, 0, none⟩), .int .i64 3] w (VPartsPost w gx 3) := by
  go_enter Try.func91, Try.ntmps91
  go_wp2_with fail
  go_ret2
  refine VPartsPost.of (l := [.of, .rev]) rfl rfl rfl ((row_lit (n := 2) w [vpartV gx .of, vpartV gx .rev] _ rfl (by decide)).mono (fun b hb => ?_)) ((Keep.refl _ w).alloc _)
  exact ⟨by omega, by simp; omega⟩
set_option maxRecDepth 20000 in
set_option maxHeartbeats 2000000 in
theorem vparts_4 : Calls Try.prog 91 #[.pointer (some ⟨gx, 0, none⟩), .int .i64 4] w (VPartsPost w gx 4) := by
  go_enter Try.func91, Try.ntmps91
  go_wp2_with fail
  go_ret2
  refine VPartsPost.of (l := [.rev]) rfl rfl rfl ((row_lit (n := 1) w [vpartV gx .rev] _ rfl (by decide)).mono (fun b hb => ?_)) ((Keep.refl _ w).alloc _)
  exact ⟨by omega, by simp; omega⟩
set_option maxRecDepth 20000 in
set_option maxHeartbeats 2000000 in
theorem vparts_5 : Calls Try.prog 91 #[.pointer (some ⟨gx, 0, none⟩), .int .i64 5] w (VPartsPost w gx 5) := by
  go_enter Try.func91, Try.ntmps91
  go_wp2_with fail
  go_ret2
  exact VPartsPost.of (l := []) rfl rfl rfl ⟨none, 0, rfl, by simp, Nat.le_refl _, Nat.zero_le _, .inl rfl⟩ (Keep.refl _ w)
set_option maxRecDepth 20000 in
set_option maxHeartbeats 2000000 in
theorem vparts_6 : Calls Try.prog 91 #[.pointer (some ⟨gx, 0, none⟩), .int .i64 6] w (VPartsPost w gx 6) := by
  go_enter Try.func91, Try.ntmps91
  go_wp2_with fail
  go_ret2
  exact VPartsPost.of (l := []) rfl rfl rfl ⟨none, 0, rfl, by simp, Nat.le_refl _, Nat.zero_le _, .inl rfl⟩ (Keep.refl _ w)
set_option maxRecDepth 20000 in
set_option maxHeartbeats 2000000 in
theorem vparts_7 : Calls Try.prog 91 #[.pointer (some ⟨gx, 0, none⟩), .int .i64 7] w (VPartsPost w gx 7) := by
  go_enter Try.func91, Try.ntmps91
  go_wp2_with fail
  go_ret2
  exact VPartsPost.of (l := []) rfl rfl rfl ⟨none, 0, rfl, by simp, Nat.le_refl _, Nat.zero_le _, .inl rfl⟩ (Keep.refl _ w)
set_option maxRecDepth 20000 in
set_option maxHeartbeats 2000000 in
theorem vparts_8 : Calls Try.prog 91 #[.pointer (some ⟨gx, 0, none⟩), .int .i64 8] w (VPartsPost w gx 8) := by
  go_enter Try.func91, Try.ntmps91
  go_wp2_with fail
  go_ret2
  refine VPartsPost.of (l := [.rev]) rfl rfl rfl ((row_lit (n := 1) w [vpartV gx .rev] _ rfl (by decide)).mono (fun b hb => ?_)) ((Keep.refl _ w).alloc _)
  exact ⟨by omega, by simp; omega⟩
set_option maxRecDepth 20000 in
set_option maxHeartbeats 2000000 in
theorem vparts_9 : Calls Try.prog 91 #[.pointer (some ⟨gx, 0, none⟩), .int .i64 9] w (VPartsPost w gx 9) := by
  go_enter Try.func91, Try.ntmps91
  go_wp2_with fail
  go_ret2
  refine VPartsPost.of (l := [.of, .digest, .rev]) rfl rfl rfl ((row_lit (n := 3) w [vpartV gx .of, vpartV gx .digest, vpartV gx .rev] _ rfl (by decide)).mono (fun b hb => ?_)) ((Keep.refl _ w).alloc _)
  exact ⟨by omega, by simp; omega⟩
set_option maxRecDepth 20000 in
set_option maxHeartbeats 2000000 in
theorem vparts_10 : Calls Try.prog 91 #[.pointer (some ⟨gx, 0, none⟩), .int .i64 10] w (VPartsPost w gx 10) := by
  go_enter Try.func91, Try.ntmps91
  go_wp2_with fail
  go_ret2
  refine VPartsPost.of (l := [.of]) rfl rfl rfl ((row_lit (n := 1) w [vpartV gx .of] _ rfl (by decide)).mono (fun b hb => ?_)) ((Keep.refl _ w).alloc _)
  exact ⟨by omega, by simp; omega⟩
set_option maxRecDepth 20000 in
set_option maxHeartbeats 2000000 in
theorem vparts_11 : Calls Try.prog 91 #[.pointer (some ⟨gx, 0, none⟩), .int .i64 11] w (VPartsPost w gx 11) := by
  go_enter Try.func91, Try.ntmps91
  go_wp2_with fail
  go_ret2
  refine VPartsPost.of (l := [.commits]) rfl rfl rfl ((row_lit (n := 1) w [vpartV gx .commits] _ rfl (by decide)).mono (fun b hb => ?_)) ((Keep.refl _ w).alloc _)
  exact ⟨by omega, by simp; omega⟩
set_option maxRecDepth 20000 in
set_option maxHeartbeats 2000000 in
theorem vparts_12 : Calls Try.prog 91 #[.pointer (some ⟨gx, 0, none⟩), .int .i64 12] w (VPartsPost w gx 12) := by
  go_enter Try.func91, Try.ntmps91
  go_wp2_with fail
  go_ret2
  refine VPartsPost.of (l := [.who]) rfl rfl rfl ((row_lit (n := 1) w [vpartV gx .who] _ rfl (by decide)).mono (fun b hb => ?_)) ((Keep.refl _ w).alloc _)
  exact ⟨by omega, by simp; omega⟩
set_option maxRecDepth 20000 in
set_option maxHeartbeats 2000000 in
theorem vparts_13 : Calls Try.prog 91 #[.pointer (some ⟨gx, 0, none⟩), .int .i64 13] w (VPartsPost w gx 13) := by
  go_enter Try.func91, Try.ntmps91
  go_wp2_with fail
  go_ret2
  refine VPartsPost.of (l := [.who]) rfl rfl rfl ((row_lit (n := 1) w [vpartV gx .who] _ rfl (by decide)).mono (fun b hb => ?_)) ((Keep.refl _ w).alloc _)
  exact ⟨by omega, by simp; omega⟩
set_option maxRecDepth 20000 in
set_option maxHeartbeats 2000000 in
theorem vparts_14 : Calls Try.prog 91 #[.pointer (some ⟨gx, 0, none⟩), .int .i64 14] w (VPartsPost w gx 14) := by
  go_enter Try.func91, Try.ntmps91
  go_wp2_with fail
  go_ret2
  refine VPartsPost.of (l := [.who]) rfl rfl rfl ((row_lit (n := 1) w [vpartV gx .who] _ rfl (by decide)).mono (fun b hb => ?_)) ((Keep.refl _ w).alloc _)
  exact ⟨by omega, by simp; omega⟩
set_option maxRecDepth 20000 in
set_option maxHeartbeats 2000000 in
theorem vparts_none {k : Int} (hk : ¬ (0 ≤ k ∧ k < 15)) : Calls Try.prog 91 #[.pointer (some ⟨gx, 0, none⟩), .int .i64 k] w (VPartsPost w gx k) := by
  have hp : vParts k = [] := by
    unfold vParts
    iterate 7 rw [if_neg (by omega)]
  have HP := hid hp; have HK := hid (decide_eq_false hk)
  have h0 : (k == 0) = false := by simp; omega
  have h1 : (k == 1) = false := by simp; omega
  have h2 : (k == 2) = false := by simp; omega
  have h3 : (k == 3) = false := by simp; omega
  have h4 : (k == 4) = false := by simp; omega
  have h5 : (k == 5) = false := by simp; omega
  have h6 : (k == 6) = false := by simp; omega
  have h7 : (k == 7) = false := by simp; omega
  have h8 : (k == 8) = false := by simp; omega
  have h9 : (k == 9) = false := by simp; omega
  have h10 : (k == 10) = false := by simp; omega
  have h11 : (k == 11) = false := by simp; omega
  have h12 : (k == 12) = false := by simp; omega
  have h13 : (k == 13) = false := by simp; omega
  have h14 : (k == 14) = false := by simp; omega
  clear hp hk
  go_enter Try.func91, Try.ntmps91
  go_wp2_with fail
  go_ret2
  exact VPartsPost.of HP.out rfl HK.out ⟨none, 0, rfl, by simp, Nat.le_refl _, Nat.zero_le _, .inl rfl⟩ (Keep.refl _ w)
theorem vparts_calls (k : Int) : Calls Try.prog 91 #[.pointer (some ⟨gx, 0, none⟩), .int .i64 k] w (VPartsPost w gx k) := by
  by_cases hk : 0 ≤ k ∧ k < 15
  · have : k = 0 ∨ k = 1 ∨ k = 2 ∨ k = 3 ∨ k = 4 ∨ k = 5 ∨ k = 6 ∨ k = 7 ∨ k = 8 ∨ k = 9 ∨ k = 10 ∨ k = 11 ∨ k = 12 ∨ k = 13 ∨ k = 14 := by omega
    rcases this with rfl | rfl | rfl | rfl | rfl | rfl | rfl | rfl | rfl | rfl | rfl | rfl | rfl | rfl | rfl
    · exact vparts_0
    · exact vparts_1
    · exact vparts_2
    · exact vparts_3
    · exact vparts_4
    · exact vparts_5
    · exact vparts_6
    · exact vparts_7
    · exact vparts_8
    · exact vparts_9
    · exact vparts_10
    · exact vparts_11
    · exact vparts_12
    · exact vparts_13
    · exact vparts_14
  · exact vparts_none hk
end
end Go.Proofs.Ytnekfonnceknoaa

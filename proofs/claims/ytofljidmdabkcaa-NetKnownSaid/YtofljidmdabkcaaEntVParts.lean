/- entry's writer of verdicts: the parts, each a method (all but the commits). -/
import Derived.Test.YtofljidmdabkcaaEntParts
namespace Go.Proofs.Ytofljidmdabkcaa
open Go.RowKit
def eCommit (s : WS) (c : Commit) : WS := eList (eWord (wNum (wNum s c.rev) c.base) c.ref) c.changes
def eComs (s : WS) (l : List Commit) : WS := if 32 < l.length then wRefuse s else l.foldl eCommit (wNum s l.length)
/-- A part of a verdict. -/
inductive VPart
  | opened | rev | of | digest | commits | who
deriving DecidableEq
def vPart (x : Verdict) : VPart → WS → WS
  | .opened, s => wNum s x.session
  | .rev, s => wNum s x.rev
  | .of, s => eWord s x.path
  | .digest, s => wWord s x.digest
  | .commits, s => eComs s x.commits
  | .who, s => wNum s x.member
def vParts (k : Int) : List VPart :=
  if k = 1 then [.opened] else if k = 2 ∨ k = 4 ∨ k = 8 then [.rev] else if k = 3 then [.of, .rev] else if k = 9 then [.of, .digest, .rev] else if k = 10 then [.of]
  else if k = 11 then [.commits] else if k = 12 ∨ k = 13 ∨ k = 14 then [.who] else []
/-- A verdict with the fields alone that its code names. -/
def onlyV (x : Verdict) : Verdict :=
  ⟨x.code, if x.code = 1 then x.session else 0, if x.code = 2 ∨ x.code = 4 ∨ x.code = 8 ∨ x.code = 3 ∨ x.code = 9 then x.rev else 0, if x.code = 3 ∨ x.code = 9 ∨ x.code = 10 then x.path else ByteArray.empty,
    if x.code = 9 then x.digest else 0, if x.code = 11 then x.commits else [], if x.code = 12 ∨ x.code = 13 ∨ x.code = 14 then x.member else 0⟩
def eTold (s : WS) (x : Verdict) : WS :=
  if (0 ≤ x.code ∧ x.code < 15) ∧ x = onlyV x then (vParts x.code).foldl (fun s p => vPart x p s) (wNum s x.code) else wRefuse s
section
variable {F : Nat → Prop} {w : World} {gw gx : Nat} {s : WS} {r : Req} {v u : Value} {x : Verdict}
set_option maxRecDepth 20000 in
set_option maxHeartbeats 2000000 in
theorem vpart_opened (hx : w.heap[gx]? = some (XObj gw r v x u)) (h : WrAt F w gw s) (hgx : ¬ F gx) (hl : s.b.length ≤ 30000000000000) :
    Calls Try.prog 89 #[.pointer (some ⟨gx, 0, none⟩)] w (WrPost F w gw (vPart x .opened s)) := by
  have c0 := cell_at hx 0 (.pointer (some ⟨gw, 0, none⟩)) rfl
  have c1 := cell_at hx 13 (.int .i64 x.session) rfl
  have HC := hid (fun (y : World) (hk : Keep F w y) => (⟨hk.cell c0 hgx, hk.cell c1 hgx⟩ : y.cell? ⟨gx, 0, none⟩ = some (.pointer (some ⟨gw, 0, none⟩)) ∧ y.cell? ⟨gx, 13, none⟩ = some (.int .i64 x.session)))
  have NC : ∀ y, Keep (fun _ => False) w y → Calls Try.prog 73 #[.pointer (some ⟨gw, 0, none⟩), .int .i64 x.session] y fun e w' => e = .returned (.tuple #[]) ∧ WrAt (Grow F w w') w' gw (vPart x .opened s) ∧ Keep F w w' := fun y hk => by
    refine (num_calls (h.keep hk (fun _ _ => id)) x.session (by omega)).mono ?_
    rintro e w' ⟨he, h1, h2⟩
    have hz := hk.size
    exact ⟨he, h1.mono (fun q hq => hq.imp id (fun ⟨a, b⟩ => ⟨by omega, b⟩)), (hk.mono (fun _ _ f => f.elim)).trans h2 (fun _ _ q => q)⟩
  have kd : Keep (fun _ => False) w w.drew := (Keep.refl _ w).drew
  have kdF : Keep F w w.drew := (Keep.refl _ w).drew
  clear h hx
  go_enter Try.func89, Try.ntmps89
  go_wp2_with fail
  go_region_held3 (fun y => y.cell? ⟨gx, 0, none⟩ = some (.pointer (some ⟨gw, 0, none⟩)) ∧ y.cell? ⟨gx, 13, none⟩ = some (.int .i64 x.session)) (exact HC.out _ (by assumption)) (first
    | (go_at_call 73; with_reducible refine (NC _ (by assumption)).mono ?_; rintro e w2 ⟨rfl, h2, k2⟩))
  all_goals (
    go_wp2_with fail
    go_end0
    exact ⟨rfl, h2, k2⟩)
set_option maxRecDepth 20000 in
set_option maxHeartbeats 2000000 in
theorem vpart_rev (hx : w.heap[gx]? = some (XObj gw r v x u)) (h : WrAt F w gw s) (hgx : ¬ F gx) (hl : s.b.length ≤ 30000000000000) :
    Calls Try.prog 90 #[.pointer (some ⟨gx, 0, none⟩)] w (WrPost F w gw (vPart x .rev s)) := by
  have c0 := cell_at hx 0 (.pointer (some ⟨gw, 0, none⟩)) rfl
  have c1 := cell_at hx 14 (.int .i64 x.rev) rfl
  have HC := hid (fun (y : World) (hk : Keep F w y) => (⟨hk.cell c0 hgx, hk.cell c1 hgx⟩ : y.cell? ⟨gx, 0, none⟩ = some (.pointer (some ⟨gw, 0, none⟩)) ∧ y.cell? ⟨gx, 14, none⟩ = some (.int .i64 x.rev)))
  have NC : ∀ y, Keep (fun _ => False) w y → Calls Try.prog 73 #[.pointer (some ⟨gw, 0, none⟩), .int .i64 x.rev] y fun e w' => e = .returned (.tuple #[]) ∧ WrAt (Grow F w w') w' gw (vPart x .rev s) ∧ Keep F w w' := fun y hk => by
    refine (num_calls (h.keep hk (fun _ _ => id)) x.rev (by omega)).mono ?_
    rintro e w' ⟨he, h1, h2⟩
    have hz := hk.size
    exact ⟨he, h1.mono (fun q hq => hq.imp id (fun ⟨a, b⟩ => ⟨by omega, b⟩)), (hk.mono (fun _ _ f => f.elim)).trans h2 (fun _ _ q => q)⟩
  have kd : Keep (fun _ => False) w w.drew := (Keep.refl _ w).drew
  have kdF : Keep F w w.drew := (Keep.refl _ w).drew
  clear h hx
  go_enter Try.func90, Try.ntmps90
  go_wp2_with fail
  go_region_held3 (fun y => y.cell? ⟨gx, 0, none⟩ = some (.pointer (some ⟨gw, 0, none⟩)) ∧ y.cell? ⟨gx, 14, none⟩ = some (.int .i64 x.rev)) (exact HC.out _ (by assumption)) (first
    | (go_at_call 73; with_reducible refine (NC _ (by assumption)).mono ?_; rintro e w2 ⟨rfl, h2, k2⟩))
  all_goals (
    go_wp2_with fail
    go_end0
    exact ⟨rfl, h2, k2⟩)
set_option maxRecDepth 20000 in
set_option maxHeartbeats 2000000 in
theorem vpart_of (hx : w.heap[gx]? = some (XObj gw r v x u)) (h : WrAt F w gw s) (hgx : ¬ F gx) (hl : s.b.length ≤ 30000000000000) :
    Calls Try.prog 91 #[.pointer (some ⟨gx, 0, none⟩)] w (WrPost F w gw (vPart x .of s)) := by
  have c0 := cell_at hx 0 (.pointer (some ⟨gw, 0, none⟩)) rfl
  have c1 := cell_at hx 15 (.string x.path) rfl
  have HC := hid (fun (y : World) (hk : Keep F w y) => (⟨hk.cell c0 hgx, hk.cell c1 hgx⟩ : y.cell? ⟨gx, 0, none⟩ = some (.pointer (some ⟨gw, 0, none⟩)) ∧ y.cell? ⟨gx, 15, none⟩ = some (.string x.path)))
  have NC : ∀ y, Keep (fun _ => False) w y → Calls Try.prog 95 #[.pointer (some ⟨gw, 0, none⟩), .string x.path] y fun e w' => e = .returned (.tuple #[]) ∧ WrAt (Grow F w w') w' gw (vPart x .of s) ∧ Keep F w w' := fun y hk => by
    refine (word'_calls (h.keep hk (fun _ _ => id)) x.path (by omega)).mono ?_
    rintro e w' ⟨he, h1, h2⟩
    have hz := hk.size
    exact ⟨he, h1.mono (fun q hq => hq.imp id (fun ⟨a, b⟩ => ⟨by omega, b⟩)), (hk.mono (fun _ _ f => f.elim)).trans h2 (fun _ _ q => q)⟩
  have kd : Keep (fun _ => False) w w.drew := (Keep.refl _ w).drew
  have kdF : Keep F w w.drew := (Keep.refl _ w).drew
  clear h hx
  go_enter Try.func91, Try.ntmps91
  go_wp2_with fail
  go_region_held3 (fun y => y.cell? ⟨gx, 0, none⟩ = some (.pointer (some ⟨gw, 0, none⟩)) ∧ y.cell? ⟨gx, 15, none⟩ = some (.string x.path)) (exact HC.out _ (by assumption)) (first
    | (go_at_call 95; with_reducible refine (NC _ (by assumption)).mono ?_; rintro e w2 ⟨rfl, h2, k2⟩))
  all_goals (
    go_wp2_with fail
    go_end0
    exact ⟨rfl, h2, k2⟩)
set_option maxRecDepth 20000 in
set_option maxHeartbeats 2000000 in
theorem vpart_digest (hx : w.heap[gx]? = some (XObj gw r v x u)) (h : WrAt F w gw s) (hgx : ¬ F gx) (hl : s.b.length ≤ 30000000000000) :
    Calls Try.prog 92 #[.pointer (some ⟨gx, 0, none⟩)] w (WrPost F w gw (vPart x .digest s)) := by
  have c0 := cell_at hx 0 (.pointer (some ⟨gw, 0, none⟩)) rfl
  have c1 := cell_at hx 16 (.int .u64 x.digest) rfl
  have HC := hid (fun (y : World) (hk : Keep F w y) => (⟨hk.cell c0 hgx, hk.cell c1 hgx⟩ : y.cell? ⟨gx, 0, none⟩ = some (.pointer (some ⟨gw, 0, none⟩)) ∧ y.cell? ⟨gx, 16, none⟩ = some (.int .u64 x.digest)))
  have NC : ∀ y, Keep (fun _ => False) w y → Calls Try.prog 97 #[.pointer (some ⟨gw, 0, none⟩), .int .u64 x.digest] y fun e w' => e = .returned (.tuple #[]) ∧ WrAt (Grow F w w') w' gw (vPart x .digest s) ∧ Keep F w w' := fun y hk => by
    refine (word_calls (h.keep hk (fun _ _ => id)) x.digest (by omega)).mono ?_
    rintro e w' ⟨he, h1, h2⟩
    have hz := hk.size
    exact ⟨he, h1.mono (fun q hq => hq.imp id (fun ⟨a, b⟩ => ⟨by omega, b⟩)), (hk.mono (fun _ _ f => f.elim)).trans h2 (fun _ _ q => q)⟩
  have kd : Keep (fun _ => False) w w.drew := (Keep.refl _ w).drew
  have kdF : Keep F w w.drew := (Keep.refl _ w).drew
  clear h hx
  go_enter Try.func92, Try.ntmps92
  go_wp2_with fail
  go_region_held3 (fun y => y.cell? ⟨gx, 0, none⟩ = some (.pointer (some ⟨gw, 0, none⟩)) ∧ y.cell? ⟨gx, 16, none⟩ = some (.int .u64 x.digest)) (exact HC.out _ (by assumption)) (first
    | (go_at_call 97; with_reducible refine (NC _ (by assumption)).mono ?_; rintro e w2 ⟨rfl, h2, k2⟩))
  all_goals (
    go_wp2_with fail
    go_end0
    exact ⟨rfl, h2, k2⟩)
set_option maxRecDepth 20000 in
set_option maxHeartbeats 2000000 in
theorem vpart_who (hx : w.heap[gx]? = some (XObj gw r v x u)) (h : WrAt F w gw s) (hgx : ¬ F gx) (hl : s.b.length ≤ 30000000000000) :
    Calls Try.prog 94 #[.pointer (some ⟨gx, 0, none⟩)] w (WrPost F w gw (vPart x .who s)) := by
  have c0 := cell_at hx 0 (.pointer (some ⟨gw, 0, none⟩)) rfl
  have c1 := cell_at hx 18 (.int .i64 x.member) rfl
  have HC := hid (fun (y : World) (hk : Keep F w y) => (⟨hk.cell c0 hgx, hk.cell c1 hgx⟩ : y.cell? ⟨gx, 0, none⟩ = some (.pointer (some ⟨gw, 0, none⟩)) ∧ y.cell? ⟨gx, 18, none⟩ = some (.int .i64 x.member)))
  have NC : ∀ y, Keep (fun _ => False) w y → Calls Try.prog 73 #[.pointer (some ⟨gw, 0, none⟩), .int .i64 x.member] y fun e w' => e = .returned (.tuple #[]) ∧ WrAt (Grow F w w') w' gw (vPart x .who s) ∧ Keep F w w' := fun y hk => by
    refine (num_calls (h.keep hk (fun _ _ => id)) x.member (by omega)).mono ?_
    rintro e w' ⟨he, h1, h2⟩
    have hz := hk.size
    exact ⟨he, h1.mono (fun q hq => hq.imp id (fun ⟨a, b⟩ => ⟨by omega, b⟩)), (hk.mono (fun _ _ f => f.elim)).trans h2 (fun _ _ q => q)⟩
  have kd : Keep (fun _ => False) w w.drew := (Keep.refl _ w).drew
  have kdF : Keep F w w.drew := (Keep.refl _ w).drew
  clear h hx
  go_enter Try.func94, Try.ntmps94
  go_wp2_with fail
  go_region_held3 (fun y => y.cell? ⟨gx, 0, none⟩ = some (.pointer (some ⟨gw, 0, none⟩)) ∧ y.cell? ⟨gx, 18, none⟩ = some (.int .i64 x.member)) (exact HC.out _ (by assumption)) (first
    | (go_at_call 73; with_reducible refine (NC _ (by assumption)).mono ?_; rintro e w2 ⟨rfl, h2, k2⟩))
  all_goals (
    go_wp2_with fail
    go_end0
    exact ⟨rfl, h2, k2⟩)
end
end Go.Proofs.Ytofljidmdabkcaa

/- entry's writer of requests: the parts, each a method. -/
import Derived.Test.YtofljidmdabkcaaEntW
namespace Go.Proofs.Ytofljidmdabkcaa
open Go.RowKit
abbrev XObj (gw : Nat) (r : Req) (v : Value) (x : Verdict) (u : Value) : Obj := .cells (.pointer (some ⟨gw, 0, none⟩) :: (reqCs r v ++ verdictCs x u)).toArray 99
section
variable {F : Nat → Prop} {w : World} {gw gx : Nat} {s : WS} {r : Req} {v u : Value} {x : Verdict}
set_option maxRecDepth 20000 in
set_option maxHeartbeats 2000000 in
theorem part_session (hx : w.heap[gx]? = some (XObj gw r v x u)) (h : WrAt F w gw s) (hgx : ¬ F gx) (hl : s.b.length ≤ 30000000000000) :
    Calls Try.prog 77 #[.pointer (some ⟨gx, 0, none⟩)] w (WrPost F w gw (ePart r .session s)) := by
  have c0 := cell_at hx 0 (.pointer (some ⟨gw, 0, none⟩)) rfl
  have c1 := cell_at hx 3 (.int .i64 r.session) rfl
  have HC := hid (fun (y : World) (hk : Keep F w y) => (⟨hk.cell c0 hgx, hk.cell c1 hgx⟩ : y.cell? ⟨gx, 0, none⟩ = some (.pointer (some ⟨gw, 0, none⟩)) ∧ y.cell? ⟨gx, 3, none⟩ = some (.int .i64 r.session)))
  have NC : ∀ y, Keep (fun _ => False) w y → Calls Try.prog 73 #[.pointer (some ⟨gw, 0, none⟩), .int .i64 r.session] y fun e w' => e = .returned (.tuple #[]) ∧ WrAt (Grow F w w') w' gw (ePart r .session s) ∧ Keep F w w' := fun y hk => by
    refine (num_calls (h.keep hk (fun _ _ => id)) r.session (by omega)).mono ?_
    rintro e w' ⟨he, h1, h2⟩
    have hz := hk.size
    exact ⟨he, h1.mono (fun q hq => hq.imp id (fun ⟨a, b⟩ => ⟨by omega, b⟩)), (hk.mono (fun _ _ f => f.elim)).trans h2 (fun _ _ q => q)⟩
  have kd : Keep (fun _ => False) w w.drew := (Keep.refl _ w).drew
  have kdF : Keep F w w.drew := (Keep.refl _ w).drew
  clear h hx
  go_enter Try.func77, Try.ntmps77
  go_wp2_with fail
  go_region_held3 (fun y => y.cell? ⟨gx, 0, none⟩ = some (.pointer (some ⟨gw, 0, none⟩)) ∧ y.cell? ⟨gx, 3, none⟩ = some (.int .i64 r.session)) (exact HC.out _ (by assumption)) (first
    | (go_at_call 73; with_reducible refine (NC _ (by assumption)).mono ?_; rintro e w2 ⟨rfl, h2, k2⟩))
  all_goals (
    go_wp2_with fail
    go_end0
    exact ⟨rfl, h2, k2⟩)
set_option maxRecDepth 20000 in
set_option maxHeartbeats 2000000 in
theorem part_seq (hx : w.heap[gx]? = some (XObj gw r v x u)) (h : WrAt F w gw s) (hgx : ¬ F gx) (hl : s.b.length ≤ 30000000000000) :
    Calls Try.prog 78 #[.pointer (some ⟨gx, 0, none⟩)] w (WrPost F w gw (ePart r .seq s)) := by
  have c0 := cell_at hx 0 (.pointer (some ⟨gw, 0, none⟩)) rfl
  have c1 := cell_at hx 4 (.int .i64 r.seq) rfl
  have HC := hid (fun (y : World) (hk : Keep F w y) => (⟨hk.cell c0 hgx, hk.cell c1 hgx⟩ : y.cell? ⟨gx, 0, none⟩ = some (.pointer (some ⟨gw, 0, none⟩)) ∧ y.cell? ⟨gx, 4, none⟩ = some (.int .i64 r.seq)))
  have NC : ∀ y, Keep (fun _ => False) w y → Calls Try.prog 73 #[.pointer (some ⟨gw, 0, none⟩), .int .i64 r.seq] y fun e w' => e = .returned (.tuple #[]) ∧ WrAt (Grow F w w') w' gw (ePart r .seq s) ∧ Keep F w w' := fun y hk => by
    refine (num_calls (h.keep hk (fun _ _ => id)) r.seq (by omega)).mono ?_
    rintro e w' ⟨he, h1, h2⟩
    have hz := hk.size
    exact ⟨he, h1.mono (fun q hq => hq.imp id (fun ⟨a, b⟩ => ⟨by omega, b⟩)), (hk.mono (fun _ _ f => f.elim)).trans h2 (fun _ _ q => q)⟩
  have kd : Keep (fun _ => False) w w.drew := (Keep.refl _ w).drew
  have kdF : Keep F w w.drew := (Keep.refl _ w).drew
  clear h hx
  go_enter Try.func78, Try.ntmps78
  go_wp2_with fail
  go_region_held3 (fun y => y.cell? ⟨gx, 0, none⟩ = some (.pointer (some ⟨gw, 0, none⟩)) ∧ y.cell? ⟨gx, 4, none⟩ = some (.int .i64 r.seq)) (exact HC.out _ (by assumption)) (first
    | (go_at_call 73; with_reducible refine (NC _ (by assumption)).mono ?_; rintro e w2 ⟨rfl, h2, k2⟩))
  all_goals (
    go_wp2_with fail
    go_end0
    exact ⟨rfl, h2, k2⟩)
set_option maxRecDepth 20000 in
set_option maxHeartbeats 2000000 in
theorem part_base (hx : w.heap[gx]? = some (XObj gw r v x u)) (h : WrAt F w gw s) (hgx : ¬ F gx) (hl : s.b.length ≤ 30000000000000) :
    Calls Try.prog 80 #[.pointer (some ⟨gx, 0, none⟩)] w (WrPost F w gw (ePart r .base s)) := by
  have c0 := cell_at hx 0 (.pointer (some ⟨gw, 0, none⟩)) rfl
  have c1 := cell_at hx 5 (.int .i64 r.base) rfl
  have HC := hid (fun (y : World) (hk : Keep F w y) => (⟨hk.cell c0 hgx, hk.cell c1 hgx⟩ : y.cell? ⟨gx, 0, none⟩ = some (.pointer (some ⟨gw, 0, none⟩)) ∧ y.cell? ⟨gx, 5, none⟩ = some (.int .i64 r.base)))
  have NC : ∀ y, Keep (fun _ => False) w y → Calls Try.prog 73 #[.pointer (some ⟨gw, 0, none⟩), .int .i64 r.base] y fun e w' => e = .returned (.tuple #[]) ∧ WrAt (Grow F w w') w' gw (ePart r .base s) ∧ Keep F w w' := fun y hk => by
    refine (num_calls (h.keep hk (fun _ _ => id)) r.base (by omega)).mono ?_
    rintro e w' ⟨he, h1, h2⟩
    have hz := hk.size
    exact ⟨he, h1.mono (fun q hq => hq.imp id (fun ⟨a, b⟩ => ⟨by omega, b⟩)), (hk.mono (fun _ _ f => f.elim)).trans h2 (fun _ _ q => q)⟩
  have kd : Keep (fun _ => False) w w.drew := (Keep.refl _ w).drew
  have kdF : Keep F w w.drew := (Keep.refl _ w).drew
  clear h hx
  go_enter Try.func80, Try.ntmps80
  go_wp2_with fail
  go_region_held3 (fun y => y.cell? ⟨gx, 0, none⟩ = some (.pointer (some ⟨gw, 0, none⟩)) ∧ y.cell? ⟨gx, 5, none⟩ = some (.int .i64 r.base)) (exact HC.out _ (by assumption)) (first
    | (go_at_call 73; with_reducible refine (NC _ (by assumption)).mono ?_; rintro e w2 ⟨rfl, h2, k2⟩))
  all_goals (
    go_wp2_with fail
    go_end0
    exact ⟨rfl, h2, k2⟩)
set_option maxRecDepth 20000 in
set_option maxHeartbeats 2000000 in
theorem part_from (hx : w.heap[gx]? = some (XObj gw r v x u)) (h : WrAt F w gw s) (hgx : ¬ F gx) (hl : s.b.length ≤ 30000000000000) :
    Calls Try.prog 84 #[.pointer (some ⟨gx, 0, none⟩)] w (WrPost F w gw (ePart r .from' s)) := by
  have c0 := cell_at hx 0 (.pointer (some ⟨gw, 0, none⟩)) rfl
  have c1 := cell_at hx 9 (.int .i64 r.from') rfl
  have HC := hid (fun (y : World) (hk : Keep F w y) => (⟨hk.cell c0 hgx, hk.cell c1 hgx⟩ : y.cell? ⟨gx, 0, none⟩ = some (.pointer (some ⟨gw, 0, none⟩)) ∧ y.cell? ⟨gx, 9, none⟩ = some (.int .i64 r.from')))
  have NC : ∀ y, Keep (fun _ => False) w y → Calls Try.prog 73 #[.pointer (some ⟨gw, 0, none⟩), .int .i64 r.from'] y fun e w' => e = .returned (.tuple #[]) ∧ WrAt (Grow F w w') w' gw (ePart r .from' s) ∧ Keep F w w' := fun y hk => by
    refine (num_calls (h.keep hk (fun _ _ => id)) r.from' (by omega)).mono ?_
    rintro e w' ⟨he, h1, h2⟩
    have hz := hk.size
    exact ⟨he, h1.mono (fun q hq => hq.imp id (fun ⟨a, b⟩ => ⟨by omega, b⟩)), (hk.mono (fun _ _ f => f.elim)).trans h2 (fun _ _ q => q)⟩
  have kd : Keep (fun _ => False) w w.drew := (Keep.refl _ w).drew
  have kdF : Keep F w w.drew := (Keep.refl _ w).drew
  clear h hx
  go_enter Try.func84, Try.ntmps84
  go_wp2_with fail
  go_region_held3 (fun y => y.cell? ⟨gx, 0, none⟩ = some (.pointer (some ⟨gw, 0, none⟩)) ∧ y.cell? ⟨gx, 9, none⟩ = some (.int .i64 r.from')) (exact HC.out _ (by assumption)) (first
    | (go_at_call 73; with_reducible refine (NC _ (by assumption)).mono ?_; rintro e w2 ⟨rfl, h2, k2⟩))
  all_goals (
    go_wp2_with fail
    go_end0
    exact ⟨rfl, h2, k2⟩)
set_option maxRecDepth 20000 in
set_option maxHeartbeats 2000000 in
theorem part_many (hx : w.heap[gx]? = some (XObj gw r v x u)) (h : WrAt F w gw s) (hgx : ¬ F gx) (hl : s.b.length ≤ 30000000000000) :
    Calls Try.prog 85 #[.pointer (some ⟨gx, 0, none⟩)] w (WrPost F w gw (ePart r .many s)) := by
  have c0 := cell_at hx 0 (.pointer (some ⟨gw, 0, none⟩)) rfl
  have c1 := cell_at hx 10 (.int .i64 r.many) rfl
  have HC := hid (fun (y : World) (hk : Keep F w y) => (⟨hk.cell c0 hgx, hk.cell c1 hgx⟩ : y.cell? ⟨gx, 0, none⟩ = some (.pointer (some ⟨gw, 0, none⟩)) ∧ y.cell? ⟨gx, 10, none⟩ = some (.int .i64 r.many)))
  have NC : ∀ y, Keep (fun _ => False) w y → Calls Try.prog 73 #[.pointer (some ⟨gw, 0, none⟩), .int .i64 r.many] y fun e w' => e = .returned (.tuple #[]) ∧ WrAt (Grow F w w') w' gw (ePart r .many s) ∧ Keep F w w' := fun y hk => by
    refine (num_calls (h.keep hk (fun _ _ => id)) r.many (by omega)).mono ?_
    rintro e w' ⟨he, h1, h2⟩
    have hz := hk.size
    exact ⟨he, h1.mono (fun q hq => hq.imp id (fun ⟨a, b⟩ => ⟨by omega, b⟩)), (hk.mono (fun _ _ f => f.elim)).trans h2 (fun _ _ q => q)⟩
  have kd : Keep (fun _ => False) w w.drew := (Keep.refl _ w).drew
  have kdF : Keep F w w.drew := (Keep.refl _ w).drew
  clear h hx
  go_enter Try.func85, Try.ntmps85
  go_wp2_with fail
  go_region_held3 (fun y => y.cell? ⟨gx, 0, none⟩ = some (.pointer (some ⟨gw, 0, none⟩)) ∧ y.cell? ⟨gx, 10, none⟩ = some (.int .i64 r.many)) (exact HC.out _ (by assumption)) (first
    | (go_at_call 73; with_reducible refine (NC _ (by assumption)).mono ?_; rintro e w2 ⟨rfl, h2, k2⟩))
  all_goals (
    go_wp2_with fail
    go_end0
    exact ⟨rfl, h2, k2⟩)
set_option maxRecDepth 20000 in
set_option maxHeartbeats 2000000 in
theorem part_member (hx : w.heap[gx]? = some (XObj gw r v x u)) (h : WrAt F w gw s) (hgx : ¬ F gx) (hl : s.b.length ≤ 30000000000000) :
    Calls Try.prog 86 #[.pointer (some ⟨gx, 0, none⟩)] w (WrPost F w gw (ePart r .member s)) := by
  have c0 := cell_at hx 0 (.pointer (some ⟨gw, 0, none⟩)) rfl
  have c1 := cell_at hx 11 (.int .i64 r.member) rfl
  have HC := hid (fun (y : World) (hk : Keep F w y) => (⟨hk.cell c0 hgx, hk.cell c1 hgx⟩ : y.cell? ⟨gx, 0, none⟩ = some (.pointer (some ⟨gw, 0, none⟩)) ∧ y.cell? ⟨gx, 11, none⟩ = some (.int .i64 r.member)))
  have NC : ∀ y, Keep (fun _ => False) w y → Calls Try.prog 73 #[.pointer (some ⟨gw, 0, none⟩), .int .i64 r.member] y fun e w' => e = .returned (.tuple #[]) ∧ WrAt (Grow F w w') w' gw (ePart r .member s) ∧ Keep F w w' := fun y hk => by
    refine (num_calls (h.keep hk (fun _ _ => id)) r.member (by omega)).mono ?_
    rintro e w' ⟨he, h1, h2⟩
    have hz := hk.size
    exact ⟨he, h1.mono (fun q hq => hq.imp id (fun ⟨a, b⟩ => ⟨by omega, b⟩)), (hk.mono (fun _ _ f => f.elim)).trans h2 (fun _ _ q => q)⟩
  have kd : Keep (fun _ => False) w w.drew := (Keep.refl _ w).drew
  have kdF : Keep F w w.drew := (Keep.refl _ w).drew
  clear h hx
  go_enter Try.func86, Try.ntmps86
  go_wp2_with fail
  go_region_held3 (fun y => y.cell? ⟨gx, 0, none⟩ = some (.pointer (some ⟨gw, 0, none⟩)) ∧ y.cell? ⟨gx, 11, none⟩ = some (.int .i64 r.member)) (exact HC.out _ (by assumption)) (first
    | (go_at_call 73; with_reducible refine (NC _ (by assumption)).mono ?_; rintro e w2 ⟨rfl, h2, k2⟩))
  all_goals (
    go_wp2_with fail
    go_end0
    exact ⟨rfl, h2, k2⟩)
set_option maxRecDepth 20000 in
set_option maxHeartbeats 2000000 in
theorem part_name (hx : w.heap[gx]? = some (XObj gw r v x u)) (h : WrAt F w gw s) (hgx : ¬ F gx) (hl : s.b.length ≤ 30000000000000) :
    Calls Try.prog 79 #[.pointer (some ⟨gx, 0, none⟩)] w (WrPost F w gw (ePart r .name s)) := by
  have c0 := cell_at hx 0 (.pointer (some ⟨gw, 0, none⟩)) rfl
  have c1 := cell_at hx 2 (.string r.name) rfl
  have HC := hid (fun (y : World) (hk : Keep F w y) => (⟨hk.cell c0 hgx, hk.cell c1 hgx⟩ : y.cell? ⟨gx, 0, none⟩ = some (.pointer (some ⟨gw, 0, none⟩)) ∧ y.cell? ⟨gx, 2, none⟩ = some (.string r.name)))
  have NC : ∀ y, Keep (fun _ => False) w y → Calls Try.prog 95 #[.pointer (some ⟨gw, 0, none⟩), .string r.name] y fun e w' => e = .returned (.tuple #[]) ∧ WrAt (Grow F w w') w' gw (ePart r .name s) ∧ Keep F w w' := fun y hk => by
    refine (word'_calls (h.keep hk (fun _ _ => id)) r.name (by omega)).mono ?_
    rintro e w' ⟨he, h1, h2⟩
    have hz := hk.size
    exact ⟨he, h1.mono (fun q hq => hq.imp id (fun ⟨a, b⟩ => ⟨by omega, b⟩)), (hk.mono (fun _ _ f => f.elim)).trans h2 (fun _ _ q => q)⟩
  have kd : Keep (fun _ => False) w w.drew := (Keep.refl _ w).drew
  have kdF : Keep F w w.drew := (Keep.refl _ w).drew
  clear h hx
  go_enter Try.func79, Try.ntmps79
  go_wp2_with fail
  go_region_held3 (fun y => y.cell? ⟨gx, 0, none⟩ = some (.pointer (some ⟨gw, 0, none⟩)) ∧ y.cell? ⟨gx, 2, none⟩ = some (.string r.name)) (exact HC.out _ (by assumption)) (first
    | (go_at_call 95; with_reducible refine (NC _ (by assumption)).mono ?_; rintro e w2 ⟨rfl, h2, k2⟩))
  all_goals (
    go_wp2_with fail
    go_end0
    exact ⟨rfl, h2, k2⟩)
set_option maxRecDepth 20000 in
set_option maxHeartbeats 2000000 in
theorem part_ref (hx : w.heap[gx]? = some (XObj gw r v x u)) (h : WrAt F w gw s) (hgx : ¬ F gx) (hl : s.b.length ≤ 30000000000000) :
    Calls Try.prog 81 #[.pointer (some ⟨gx, 0, none⟩)] w (WrPost F w gw (ePart r .ref s)) := by
  have c0 := cell_at hx 0 (.pointer (some ⟨gw, 0, none⟩)) rfl
  have c1 := cell_at hx 6 (.string r.ref) rfl
  have HC := hid (fun (y : World) (hk : Keep F w y) => (⟨hk.cell c0 hgx, hk.cell c1 hgx⟩ : y.cell? ⟨gx, 0, none⟩ = some (.pointer (some ⟨gw, 0, none⟩)) ∧ y.cell? ⟨gx, 6, none⟩ = some (.string r.ref)))
  have NC : ∀ y, Keep (fun _ => False) w y → Calls Try.prog 95 #[.pointer (some ⟨gw, 0, none⟩), .string r.ref] y fun e w' => e = .returned (.tuple #[]) ∧ WrAt (Grow F w w') w' gw (ePart r .ref s) ∧ Keep F w w' := fun y hk => by
    refine (word'_calls (h.keep hk (fun _ _ => id)) r.ref (by omega)).mono ?_
    rintro e w' ⟨he, h1, h2⟩
    have hz := hk.size
    exact ⟨he, h1.mono (fun q hq => hq.imp id (fun ⟨a, b⟩ => ⟨by omega, b⟩)), (hk.mono (fun _ _ f => f.elim)).trans h2 (fun _ _ q => q)⟩
  have kd : Keep (fun _ => False) w w.drew := (Keep.refl _ w).drew
  have kdF : Keep F w w.drew := (Keep.refl _ w).drew
  clear h hx
  go_enter Try.func81, Try.ntmps81
  go_wp2_with fail
  go_region_held3 (fun y => y.cell? ⟨gx, 0, none⟩ = some (.pointer (some ⟨gw, 0, none⟩)) ∧ y.cell? ⟨gx, 6, none⟩ = some (.string r.ref)) (exact HC.out _ (by assumption)) (first
    | (go_at_call 95; with_reducible refine (NC _ (by assumption)).mono ?_; rintro e w2 ⟨rfl, h2, k2⟩))
  all_goals (
    go_wp2_with fail
    go_end0
    exact ⟨rfl, h2, k2⟩)
set_option maxRecDepth 20000 in
set_option maxHeartbeats 2000000 in
theorem part_path (hx : w.heap[gx]? = some (XObj gw r v x u)) (h : WrAt F w gw s) (hgx : ¬ F gx) (hl : s.b.length ≤ 30000000000000) :
    Calls Try.prog 83 #[.pointer (some ⟨gx, 0, none⟩)] w (WrPost F w gw (ePart r .path s)) := by
  have c0 := cell_at hx 0 (.pointer (some ⟨gw, 0, none⟩)) rfl
  have c1 := cell_at hx 8 (.string r.path) rfl
  have HC := hid (fun (y : World) (hk : Keep F w y) => (⟨hk.cell c0 hgx, hk.cell c1 hgx⟩ : y.cell? ⟨gx, 0, none⟩ = some (.pointer (some ⟨gw, 0, none⟩)) ∧ y.cell? ⟨gx, 8, none⟩ = some (.string r.path)))
  have NC : ∀ y, Keep (fun _ => False) w y → Calls Try.prog 95 #[.pointer (some ⟨gw, 0, none⟩), .string r.path] y fun e w' => e = .returned (.tuple #[]) ∧ WrAt (Grow F w w') w' gw (ePart r .path s) ∧ Keep F w w' := fun y hk => by
    refine (word'_calls (h.keep hk (fun _ _ => id)) r.path (by omega)).mono ?_
    rintro e w' ⟨he, h1, h2⟩
    have hz := hk.size
    exact ⟨he, h1.mono (fun q hq => hq.imp id (fun ⟨a, b⟩ => ⟨by omega, b⟩)), (hk.mono (fun _ _ f => f.elim)).trans h2 (fun _ _ q => q)⟩
  have kd : Keep (fun _ => False) w w.drew := (Keep.refl _ w).drew
  have kdF : Keep F w w.drew := (Keep.refl _ w).drew
  clear h hx
  go_enter Try.func83, Try.ntmps83
  go_wp2_with fail
  go_region_held3 (fun y => y.cell? ⟨gx, 0, none⟩ = some (.pointer (some ⟨gw, 0, none⟩)) ∧ y.cell? ⟨gx, 8, none⟩ = some (.string r.path)) (exact HC.out _ (by assumption)) (first
    | (go_at_call 95; with_reducible refine (NC _ (by assumption)).mono ?_; rintro e w2 ⟨rfl, h2, k2⟩))
  all_goals (
    go_wp2_with fail
    go_end0
    exact ⟨rfl, h2, k2⟩)
set_option maxRecDepth 20000 in
set_option maxHeartbeats 2000000 in
theorem part_changes (hx : w.heap[gx]? = some (XObj gw r v x u)) (h : WrAt F w gw s) (hgx : ¬ F gx) (hl : s.b.length ≤ 30000000000000) {G : Nat → Prop} (hv : Sl .change w G v r.changes) (hG : ∀ k, G k → ¬ F k ∧ k < w.heap.size) (hF : ∀ k, F k → k < w.heap.size) :
    Calls Try.prog 82 #[.pointer (some ⟨gx, 0, none⟩)] w (WrPost F w gw (ePart r .changes s)) := by
  obtain ⟨A, c, rfl⟩ := hv.shape
  have c0 := cell_at hx 0 (.pointer (some ⟨gw, 0, none⟩)) rfl
  have c1 := cell_at hx 7 (.slice A r.changes.length c) rfl
  have HC := hid (fun (y : World) (hk : Keep F w y) => (⟨hk.cell c0 hgx, hk.cell c1 hgx⟩ : y.cell? ⟨gx, 0, none⟩ = some (.pointer (some ⟨gw, 0, none⟩)) ∧ y.cell? ⟨gx, 7, none⟩ = some (.slice A r.changes.length c)))
  have NC : ∀ y, Keep (fun _ => False) w y → Calls Try.prog 96 #[.pointer (some ⟨gw, 0, none⟩), .slice A r.changes.length c] y fun e w' => e = .returned (.tuple #[]) ∧ WrAt (Grow F w w') w' gw (ePart r .changes s) ∧ Keep F w w' := fun y hk => by
    refine (list_calls (G := G) (h.keep hk (fun _ _ => id)) (fun q hq => by have := hF q hq; have := hk.size; omega) (hv.keep hk (fun _ _ => id)) (fun q hq => ⟨(hG q hq).1, by have := (hG q hq).2; have := hk.size; omega⟩) hl).mono ?_
    rintro e w' ⟨he, h1, h2⟩
    have hz := hk.size
    exact ⟨he, h1.mono (fun q hq => hq.imp id (fun ⟨a, b⟩ => ⟨by omega, b⟩)), (hk.mono (fun _ _ f => f.elim)).trans h2 (fun _ _ q => q)⟩
  have kd : Keep (fun _ => False) w w.drew := (Keep.refl _ w).drew
  have kdF : Keep F w w.drew := (Keep.refl _ w).drew
  clear h hx
  go_enter Try.func82, Try.ntmps82
  go_wp2_with fail
  go_region_held3 (fun y => y.cell? ⟨gx, 0, none⟩ = some (.pointer (some ⟨gw, 0, none⟩)) ∧ y.cell? ⟨gx, 7, none⟩ = some (.slice A r.changes.length c)) (exact HC.out _ (by assumption)) (first
    | (go_at_call 96; with_reducible refine (NC _ (by assumption)).mono ?_; rintro e w2 ⟨rfl, h2, k2⟩))
  all_goals (
    go_wp2_with fail
    go_end0
    exact ⟨rfl, h2, k2⟩)
end
end Go.Proofs.Ytofljidmdabkcaa

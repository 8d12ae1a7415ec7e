/- wapentakeref15.Tally: how it lies; Promised, by, Voters. -/
import Derived.Test.YthlgnilgjeebaaaGat
import Derived.Test.YthlgnilgjeebaaaTalD
import Derived.Test.YthlgnilgjeebaaaCopyM
namespace Go.Proofs.Ythlgnilgjeebaaa
open Go.RowKit Go.ChangeShapes Go.WideShapes Go.ChangeAt
structure TProm where
  id : Int
  base : Int
  v : List Vote
def Rep.prom : Rep TProm := (Rep.pair .int (.pair .int Rep.vote.slice)).as fun p => (p.id, p.base, p.v)
def Rep.cast : Rep (Int × Int) := Rep.pair .int .int
def promCs (p : TProm) (v : Value) : List Value := [.int .i64 p.id, .int .i64 p.base, v]
def castCs (p : Int × Int) : List Value := [.int .i64 p.1, .int .i64 p.2]
theorem prom_cells {w : World} {F : Nat → Prop} {p : TProm} {cs : List Value} (h : Rep.prom.cells w F p cs) : ∃ v, cs = promCs p v ∧ Sl .vote w F v p.v ∧ okI p.id ∧ okI p.base := by
  obtain ⟨_, _, rfl, ⟨rfl, h0⟩, _, _, rfl, ⟨rfl, h1⟩, ⟨v, rfl, hv⟩⟩ := h
  exact ⟨v, rfl, hv, h0, h1⟩
theorem prom_mk {w : World} {F : Nat → Prop} {p : TProm} {v : Value} (hv : Sl .vote w F v p.v) (h0 : okI p.id) (h1 : okI p.base) : Rep.prom.cells w F p (promCs p v) :=
  ⟨_, _, rfl, ⟨rfl, h0⟩, _, _, rfl, ⟨rfl, h1⟩, ⟨v, rfl, hv⟩⟩
theorem cast_cells {w : World} {F : Nat → Prop} {p : Int × Int} {cs : List Value} (h : Rep.cast.cells w F p cs) : cs = castCs p ∧ okI p.1 ∧ okI p.2 := by
  obtain ⟨_, _, rfl, ⟨rfl, h0⟩, ⟨rfl, h1⟩⟩ := h
  exact ⟨rfl, h0, h1⟩
theorem cast_mk {w : World} {F : Nat → Prop} {p : Int × Int} (h0 : okI p.1) (h1 : okI p.2) : Rep.cast.cells w F p (castCs p) :=
  ⟨_, _, rfl, ⟨rfl, h0⟩, ⟨rfl, h1⟩⟩
structure RS where
  ballot : Int
  from' : Int
  P : List TProm
  C : List (Int × Int)
abbrev RObj (s : RS) (vP vC : Value) : Obj := .cells #[.int .i64 s.ballot, .int .i64 s.from', vP, vC] 54
/-- The tally, as it is read. -/
structure RV (F : Nat → Prop) (w : World) (g : Nat) (s : RS) (AP AC : Option Addr) (cP cC : Nat) : Prop where
  obj : w.heap[g]? = some (RObj s (.slice AP s.P.length cP) (.slice AC s.C.length cC))
  P : Sl .prom w F (.slice AP s.P.length cP) s.P
  C : Sl .cast w F (.slice AC s.C.length cC) s.C
theorem RV.keep {F S : Nat → Prop} {w w' : World} {g : Nat} {s : RS} {AP AC : Option Addr} {cP cC : Nat} (h : RV F w g s AP AC cP cC) (hk : Keep S w w') (hF : ∀ k, F k → ¬ S k) (hg : ¬ S g) : RV F w' g s AP AC cP cC :=
  ⟨hk.heap h.obj hg, h.P.keep hk hF, h.C.keep hk hF⟩
/-- Numbers below n, each as often as it is met. -/
def gth {β : Type} (q : Int → β → Bool) (P : List β) : Nat → List Int
  | 0 => []
  | n + 1 => gth q P n ++ (P.filter (q n)).map (fun _ => (n : Int))
theorem gth_len {β : Type} (q : Int → β → Bool) (P : List β) : ∀ n, (gth q P n).length ≤ n * P.length
  | 0 => by simp [gth]
  | n + 1 => by
    have := gth_len q P n
    have h2 := List.length_filter_le (q n) P
    rw [gth, List.length_append, List.length_map, Nat.succ_mul]
    omega
theorem take_filter' {β : Type} {l : List β} {k : Nat} {x : β} (h : l[k]? = some x) (p : β → Bool) : (l.take (k + 1)).filter p = (l.take k).filter p ++ if p x then [x] else [] := by
  rw [List.take_add_one, h, List.filter_append]
  congr 1
  cases hp : p x <;> simp [hp]
section
variable {F : Nat → Prop} {w : World} {g : Nat} {s : RS} {AP AC : Option Addr} {cP cC : Nat}
set_option maxRecDepth 20000 in
set_option maxHeartbeats 4000000 in
theorem rpromised_calls (h : RV F w g s AP AC cP cC) (hl : s.P.length ≤ 100000) :
    Calls Try.prog 28 #[.pointer (some ⟨g, 0, none⟩)] w fun e w' => ∃ u, e = .returned u ∧ Gat w w' u (gth (fun (n : Int) (p : TProm) => p.id == n) s.P 15) := by
  have H := hid h
  obtain ⟨m, hm⟩ : ∃ m, m = s.P.length := ⟨_, rfl⟩
  have hobj := h.obj
  rw [← hm] at hl
  have HM := hid hm
  have HO := hid hobj
  obtain ⟨q, hq⟩ : ∃ q, q = (fun (n : Int) (p : TProm) => p.id == n) := ⟨_, rfl⟩
  rw [← hq]
  have HQ := hid hq
  clear h hm hobj hq
  go_enter Try.func28, Try.ntmps28
  go_wp2_with fail
  go_loopw [3, 4] (fun u i wr => ∃ k : Nat, k ≤ 15 ∧ i = .int .i64 k ∧ Gat w wr u (gth q s.P k)) (fun _ i _ => 15 - (intOf i).toNat)
  case atStart => exact ⟨0, by omega, rfl, Gat.nil w⟩
  case round =>
    obtain ⟨k, hk, rfl, hg⟩ := hrel
    have HG := hid hg
    clear hg
    by_cases hlt : k < 15
    · have hk15 : decide ((k : Int) < 15) = true := decide_eq_true (by omega)
      go_wp2_with fail
      go_loopw [3, 5] (fun u i wr2 => ∃ j : Nat, j ≤ m ∧ i = .int .i64 j ∧ Gat w wr2 u (gth q s.P k ++ ((s.P.take j).filter (q k)).map (fun _ => (k : Int)))) (fun _ i _ => m - (intOf i).toNat)
      case atStart => exact ⟨0, by omega, rfl, by simpa using HG.out⟩
      case round =>
        obtain ⟨j, hj, rfl, hg2⟩ := hrel
        have hobj := hg2.kp.heap HO.out id
        rw [← HM.out] at hobj
        have cP0 := cell_at hobj 2 (.slice AP m cP) rfl
        have HG2 := hid hg2
        clear hg2 hobj
        by_cases hjt : j < m
        · obtain ⟨x, hx⟩ : ∃ x, s.P[j]? = some x := ⟨s.P[j]'(by rw [← HM.out]; exact hjt), by simp [show j < s.P.length by rw [← HM.out]; exact hjt]⟩
          obtain ⟨A', c', b, off, cs, he, hb, _, hcs, hcell⟩ := elem_cells7 (H.out.P.keep HG2.out.kp (fun _ _ => id)) HM.out hx
          rw [← HM.out] at he
          simp only [Value.slice.injEq, true_and] at he
          obtain ⟨rfl, rfl⟩ := he
          subst hb
          obtain ⟨vc, rfl, hvc, _⟩ := prom_cells hcs
          have hsz : Rep.prom.size = 3 := rfl
          rw [hsz] at hcell
          have d0 := hcell 0 (.int .i64 x.id) rfl
          rw [Nat.add_zero] at d0
          have hnext := take_filter' hx (q k)
          have hlen : (gth q s.P k ++ ((s.P.take j).filter (q k)).map (fun _ => (k : Int))).length ≤ 1600000 := by
            have h1 := gth_len q s.P k
            have h2 := List.length_filter_le (q k) (s.P.take j)
            have h3 : (s.P.take j).length ≤ s.P.length := by rw [List.length_take]; omega
            have h4 : k * s.P.length ≤ 15 * s.P.length := Nat.mul_le_mul_right _ (by omega)
            have := HM.out
            rw [List.length_append, List.length_map]
            omega
          have HNX := hid (show gth q s.P k ++ ((s.P.take (j + 1)).filter (q k)).map (fun _ => (k : Int)) = (gth q s.P k ++ ((s.P.take j).filter (q k)).map (fun _ => (k : Int))) ++ if q k x then [(k : Int)] else [] by
            rw [hnext, List.map_append, List.append_assoc]
            congr 2
            cases q k x <;> rfl)
          clear hcell hcs hx hsz hnext
          generalize gth q s.P k ++ ((s.P.take j).filter (q k)).map (fun _ => (k : Int)) = lst at *
          by_cases hid0 : x.id = k
          · have hb0 : (x.id == (k : Int)) = true := by simpa using hid0
            clear hid0
            have hqx : q k x = true := by rw [HQ.out]; simpa using hb0
            have HQX := hid hqx
            have ho := HG2.out.own
            clear hqx
            go_wp2_with (at_builtin; refine stopHere ?_)
            refine goOn (wpl_app (v := u3) rfl rfl TI rfl (ownsAlloc ho _) rfl (Row.one wr _ _) (by simp [Value.oneCell']) (by omega) (by omega) ?_)
            intro A6 c6 w6 ho6 hk6 hn6
            have hp := HG2.out.push _ ho6 hk6 hn6
            have HP := hid hp
            clear hp ho6 hk6 hn6 ho
            go_wp2
            refine ⟨⟨j + 1, by omega, by simp, ?_⟩, by simp [intOf]; omega⟩
            rw [HNX.out, if_pos HQX.out]
            exact HP.out
          · have hb0 : (x.id == (k : Int)) = false := by simpa using hid0
            clear hid0
            have hqx : q k x = false := by rw [HQ.out]; simpa using hb0
            have HQX := hid hqx
            clear hqx
            go_wp2_with fail
            refine ⟨⟨j + 1, by omega, by simp, ?_⟩, by simp [intOf]; omega⟩
            rw [HNX.out, HQX.out]
            simpa using HG2.out

        · obtain rfl : j = m := by omega
          have hG2 := HG2.out
          rw [List.take_of_length_le (by rw [HM.out]; exact Nat.le_refl _)] at hG2
          have HG3 := hid (show Gat w _ _ (gth q s.P (k + 1)) from hG2)
          clear hG2 HG2
          go_wp2_with fail
          exact ⟨⟨k + 1, by omega, by simp, HG3.out⟩, by simp [intOf]; omega⟩
    · obtain rfl : k = 15 := by omega
      go_wp2_with fail
      go_ret
      exact ⟨_, rfl, HG.out⟩
set_option maxRecDepth 20000 in
set_option maxHeartbeats 4000000 in
theorem rby_calls (h : RV F w g s AP AC cP cC) (hl : s.P.length ≤ 100000) (slot : Int) (ab : Bool) :
    Calls Try.prog 58 #[.pointer (some ⟨g, 0, none⟩), .int .i64 slot, .bool ab] w fun e w' => ∃ u, e = .returned u ∧ Gat w w' u (gth (fun (n : Int) (p : TProm) => p.id == n && (decide (slot < p.base) == ab)) s.P 15) := by
  have H := hid h
  obtain ⟨m, hm⟩ : ∃ m, m = s.P.length := ⟨_, rfl⟩
  have hobj := h.obj
  rw [← hm] at hl
  have HM := hid hm
  have HO := hid hobj
  obtain ⟨q, hq⟩ : ∃ q, q = (fun (n : Int) (p : TProm) => p.id == n && (decide (slot < p.base) == ab)) := ⟨_, rfl⟩
  rw [← hq]
  have HQ := hid hq
  clear h hm hobj hq
  go_enter Try.func58, Try.ntmps58
  go_wp2_with fail
  go_loopw [7, 8] (fun u i wr => ∃ k : Nat, k ≤ 15 ∧ i = .int .i64 k ∧ Gat w wr u (gth q s.P k)) (fun _ i _ => 15 - (intOf i).toNat)
  case atStart => exact ⟨0, by omega, rfl, Gat.nil w⟩
  case round =>
    obtain ⟨k, hk, rfl, hg⟩ := hrel
    have HG := hid hg
    clear hg
    by_cases hlt : k < 15
    · have hk15 : decide ((k : Int) < 15) = true := decide_eq_true (by omega)
      go_wp2_with fail
      go_loopw [7, 9] (fun u i wr2 => ∃ j : Nat, j ≤ m ∧ i = .int .i64 j ∧ Gat w wr2 u (gth q s.P k ++ ((s.P.take j).filter (q k)).map (fun _ => (k : Int)))) (fun _ i _ => m - (intOf i).toNat)
      case atStart => exact ⟨0, by omega, rfl, by simpa using HG.out⟩
      case round =>
        obtain ⟨j, hj, rfl, hg2⟩ := hrel
        have hobj := hg2.kp.heap HO.out id
        rw [← HM.out] at hobj
        have cP0 := cell_at hobj 2 (.slice AP m cP) rfl
        have HG2 := hid hg2
        clear hg2 hobj
        by_cases hjt : j < m
        · obtain ⟨x, hx⟩ : ∃ x, s.P[j]? = some x := ⟨s.P[j]'(by rw [← HM.out]; exact hjt), by simp [show j < s.P.length by rw [← HM.out]; exact hjt]⟩
          obtain ⟨A', c', b, off, cs, he, hb, _, hcs, hcell⟩ := elem_cells7 (H.out.P.keep HG2.out.kp (fun _ _ => id)) HM.out hx
          rw [← HM.out] at he
          simp only [Value.slice.injEq, true_and] at he
          obtain ⟨rfl, rfl⟩ := he
          subst hb
          obtain ⟨vc, rfl, hvc, _⟩ := prom_cells hcs
          have hsz : Rep.prom.size = 3 := rfl
          rw [hsz] at hcell
          have d0 := hcell 0 (.int .i64 x.id) rfl
          rw [Nat.add_zero] at d0
          have d1 := hcell 1 (.int .i64 x.base) rfl
          have hnext := take_filter' hx (q k)
          have hlen : (gth q s.P k ++ ((s.P.take j).filter (q k)).map (fun _ => (k : Int))).length ≤ 1600000 := by
            have h1 := gth_len q s.P k
            have h2 := List.length_filter_le (q k) (s.P.take j)
            have h3 : (s.P.take j).length ≤ s.P.length := by rw [List.length_take]; omega
            have h4 : k * s.P.length ≤ 15 * s.P.length := Nat.mul_le_mul_right _ (by omega)
            have := HM.out
            rw [List.length_append, List.length_map]
            omega
          have HNX := hid (show gth q s.P k ++ ((s.P.take (j + 1)).filter (q k)).map (fun _ => (k : Int)) = (gth q s.P k ++ ((s.P.take j).filter (q k)).map (fun _ => (k : Int))) ++ if q k x then [(k : Int)] else [] by
            rw [hnext, List.map_append, List.append_assoc]
            congr 2
            cases q k x <;> rfl)
          clear hcell hcs hx hsz hnext
          generalize gth q s.P k ++ ((s.P.take j).filter (q k)).map (fun _ => (k : Int)) = lst at *
          by_cases hid0 : x.id = k
          · have hb0 : (x.id == (k : Int)) = true := by simpa using hid0
            clear hid0
            by_cases hbs : slot < x.base
            · have hb1 : decide (slot < x.base) = true := by simpa using hbs
              clear hbs
              cases ab
              · skip
                have hqx : q k x = false := by rw [HQ.out]; simp only [hb0, hb1]; rfl
                have HQX := hid hqx
                clear hqx
                go_wp2_with fail
                refine ⟨⟨j + 1, by omega, by simp, ?_⟩, by simp [intOf]; omega⟩
                rw [HNX.out, HQX.out]
                simpa using HG2.out
              · skip
                have hqx : q k x = true := by rw [HQ.out]; simp only [hb0, hb1]; rfl
                have HQX := hid hqx
                have ho := HG2.out.own
                clear hqx
                go_wp2_with (at_builtin; refine stopHere ?_)
                refine goOn (wpl_app (v := u7) rfl rfl TI rfl (ownsAlloc ho _) rfl (Row.one wr _ _) (by simp [Value.oneCell']) (by omega) (by omega) ?_)
                intro A6 c6 w6 ho6 hk6 hn6
                have hp := HG2.out.push _ ho6 hk6 hn6
                have HP := hid hp
                clear hp ho6 hk6 hn6 ho
                go_wp2
                refine ⟨⟨j + 1, by omega, by simp, ?_⟩, by simp [intOf]; omega⟩
                rw [HNX.out, if_pos HQX.out]
                exact HP.out
            · have hb1 : decide (slot < x.base) = false := by simpa using hbs
              clear hbs
              cases ab
              · skip
                have hqx : q k x = true := by rw [HQ.out]; simp only [hb0, hb1]; rfl
                have HQX := hid hqx
                have ho := HG2.out.own
                clear hqx
                go_wp2_with (at_builtin; refine stopHere ?_)
                refine goOn (wpl_app (v := u7) rfl rfl TI rfl (ownsAlloc ho _) rfl (Row.one wr _ _) (by simp [Value.oneCell']) (by omega) (by omega) ?_)
                intro A6 c6 w6 ho6 hk6 hn6
                have hp := HG2.out.push _ ho6 hk6 hn6
                have HP := hid hp
                clear hp ho6 hk6 hn6 ho
                go_wp2
                refine ⟨⟨j + 1, by omega, by simp, ?_⟩, by simp [intOf]; omega⟩
                rw [HNX.out, if_pos HQX.out]
                exact HP.out
              · skip
                have hqx : q k x = false := by rw [HQ.out]; simp only [hb0, hb1]; rfl
                have HQX := hid hqx
                clear hqx
                go_wp2_with fail
                refine ⟨⟨j + 1, by omega, by simp, ?_⟩, by simp [intOf]; omega⟩
                rw [HNX.out, HQX.out]
                simpa using HG2.out
          · have hb0 : (x.id == (k : Int)) = false := by simpa using hid0
            clear hid0
            have hqx : q k x = false := by rw [HQ.out]; simp only [hb0, Bool.false_and]
            have HQX := hid hqx
            clear hqx
            go_wp2_with fail
            refine ⟨⟨j + 1, by omega, by simp, ?_⟩, by simp [intOf]; omega⟩
            rw [HNX.out, HQX.out]
            simpa using HG2.out

        · obtain rfl : j = m := by omega
          have hG2 := HG2.out
          rw [List.take_of_length_le (by rw [HM.out]; exact Nat.le_refl _)] at hG2
          have HG3 := hid (show Gat w _ _ (gth q s.P (k + 1)) from hG2)
          clear hG2 HG2
          go_wp2_with fail
          exact ⟨⟨k + 1, by omega, by simp, HG3.out⟩, by simp [intOf]; omega⟩
    · obtain rfl : k = 15 := by omega
      go_wp2_with fail
      go_ret
      exact ⟨_, rfl, HG.out⟩
set_option maxRecDepth 20000 in
set_option maxHeartbeats 4000000 in
theorem rvoters_calls (h : RV F w g s AP AC cP cC) (hl : s.C.length ≤ 100000) (slot : Int) :
    Calls Try.prog 30 #[.pointer (some ⟨g, 0, none⟩), .int .i64 slot] w fun e w' => ∃ u, e = .returned u ∧ Gat w w' u (gth (fun (n : Int) (p : Int × Int) => p.1 == slot && p.2 == n) s.C 15) := by
  have H := hid h
  obtain ⟨m, hm⟩ : ∃ m, m = s.C.length := ⟨_, rfl⟩
  have hobj := h.obj
  rw [← hm] at hl
  have HM := hid hm
  have HO := hid hobj
  obtain ⟨q, hq⟩ : ∃ q, q = (fun (n : Int) (p : Int × Int) => p.1 == slot && p.2 == n) := ⟨_, rfl⟩
  rw [← hq]
  have HQ := hid hq
  clear h hm hobj hq
  go_enter Try.func30, Try.ntmps30
  go_wp2_with fail
  go_loopw [5, 6] (fun u i wr => ∃ k : Nat, k ≤ 15 ∧ i = .int .i64 k ∧ Gat w wr u (gth q s.C k)) (fun _ i _ => 15 - (intOf i).toNat)
  case atStart => exact ⟨0, by omega, rfl, Gat.nil w⟩
  case round =>
    obtain ⟨k, hk, rfl, hg⟩ := hrel
    have HG := hid hg
    clear hg
    by_cases hlt : k < 15
    · have hk15 : decide ((k : Int) < 15) = true := decide_eq_true (by omega)
      go_wp2_with fail
      go_loopw [5, 7] (fun u i wr2 => ∃ j : Nat, j ≤ m ∧ i = .int .i64 j ∧ Gat w wr2 u (gth q s.C k ++ ((s.C.take j).filter (q k)).map (fun _ => (k : Int)))) (fun _ i _ => m - (intOf i).toNat)
      case atStart => exact ⟨0, by omega, rfl, by simpa using HG.out⟩
      case round =>
        obtain ⟨j, hj, rfl, hg2⟩ := hrel
        have hobj := hg2.kp.heap HO.out id
        rw [← HM.out] at hobj
        have cP0 := cell_at hobj 3 (.slice AC m cC) rfl
        have HG2 := hid hg2
        clear hg2 hobj
        by_cases hjt : j < m
        · obtain ⟨x, hx⟩ : ∃ x, s.C[j]? = some x := ⟨s.C[j]'(by rw [← HM.out]; exact hjt), by simp [show j < s.C.length by rw [← HM.out]; exact hjt]⟩
          obtain ⟨A', c', b, off, cs, he, hb, _, hcs, hcell⟩ := elem_cells7 (H.out.C.keep HG2.out.kp (fun _ _ => id)) HM.out hx
          rw [← HM.out] at he
          simp only [Value.slice.injEq, true_and] at he
          obtain ⟨rfl, rfl⟩ := he
          subst hb
          obtain ⟨rfl, _⟩ := cast_cells hcs
          have hsz : Rep.cast.size = 2 := rfl
          rw [hsz] at hcell
          have d0 := hcell 0 (.int .i64 x.1) rfl
          rw [Nat.add_zero] at d0
          have d1 := hcell 1 (.int .i64 x.2) rfl
          have hnext := take_filter' hx (q k)
          have hlen : (gth q s.C k ++ ((s.C.take j).filter (q k)).map (fun _ => (k : Int))).length ≤ 1600000 := by
            have h1 := gth_len q s.C k
            have h2 := List.length_filter_le (q k) (s.C.take j)
            have h3 : (s.C.take j).length ≤ s.C.length := by rw [List.length_take]; omega
            have h4 : k * s.C.length ≤ 15 * s.C.length := Nat.mul_le_mul_right _ (by omega)
            have := HM.out
            rw [List.length_append, List.length_map]
            omega
          have HNX := hid (show gth q s.C k ++ ((s.C.take (j + 1)).filter (q k)).map (fun _ => (k : Int)) = (gth q s.C k ++ ((s.C.take j).filter (q k)).map (fun _ => (k : Int))) ++ if q k x then [(k : Int)] else [] by
            rw [hnext, List.map_append, List.append_assoc]
            congr 2
            cases q k x <;> rfl)
          clear hcell hcs hx hsz hnext
          generalize gth q s.C k ++ ((s.C.take j).filter (q k)).map (fun _ => (k : Int)) = lst at *
          by_cases hid0 : x.1 = slot
          · have hb0 : (x.1 == slot) = true := by simpa using hid0
            clear hid0
            by_cases hbs : x.2 = k
            · have hb1 : (x.2 == (k : Int)) = true := by simpa using hbs
              clear hbs
              have hqx : q k x = true := by rw [HQ.out]; simp only [hb0, hb1, Bool.and_self]
              have HQX := hid hqx
              have ho := HG2.out.own
              clear hqx
              go_wp2_with (at_builtin; refine stopHere ?_)
              refine goOn (wpl_app (v := u5) rfl rfl TI rfl (ownsAlloc ho _) rfl (Row.one wr _ _) (by simp [Value.oneCell']) (by omega) (by omega) ?_)
              intro A6 c6 w6 ho6 hk6 hn6
              have hp := HG2.out.push _ ho6 hk6 hn6
              have HP := hid hp
              clear hp ho6 hk6 hn6 ho
              go_wp2
              refine ⟨⟨j + 1, by omega, by simp, ?_⟩, by simp [intOf]; omega⟩
              rw [HNX.out, if_pos HQX.out]
              exact HP.out
            · have hb1 : (x.2 == (k : Int)) = false := by simpa using hbs
              clear hbs
              have hqx : q k x = false := by rw [HQ.out]; simp only [hb0, hb1, Bool.and_false]
              have HQX := hid hqx
              clear hqx
              go_wp2_with fail
              refine ⟨⟨j + 1, by omega, by simp, ?_⟩, by simp [intOf]; omega⟩
              rw [HNX.out, HQX.out]
              simpa using HG2.out
          · have hb0 : (x.1 == slot) = false := by simpa using hid0
            clear hid0
            have hqx : q k x = false := by rw [HQ.out]; simp only [hb0, Bool.false_and]
            have HQX := hid hqx
            clear hqx
            go_wp2_with fail
            refine ⟨⟨j + 1, by omega, by simp, ?_⟩, by simp [intOf]; omega⟩
            rw [HNX.out, HQX.out]
            simpa using HG2.out

        · obtain rfl : j = m := by omega
          have hG2 := HG2.out
          rw [List.take_of_length_le (by rw [HM.out]; exact Nat.le_refl _)] at hG2
          have HG3 := hid (show Gat w _ _ (gth q s.C (k + 1)) from hG2)
          clear hG2 HG2
          go_wp2_with fail
          exact ⟨⟨k + 1, by omega, by simp, HG3.out⟩, by simp [intOf]; omega⟩
    · obtain rfl : k = 15 := by omega
      go_wp2_with fail
      go_ret
      exact ⟨_, rfl, HG.out⟩
end
end Go.Proofs.Ythlgnilgjeebaaa

/- wapentakelaw16.valid; a guarded slice. -/
import Derived.Test.YthlgnilgjeebaaaTalM
namespace Go.Proofs.Ythlgnilgjeebaaa
open Go.RowKit Go.MapKept
theorem wpl_sliceHiG {P : Program} {ops : Array Oper} {rest : List Oper} {op : Oper} {a : Act} {w : World} {Q : Exit → Act → World → Prop} {ty : TypeId} {x y : Operand} {A : Option Addr} {n c j size : Nat} (hgw : Region.wanted op (yielded ops a.tmps) = true) (ho : op.op = .slice ty x none (some y) none) (ht : P.underlying ty = some (.slice (P.elem ty))) (hi : (P.info? (P.elem ty)).map (·.size) = some size)
    (hx : a.eval x = .slice A n c) (hy : a.eval y = .int .i64 j) (hj : j ≤ c) (h : wpList P ops Q rest (a.put op.dst (.slice A j c)) w) : wpList P ops Q (op :: rest) a w := by
  have hr : (Instr.sliceAt ty (.slice A n c) none (some (.int .i64 j)) none).run P w = .ok (.slice A j c) w := by
    rw [run_sliceAt_slice w ty _ _ _ _ ht, run_slice_h w ty A n c ht .i64 j (by omega) (by omega), size_of hi]
    have h0 : ∀ p : Addr, p.add 0 = p := fun p => by cases p; simp [Addr.add]
    cases A <;> simp [Result.andThen, sliced, h0]
  refine wpList_step fun K hK => ?_
  rw [if_pos hgw]
  unfold Oper.wp execOp
  simp only [ho, Option.map_none, Option.map_some, hx, hy, Sem.run_bind, Sem.run_pure, Result.andThen_ok, hr]
  exact hK _ _ h
theorem take_filter {l : List Int} {k : Nat} {x : Int} (h : l[k]? = some x) (p : Int → Bool) : (l.take (k + 1)).filter p = (l.take k).filter p ++ if p x then [x] else [] := by
  rw [List.take_add_one, h, List.filter_append]
  congr 1
  cases hp : p x <;> simp [hp]
section
variable {F G : Nat → Prop} {w : World} {v : Value} {l : List Int}
set_option maxRecDepth 20000 in
set_option maxHeartbeats 2000000 in
theorem valid_calls (h : Row F w v l.length 1 (l.map I64)) (hl : l.length ≤ 1000000) : Calls Try.prog 37 #[v] w fun e w' => ∃ u, e = .returned u ∧ Gat w w' u (l.filter repB) := by
  obtain ⟨A, c, rfl, hcell⟩ := h.int'
  obtain ⟨n, hn⟩ : ∃ n, n = l.length := ⟨_, rfl⟩
  rw [← hn] at hcell hl ⊢
  have HN := hid hn; have HC := hid hcell
  clear hcell hn h
  go_enter Try.func37, Try.ntmps37
  go_wp2_with fail
  go_loopw [3, 4] (fun u i wr => ∃ k : Nat, k ≤ n ∧ i = .int .i64 k ∧ Gat w wr u ((l.take k).filter repB)) (fun _ i _ => n - (intOf i).toNat)
  case atStart => exact ⟨0, Nat.zero_le _, rfl, Gat.nil w⟩
  case round =>
    obtain ⟨k, hk, rfl, hg⟩ := hrel
    by_cases hlt : k < n
    · obtain ⟨b, off, rfl, _, hc⟩ := HC.out (by omega)
      have hcell := hg.kp.cell (hc k hlt) id
      have hx : l[k]? = some (l.getD k 0) := by rw [List.getD, List.getElem?_eq_getElem (by rw [← HN.out]; exact hlt)]; rfl
      generalize l.getD k 0 = x at *
      have hnext := take_filter hx repB
      have hlen : ((l.take k).filter repB).length ≤ n := Nat.le_trans (List.length_filter_le _ _) (by rw [List.length_take]; omega)
      have HNX := hid hnext
      clear hnext hx hc
      generalize (l.take k).filter repB = m at *
      have HG := hid hg
      clear hg
      by_cases h0 : 0 ≤ x
      · by_cases h1 : x < 15
        · have HR := hid (show repB x = true by simp [repB, h0, h1])
          have ho := HG.out.own
          go_wp2_with (at_builtin; refine stopHere ?_)
          refine goOn (wpl_app (v := u3) rfl rfl TI rfl (ownsAlloc ho _) rfl (Row.one wr _ _) (by simp [Value.oneCell']) (by omega) (by omega) ?_)
          intro A6 c6 w6 ho6 hk6 hn6
          have hp := HG.out.push _ ho6 hk6 hn6
          have HP := hid hp
          clear hp ho6 hk6 hn6 ho
          go_wp2
          refine ⟨⟨k + 1, by omega, by simp, ?_⟩, by simp [intOf]; omega⟩
          rw [HNX.out, if_pos HR.out]
          exact HP.out
        · have HR := hid (show repB x = false by simp [repB]; omega)
          go_wp2_with fail
          refine ⟨⟨k + 1, by omega, by simp, ?_⟩, by simp [intOf]; omega⟩
          rw [HNX.out, HR.out]
          simpa using HG.out
      · have HR := hid (show repB x = false by simp [repB]; omega)
        go_wp2_with fail
        refine ⟨⟨k + 1, by omega, by simp, ?_⟩, by simp [intOf]; omega⟩
        rw [HNX.out, HR.out]
        simpa using HG.out
    · obtain rfl : k = n := by omega
      have HG := hid hg
      clear hg
      go_wp2_with fail
      go_ret
      refine ⟨_, rfl, ?_⟩
      have := HG.out
      rw [List.take_of_length_le (by rw [HN.out]; exact Nat.le_refl _)] at this
      exact this
end
end Go.Proofs.Ythlgnilgjeebaaa

/- A call, and append, as one step of a region that draws its order. -/
import Derived.Test.YthlgnilgjeebaaaApp
import Derived.Deep.RegionLaw
import Derived.RegionTactic
namespace Go.Proofs.Ythlgnilgjeebaaa
open Go.RowKit
theorem step_app {P : Program} {ops : Array Oper} {o : Oper} {a : Act} {w : World} {K : Act → World → Prop} {Q : Exit → Act → World → Prop} {E : Prop} (hgd : o.guard = none) {s x : Operand} {t e : TypeId}
    (ho : o.op = .call { callee := .builtin .append, args := #[s, x], argTypes := #[t, t] }) {z : Value} {size bytes : Nat} (T : SlT P t e z size bytes)
    {v : Value} {n : Nat} {xs : List Value} (hs : a.eval s = v) (hown : w.ownsRow 0 e size v n xs)
    {G : Nat → Prop} {src : Value} {m : Nat} {news : List Value} (hx : a.eval x = src) (hsrc : Row G w src m size news) (h1 : ∀ u ∈ news, u.oneCell' = true)
    (hb : (n + m) * bytes ≤ 140737488355328) (h63 : n + m ≤ 140737488355328)
    (h : ∀ A c w', w'.ownsRow 0 e size (.slice A (n + m) c) (n + m) (xs ++ news) → Keep (fun k => some k = v.ownBlock) w w' → SameOrNew w v (.slice A (n + m) c) → K (a.put o.dst (.slice A (n + m) c)) w') :
    if Region.wanted o (yielded ops a.tmps) = true then Oper.wp P o a w K Q else E := by
  have hw : Region.wanted o (yielded ops a.tmps) = true := by simp [Region.wanted, hgd]
  rw [if_pos hw]
  obtain ⟨v', w', hr, h2, h3, h4⟩ := run_app (P := P) T o.type hown hsrc h1 hb h63
  unfold Oper.wp execOp
  simp only [ho, resolve, invoke, builtin, Sem.run_bind, Sem.run_pure, Result.andThen_ok, List.map_toArray, List.map_cons, List.map_nil, hs, hx, hr]
  obtain ⟨A, c, rfl⟩ := own_slice h2
  exact h A c w' h2 h3 h4
theorem step_call1 {P : Program} {ops : Array Oper} {o : Oper} {a : Act} {w : World} {K : Act → World → Prop} {Q : Exit → Act → World → Prop} {E : Prop} (hgd : o.guard = none) {f : FuncId} {x : Operand} {ts : Array TypeId}
    (ho : o.op = .call { callee := .value (.func f), args := #[x], argTypes := ts }) (eg : ∀ args w, (callFunc f args).run P w = .ok (.enter f args) w) {v : Value} (hx : a.eval x = v) {R : Value → World → Prop}
    (hc : Calls P f #[v] w fun e w' => ∃ u, e = .returned u ∧ R u w') (h : ∀ u w', R u w' → K (a.put o.dst u) w') :
    if Region.wanted o (yielded ops a.tmps) = true then Oper.wp P o a w K Q else E := by
  have hw : Region.wanted o (yielded ops a.tmps) = true := by simp [Region.wanted, hgd]
  rw [if_pos hw]
  unfold Oper.wp execOp
  subst hx
  have key : ∀ (q : Value), q = a.eval x → Calls P f #[q] w fun e w' => match e, w' with
      | .returned v, w'' => K (a.put o.dst v) w''
      | .panicked chain, w'' => Q (Exit.panic chain) a w''
      | .outgrown, _ => LetsOut Q := fun q hq => by
    subst hq
    refine hc.mono ?_
    rintro e w' ⟨u, rfl, hr⟩
    exact h u w' hr
  cases x <;> (simp [ho, resolve, invoke, eg, go_sem]; exact key _ (by simp [go_sem]))
end Go.Proofs.Ythlgnilgjeebaaa

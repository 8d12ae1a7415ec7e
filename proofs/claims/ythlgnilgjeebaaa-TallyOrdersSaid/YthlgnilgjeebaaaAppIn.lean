/- append within a fence. -/
import Derived.Test.YthlgnilgjeebaaaApp
import Derived.OwnWalkIn
namespace Go.Proofs.Ythlgnilgjeebaaa
open Go.RowKit Go.Lib
theorem wplIn_app {F : Fence} {N : Nat} {P : Program} {w : World} {ops : Array Oper} {rest : List Oper} {o : Oper} {a : Act} {Q : Exit → Act → World → Prop} (hgd : o.guard = none) {s x : Operand} {t e : TypeId}
    (ho : o.op = .call { callee := .builtin .append, args := #[s, x], argTypes := #[t, t] }) {z : Value} {size bytes : Nat} (T : SlT P t e z size bytes)
    {v : Value} {n : Nat} {xs : List Value} (hs : a.eval s = v) (hown : w.ownsRow 0 e size v n xs)
    {G : Nat → Prop} {src : Value} {m : Nat} {news : List Value} (hx : a.eval x = src) (hsrc : Row G w src m size news) (h1 : ∀ u ∈ news, u.oneCell' = true)
    (hb : (n + m) * bytes ≤ 140737488355328) (h63 : n + m ≤ 140737488355328)
    (h : ∀ A c w', w'.ownsRow 0 e size (.slice A (n + m) c) (n + m) (xs ++ news) → Keep (fun k => some k = v.ownBlock) w w' → SameOrNew w v (.slice A (n + m) c) → wpListIn F N P ops Q rest (a.put o.dst (.slice A (n + m) c)) w') :
    wpListIn F N P ops Q (o :: rest) a w := by
  obtain ⟨v', w', hr, h2, h3, h4⟩ := run_app (P := P) T o.type hown hsrc h1 hb h63
  refine wpListIn_plain hgd (fun K hK => ?_)
  unfold Oper.wpIn
  refine ⟨?_, ?_⟩
  · simp [Oper.about, ho, resolve, Target.leads, Sem.run_pure]
  · rw [Oper.semAt_plain F _ _ (by rw [ho]; intro c hc'; cases hc')]
    simp only [execOp, ho, resolve, invoke, builtin, Sem.run_bind, Sem.run_pure, Result.andThen_ok, List.map_toArray, List.map_cons, List.map_nil, hs, hx, hr]
    obtain ⟨A, c, rfl⟩ := own_slice h2
    exact hK _ _ (h A c w' h2 h3 h4)
end Go.Proofs.Ythlgnilgjeebaaa

/- Regions that draw their order, whose callees lay new blocks and answer plain values: walked once, in the order of the text. -/
import Derived.Test.YtofljidmdabkcaaMem
import Derived.Deep.QuietTactic
import Derived.BigQuiet
namespace Go.Proofs.Ytofljidmdabkcaa
open Go.RowKit
/-- A world in which all that w has lies as it lay. -/
structure Gr (w : World) where
  w' : World
  k : Keep (fun _ => False) w w'
instance (w : World) : Inhabited (Gr w) := ⟨⟨w, Keep.refl _ w⟩⟩
theorem wp_region_gr {P : Program} {id : Nat} {Q : Exit → Act → World → Prop} {a : Act} {w : World} {l : List Oper} (hm : P.follows .mixedOrders = true) (hB : Region.lexB .any l.toArray = true)
    (h : wpQuiet P l.toArray (fun x => ∃ p : Gr w, x = p.w') (fun a' => ∀ x, (∃ p : Gr w, x = p.w') → Q .normal a' x) l a) : (Code.region id l.toArray true).wp P Q a w :=
  wp_region_quiet (C := fun x => ∃ p : Gr w, x = p.w') hm hB ⟨⟨w.drew, (Keep.refl _ w).drew⟩, rfl⟩ (by simpa using h)
theorem grOf {P : Program} {f : FuncId} {args : Array Value} {w x : World} {v : Value}
    (h : Calls P f args x fun e w'' => e = .returned v ∧ Keep (fun _ => False) w w'') : Calls P f args x fun e w'' => e = .returned v ∧ ∃ q : Gr w, w'' = q.w' :=
  h.mono fun _ _ ⟨he, hk⟩ => ⟨he, ⟨_, hk⟩, rfl⟩

/-! ### A cheap test that the order of the text serves -/
def lexOk (l : List Oper) : Bool :=
  Region.noSelect l.toArray &&
  (l.zipIdx.all fun p => p.1.after.all fun e => !Region.binds .any e || decide (e.on < p.2)) &&
  (l.zipIdx.all fun p => l.zipIdx.all fun q => p.2 == q.2 || (match p.1.dst with | some d => q.1.dst != some d | none => true)) &&
  (l.zipIdx.all fun p => (p.1.looksAt l.toArray).all fun d => l.zipIdx.all fun q => q.1.dst != some d || (decide (q.2 < p.2) && p.1.after.any fun e => Region.binds .any e && e.on == q.2))
theorem zip_mem {l : List Oper} {i : Nat} {o : Oper} (h : l[i]? = some o) : (o, i) ∈ l.zipIdx := by
  rw [List.mem_zipIdx_iff_getElem?]; exact h
def listedTo (n k : Nat) : Array Bool := (Array.range n).map (fun j => decide (j < k))
theorem listedTo_get (n k j : Nat) (d : Bool) : (listedTo n k).getD j d = if j < n then decide (j < k) else d := by
  simp only [listedTo]
  by_cases h : j < n
  · simp [h, Array.getD]
  · simp [h, Array.getD]
theorem listedTo_zero (n : Nat) : Array.replicate n false = listedTo n 0 := by
  apply Array.ext
  · simp [listedTo]
  · intro i h1 h2; simp [listedTo]
theorem listedTo_set (n k : Nat) : (listedTo n k).setIfInBounds k true = listedTo n (k + 1) := by
  apply Array.ext
  · simp [listedTo]
  · intro i h1 h2
    simp [listedTo] at h1
    rw [Array.getElem_setIfInBounds]
    · simp only [listedTo, Array.getElem_map, Array.getElem_range]
      by_cases hik : k = i
      · simp [hik]
      · rw [if_neg hik]; simp; omega
    · simpa [listedTo] using h1
theorem lexFrom_ok {l : List Oper} (h : lexOk l = true) : ∀ (f k : Nat), k + f = l.length → Region.lexFrom .any l.toArray f k (listedTo l.length k) = true
  | 0, k, hk => by
    simp only [Region.lexFrom, List.isEmpty_iff]
    rw [Region.ready, List.filter_eq_nil_iff]
    intro i hi
    simp only [List.size_toArray, List.mem_range] at hi
    rw [listedTo_get, if_pos hi]
    simp
    omega
  | f + 1, k, hk => by
    simp only [lexOk, Bool.and_eq_true] at h
    obtain ⟨⟨⟨hsel, hback⟩, hdist⟩, hlook⟩ := h
    have hkl : k < l.length := by omega
    obtain ⟨ok, hok⟩ : ∃ o, l[k]? = some o := ⟨l[k], by simp [hkl]⟩
    have hokm := zip_mem hok
    simp only [Region.lexFrom, Bool.and_eq_true]
    refine ⟨⟨?_, ?_⟩, ?_⟩
    · simp only [Region.ready, List.contains_eq_mem, decide_eq_true_eq, List.mem_filter, List.size_toArray, List.mem_range]
      refine ⟨hkl, ?_⟩
      have hb := List.all_eq_true.1 hback _ hokm
      rw [listedTo_get, if_pos hkl]
      simp only [List.getElem?_toArray, hok, Option.map_some, Option.getD_some]
      rw [Bool.and_eq_true]
      refine ⟨by simp, ?_⟩
      rw [Array.all_eq_true_iff_forall_mem]
      intro e he
      have hb2 := Array.all_eq_true_iff_forall_mem.1 hb e he
      rw [Bool.or_eq_true] at hb2 ⊢
      rcases hb2 with hb2 | hb2
      · exact .inl hb2
      · right
        simp only [decide_eq_true_eq] at hb2
        rw [listedTo_get, if_pos (by omega)]
        simpa using hb2
    · simp only [Region.free, List.getElem?_toArray, hok, List.size_toArray]
      rw [List.all_eq_true]
      intro j hj
      rw [List.mem_range] at hj
      obtain ⟨oj, hoj⟩ : ∃ o, l[j]? = some o := ⟨l[j], by simp [hj]⟩
      have hojm := zip_mem hoj
      rw [listedTo_get, if_pos hj]
      simp only [hoj]
      by_cases hjk : j ≤ k
      · by_cases h2 : j = k
        · simp [h2]
        · have : j < k := by omega
          simp [this]
      · rw [Bool.or_eq_true]
        right
        by_cases hedge : (oj.after.any fun e => Region.binds .any e && e.on == k) = true
        · rw [hedge]; rfl
        · have hap : ok.apart l.toArray oj = true := by
            have hlj := List.all_eq_true.1 hlook _ hojm
            have hlk := List.all_eq_true.1 hlook _ hokm
            have hd := List.all_eq_true.1 (List.all_eq_true.1 hdist _ hokm) _ hojm
            simp only [Oper.apart, Bool.and_eq_true]
            constructor
            · split
              · rename_i d hdd
                rw [Bool.and_eq_true]
                constructor
                · simp only [Bool.not_eq_true', List.contains_eq_mem, decide_eq_false_iff_not]
                  intro hmem
                  have := List.all_eq_true.1 (List.all_eq_true.1 hlj d hmem) _ hokm
                  simp only [hdd, Bool.or_eq_true, bne_self_eq_false, Bool.false_eq_true, false_or, Bool.and_eq_true] at this
                  exact hedge this.2
                · simp only [hdd, Bool.or_eq_true, beq_iff_eq] at hd
                  rcases hd with hd | hd
                  · omega
                  · exact hd
              · rfl
            · split
              · rename_i d hdd
                simp only [Bool.not_eq_true', List.contains_eq_mem, decide_eq_false_iff_not]
                intro hmem
                have := List.all_eq_true.1 (List.all_eq_true.1 hlk d hmem) _ hojm
                simp only [hdd, Bool.or_eq_true, bne_self_eq_false, Bool.false_eq_true, false_or, Bool.and_eq_true, decide_eq_true_eq] at this
                omega
              · rfl
          rw [hap]; simp
    · rw [listedTo_set]
      exact lexFrom_ok (by simp only [lexOk, Bool.and_eq_true]; exact ⟨⟨⟨hsel, hback⟩, hdist⟩, hlook⟩) f (k + 1) (by omega)
theorem lexB_of {l : List Oper} (h : lexOk l = true) : Region.lexB .any l.toArray = true := by
  have h0 := h
  simp only [lexOk, Bool.and_eq_true] at h
  rw [Region.lexB, h.1.1.1, Bool.true_and, List.size_toArray, listedTo_zero]
  exact lexFrom_ok h0 _ 0 (by omega)
end Go.Proofs.Ytofljidmdabkcaa

/- m[k]++ at a map keyed by structs of two numbers: its entry, then the store. -/
import Derived.Test.YthlgnilgjeebaaaMapP
import Derived.WideKeyEntry
namespace Go.Proofs.Ythlgnilgjeebaaa
open Go.RowKit Go.MapKept
open Go.ChangeMaps (setBlock heap_setBlock_same heap_setBlock_other)

def anyE (_ : Value) : Option (DataW Unit × List MemPlace) := some (.nil, [])
theorem MapP.entry {E : World → Int → Value → Prop} {w : World} {b : Nat} {l : List (Pl × Int)} {P : Program} {K T e : TypeId} (h : MapP E w b l) (hT : P.underlying T = some (.map K e)) (hK : PlK P K) (hL : WideMaps.KeyLaw P K) {k : Pl} (hk : plOk k)
    {z : Value} (hz : ∀ w, (zeroValue e).run P w = .ok z w) (hE : ∀ w w' a v, E w a v → E w' a v) (hlen : l.length ≤ maxLen) (hEz : E w 0 z) :
    ∃ (v0 : Value) (st : Nat) (w1 : World), (Instr.mapEntry T (.map (some b)) (plV k)).run P w = .ok (.tuple #[v0, .int .i64 st]) w1 ∧ Keep (fun x => x = b) w w1 ∧ w1.heap.size = w.heap.size ∧
      (∃ l1, MapP E w1 b l1 ∧ (lookP l1 k).getD 0 = (lookP l k).getD 0) ∧
      ∀ (a : Int) (v : Value), E w a v → ∃ w2, (Instr.entryStore T (.map (some b)) (.int .i64 st) v).run P w1 = .ok () w2 ∧ MapP E w2 b (putP l k a) ∧ Keep (fun x => x = b) w1 w2 := by
  have h0 := h
  obtain ⟨es, clock, h1, h2, h3, h4, h5⟩ := h
  obtain ⟨kl, hkl⟩ := hK.ok k hk
  have hent : ∀ x ∈ es.toList, ∃ y, Go.WideElems.rd P K anyE x = some y := fun x hx => by
    obtain ⟨i, hi⟩ := List.getElem?_of_mem hx
    have hil : i < l.length := by have := (List.getElem?_eq_some_iff.1 hi).1; simp at this; omega
    obtain ⟨x', q1, q2, q3, q4⟩ := h5 i _ (List.getElem?_eq_getElem hil)
    rw [Array.getElem?_toList, q1] at hi
    obtain rfl := Option.some.inj hi
    obtain ⟨kk, hkk⟩ := hK.ok _ q3
    exact ⟨(kk, .nil), by simp [Go.WideElems.rd, q2, hkk, anyE]⟩
  have F : Go.WideElems.Fit P K anyE es clock := ⟨by omega, h2, hent⟩
  obtain ⟨v0, st, es1, clock1, r1, _, r3⟩ := Go.WideElems.entry_then_store hL hT hz h1 F hkl
  have hkp : ∀ {u : World} {es : Array MapEntry} {c : Nat} {o' : Obj}, u.heap[b]? = some (.map es c) → Keep (fun x => x = b) u (setBlock u b o') := fun {u _ _ o'} hu => ⟨rfl, rfl, rfl, by simp [setBlock], fun i _ hi => heap_setBlock_other hu _ hi⟩
  have hb1 := heap_setBlock_same h1 (.map es1 clock1)
  refine ⟨v0, st, _, r1, hkp h1, by simp [setBlock], ?_, fun a v hv => ?_⟩
  · obtain ⟨es', clock', h1', hf⟩ := h0.find (P := P) hK hk
    rw [h1] at h1'
    simp only [Option.some.injEq, Obj.map.injEq] at h1'
    obtain ⟨rfl, rfl⟩ := h1'
    rcases hf with ⟨q1, q2, q3⟩ | ⟨j, a0, e0, q1, q2, q3, q4, q5, q6⟩
    · have hrun : (Instr.mapEntry T (.map (some b)) (plV k)).run P w = .ok (.tuple #[z, goInt clock]) (setBlock w b (.map (es.push ⟨plV k, z, clock⟩) (clock + 1))) := by
        simp [Instr.mapEntry, run_underlying hT, MapKept.run_getObj_map h1, hK.keyed.check w false (hK.ok _ hk).choose_spec, q2, hz, MapKept.run_setObj_map _ h1, Result.andThen, setBlock]
      obtain ⟨w', u1, u2, u3⟩ := h0.update (a := 0) (v := z) hT hK hk hEz (fun w' _ a v q => hE _ _ _ _ q)
      have hup : (Instr.mapUpdate T (.map (some b)) (plV k) z).run P w = .ok () (setBlock w b (.map (es.push ⟨plV k, z, clock⟩) (clock + 1))) := by
        simp [Instr.mapUpdate, run_underlying hT, MapKept.run_getObj_map h1, hK.keyed.check w false (hK.ok _ hk).choose_spec, q2, MapKept.run_setObj_map _ h1, Result.andThen, setBlock]
      rw [r1] at hrun
      rw [hup] at u1
      simp only [Result.ok.injEq, true_and] at u1 hrun
      rw [hrun.2, u1]
      exact ⟨_, u2, by rw [lookP_put, if_pos rfl, q1]; rfl⟩
    · have hj : es[j]? = some e0 := q3
      have hsame : es.modify j (fun e => { e with key := plV k }) = es := by
        apply Array.ext'
        have h2' : es.toList[j]? = some e0 := by rw [Array.getElem?_toList]; exact q3
        rw [Array.toList_modify, Go.ChangeMaps.modify_eq_set _ _ _ _ h2']
        have : ({ e0 with key := plV k } : MapEntry) = e0 := by rw [← q4]
        rw [this]
        exact Go.WideElems.set_self _ _ _ h2'
      have hrun : (Instr.mapEntry T (.map (some b)) (plV k)).run P w = .ok (.tuple #[e0.val, goInt e0.born]) (setBlock w b (.map es clock)) := by
        simp [Instr.mapEntry, run_underlying hT, MapKept.run_getObj_map h1, hK.keyed.check w false (hK.ok _ hk).choose_spec, q6, hj, q4, hK.keyed.stays w (hK.ok _ hk).choose_spec, hsame, MapKept.run_setObj_map _ h1, Result.andThen, setBlock]
      rw [r1] at hrun
      simp only [Result.ok.injEq] at hrun
      rw [hrun.2]
      exact ⟨l, ⟨es, clock, heap_setBlock_same h1 _, h2, h3, h4, fun i p hp => by
        obtain ⟨e, s1, s2, s3, s4⟩ := h5 i p hp
        exact ⟨e, s1, s2, s3, hE _ _ _ _ s4⟩⟩, rfl⟩
  obtain ⟨es', clock', t1, t2⟩ := r3 _ v hb1
  obtain ⟨w', u1, u2, u3⟩ := h0.update hT hK hk hv (fun w' _ a v q => hE _ _ _ _ q)
  rw [t2] at u1
  simp only [Result.ok.injEq, true_and] at u1
  subst u1
  refine ⟨_, t1, ?_, hkp hb1⟩
  obtain ⟨es2, clock2, y1, y2, y3, y4, y5⟩ := u2
  rw [heap_setBlock_same h1] at y1
  simp only [Option.some.injEq, Obj.map.injEq] at y1
  obtain ⟨rfl, rfl⟩ := y1
  exact ⟨_, _, heap_setBlock_same hb1 _, y2, y3, y4, fun i p hp => by
    obtain ⟨e, s1, s2, s3, s4⟩ := y5 i p hp
    exact ⟨e, s1, s2, s3, hE _ _ _ _ s4⟩⟩
end Go.Proofs.Ythlgnilgjeebaaa

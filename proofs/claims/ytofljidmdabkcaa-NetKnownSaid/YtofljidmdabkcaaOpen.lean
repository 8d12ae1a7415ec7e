/- How the data of a law's arguments read: slices of bytes, of numbers. -/
import Derived.Test.YtofljidmdabkcaaMem
import Derived.ProofKit
import Derived.OpenShut
import Derived.ShutString
import Derived.ChangeOld
import Derived.Below
import Derived.SizedLaws
namespace Go.Proofs.Ytofljidmdabkcaa
open Go.ChangeShapes Go.WideShapes Go.ChangeAt Go.RowKit
section
variable {H : Type} {enc : TypeId × Value → H} {P : Program} {W : World} {base : Nat} {held : Bool}

theorem addr_lit (a : Addr) (j : Nat) (hs : a.spot = none) : a.add j = ⟨a.block, a.off + j, none⟩ := by
  obtain ⟨b, o, s⟩ := a
  simp only at hs
  subst hs
  exact Addr.add_lit _ _ _

/-- A slice of whole numbers that came in. -/
theorem open_row {t e : TypeId} {k : IntKind} {A : Option Addr} {len cap : Nat} {d : DataW H} {ps : List MemPlace} (hu : P.underlying t = some (.slice e)) (he : P.underlying e = some (.int k)) (hc : P.cellsOf e = 1)
    (h : DataW.Trod enc P W base (fun _ => true) held t (.slice A len cap) d ps) :
    ∃ zs : List Int, zs.length = len ∧ (∀ n ∈ zs, (Lit.int k n).wf = true) ∧ Row (fun b => b < W.heap.size) W (.slice A len cap) len 1 (zs.map (Value.int k)) := by
  obtain ⟨fuel, hf⟩ := h
  rcases open_ints hu he hc hf with ⟨hcs, _⟩ | ⟨x, l, c, zs, hcs, _, hl, hm, hz, _, hcell, hwz⟩
  · simp [Value.cells] at hcs
    obtain ⟨rfl, rfl, rfl⟩ := hcs
    exact ⟨[], rfl, fun _ h => by simp at h, Row.nil _ _ _⟩
  · simp [Value.cells] at hcs
    obtain ⟨rfl, rfl, rfl⟩ := hcs
    have hzl : len ≤ zs.length := by rw [hz]; split <;> omega
    have hlen : (zs.take len).length = len := by simp; omega
    refine ⟨zs.take len, hlen, fun n hn => hwz n (List.mem_of_mem_take hn), ?_⟩
    by_cases h0 : cap = 0
    · subst h0
      obtain rfl : len = 0 := by omega
      exact ⟨some x, 0, rfl, by simp, Nat.zero_le _, hm, .inl rfl⟩
    · by_cases h1 : zs.length = 0
      · simp at hz
        omega
      · have h00 := hcell 0 (by omega)
        have hx0 : x.add 0 = x := by simp [Addr.add]
        rw [hx0] at h00
        have hspot : x.spot = none := by
          unfold World.cell? at h00
          split at h00
          · split at h00
            · simp at h00
            · rename_i hn
              simpa using hn
          · simp at h00
        have hlt := World.block_lt_of_cell? W x h00
        obtain ⟨b, off, spot⟩ := x
        simp only at hspot
        subst hspot
        refine ⟨some ⟨b, off, none⟩, cap, rfl, by simp; omega, hl, hm, .inr ⟨b, off, rfl, hlt, hlt, fun j u hu => ?_⟩⟩
        rw [List.map_take, List.getElem?_take] at hu
        split at hu
        · rename_i hj
          have := hcell j (by omega)
          rw [Addr.add_lit] at this
          rw [this]
          rw [List.getElem?_map] at hu
          have hjz : j < zs.length := by omega
          simp [hjz] at hu ⊢
          exact hu
        · simp at hu
/-- A slice of bytes that came in: its bytes, and that it is no longer than the form's reach. -/
theorem open_bytes {t e : TypeId} {A : Option Addr} {len cap : Nat} {d : DataW H} {ps : List MemPlace} {ts : List TypeId} {ds : List (DataW H)} {j : Nat}
    (hu : P.underlying t = some (.slice e)) (he : P.underlying e = some (.int .u8)) (hc : P.cellsOf e = 1) (hB : P.bytesOf e = 1)
    (hsz : (DataW.weightsEach P ts ds).all (· ≤ reachBytes) = true) (ht : ts[j]? = some t) (hd : ds[j]? = some d)
    (h : DataW.Trod enc P W base (fun _ => true) held t (.slice A len cap) d ps) :
    ∃ l : List UInt8, l.length = len ∧ l.length ≤ 140737488351232 ∧ Row (fun b => b < W.heap.size) W (.slice A l.length cap) l.length 1 (l.map U8) := by
  have hsize : len ≤ 140737488351232 := by
    obtain ⟨fuel, hf⟩ := h
    rcases open_ints hu he hc hf with ⟨hcs, _⟩ | ⟨x, l, c, zs, hcs, _, hl, _, hz, hx, _, _⟩
    · simp [Value.cells] at hcs
      obtain ⟨rfl, rfl, rfl⟩ := hcs
      simp
    · simp [Value.cells] at hcs
      obtain ⟨rfl, rfl, rfl⟩ := hcs
      obtain ⟨hx, _⟩ := Prod.mk.inj hx
      subst hx
      have z := sized_slice hsz ht hd hu
      rw [hB] at z
      simp only [lits, List.length_map, List.length_take, List.length_drop, reachBytes] at z
      simp at hz
      omega
  obtain ⟨zs, hlen, hwf, hrow⟩ := open_row hu he hc h
  have hmap : (zs.map (Value.int .u8)) = ((zs.map fun n => UInt8.ofNat n.toNat).map U8) := by
    rw [List.map_map]
    refine List.map_congr_left (fun n hn => ?_)
    have := hwf n hn
    simp [Lit.wf, IntKind.min, IntKind.max, IntKind.signed, IntKind.bits] at this
    unfold U8
    simp only [Function.comp]
    congr 1
    simp only [UInt8.toNat_ofNat']
    omega
  refine ⟨zs.map fun n => UInt8.ofNat n.toNat, by simpa using hlen, by simp; omega, ?_⟩
  rw [← hmap]
  simpa [hlen] using hrow
end
end Go.Proofs.Ytofljidmdabkcaa

/- Bytes as a text: the conversion's law. -/
import Derived.Test.YtofljidmdabkcaaMem
import Derived.Laws.BytesArg
namespace Go.Proofs.Ytofljidmdabkcaa
open Go.RowKit
/-! ### Bytes as a text -/
def ba (l : List UInt8) : ByteArray := ⟨l.toArray⟩
theorem ba_list (l : List UInt8) : (ba l).data.toList = l := rfl
theorem ba_size (l : List UInt8) : (ba l).size = l.length := by simp [ba, ByteArray.size]
theorem run_str_empty {P : Program} (w : World) (src e : TypeId) (hs : P.underlying src = some (.slice e)) (he : P.underlying e = some (.int .u8)) (A : Option Addr) (dst : TypeId) (hd : P.underlying dst = some .string) :
    (convert src dst (.slice A 0 0)).run P w = .ok (.string (ba [])) w := by
  cases A with
  | none => exact run_convert_bytes_nil w src e hs he _ _ dst hd
  | some a =>
    rw [run_convert_bytes_string w src dst e _ 0 0 hs he hd, run_bytesToString w a 0 0 [] (by simp [loadCells, loadCellsFrom])]
    rfl
theorem run_str_of {P : Program} {F : Nat → Prop} {w : World} {v : Value} {l : List UInt8} (h : Row F w v l.length 1 (l.map U8)) (src e dst : TypeId) (hs : P.underlying src = some (.slice e)) (he : P.underlying e = some (.int .u8))
    (hd : P.underlying dst = some .string) : (convert src dst v).run P w = .ok (.string (ba l)) w := by
  obtain ⟨A, c, rfl, hl, hn, hc, rfl | ⟨b, off, rfl, hF, hb, hcell⟩⟩ := h
  · have : l = [] := List.eq_nil_of_length_eq_zero (by omega)
    subst this
    exact run_str_empty w src e hs he A dst hd
  · have := run_convert_bytes_arg (P := P) w src e hs he b off l.length c (l.map fun x => (x.toNat : Int)) (by simp) (fun i hi => by
      rw [hcell i (U8 l[i]) (by simp [hi])]
      simp [U8, hi]) dst hd
    rw [this]
    congr 2
    simp only [strOfNums, ba, List.map_map]
    congr 2
    exact (List.map_congr_left (fun x _ => by simp)).trans (List.map_id l)
end Go.Proofs.Ytofljidmdabkcaa

/- The walks of codec's reader: the inner functions. -/
import Derived.Test.YtdijafolldneeaaApp
import Derived.Test.YtdijafolldneeaaRdPure
import Derived.Test.YtdijafolldneeaaProg
import Derived.Laws.BytesArg
import Derived.Deep.QuietTactic
import Derived.BigQuiet
import Derived.Recover
namespace Go.Proofs.Ytdijafolldneeaa
open Go.RowKit

/-- A reader's struct at block g. -/
abbrev RdObj (v : Value) (f : Int) : Obj := .cells #[.bool true, v, .int .i64 f] 82 (0, 0)
/-- A reader at block g: what is left, what it failed by; its blocks are of F. -/
def RdAt (F : Nat → Prop) (w : World) (g : Nat) (s : RS) : Prop :=
  ∃ v, w.heap[g]? = some (RdObj v s.f) ∧ Row (fun k => F k ∧ k ≠ g) w v s.b.length 1 (s.b.map U8) ∧ F g
theorem RdAt.keep {F S : Nat → Prop} {w w' : World} {g : Nat} {s : RS} (h : RdAt F w g s) (hk : Keep S w w') (hd : ∀ k, F k → ¬ S k) : RdAt F w' g s := by
  obtain ⟨v, h1, h2, h3⟩ := h
  exact ⟨v, hk.heap h1 (hd g h3), h2.keep hk (fun b hb => hd b hb.1), h3⟩
theorem RdAt.mono {F G : Nat → Prop} {w : World} {g : Nat} {s : RS} (h : RdAt F w g s) (hFG : ∀ k, F k → G k) : RdAt G w g s := by
  obtain ⟨v, h1, h2, h3⟩ := h
  exact ⟨v, h1, h2.mono (fun b hb => ⟨hFG _ hb.1, hb.2⟩), hFG _ h3⟩

/-- The panic of an error's number. -/
abbrev Died (e : Int) : Ending := .panicked [{ v := .iface 24 (.int .i64 e), recovered := false }]

theorem must_ok (e : Int) (w : World) :
    Calls Try.prog 94 #[.bool true, .int .i64 e] w fun en w' => en = .returned (.tuple #[]) ∧ w = w' := by
  go_enter Try.func94, Try.ntmps94
  go_wp2
  go_end0
  exact ⟨rfl, rfl⟩
theorem must_no (e : Int) (w : World) :
    Calls Try.prog 94 #[.bool false, .int .i64 e] w fun en w' => en = Died e ∧ w = w' := by
  go_enter Try.func94, Try.ntmps94
  go_wp2
  exact ⟨rfl, rfl, rfl⟩

section
variable {F : Nat → Prop} {w w' : World} {g b : Nat} {s : RS} {v0 : Value}
/-- What take hands over. -/
def TakePost (F : Nat → Prop) (w : World) (g : Nat) (s : RS) (n : Nat) (e : Ending) (w' : World) : Prop :=
  ∃ v, e = .returned v ∧ Row (fun k => F k ∧ k ≠ g) w' v n 1 ((s.b.take n).map U8) ∧ RdAt F w' g ⟨s.b.drop n, s.f⟩ ∧ Keep (fun k => k = g) w w'
theorem Row.take {F : Nat → Prop} {w w' : World} {b off n len c : Nat} {l : List UInt8} (hl : l.length = len) (hn : n ≤ len) (hc : c ≤ maxLen) (hnc : n ≤ c) (hF : F b) (hb : b < w'.heap.size)
    (hcell : ∀ j u, (l.map U8)[j]? = some u → w.cell? ⟨b, off + j, none⟩ = some u) (hw : ∀ a : Addr, a.block = b → w'.cell? a = w.cell? a) :
    Row F w' (.slice (some ⟨b, off, none⟩) n c) n 1 ((l.take n).map U8) := by
  refine ⟨_, _, rfl, by simp; omega, hnc, hc, .inr ⟨b, off, rfl, hF, hb, fun j u hu => ?_⟩⟩
  rw [hw _ rfl]
  apply hcell
  rw [List.map_take, List.getElem?_take] at hu
  split at hu
  · exact hu
  · simp at hu
theorem Row.drop {F : Nat → Prop} {w w' : World} {b off n len c : Nat} {l : List UInt8} (hl : l.length = len) (hc : c ≤ maxLen) (hnc : len - n ≤ c) (hF : F b) (hb : b < w'.heap.size)
    (hcell : ∀ j u, (l.map U8)[j]? = some u → w.cell? ⟨b, off + j, none⟩ = some u) (hw : ∀ a : Addr, a.block = b → w'.cell? a = w.cell? a) :
    Row F w' (.slice (some ⟨b, off + n, none⟩) (len - n) c) (len - n) 1 ((l.drop n).map U8) := by
  refine ⟨_, _, rfl, by simp; omega, hnc, hc, .inr ⟨b, off + n, rfl, hF, hb, fun j u hu => ?_⟩⟩
  rw [hw _ rfl, Nat.add_assoc]
  apply hcell
  rw [List.map_drop, List.getElem?_drop] at hu
  exact hu

theorem Row.one_inv {F : Nat → Prop} {w : World} {v x : Value} (h : Row F w v 1 1 [x]) : ∃ b off c, v = .slice (some ⟨b, off, none⟩) 1 c ∧ w.cell? ⟨b, off, none⟩ = some x := by
  obtain ⟨A, c, rfl, hl, hn, hc, rfl | ⟨b, off, rfl, hF, hb, hcell⟩⟩ := h
  · omega
  · exact ⟨b, off, c, rfl, by simpa using hcell 0 x rfl⟩
theorem take_fin (_hg : w.heap[g]? = some (RdObj v0 s.f)) {n : Nat} {v v' : Value} (hF : F g) (h1 : Row (fun k => F k ∧ k ≠ g) (w.setCell ⟨g, 1, none⟩ v') v n 1 ((s.b.take n).map U8))
    (h2 : Row (fun k => F k ∧ k ≠ g) (w.setCell ⟨g, 1, none⟩ v') v' (s.b.drop n).length 1 ((s.b.drop n).map U8)) : TakePost F w g s n (.returned v) (w.setCell ⟨g, 1, none⟩ v') :=
  ⟨v, rfl, h1, ⟨v', by rw [heap_set _hg]; rfl, h2, hF⟩, (Keep.refl _ w).setCell _ _ (fun _ => rfl)⟩
theorem set_other {g b : Nat} (h : b ≠ g) (v : Value) : ∀ a : Addr, a.block = b → (w.setCell ⟨g, 1, none⟩ v).cell? a = w.cell? a := fun a ha => by
  rw [World.cell?_setCell_other]
  intro e
  subst e
  exact h ha.symm
set_option maxHeartbeats 400000 in
theorem take_ok (h : RdAt F w g s) (n : Nat) (hn : n ≤ s.b.length) :
    Calls Try.prog 93 #[.pointer (some ⟨g, 0, none⟩), .int .i64 n] w (TakePost F w g s n) := by
  obtain ⟨v, hg, ⟨A, c, rfl, hl, hlc, hc, hA⟩, hF⟩ := h
  have c1 := cell_at hg 1 (.slice A s.b.length c) rfl
  have f1 := free_at hg 1
  have HG := hid hg
  have hgs := lt_heap hg
  generalize hlen : s.b.length = len at *
  have HL := hid hlen
  have hd : decide (n ≤ len) = true := decide_eq_true hn
  unfold maxLen at hc
  clear hl hlen
  rcases hA with rfl | ⟨b, off, rfl, hFb, hb, hcell⟩
  · obtain rfl : len = 0 := by omega
    obtain rfl : n = 0 := by omega
    clear hg
    rcases A with _ | a
    all_goals
      go_enter Try.func93, Try.ntmps93
      go_wp2_with fail
      refine (must_ok _ _).mono ?_
      rintro e w' ⟨rfl, rfl⟩
      go_wp2
      go_ret
      have hnil : s.b = [] := List.eq_nil_of_length_eq_zero HL.out
      refine take_fin HG.out hF ?_ ?_
      · simpa [hnil] using Row.empty _ _ _
      · simpa [hnil] using Row.empty _ _ _
  · have HC := hid hcell
    have HB := hid hFb.2
    have hFb' := hFb.1
    clear hg hcell hFb
    go_enter Try.func93, Try.ntmps93
    go_wp2_with fail
    refine (must_ok _ _).mono ?_
    rintro e w' ⟨rfl, rfl⟩
    go_wp2
    · obtain rfl : c = n := by assumption
      go_ret
      refine take_fin HG.out hF ?_ ?_
      · exact Row.take HL.out hn (by unfold maxLen; omega) (Nat.le_refl _) ⟨hFb', HB.out⟩ (by simpa using hb) HC.out (set_other HB.out _)
      · obtain rfl : len = c := by omega
        have : s.b.drop len = [] := List.drop_of_length_le (by rw [HL.out]; exact Nat.le_refl _)
        rw [this]
        refine ⟨_, _, by simp, rfl, Nat.le_refl _, Nat.zero_le _, .inr ⟨b, off, rfl, ⟨hFb', HB.out⟩, by simpa using hb, fun j u hu => by simp at hu⟩⟩
    · go_ret
      refine take_fin HG.out hF ?_ ?_
      · exact Row.take HL.out hn (by unfold maxLen; omega) (Nat.le_refl _) ⟨hFb', HB.out⟩ (by simpa using hb) HC.out (set_other HB.out _)
      · have := Row.drop (F := fun k => F k ∧ k ≠ g) (n := n) (c := c - n) HL.out (by unfold maxLen; omega) (by omega) ⟨hFb', HB.out⟩ (w := w) (w' := w.setCell ⟨g, 1, none⟩ (.slice (some ⟨b, off + n, none⟩) (len - n) (c - n))) (by simpa using hb) HC.out (set_other HB.out _)
        simpa [HL.out] using this
theorem take_no (h : RdAt F w g s) (n : Nat) (hn : s.b.length < n) (_hn' : n ≤ 9223372036854775807) :
    Calls Try.prog 93 #[.pointer (some ⟨g, 0, none⟩), .int .i64 n] w fun e w' => e = Died 2 ∧ w = w' := by
  obtain ⟨v, hg, ⟨A, c, rfl, hl, hlc, hc, hA⟩, hF⟩ := h
  have c1 := cell_at hg 1 (.slice A s.b.length c) rfl
  have hd : decide (n ≤ s.b.length) = false := decide_eq_false (by omega)
  clear hg
  go_enter Try.func93, Try.ntmps93
  go_wp2_with fail
  refine (must_no _ _).mono ?_
  rintro e w' ⟨rfl, rfl⟩
  go_wp2
  exact ⟨rfl, rfl, rfl⟩

/-- What an inner read comes to: it dies of an error's number, or gives a value; the reader stands behind it. -/
def InPost {α : Type} (F : Nat → Prop) (w : World) (g : Nat) (f : Int) (val : α → Value → World → Prop) (r : Int ⊕ (α × List UInt8)) (e : Ending) (w' : World) : Prop :=
  Keep (fun k => k = g) w w' ∧ match r with
    | .inl er => e = Died er ∧ ∃ l, RdAt F w' g ⟨l, f⟩
    | .inr (x, l) => ∃ v, e = .returned v ∧ val x v w' ∧ RdAt F w' g ⟨l, f⟩

theorem InPost.died {α : Type} {f : Int} {val : α → Value → World → Prop} {r : Int ⊕ (α × List UInt8)} {er : Int} {l : List UInt8} (hr : r = .inl er) (hk : Keep (fun k => k = g) w w') (h : RdAt F w' g ⟨l, f⟩) :
    InPost F w g f val r (Died er) w' := ⟨hk, by rw [hr]; exact ⟨rfl, l, h⟩⟩
theorem InPost.gave {α : Type} {f : Int} {val : α → Value → World → Prop} {r : Int ⊕ (α × List UInt8)} {x : α} {v : Value} {l : List UInt8} (hr : r = .inr (x, l)) (hk : Keep (fun k => k = g) w w') (hv : val x v w') (h : RdAt F w' g ⟨l, f⟩) :
    InPost F w g f val r (.returned v) w' := ⟨hk, by rw [hr]; exact ⟨v, rfl, hv, h⟩⟩
/-- One digit more: as the walk spells it. -/
theorem digit_and (c : Nat) : bits .and .i64 (c : Int) 127 = ((c % 128 : Nat) : Int) := by rw [i64_and127]; simp
theorem digit_bound {d i : Nat} (hd : d < 128) (hi : i ≤ 5) : d * 128 ^ i < 4398046511104 := by
  have : (128 : Nat) ^ i ≤ 128 ^ 5 := Nat.pow_le_pow_right (by decide) hi
  calc d * 128 ^ i ≤ 127 * 128 ^ 5 := Nat.mul_le_mul (by omega) this
    _ < 4398046511104 := by decide
theorem pow7 (i : Nat) : (2 : Nat) ^ (7 * i) = 128 ^ i := by rw [Nat.pow_mul]
theorem digit_shl {d i : Nat} (hd : d < 128) (hi : i ≤ 5) : wrap64 ((d : Int) * 2 ^ (7 * i)) = ((d * 128 ^ i : Nat) : Int) := by
  have h2 : ((2 : Int) ^ (7 * i)) = ((128 ^ i : Nat) : Int) := by rw [← pow7]; simp
  have := digit_bound hd hi
  rw [h2, ← Int.natCast_mul]
  generalize d * 128 ^ i = m at *
  unfold wrap64
  omega
theorem wraps_i64 (n : Int) (h0 : 0 ≤ n) (h1 : n < 2 ^ 50) : IntKind.i64.wrap n = n := by
  rw [IntKind.wrap_i64]; omega
theorem digit_next {acc d p : Nat} (ha : acc < p) (hd : d < 128) : acc + d * p < p * 128 := by
  have h2 : d * p ≤ 127 * p := Nat.mul_le_mul_right _ (by omega)
  generalize d * p = q at *
  omega
theorem or_comm' (k : IntKind) (x y : Int) : bits .or k x y = bits .or k y x := by simp only [bits, BitVec.or_comm]
theorem digit_or {acc d i : Nat} (ha : acc < 128 ^ i) (hd : d < 128) (hi : i ≤ 5) : bits .or .i64 (acc : Int) ((d * 128 ^ i : Nat) : Int) = ((acc + d * 128 ^ i : Nat) : Int) := by
  have hb := digit_bound hd hi
  have h5 : (128 : Nat) ^ i ≤ 128 ^ 5 := Nat.pow_le_pow_right (by decide) hi
  have h5' : (128 : Nat) ^ 5 < 1125899906842624 := by decide
  rw [or_comm', bits_join .i64 50 (by decide) wraps_i64 (7 * i)]
  · rw [Int.add_comm, ← Int.natCast_add]
  · exact Int.natCast_nonneg _
  · have : ((2 : Int) ^ (7 * i)) = ((128 ^ i : Nat) : Int) := by rw [← pow7]; simp
    rw [this, ← Int.natCast_emod, Nat.mul_mod_left]
    rfl
  · generalize d * 128 ^ i = m at *
    omega
  · exact Int.natCast_nonneg _
  · have : ((2 : Int) ^ (7 * i)) = ((128 ^ i : Nat) : Int) := by rw [← pow7]; simp
    rw [this]
    exact_mod_cast ha
  · generalize 128 ^ i = m at *
    omega

def RNum (F : Nat → Prop) (w wr : World) (g : Nat) (s : RS) (i acc : Nat) : Prop :=
  ∃ l, RdAt F wr g ⟨l, s.f⟩ ∧ Keep (fun k => k = g) w wr ∧ numFrom (6 - i) i acc l = decNum s.b ∧ acc < 128 ^ i ∧ i ≤ 6

set_option maxRecDepth 20000 in
set_option maxHeartbeats 400000 in
theorem num_in (h : RdAt F w g s) :
    Calls Try.prog 69 #[.pointer (some ⟨g, 0, none⟩)] w (InPost F w g s.f (fun (n : Nat) v _ => v = .int .i64 n) (decNum s.b)) := by
  have HL : RNum F w w g s 0 0 := ⟨s.b, h, Keep.refl _ _, rfl, by decide, by decide⟩
  clear h
  go_enter Try.func69, Try.ntmps69
  go_wp2_with fail
  go_loopw [3, 6] (fun nv iv wr => ∃ i acc : Nat, nv = .int .i64 acc ∧ iv = .int .i64 i ∧ RNum F w wr g s i acc) (fun _ iv _ => (6 - intOf iv).toNat)
  case atStart => exact ⟨0, 0, rfl, rfl, HL⟩
  case round =>
    obtain ⟨i, acc, rfl, rfl, l, hr, hkp, he, hacc, hi6⟩ := hrel
    have HE := hid he
    have HA := hid hacc
    clear he HL hacc
    by_cases h6 : i < 6
    · rcases l with _ | ⟨c, l⟩
      · go_wp2_with fail
        refine (take_no hr 1 (by simp) (by decide)).mono ?_
        rintro e w' ⟨rfl, rfl⟩
        go_wp2
        refine ⟨rfl, hkp, ?_⟩
        have := HE.out
        obtain ⟨k, hk⟩ : ∃ k, 6 - i = k + 1 := ⟨5 - i, by omega⟩
        rw [hk] at this
        simp only [numFrom] at this
        rw [← this]
        exact ⟨rfl, _, hr⟩
      · go_wp2_with fail
        refine (take_ok hr 1 (by simp)).mono ?_
        rintro e w1 ⟨v, rfl, hv, hr1, hk1⟩
        obtain ⟨b, off, cap, rfl, hcell⟩ := hv.one_inv
        have hc := c.toNat_lt
        unfold U8 at hcell
        generalize hcn : c.toNat = cn at *
        have HCN := hid hcn
        obtain ⟨d, hd⟩ : ∃ d, d = cn % 128 := ⟨_, rfl⟩
        have hd7 : d < 128 := by omega
        obtain ⟨m, hm⟩ : ∃ m, m = d * 128 ^ i := ⟨_, rfl⟩
        obtain ⟨a, ha⟩ : ∃ a, a = acc + m := ⟨_, rfl⟩
        have b1 := digit_and cn
        have b2 := digit_shl (i := i) hd7 (by omega)
        have b3 := digit_or HA.out hd7 (show i ≤ 5 by omega)
        have hab : a < 128 ^ (i + 1) := by
          rw [Nat.pow_succ, ha, hm]
          exact digit_next HA.out hd7
        have ha6 : a < 4398046511104 := Nat.lt_of_lt_of_le hab (Nat.pow_le_pow_right (by decide) (show i + 1 ≤ 6 by omega))
        rw [← hd] at b1
        rw [← hm] at b2 b3
        rw [← ha] at b3
        have HM := hid hm
        have HAA := hid ha
        have HD := hid hd
        have HAB := hid hab
        clear hcn hr hv hm ha hd hab
        by_cases h128 : cn < 128
        · by_cases hgood : (0 < cn ∨ i = 0) ∧ a ≤ 1099511627776
          · have hd0 : decide ((a : Int) ≤ 1099511627776) = true := decide_eq_true (by omega)
            have HR : numFrom (6 - i) i acc (c :: l) = .inr (a, l) := by
              obtain ⟨k, hk⟩ : ∃ k, 6 - i = k + 1 := ⟨5 - i, by omega⟩
              have hdc : d = cn := by rw [HD.out]; omega
              rw [hk]
              simp only [numFrom, HCN.out, if_pos h128]
              rw [← hdc, ← HM.out, ← HAA.out, if_pos (by rw [hdc]; exact hgood)]
            have HR2 := hid HR
            clear HR
            go_wp2_with fail
            all_goals
              refine (must_ok _ _).mono ?_
              rintro e w' ⟨rfl, rfl⟩
              go_wp2
              go_ret
              refine ⟨hkp.trans hk1 (fun _ _ h => h), ?_⟩
              rw [← HE.out, HR2.out]
              exact ⟨_, rfl, rfl, by simpa using hr1⟩
          · have HR : numFrom (6 - i) i acc (c :: l) = .inl 4 := by
              obtain ⟨k, hk⟩ : ∃ k, 6 - i = k + 1 := ⟨5 - i, by omega⟩
              have hdc : d = cn := by rw [HD.out]; omega
              rw [hk]
              simp only [numFrom, HCN.out, if_pos h128]
              rw [← hdc, ← HM.out, ← HAA.out, if_neg (by rw [hdc]; exact hgood)]
            have HR2 := hid HR
            clear HR
            have hcases : (cn = 0 ∧ i ≠ 0) ∨ (1099511627776 < a ∧ (0 < cn ∨ i = 0)) := by omega
            rcases hcases with ⟨rfl, hi0⟩ | ⟨hbig, hok⟩
            · go_wp2_with fail
              refine (must_no _ _).mono ?_
              rintro e w' ⟨rfl, rfl⟩
              go_wp2
              refine ⟨rfl, hkp.trans hk1 (fun _ _ h => h), ?_⟩
              rw [← HE.out, HR2.out]
              exact ⟨rfl, _, hr1⟩
            · have hd0 : decide ((a : Int) ≤ 1099511627776) = false := decide_eq_false (by omega)
              go_wp2_with fail
              all_goals
                refine (must_no _ _).mono ?_
                rintro e w' ⟨rfl, rfl⟩
                go_wp2
                refine ⟨rfl, hkp.trans hk1 (fun _ _ h => h), ?_⟩
                rw [← HE.out, HR2.out]
                exact ⟨rfl, _, hr1⟩
        · go_wp2_with fail
          refine ⟨⟨i + 1, a, rfl, by simp, l, by simpa using hr1, hkp.trans hk1 (fun _ _ h => h), ?_, HAB.out, by omega⟩, by simp [intOf]; omega⟩
          rw [← HE.out]
          obtain ⟨k, hk⟩ : ∃ k, 6 - i = k + 1 := ⟨5 - i, by omega⟩
          have hk' : 6 - (i + 1) = k := by omega
          have hdc : c.toNat - 128 = d := by rw [HCN.out, HD.out]; omega
          rw [hk, hk']
          simp only [numFrom, HCN.out, if_neg h128]
          rw [← HCN.out, hdc, ← HM.out, ← HAA.out]
    · go_wp2_with fail
      refine ⟨rfl, hkp, ?_⟩
      obtain rfl : i = 6 := by omega
      have := HE.out
      simp only [numFrom, Nat.sub_self] at this
      rw [← this]
      exact ⟨rfl, _, hr⟩

theorem bigNum_snoc (l : List UInt8) (c : UInt8) : bigNum (l ++ [c]) = bigNum l * 256 + c.toNat := by simp [bigNum]
theorem bigFold_lt : ∀ (l : List UInt8) (x : Nat), l.foldl (fun x c => x * 256 + c.toNat) x < (x + 1) * 256 ^ l.length
  | [], x => by simp
  | c :: l, x => by
    have h := bigFold_lt l (x * 256 + c.toNat)
    have hc := c.toNat_lt
    simp only [List.foldl_cons, List.length_cons]
    refine Nat.lt_of_lt_of_le h ?_
    rw [Nat.pow_succ, Nat.mul_comm (256 ^ l.length), ← Nat.mul_assoc]
    exact Nat.mul_le_mul_right _ (by omega)
theorem bigNum_lt (l : List UInt8) : bigNum l < 256 ^ l.length := by
  have := bigFold_lt l 0
  rw [Nat.zero_add, Nat.one_mul] at this
  exact this
theorem take_snoc {l : List UInt8} {k : Nat} (h : k < l.length) : l.take (k + 1) = l.take k ++ [l.getD k 0] := by
  rw [List.take_succ_eq_append_getElem h]; simp [h]
theorem Row.byte {F : Nat → Prop} {w : World} {v : Value} {l : List UInt8} (h : Row F w v l.length 1 (l.map U8)) (hpos : 0 < l.length) :
    ∃ b off c, v = .slice (some ⟨b, off, none⟩) l.length c ∧ l.length ≤ c ∧ c ≤ maxLen ∧ ∀ j, j < l.length → w.cell? ⟨b, off + j, none⟩ = some (.int .u8 ((l.getD j 0).toNat : Int)) := by
  obtain ⟨A, c, rfl, hl, hn, hc, rfl | ⟨b, off, rfl, hF, hb, hcell⟩⟩ := h
  · omega
  · exact ⟨b, off, c, rfl, hn, hc, fun j hj => hcell j _ (by simp [hj, U8])⟩

theorem or_u64 {x c : Nat} (hx : x < 72057594037927936) (hc : c < 2 ^ 8) : bits .or .u64 ((x : Int) * 256) (c : Int) = ((x * 256 + c : Nat) : Int) := by
  rw [bits_join .u64 64 (by decide) (fun n h0 h1 => by rw [IntKind.wrap_u64]; omega) 8]
  · simp
  all_goals omega

set_option maxRecDepth 20000 in
set_option maxHeartbeats 400000 in
theorem number_calls {v : Value} {l : List UInt8} (h : Row F w v l.length 1 (l.map U8)) (hpos : 0 < l.length) (h8 : l.length ≤ 8) :
    Calls Try.prog 109 #[v] w fun e w' => e = .returned (.int .u64 (bigNum l)) ∧ w = w' := by
  obtain ⟨b, off, c, rfl, hlc, hc, hcell⟩ := h.byte hpos
  have HC := hid hcell
  clear hcell
  generalize hlen : l.length = len at *
  have HL := hid hlen
  clear hlen
  unfold maxLen at hc
  go_enter Try.func109, Try.ntmps109
  go_wp2_with fail
  go_loop [3, 8] (fun x i => ∃ k : Nat, k ≤ len ∧ i = .int .i64 k ∧ x = .int .u64 (bigNum (l.take k))) (fun _ i => len - (intOf i).toNat)
  case atStart => exact ⟨0, Nat.zero_le _, rfl, rfl⟩
  case round =>
    obtain ⟨k, hk, rfl, rfl⟩ := hrel
    by_cases hlt : k < len
    · have hcell := HC.out k hlt
      have hsn : bigNum (l.take (k + 1)) = bigNum (l.take k) * 256 + (l.getD k 0).toNat := by
        rw [take_snoc (by rw [HL.out]; exact hlt), bigNum_snoc]
      have hb := bigNum_lt (l.take k)
      have hcb := (l.getD k 0).toNat_lt
      rw [List.length_take, HL.out, Nat.min_eq_left hk] at hb
      generalize (l.getD k 0).toNat = cn at *
      generalize bigNum (l.take k) = x at *
      have hx : x < 72057594037927936 := Nat.lt_of_lt_of_le hb (Nat.pow_le_pow_right (by decide) (show k ≤ 7 by omega))
      have HS := hid hsn
      clear hsn hb
      go_wp2_with fail
      refine ⟨⟨k + 1, by omega, by simp, ?_⟩, by simp [intOf]; omega⟩
      rw [HS.out, or_u64 (by omega) hcb]
    · go_wp2_with fail
      go_ret
      obtain rfl : k = len := by omega
      rw [List.take_of_length_le (by rw [HL.out]; exact Nat.le_refl _)]
      exact ⟨rfl, rfl⟩

theorem decBytes_len {most : Int} {l x r : List UInt8} (h : decBytes most l = .inr (x, r)) : x.length ≤ l.length := by
  unfold decBytes at h
  split at h
  · simp at h
  · rename_i n r' hd
    have := (numFrom_le _ _ _ _ _ _ hd).2
    split at h
    · unfold takeN at h
      split at h
      · simp only [Sum.inr.injEq, Prod.mk.injEq] at h
        obtain ⟨rfl, rfl⟩ := h
        simp only [List.length_take]
        omega
      · simp at h
    · simp at h
theorem Try.bytesT' : SlT Try.prog 23 5 (.int .u8 0) 1 1 := SlT.mk' Try.underlying23 (by kernel_rfl) rfl (by decide)
/-! ### bytes -/
set_option maxHeartbeats 400000 in
theorem bytes_in (h : RdAt F w g s) (most : Int) :
    Calls Try.prog 106 #[.pointer (some ⟨g, 0, none⟩), .int .i64 most] w (InPost F w g s.f (fun (x : List UInt8) v w' => Row (fun k => F k ∧ k ≠ g) w' v x.length 1 (x.map U8)) (decBytes most s.b)) := by
  go_enter Try.func106, Try.ntmps106
  go_wp2_with fail
  refine (num_in h).mono ?_
  rintro e w1 ⟨hk1, hp⟩
  rcases hdn : decNum s.b with er | ⟨n, r⟩
  · rw [hdn] at hp
    obtain ⟨rfl, l, hr1⟩ := hp
    have HR := hid (show decBytes most s.b = .inl er by simp [decBytes, hdn])
    clear hdn
    go_wp2
    exact ⟨rfl, .died HR.out hk1 hr1⟩
  · rw [hdn] at hp
    obtain ⟨v, rfl, rfl, hr1⟩ := hp
    have hn := (numFrom_le _ _ _ _ _ _ hdn).1
    by_cases hm : (n : Int) ≤ most
    · have HR := hid (show decBytes most s.b = takeN n r by simp [decBytes, hdn, hm])
      have hd : decide ((n : Int) ≤ most) = true := decide_eq_true hm
      clear hdn
      go_wp2_with fail
      refine (must_ok _ _).mono ?_
      rintro e w' ⟨rfl, rfl⟩
      go_wp2_with fail
      by_cases hl : n ≤ r.length
      · refine (take_ok hr1 n hl).mono ?_
        rintro e w2 ⟨v, rfl, hv, hr2, hk2⟩
        go_wp2
        go_ret
        have hlen : (r.take n).length = n := by simp [hl]
        exact .gave (by rw [HR.out, takeN, if_pos hl]) (hk1.trans hk2 (fun _ _ h => h)) (by simp only [hlen]; exact hv) hr2
      · refine (take_no hr1 n (by simp only; omega) (by omega)).mono ?_
        rintro e w' ⟨rfl, rfl⟩
        go_wp2
        exact ⟨rfl, .died (by rw [HR.out, takeN, if_neg hl]) hk1 hr1⟩
    · have HR := hid (show decBytes most s.b = .inl 3 by simp [decBytes, hdn, hm])
      have hd : decide ((n : Int) ≤ most) = false := decide_eq_false hm
      clear hdn
      go_wp2_with fail
      refine (must_no _ _).mono ?_
      rintro e w' ⟨rfl, rfl⟩
      go_wp2
      exact ⟨rfl, .died HR.out hk1 hr1⟩

/-! ### What the closures do -/
/-- A new variable's block. -/
def Box (w : World) (b : Nat) (v : Value) : Prop := ∃ t, w.heap[b]? = some (.cells #[v] t (0, 0))
theorem Box.cell (h : Box w b v0) : w.cell? ⟨b, 0, none⟩ = some v0 := by obtain ⟨t, h⟩ := h; exact cell_of_one h
theorem Box.free (h : Box w b v0) : w.frozen? ⟨b, 0, none⟩ = false := by obtain ⟨t, h⟩ := h; exact free_of_one h
theorem Box.set (h : Box w b v0) (v : Value) : Box (w.setCell ⟨b, 0, none⟩ v) b v := by obtain ⟨t, h⟩ := h; exact ⟨t, one_setCell h⟩
theorem Box.keep {S : Nat → Prop} (h : Box w b v0) (hk : Keep S w w') (hs : ¬ S b) : Box w' b v0 := by obtain ⟨t, h⟩ := h; exact ⟨t, hk.heap h hs⟩
theorem Box.lt (h : Box w b v0) : b < w.heap.size := by obtain ⟨t, h⟩ := h; exact lt_heap h
/-- What a closure that reads comes to: o is the block of the variable that it writes. -/
def ClPost {α : Type} (F : Nat → Prop) (w : World) (g o : Nat) (val : α → Value → World → Prop) (r : Int ⊕ (α × List UInt8)) (e : Ending) (w' : World) : Prop :=
  Keep (fun k => k = g ∨ k = o) w w' ∧ ∃ v, Box w' o v ∧ match r with
    | .inl er => e = Died er ∧ ∃ l, RdAt F w' g ⟨l, 0⟩
    | .inr (x, l) => e = .returned (.tuple #[]) ∧ val x v w' ∧ RdAt F w' g ⟨l, 0⟩

theorem ClPost.died {α : Type} {o : Nat} {v : Value} {val : α → Value → World → Prop} {r : Int ⊕ (α × List UInt8)} {er : Int} {l : List UInt8} (hr : r = .inl er) (hk : Keep (fun k => k = g ∨ k = o) w w') (ho : Box w' o v) (h : RdAt F w' g ⟨l, 0⟩) :
    ClPost F w g o val r (Died er) w' := ⟨hk, v, ho, by rw [hr]; exact ⟨rfl, l, h⟩⟩
theorem ClPost.gave {α : Type} {o : Nat} {v : Value} {val : α → Value → World → Prop} {r : Int ⊕ (α × List UInt8)} {x : α} {l : List UInt8} (hr : r = .inr (x, l)) (hk : Keep (fun k => k = g ∨ k = o) w w') (ho : Box w' o v) (hv : val x v w') (h : RdAt F w' g ⟨l, 0⟩) :
    ClPost F w g o val r (.returned (.tuple #[])) w' := ⟨hk, v, ho, by rw [hr]; exact ⟨rfl, hv, h⟩⟩

theorem RdAt.set (h : RdAt F w g s) {o : Nat} (ho : ¬ F o) (v : Value) : RdAt F (w.setCell ⟨o, 0, none⟩ v) g s :=
  h.keep (S := fun k => k = o) ((Keep.refl _ w).setCell _ _ (fun _ => rfl)) (fun _ hk e => ho (e ▸ hk))

theorem num1_calls {l : List UInt8} {a o : Nat} {u : Value} (h : RdAt F w g ⟨l, 0⟩) (ha : Box w a (.pointer (some ⟨g, 0, none⟩))) (ho : Box w o u) (hoF : ¬ F o) (hog : o ≠ g) :
    Calls Try.prog 68 #[.pointer (some ⟨a, 0, none⟩), .pointer (some ⟨o, 0, none⟩)] w (ClPost F w g o (fun (n : Nat) v _ => v = .int .i64 n) (decNum l)) := by
  have c0 := ha.cell
  go_enter Try.func68, Try.ntmps68
  go_wp2_with fail
  refine (num_in h).mono ?_
  rintro e w1 ⟨hk1, hp⟩
  have ho1 := ho.keep hk1 hog
  rcases hdn : decNum l with er | ⟨n, r⟩
  · rw [hdn] at hp
    obtain ⟨rfl, l', hr1⟩ := hp
    clear c0
    have HD := hid hdn
    clear hdn
    go_wp2
    exact ⟨rfl, .died HD.out (hk1.mono (fun _ _ h => .inl h)) ho1 hr1⟩
  · rw [hdn] at hp
    obtain ⟨v, rfl, rfl, hr1⟩ := hp
    have c1 := ho1.cell
    have f1 := ho1.free
    have HD := hid hdn
    clear hdn c0
    go_wp2
    go_end0
    exact .gave HD.out ((hk1.mono (fun _ _ h => .inl h)).setCell _ _ (fun _ => .inr rfl)) (ho1.set _) rfl (hr1.set hoF _)
set_option maxHeartbeats 400000 in
theorem bytes1_calls {l : List UInt8} {a m o : Nat} {u : Value} {most : Int} (h : RdAt F w g ⟨l, 0⟩) (ha : Box w a (.pointer (some ⟨g, 0, none⟩))) (hm : Box w m (.int .i64 most)) (ho : Box w o u) (hoF : ¬ F o) (hog : o ≠ g) (hl : l.length ≤ 140737488355328) :
    Calls Try.prog 105 #[.pointer (some ⟨a, 0, none⟩), .pointer (some ⟨m, 0, none⟩), .pointer (some ⟨o, 0, none⟩)] w
      (ClPost F w g o (fun (x : List UInt8) v w' => w'.ownsRow 0 5 1 v x.length (x.map U8) ∧ ∀ k, v.ownBlock = some k → NewIn w w' k) (decBytes most l)) := by
  have c0 := ha.cell
  have c1 := hm.cell
  go_enter Try.func105, Try.ntmps105
  go_wp2_with fail
  refine (bytes_in h most).mono ?_
  rintro e w1 ⟨hk1, hp⟩
  have ho1 := ho.keep hk1 hog
  rcases hdn : decBytes most l with er | ⟨x, r⟩
  · rw [hdn] at hp
    obtain ⟨rfl, l', hr1⟩ := hp
    have HD := hid hdn
    clear hdn c0 c1
    go_wp2
    exact ⟨rfl, .died HD.out (hk1.mono (fun _ _ h => .inl h)) ho1 hr1⟩
  · rw [hdn] at hp
    obtain ⟨v, rfl, hv, hr1⟩ := hp
    have hxl : x.length ≤ 140737488355328 := Nat.le_trans (decBytes_len hdn) hl
    have HD := hid hdn
    clear hdn c0 c1
    go_wp2_with (at_builtin; refine stopHere ?_)
    refine goOn (wpl_app (v := .slice none 0 0) rfl rfl Try.bytesT' rfl (World.ownsRow_nil w1 0 _ 1) rfl hv (by simp [U8, Value.oneCell']) (by omega) (by omega) ?_)
    intro A c w2 ho2 hk2 hn2
    have hob := ho1.keep hk2 (by simp [Value.ownBlock])
    have hr2 : RdAt F w2 g ⟨r, 0⟩ := hr1.keep hk2 (by simp [Value.ownBlock])
    have c1 := hob.cell
    have f1 := hob.free
    have hlt := ho1.lt
    have hs1 := hk1.size
    go_wp2
    go_end0
    have hnew : ∀ k, (Value.slice A (0 + x.length) c).ownBlock = some k → w1.heap.size ≤ k := fun k hk => (hn2 k hk).elim (fun q => by simp [Value.ownBlock] at q) id
    refine .gave HD.out (((hk1.mono (fun _ _ h => .inl h)).trans hk2 (fun _ _ q => by simp [Value.ownBlock] at q)).setCell _ _ (fun _ => .inr rfl)) (hob.set _) ⟨?_, fun k hk => ⟨?_, ?_⟩⟩ (hr2.set hoF _)
    · have := ownsRow_setCell_other ho2 (a := ⟨o, 0, none⟩) (fun e => by have := hnew _ e; simp at this; omega) (.slice A (0 + x.length) c)
      simpa using this
    · have := hnew k (by simpa using hk); omega
    · simpa using own_lt' ho2 k (by simpa using hk)
set_option maxHeartbeats 400000 in
theorem flag1_calls {l : List UInt8} {a o : Nat} {u : Value} (h : RdAt F w g ⟨l, 0⟩) (ha : Box w a (.pointer (some ⟨g, 0, none⟩))) (ho : Box w o u) (hoF : ¬ F o) (hog : o ≠ g) :
    Calls Try.prog 107 #[.pointer (some ⟨a, 0, none⟩), .pointer (some ⟨o, 0, none⟩)] w (ClPost F w g o (fun (b : Bool) v _ => v = .bool b) (decFlag l)) := by
  have c0 := ha.cell
  go_enter Try.func107, Try.ntmps107
  go_wp2_with fail
  rcases l with _ | ⟨c, l⟩
  · refine (take_no h 1 (by simp) (by decide)).mono ?_
    rintro e w' ⟨rfl, rfl⟩
    clear c0
    go_wp2
    exact ⟨rfl, .died rfl (Keep.refl _ _) ho h⟩
  · refine (take_ok h 1 (by simp)).mono ?_
    rintro e w1 ⟨v, rfl, hv, hr1, hk1⟩
    obtain ⟨b, off, cap, rfl, hcell⟩ := hv.one_inv
    have ho1 := ho.keep hk1 hog
    have hc := c.toNat_lt
    have hr2 : RdAt F w1 g ⟨l, 0⟩ := hr1
    unfold U8 at hcell
    have hcn : ∃ cn, cn = c.toNat := ⟨_, rfl⟩
    obtain ⟨cn, hcn⟩ := hcn
    rw [← hcn] at hcell hc
    have HC := hid hcn
    have c1 := ho1.cell
    have f1 := ho1.free
    clear hcn hr1 hv c0
    by_cases h1 : cn ≤ 1
    · have HD : Hid (decFlag (c :: l) = .inr (cn == 1, l)) := by
        unfold Hid
        simp only [decFlag]
        rw [← HC.out, if_pos h1]
      have hd0 : decide ((cn : Int) ≤ 1) = true := decide_eq_true (by omega)
      go_wp2_with fail
      refine (must_ok _ _).mono ?_
      rintro e w' ⟨rfl, rfl⟩
      go_wp2
      go_end0
      refine .gave HD.out ((hk1.mono (fun _ _ h => .inl h)).setCell _ _ (fun _ => .inr rfl)) (ho1.set _) ?_ (hr2.set hoF _)
      congr 1
      first | rfl | (rw [Bool.eq_iff_iff]; simp; omega)
    · have HD : Hid (decFlag (c :: l) = .inl 4) := by
        unfold Hid
        simp only [decFlag]
        rw [← HC.out, if_neg h1]
      have hd0 : decide ((cn : Int) ≤ 1) = false := decide_eq_false (by omega)
      go_wp2_with fail
      refine (must_no _ _).mono ?_
      rintro e w' ⟨rfl, rfl⟩
      go_wp2
      exact ⟨rfl, .died HD.out (hk1.mono (fun _ _ h => .inl h)) ho1 hr2⟩
set_option maxHeartbeats 400000 in
theorem word1_calls {l : List UInt8} {a o : Nat} {u : Value} (h : RdAt F w g ⟨l, 0⟩) (ha : Box w a (.pointer (some ⟨g, 0, none⟩))) (ho : Box w o u) (hoF : ¬ F o) (hog : o ≠ g) :
    Calls Try.prog 108 #[.pointer (some ⟨a, 0, none⟩), .pointer (some ⟨o, 0, none⟩)] w (ClPost F w g o (fun (n : Nat) v _ => v = .int .u64 n) (decWord l)) := by
  have c0 := ha.cell
  go_enter Try.func108, Try.ntmps108
  go_wp2_with fail
  by_cases h8 : 8 ≤ l.length
  · have HD := hid (show decWord l = .inr (bigNum (l.take 8), l.drop 8) by simp [decWord, h8])
    refine (take_ok h 8 h8).mono ?_
    rintro e w1 ⟨v, rfl, hv, hr1, hk1⟩
    have ho1 := ho.keep hk1 hog
    have hr2 : RdAt F w1 g ⟨l.drop 8, 0⟩ := hr1
    have hlen : (l.take 8).length = 8 := by simp [h8]
    have hv' : Row (fun k => F k ∧ k ≠ g) w1 v (l.take 8).length 1 ((l.take 8).map U8) := by rw [hlen]; exact hv
    have c1 := ho1.cell
    have f1 := ho1.free
    have HL := hid hlen
    clear hr1 hv c0 hlen
    go_wp2_with fail
    refine (number_calls hv' (by rw [HL.out]; decide) (by rw [HL.out]; decide)).mono ?_
    rintro e w' ⟨rfl, rfl⟩
    go_wp2
    go_end0
    exact .gave HD.out ((hk1.mono (fun _ _ h => .inl h)).setCell _ _ (fun _ => .inr rfl)) (ho1.set _) rfl (hr2.set hoF _)
  · have HD := hid (show decWord l = .inl 2 by simp [decWord, h8])
    refine (take_no h 8 (by simp only; omega) (by decide)).mono ?_
    rintro e w' ⟨rfl, rfl⟩
    clear c0
    go_wp2
    exact ⟨rfl, .died HD.out (Keep.refl _ _) ho h⟩

/-! ### give -/
theorem give_calls (h : RdAt F w g ⟨s.b, 0⟩) (e : Int) :
    Calls Try.prog 92 #[.pointer (some ⟨g, 0, none⟩), .int .i64 e] w fun en w' => en = .returned (.tuple #[]) ∧ RdAt F w' g ⟨[], e⟩ ∧ Keep (fun k => k = g) w w' := by
  obtain ⟨v, hg, hv, hF⟩ := h
  have c0 := cell_at hg 0 (.bool true) rfl
  have c1 := cell_at hg 1 v rfl
  have c2 := cell_at hg 2 (.int .i64 0) rfl
  have f1 := free_at hg 1
  have f2 := free_at hg 2
  have HG := hid hg
  clear hg
  go_enter Try.func92, Try.ntmps92
  go_wp2
  go_end0
  refine ⟨rfl, ⟨.slice none 0 0, ?_, Row.nil _ _ _, hF⟩, (((Keep.refl (fun k => k = g) w).setCell ⟨g, 2, none⟩ _ (fun _ => rfl)).setCell ⟨g, 1, none⟩ _ (fun _ => rfl))⟩
  rw [heap_set (heap_set HG.out 2 _) 1]
  rfl
theorem give_idle (h : RdAt F w g s) (hf : s.f ≠ 0) (e : Int) :
    Calls Try.prog 92 #[.pointer (some ⟨g, 0, none⟩), .int .i64 e] w fun en w' => en = .returned (.tuple #[]) ∧ w = w' := by
  obtain ⟨v, hg, hv, hF⟩ := h
  have c0 := cell_at hg 0 (.bool true) rfl
  have c2 := cell_at hg 2 (.int .i64 s.f) rfl
  have hf' : (s.f == 0) = false := by simpa using hf
  clear hg
  go_enter Try.func92, Try.ntmps92
  go_wp2
  go_end0
  exact ⟨rfl, rfl⟩

/-! ### reads -/
theorem assert_errno (n : Int) (w : World) : (Instr.typeAssert (.iface 24 (.int .i64 n)) 20 24 true).run Try.prog w = .ok (.tuple #[.int .i64 n, .bool true]) w := by kernel_rfl
theorem catch_idle {a o : Nat} :
    CallsD Try.prog 91 #[.pointer (some ⟨a, 0, none⟩), .pointer (some ⟨o, 0, none⟩)] .returning w fun e u' w' =>
      e = .returned (.tuple #[]) ∧ u' = .returning ∧ w = w' := by
  refine callsD_of_wpS Try.func91 rfl fun c₀ cs hu => ?_
  simp only [Try.ntmps91, List.size_toArray, List.length_cons, List.length_nil, Nat.reduceAdd, Nat.reduceSub, Array.replicate_succ, Array.replicate_zero, List.push_toArray, List.append_toArray, List.nil_append, List.cons_append]
  apply wpS_seq
  apply wpS_region
  simp [wpOpsS, go_sem, recoverD, hu, Exit.thenS]
  refine wpS_of_wp ?_
  go_wp2
  cases c₀
  simp_all [bodyPostS, results, Try.results91]
theorem catch_died {a o : Nat} {u : Value} (h : RdAt F w g ⟨s.b, 0⟩) (ha : Box w a (.pointer (some ⟨g, 0, none⟩))) (ho : Box w o u) (hog : o ≠ g) (er : Int) (older : List PanicEntry) :
    CallsD Try.prog 91 #[.pointer (some ⟨a, 0, none⟩), .pointer (some ⟨o, 0, none⟩)] (.panicking ({ v := .iface 24 (.int .i64 er), recovered := false } :: older)) w fun e u' w' =>
      e = .returned (.tuple #[]) ∧ u' = .panicking ({ v := .iface 24 (.int .i64 er), recovered := true } :: older) ∧ ∃ w1, RdAt F w1 g ⟨[], er⟩ ∧ Keep (fun k => k = g) w w1 ∧ w' = w1.setCell ⟨o, 0, none⟩ (.bool false) := by
  have c0 := ha.cell
  refine callsD_of_wpS Try.func91 rfl fun c₀ cs hu => ?_
  simp only [Try.ntmps91, List.size_toArray, List.length_cons, List.length_nil, Nat.reduceAdd, Nat.reduceSub, Array.replicate_succ, Array.replicate_zero, List.push_toArray, List.append_toArray, List.nil_append, List.cons_append]
  apply wpS_seq
  apply wpS_region
  simp [wpOpsS, go_sem, recoverD, hu, Exit.thenS]
  refine wpS_of_wp ?_
  have hta := assert_errno er
  go_wp2_with fail
  refine (give_calls h er).mono ?_
  rintro e w1 ⟨rfl, hr1, hk1⟩
  have ho1 := ho.keep hk1 hog
  have c1 := ho1.cell
  have f1 := ho1.free
  go_wp2
  clear hu
  cases c₀
  simp [bodyPostS, results, Try.results91]
  exact ⟨w1, hr1, hk1, rfl⟩

/-- The world in which reads has laid its two variables. -/
abbrev rdsW (w : World) (g : Nat) : World := (w.alloc (.cells #[.pointer (some ⟨g, 0, none⟩)] 52)).alloc (.cells #[.bool false] 4)
def ReadsPost {α : Type} (F : Nat → Prop) (w : World) (g o : Nat) (s : RS) (val : α → Value → World → Prop) (r : Int ⊕ (α × List UInt8)) (e : Ending) (w' : World) : Prop :=
  (s.f ≠ 0 ∧ e = .returned (.bool false) ∧ w' = rdsW w g) ∨
  (s.f = 0 ∧ ∃ e2 w2, ClPost F (rdsW w g) g o val r e2 w2 ∧ match r with
    | .inl er => e = .returned (.bool false) ∧ ∃ w3, RdAt F w3 g ⟨[], er⟩ ∧ Keep (fun k => k = g) w2 w3 ∧ w' = w3.setCell ⟨w.heap.size + 1, 0, none⟩ (.bool false)
    | .inr _ => e = .returned (.bool true) ∧ w' = w2.setCell ⟨w.heap.size + 1, 0, none⟩ (.bool true))

set_option maxHeartbeats 400000 in
theorem reads_calls {α : Type} (h : RdAt F w g s) (K : FuncId) (caps : Array Value) (o : Nat) (val : α → Value → World → Prop) (r : Int ⊕ (α × List UInt8)) (ho : o < w.heap.size)
    (hcf : ∀ w, (callFunc K caps).run Try.prog w = .ok (.enter K caps) w) (hd : s.f = 0 → Calls Try.prog K caps (rdsW w g) (ClPost F (rdsW w g) g o val r)) :
    Calls Try.prog 67 #[.pointer (some ⟨g, 0, none⟩), .func (.func K) #[] caps] w (ReadsPost F w g o s val r) := by
  have hmf : ∀ (fn : Fn) (first cap : Array Value) (w : World), (Instr.makeFunc fn first cap).run Try.prog w = .ok (.func fn first cap) w := fun _ _ _ _ => rfl
  obtain ⟨v, hg, hv, hF⟩ := h
  have hgl := lt_heap hg
  have c0 := cell_at hg 0 (.bool true) rfl
  have c2 := cell_at hg 2 (.int .i64 s.f) rfl
  by_cases hf : s.f = 0
  · have HD := hid hd
    rw [hf] at c2
    clear hd
    go_enter_defers Try.func67, Try.ntmps67
    go_wp2_with fail
    refine (HD.out hf).mono ?_
    rintro e w2 hp
    have hp0 := hp
    obtain ⟨hk2, ov, hob, hp⟩ := hp
    have ba : Box (rdsW w g) w.heap.size (.pointer (some ⟨g, 0, none⟩)) := ⟨_, heap_alloc (heap_alloc_new w _) _⟩
    have bo : Box (rdsW w g) (w.heap.size + 1) (.bool false) := ⟨_, by have := heap_alloc_new (w.alloc (.cells #[.pointer (some ⟨g, 0, none⟩)] 52)) (.cells #[.bool false] 4); simpa using this⟩
    have ba2 := ba.keep hk2 (by omega)
    have bo2 := bo.keep hk2 (by omega)
    rcases r with er | ⟨x, l⟩
    · obtain ⟨rfl, l, hr2⟩ := hp
      go_wp2
      refine leaves_cons (f := 91) (args := #[.pointer (some ⟨w.heap.size, 0, none⟩), .pointer (some ⟨w.heap.size + 1, 0, none⟩)]) (by simp) (by simp [go_sem]) ?_
      refine (catch_died (s := ⟨l, 0⟩) hr2 ba2 bo2 (by omega) er []).mono ?_
      rintro e u' w' ⟨rfl, rfl, w3, hr3, hk3, rfl⟩
      have c3 := (bo2.keep hk3 (by omega)).set (.bool false) |>.cell
      simp [Leaves, settle, results, Try.results67, go_sem, c3]
      exact .inr ⟨hf, _, w2, hp0, rfl, w3, hr3, hk3, rfl⟩
    · obtain ⟨rfl, hval, hr2⟩ := hp
      have c1 := bo2.cell
      have f1 := bo2.free
      go_wp2
      refine leaves_cons (f := 91) (args := #[.pointer (some ⟨w.heap.size, 0, none⟩), .pointer (some ⟨w.heap.size + 1, 0, none⟩)]) (by simp) (by simp [go_sem]) ?_
      refine catch_idle.mono ?_
      rintro e u' w' ⟨rfl, rfl, rfl⟩
      have c3 := bo2.set (.bool true) |>.cell
      simp [Leaves, settle, results, Try.results67, go_sem, c3]
      exact .inr ⟨hf, _, w2, hp0, rfl, rfl⟩
  · have hf' : (s.f != 0) = true := by simpa using hf
    clear hd
    go_enter_defers Try.func67, Try.ntmps67
    go_wp2
    simp [bodyPostD, Leaves, results, Try.results67, go_sem]
    exact .inl ⟨hf, rfl, rfl⟩
end
end Go.Proofs.Ytdijafolldneeaa

/- The tally: Promised, those, Further, Ready. -/
import Derived.Test.YthlgnilgjeebaaaTalU
import Derived.Test.YthlgnilgjeebaaaSortK
import Derived.Test.YthlgnilgjeebaaaSets
import Derived.Shelf.SlicesE.DeleteFunc
namespace Go.Proofs.Ythlgnilgjeebaaa
open Go.RowKit Go.MapKept Go.Sort Go.Shelf
/-- Numbers of 64 bits. -/
abbrev W64 := {n : Int // (Lit.int .i64 n).wf = true}
instance : Inhabited W64 := ⟨⟨0, by decide⟩⟩
def encW (x : W64) : Value := .int .i64 x.1
theorem keep_putRowG {α : Type} [Inhabited α] (enc : α → Value) (w : World) (b off n : Nat) (d : Array α) : Keep (fun k => k = b) w (Go.Sort.putRow enc (Go.Sort.ahead w n) b off d) :=
  ⟨rfl, rfl, rfl, by simp [Go.Sort.putRow, Go.Sort.mapBlock, Go.Sort.ahead], fun i _ hi => by
    simp only [Go.Sort.putRow, Go.Sort.mapBlock, Go.Sort.ahead, Array.getElem?_modify]
    rw [if_neg (fun e => hi e.symm)]⟩
theorem toW (l : List Int) (h : ∀ x ∈ l, (Lit.int .i64 x).wf = true) : ∃ d : List W64, d.map (·.1) = l := by
  induction l with
  | nil => exact ⟨[], rfl⟩
  | cons x l ih =>
    obtain ⟨d, hd⟩ := ih (fun y hy => h y (by simp [hy]))
    exact ⟨⟨x, h x (by simp)⟩ :: d, by simp [hd]⟩
theorem filterW (d : List W64) (q : Int → Bool) : (d.filter (fun x => q x.1)).map (·.1) = (d.map (·.1)).filter q := by
  rw [List.filter_map]; rfl
section
variable {F G S : Nat → Prop} {w w' : World} {g m1 m2 m3 : Nat} {s : TS} {vm : Value} {M : List Int}
theorem MapI.wfs {α : Type} {E : World → α → Value → Prop} {b : Nat} {l : List (Int × α)} (h : MapI E w b l) : ∀ x ∈ keysS l, (Lit.int .i64 x).wf = true := by
  intro x hx
  rw [keysS, List.mem_mergeSort, List.mem_map] at hx
  obtain ⟨p, hp, rfl⟩ := hx
  obtain ⟨i, hi⟩ := List.getElem?_of_mem hp
  obtain ⟨es, clock, h1, h2, h3, h4, h5⟩ := h
  obtain ⟨e, _, _, q, _⟩ := h5 i p hi
  exact q
theorem own_base {B e size n : Nat} {v : Value} {xs : List Value} (h : w.ownsRow B e size v n xs) : w.ownsRow 0 e size v n xs ∧ ∀ b, v.ownBlock = some b → B ≤ b := by
  refine ⟨⟨h.1, ?_⟩, fun b hb => (h.lt b hb).1⟩
  rcases h.2 with hn | ⟨g, cap, cur, rfl, hb, rest⟩
  · exact .inl hn
  · exact .inr ⟨g, cap, cur, rfl, Nat.zero_le _, rest⟩
theorem gat_cast {wr : World} {u : Value} {l : List Int} {n : Nat} (h : wr.ownsRow 0 3 1 u n (l.map Go.encZ)) (hn : n = l.length) (hnew : ∀ b, u.ownBlock = some b → w.heap.size ≤ b) (hk : Keep (fun _ => False) w wr) : Gat w wr u l := by
  subst hn
  exact ⟨h, hnew, hk⟩
theorem promised_calls (h : TalAt F w g s) (hl : s.pr.length ≤ 1000000) :
    Calls Try.prog 20 #[.pointer (some ⟨g, 0, none⟩)] w fun e w' => ∃ u, e = .returned u ∧ Gat w w' u (keysS s.pr) := by
  have H := hid h
  obtain ⟨m1, m2, m3, hm⟩ := h
  have c2 := cell_at hm.obj 2 (.map (some m1)) rfl
  have HM := hid hm
  clear hm
  go_enter Try.func20, Try.ntmps20
  go_wp2_with fail
  refine (made_calls H.out).mono ?_
  rintro e w' ⟨rfl, rfl⟩
  go_wp2_with fail
  refine (keysF_calls (some m1) w).mono ?_
  rintro e w' ⟨rfl, rfl⟩
  have ka : Keep (fun _ => False) w (w.alloc (.cells #[.map (some m1)] 59)) := (Keep.refl _ w).alloc _
  have hsort := sortedF_calls (Bm := w.heap.size) (HM.out.pr.keep ka id (fun _ _ q => q)) hl (cell_at (heap_alloc_new w _) 0 _ rfl)
  go_wp2_with fail
  refine hsort.mono ?_
  rintro e w2 ⟨v2, rfl, ho2, hb2⟩
  have k2 : Keep (fun _ => False) w w2 := ka.trans ⟨hb2.os, hb2.tape, hb2.output, hb2.size, fun k hk _ => hb2.block k hk⟩ (fun _ _ f => f)
  have hg2 : Gat w w2 v2 (keysS s.pr) := gat_cast (own_base ho2).1 (keysS_length _).symm (fun b hb => by have := (own_base ho2).2 b hb; simp at this; omega) k2
  have HG := hid hg2
  clear hg2 ho2 hb2 k2 hsort
  go_wp2_with fail
  go_ret
  exact ⟨_, rfl, HG.out⟩

def prAt (s : TS) (k : Int) : Int := (look s.pr k).getD 0
def soF (ab : Bool) : FuncId := if ab then 48 else 53
def soB (ab : Bool) (slot base : Int) : Bool := if ab then decide (slot < base) else decide (base ≤ slot)
theorem so_calls (ab : Bool) {bs : Nat} {slot : Int} (hc : w.cell? ⟨bs, 0, none⟩ = some (.int .i64 slot)) (base : Int) :
    Calls Try.prog (soF ab) #[.int .i64 base, .pointer (some ⟨bs, 0, none⟩)] w fun e w' => e = .returned (.bool (soB ab slot base)) ∧ w = w' := by
  cases ab
  · show Calls Try.prog 53 _ _ _
    go_enter Try.func53, Try.ntmps53
    go_wp2_with fail
    go_ret
    exact ⟨rfl, rfl⟩
  · show Calls Try.prog 48 _ _ _
    go_enter Try.func48, Try.ntmps48
    go_wp2_with fail
    go_ret
    exact ⟨rfl, rfl⟩
theorem pr_look (h : TalM F w g s m1 m2 m3) (k : Int) (hk : (Lit.int .i64 k).wf = true) :
    (Instr.lookup 59 (.map (some m1)) (.int .i64 k) false).run Try.prog w = .ok (.int .i64 (prAt s k)) w := by
  have hz : (zeroValue 3).run Try.prog w = .ok (.int .i64 0) w := by kernel_rfl
  rcases h.pr.lookup Try.underlying59 Try.underlying3 hk hz false with ⟨hl, hrun⟩ | ⟨x, u0, hl, rfl, hrun⟩
  · rw [prAt, hl]; exact hrun
  · rw [prAt, hl]; exact hrun
set_option maxRecDepth 20000 in
theorem those1_gives (h : TalM F w g s m1 m2 m3) (ab : Bool) {b1 b2 bs : Nat} {slot : Int} (hb1 : w.cell? ⟨b1, 0, none⟩ = some (.pointer (some ⟨g, 0, none⟩))) (hb2 : w.cell? ⟨b2, 0, none⟩ = some (.func (.func (soF ab)) #[] #[.pointer (some ⟨bs, 0, none⟩)]))
    (hbs : w.cell? ⟨bs, 0, none⟩ = some (.int .i64 slot)) (x : W64) : FnGives Try.prog 63 #[.pointer (some ⟨b2, 0, none⟩), .pointer (some ⟨b1, 0, none⟩)] #[encW x] (.bool (!soB ab slot (prAt s x.1))) w := by
  show Calls Try.prog 63 #[.int .i64 x.1, .pointer (some ⟨b2, 0, none⟩), .pointer (some ⟨b1, 0, none⟩)] w _
  have hlook := fun n => pr_look (h.keep ((Keep.refl (fun _ => False) w).drewN n) (fun _ _ => id)) x.1 x.2
  have hso := fun n base => so_calls (w := w.drewN n) ab (bs := bs) (slot := slot) hbs base
  have c2 := cell_at h.obj 2 (.map (some m1)) rfl
  generalize prAt s x.1 = base at *
  generalize x.1 = k at *
  clear h
  cases ab
  all_goals
    simp only [soF, if_true, Bool.false_eq_true, if_false] at hb2 hso
    go_enter Try.func63, Try.ntmps63
    go_wp2_with fail
    go_quiet ((first | (go_at_call 48; exact quietS (hso _ _)) | (go_at_call 53; exact quietS (hso _ _))))
    all_goals
      go_wp2_with fail
      go_ret
      exact ⟨rfl, _, rfl⟩
end
end Go.Proofs.Ythlgnilgjeebaaa

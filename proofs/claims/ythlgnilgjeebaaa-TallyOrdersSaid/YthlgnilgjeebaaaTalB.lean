/- The tally: Base; maps.Values, slices.Collect. -/
import Derived.Test.YthlgnilgjeebaaaTalL
import Derived.Test.YthlgnilgjeebaaaAppIn
import Derived.LoopNIn
import Derived.LoopIn
namespace Go.Proofs.Ythlgnilgjeebaaa
open Go.RowKit Go.MapKept Go.Sort Go.Shelf
attribute [local go_sem] Oper.semAt_some
theorem perm_nd : ∀ {a b : List Int}, a.Nodup → b.Nodup → (∀ x, x ∈ a ↔ x ∈ b) → a.Perm b
  | [], [], _, _, _ => .refl _
  | [], y :: b, _, _, h => absurd ((h y).2 (by simp)) (by simp)
  | x :: a, b, ha, hb, h => by
    rw [List.nodup_cons] at ha
    have hx : x ∈ b := (h x).1 (by simp)
    refine List.Perm.trans (List.Perm.cons x (perm_nd ha.2 (hb.erase x) (fun y => ?_))) (List.perm_cons_erase hx).symm
    rw [List.Nodup.mem_erase_iff hb, ← h y, List.mem_cons]
    constructor
    · intro hy
      exact ⟨fun e => ha.1 (e ▸ hy), .inr hy⟩
    · rintro ⟨h1, h2 | h2⟩
      · exact absurd h2 h1
      · exact h2
theorem nd_len : ∀ {a b : List Int}, a.Nodup → (∀ x ∈ a, x ∈ b) → a.length ≤ b.length
  | [], _, _, _ => Nat.zero_le _
  | x :: a, b, ha, h => by
    rw [List.nodup_cons] at ha
    have hx : x ∈ b := h x (by simp)
    have := nd_len (b := b.erase x) ha.2 (fun y hy => (List.mem_erase_of_ne (fun e => ha.1 (by rw [← e]; exact hy))).2 (h y (by simp [hy])))
    have := List.length_erase_of_mem hx
    have : 0 < b.length := List.length_pos_of_mem hx
    simp only [List.length_cons]
    omega
section
variable {α : Type} {E : World → α → Value → Prop} {w w' : World} {b r : Nat} {l : List (Int × α)} {dn : List Int} {P : Program} {F : Fence} {N : Nat}
theorem wplIn_range {ops : Array Oper} {rest : List Oper} {o : Oper} {a : Act} {Q : Exit → Act → World → Prop} (hg : o.guard = none) {m : Operand} {t k e : TypeId} (hop : o.op = Op.range t m) (ht : P.underlying t = some (.map k e))
    (hm : a.eval m = .map (some b)) (h : MapI E w b l) (hE : ∀ o a v, E w a v → E (w.alloc o) a v)
    (hK : ∀ g w', g = w.heap.size → ItI E w' b g l [] → Keep (fun _ => False) w w' → wpListIn F N P ops Q rest (a.put o.dst (.pointer (some ⟨g, 0, none⟩))) w') : wpListIn F N P ops Q (o :: rest) a w := by
  refine wpListIn_plain hg fun K' hK' => ?_
  obtain ⟨w', hrun, r1, r2, r3⟩ := h.range (P := P) ht hE
  unfold Oper.wpIn
  refine ⟨?_, ?_⟩
  · simp [Oper.about, hop]
  · rw [Oper.semAt_plain F _ _ (by rw [hop]; intro c hc'; cases hc')]
    simp [execOp, hop, hm, hrun, Result.andThen]
    exact hK' _ _ (hK _ w' rfl r1 r2)
theorem wplIn_next {ops : Array Oper} {rest : List Oper} {o : Oper} {a : Act} {Q : Exit → Act → World → Prop} (hg : o.guard = none) {it : Operand} (hop : o.op = Op.next it false) (hit : a.eval it = .pointer (some ⟨r, 0, none⟩))
    (h : ItI E w b r l dn) (hE : ∀ w', Keep (fun k => k = r) w w' → ∀ a v, E w a v → E w' a v)
    (hDone : (∀ p ∈ l, p.1 ∈ dn) → wpListIn F N P ops Q rest (a.put o.dst (.tuple #[.bool false])) w)
    (hMore : ∀ k x v w', (k, x) ∈ l → k ∉ dn → E w' x v → ItI E w' b r l (k :: dn) → Keep (fun q => q = r) w w' → w'.rangeLeft b r < w.rangeLeft b r → (Instr.entry (.pointer (some ⟨r, 0, none⟩))).run P w' = .ok (.tuple #[.int .i64 k, v]) w' →
      wpListIn F N P ops Q rest (a.put o.dst (.tuple #[.bool true, .int .i64 k, v])) w') : wpListIn F N P ops Q (o :: rest) a w := by
  refine wpListIn_plain hg fun K' hK' => ?_
  unfold Oper.wpIn
  refine ⟨?_, ?_⟩
  · simp [Oper.about, hop]
  · rw [Oper.semAt_plain F _ _ (by rw [hop]; intro c hc'; cases hc')]
    rcases h.next (P := P) hE o.type with ⟨h1, hrun⟩ | ⟨k, x, v, w', q1, q2, q3, q4, hrun, q5, q6, q7, q8, q9⟩
    · simp [execOp, hop, hit, hrun, Result.andThen]
      exact hK' _ _ (hDone h1)
    · simp [execOp, hop, hit, hrun, Result.andThen]
      exact hK' _ _ (hMore k x v w' q1 q2 q4 q5 q6 q7 q8)
theorem ItI.walks {l : List (Int × Int)} (h : ItI IntE w b r l dn) (hk : KeepsWalks w w') : ItI IntE w' b r l dn ∧ w'.rangeLeft b r = w.rangeLeft b r := by
  obtain ⟨es, clock, since, seen, c0, h1, h2, h3, h4, h5, h6, rest⟩ := h
  have g1 := hk.same b _ h1 rfl
  have g6 := hk.same r _ h6 rfl
  refine ⟨⟨es, clock, since, seen, c0, g1, h2, h3, h4, h5, g6, rest⟩, ?_⟩
  simp only [World.rangeLeft, h1, h6, g1, g6]
theorem ItI.walkR (h : ItI E w b r l dn) : ∃ o : Obj, w.heap[r]? = some o ∧ o.isWalk = true := by
  obtain ⟨es, clock, since, seen, c0, h1, h2, h3, h4, h5, h6, rest⟩ := h
  exact ⟨_, h6, rfl⟩
theorem ItI.nd (h : ItI E w b r l dn) : (l.map Prod.fst).Nodup ∧ dn.Nodup ∧ ∀ k ∈ dn, k ∈ l.map Prod.fst := by
  obtain ⟨es, clock, since, seen, c0, h1, h2, h3, h4, h5, h6, h7, h8, h9, h10, h11, h12⟩ := h
  exact ⟨h4, h11, fun k hk => by obtain ⟨a, ha⟩ := h12 k hk; exact List.mem_map_of_mem (f := Prod.fst) ha⟩
end
/-- What stands at a key, 0 where there is none. -/
def getV (l : List (Int × Int)) (k : Int) : Int := (look l k).getD 0
theorem getV_mem {l : List (Int × Int)} (hn : (l.map Prod.fst).Nodup) {k a : Int} (h : (k, a) ∈ l) : getV l k = a := by
  obtain ⟨i, hi⟩ := List.getElem?_of_mem h
  rw [getV, look_at hn hi]; rfl
theorem vals_perm {l : List (Int × Int)} {dn ss : List Int} (hn : (l.map Prod.fst).Nodup) (hd : dn.Nodup) (h1 : ∀ k ∈ dn, k ∈ l.map Prod.fst) (h2 : ∀ p ∈ l, p.1 ∈ dn) (hs : ss.Perm (dn.map (getV l))) : ss.Perm (l.map Prod.snd) := by
  refine hs.trans (((perm_nd hd hn (fun x => ⟨h1 x, fun hx => ?_⟩)).map _).trans (List.Perm.of_eq ?_))
  · obtain ⟨p, hp, rfl⟩ := List.mem_map.1 hx
    exact h2 p hp
  · rw [List.map_map]
    apply List.map_congr_left
    rintro ⟨k, a⟩ hp
    exact getV_mem hn hp
set_option maxRecDepth 100000 in
set_option maxHeartbeats 1000000 in
theorem values_gives {w : World} {b Bm n : Nat} {l : List (Int × Int)} (hmi : MapI IntE w b l) (hm : w.cell? ⟨Bm, 0, none⟩ = some (.map (some b))) :
    SeqGives Fence.wide n Try.prog 61 #[.pointer (some ⟨Bm, 0, none⟩)] Go.encZ (fun ss => ss.Perm (l.map Prod.snd)) l.length w := fun l0 J W hW hJ hY h0 => by
  have kW : Keep (fun _ => False) w W := ⟨hW.os, hW.tape, hW.output, hW.size, fun k hk _ => hW.block k hk⟩
  have hmW := hmi.keep kW id (fun _ _ q => q)
  have cW := kW.cell hm id
  have HJ := hid hJ; have HY := hid hY; have H0 := hid h0
  clear hJ hY h0 hmi hm kW hW
  refine callsIn_of_wp Try.func61 rfl trivial ?_ rfl
  simp only [Try.ntmps61, List.size_toArray, List.length_cons, List.length_nil, Nat.reduceAdd, Nat.reduceSub, Array.replicate_succ, Array.replicate_zero, List.push_toArray, List.append_toArray, List.nil_append, List.cons_append]
  gi_wp2_with (first
    | (gi_at_range; refine wplIn_range rfl rfl Try.underlying59 rfl hmW (fun _ _ _ q => q) ?_; intro r w1 hr hit hk1; have HR := hid hr; have HIT := hid hit; have HK1 := hid hk1; clear hr hit hk1)
    | gi_in)
  go_frame
  gi_loopw [4] (fun _ wr => ∃ (dn ss : List Int), ItI IntE wr b r l dn ∧ ss.Perm (dn.map (getV l)) ∧ J ss wr) (fun _ wr => wr.rangeLeft b r)
  case atStart =>
    exact ⟨[], [], HIT.out, .refl _, HJ.out [] W w1 none H0.out ⟨HK1.out.os, HK1.out.tape, HK1.out.output, HK1.out.size, fun k hk _ => HK1.out.block k hk id⟩ (fun r e => by cases e)⟩
  case round =>
    obtain ⟨dn, ss, hit, hp, hj⟩ := hrel
    have HP := hid hp
    clear hp
    gi_wp2_with (first
      | (gi_at_next; refine wplIn_next rfl rfl rfl hit (fun _ _ _ _ q => q) ?_ ?_)
      | gi_in)
    · intro hall
      gi_wp2
      go_end0
      exact ⟨⟨_, rfl⟩, ss, vals_perm hit.nd.1 hit.nd.2.1 hit.nd.2.2 (fun p hp => hall p.1 p.2 hp) HP.out, hj⟩
    · rintro k x v w2 hkx hkd rfl hit2 hk2 hlt hen
      have hj2 : J ss w2 := HJ.out ss wr w2 (some r) hj ⟨hk2.os, hk2.tape, hk2.output, hk2.size, fun q hq hn => hk2.block q hq (fun e => hn (by rw [e]))⟩ (fun r' e => by
        cases e; exact ⟨by have := HR.out; omega, hit.walkR⟩)
      have hlen : ss.length < l.length := by
        have h1 := nd_len hit2.nd.2.1 hit2.nd.2.2
        have h2 := HP.out.length_eq
        simp only [List.length_map, List.length_cons] at h1 h2
        omega
      obtain ⟨fn, tmps, assign, body, hy, hR⟩ := HY.out ss x w2 hj2 hlen
      have hgx : getV l k = x := getV_mem hit.nd.1 hkx
      have HGX := hid hgx; have HIT2 := hid hit2; have HLT := hid hlt
      clear hj2 hlen hk2 hj hit hgx hit2 hlt hkx hkd
      gi_wp2
      refine ⟨(fun h => by cases h), hR.mono ?_⟩
      rintro e W3 ⟨rfl, hJ3, hk3⟩
      have HJ3 := hid hJ3; have HK3 := hid hk3
      clear hJ3 hk3
      gi_wp2
      obtain ⟨hit3, hl3⟩ := HIT2.out.walks HK3.out
      go_roundw
      case rel => exact ⟨k :: dn, ss ++ [x], hit3, by
        rw [List.map_cons, HGX.out]
        exact (List.perm_append_comm).trans (HP.out.cons x), HJ3.out⟩
      case measure => rw [hl3]; exact HLT.out
theorem maxOf_spec : ∀ (l : List Int) (a : Int), (l.foldl max a = a ∨ l.foldl max a ∈ l) ∧ a ≤ l.foldl max a ∧ ∀ x ∈ l, x ≤ l.foldl max a
  | [], a => ⟨.inl rfl, Int.le_refl _, by simp⟩
  | y :: l, a => by
    obtain ⟨h1, h2, h3⟩ := maxOf_spec l (max a y)
    rw [List.foldl_cons]
    refine ⟨?_, by omega, fun x hx => ?_⟩
    · rcases h1 with h1 | h1
      · rw [h1]
        rcases Int.le_total a y with q | q
        · right; rw [Int.max_eq_right q]; simp
        · left; exact Int.max_eq_left q
      · right; simp [h1]
    · rcases List.mem_cons.1 hx with rfl | hx
      · omega
      · exact h3 x hx
theorem maxOf_is {l : List Int} (h : l ≠ []) : Lib.maxOf l ∈ l ∧ ∀ x ∈ l, x ≤ Lib.maxOf l := by
  cases l with
  | nil => exact absurd rfl h
  | cons y l =>
    obtain ⟨h1, h2, h3⟩ := maxOf_spec (y :: l) y
    refine ⟨?_, h3⟩
    rcases h1 with h1 | h1
    · show (y :: l).foldl max y ∈ _
      rw [h1]; simp
    · exact h1
theorem maxOf_perm {a b : List Int} (h : a.Perm b) : Lib.maxOf a = Lib.maxOf b := by
  by_cases hn : a = []
  · subst hn; rw [List.nil_perm.1 h]
  · have hb : b ≠ [] := fun e => hn (by rw [e] at h; exact List.perm_nil.1 h)
    obtain ⟨a1, a2⟩ := maxOf_is hn
    obtain ⟨b1, b2⟩ := maxOf_is hb
    have := b2 _ (h.mem_iff.1 a1)
    have := a2 _ (h.mem_iff.2 b1)
    omega
def baseR (s : TS) : Int := if s.pr = [] then 0 else Lib.maxOf (s.pr.map Prod.snd)
theorem vals_calls (mb : Option Nat) (w : World) : Calls Try.prog 46 #[.map mb] w fun e w' =>
    e = .returned (.func (.func 61) #[] #[.pointer (some ⟨w.heap.size, 0, none⟩)]) ∧ w' = w.alloc (.cells #[.map mb] 59) := by
  go_enter Try.func46, Try.ntmps46
  go_wp2_with fail
  go_ret
  exact ⟨rfl, rfl⟩
theorem len_mapI {P : Program} {t k e ty : TypeId} (ht : P.underlying t = some (.map k e)) {w : World} {b : Nat} {l : List (Int × Int)} (h : MapI IntE w b l) : (Builtin.len_ #[t] ty #[.map (some b)]).run P w = .ok (.int .i64 l.length) w := by
  obtain ⟨es, clock, h1, h2, h3, _⟩ := h
  simp [Builtin.len_, run_underlying ht, MapKept.run_getObj_map h1, Result.andThen, goInt, h3]
section
variable {F G S : Nat → Prop} {w w' : World} {g m1 m2 m3 : Nat} {s : TS}
set_option maxRecDepth 20000 in
theorem base_calls (h : TalAt F w g s) (hl : s.pr.length ≤ 1000000) :
    Calls Try.prog 17 #[.pointer (some ⟨g, 0, none⟩)] w fun e w' => e = .returned (.int .i64 (baseR s)) ∧ Keep (fun _ => False) w w' := by
  have H := hid h
  obtain ⟨m1, m2, m3, hm⟩ := h
  have c2 := cell_at hm.obj 2 (.map (some m1)) rfl
  have hln := len_mapI (ty := 3) Try.underlying59 hm.pr
  have HM := hid hm
  clear hm
  by_cases h0 : s.pr = []
  · have hs0 : s.pr.length = 0 := by rw [h0]; rfl
    rw [hs0] at hln
    have HB := hid (show baseR s = 0 by rw [baseR, if_pos h0])
    clear h0 hs0
    go_enter Try.func17, Try.ntmps17
    go_wp2_with fail
    refine (made_calls H.out).mono ?_
    rintro e w' ⟨rfl, rfl⟩
    go_wp2_with fail
    go_ret
    exact ⟨by rw [HB.out]; rfl, Keep.refl _ _⟩
  · have hpos : 0 < s.pr.length := by rcases hq : s.pr with _ | ⟨x, y⟩; exact absurd hq h0; simp
    obtain ⟨nn, hnn⟩ : ∃ nn, nn = s.pr.length := ⟨_, rfl⟩
    rw [← hnn] at hln
    have hs0 : ((nn : Int) == 0) = false := by
      have : (nn : Int) ≠ 0 := by omega
      simpa using this
    have HB := hid (show baseR s = Lib.maxOf (s.pr.map Prod.snd) by rw [baseR, if_neg h0])
    have HP := hid hpos; have HL := hid hl
    clear h0 hpos hl hnn
    go_enter Try.func17, Try.ntmps17
    go_wp2_with fail
    refine (made_calls H.out).mono ?_
    rintro e w' ⟨rfl, rfl⟩
    go_wp2_with fail
    refine (vals_calls (some m1) w).mono ?_
    rintro e w' ⟨rfl, rfl⟩
    have ka : Keep (fun _ => False) w (w.alloc (.cells #[.map (some m1)] 59)) := (Keep.refl _ w).alloc _
    have hseq := values_gives (n := 3) (Bm := w.heap.size) (HM.out.pr.keep ka id (fun _ _ q => q)) (cell_at (heap_alloc_new w _) 0 _ rfl)
    have hcol := AnyZI.collect_in { Try.sortedA with } Fence.wide 5 trivial trivial rfl (by omega) 61 #[.pointer (some ⟨w.heap.size, 0, none⟩)] trivial (enters_of Try.func61 (by kernel_rfl) rfl) _ _ (by have := HL.out; unfold maxLen; omega) (by have := HL.out; omega) _ hseq
    go_wp2_with fail
    refine Calls.mono ((callsIn_wide (n := 5)).1 hcol) ?_
    rintro e w2 ⟨v2, ss, rfl, hS, hrow, _, hb2⟩
    have k2 : Keep (fun _ => False) w w2 := ka.trans ⟨hb2.os, hb2.tape, hb2.output, hb2.size, fun k hk _ => hb2.block k hk⟩ (fun _ _ f => f)
    have hlen := hS.length_eq
    rw [List.length_map] at hlen
    rcases hrow.2 with ⟨rfl, hz⟩ | ⟨blk, cap, cur, rfl, hbase, hblk, r1, r2, r3, r4⟩
    · have := HP.out; omega
    · have hcells : ∀ j, j < ss.length → w2.cell? ⟨blk, 0 + j, none⟩ = some (.int .i64 (ss.getD j 0)) := fun j hj => by
        have hc := hrow.cells (g := blk) (by simp [Value.ownBlock]) j (Go.encZ (ss.getD j 0)) (by rw [List.getElem?_map, List.getElem?_eq_getElem hj]; simp [List.getD, List.getElem?_eq_getElem hj])
        rw [Addr.add_lit] at hc
        exact hc
      have hmx := Try.slices_Max_int blk 0 ss.length cap ss w2 (by have := HP.out; omega) (Nat.le_refl _) (by have := HL.out; omega) hcells
      rw [List.take_length, maxOf_perm hS, ← HB.out] at hmx
      have K2 := hid k2
      clear hseq hcol hS hrow hb2 k2 hlen hcells hblk r4
      generalize hbb : baseR s = bb at *
      have HBB := hid hbb
      clear hbb
      go_wp2_with fail
      refine Calls.mono hmx ?_
      rintro e w' ⟨rfl, rfl⟩
      go_wp2_with fail
      go_ret
      exact ⟨by rw [HBB.out]; rfl, K2.out⟩
end
end Go.Proofs.Ythlgnilgjeebaaa

/- Plain laws of append for a slice of the call's own, whatever is appended: what holds behind it, and which blocks it may have written. -/
import Derived.Test.YtofljidmdabkcaaMem
import Derived.Lib.AppendStr
namespace Go.Proofs.Ytofljidmdabkcaa
open Go.RowKit Go.Lib

/-- A goal at which the walk stops. -/
def Stopped (p : Prop) : Prop := p
theorem stopHere {p : Prop} (h : Stopped p) : p := h
theorem goOn {p : Prop} (h : p) : Stopped p := h

/-- A slice type and its elements: the numbers that the program's table has. -/
structure SlT (P : Program) (t e : TypeId) (z : Value) (size bytes : Nat) : Prop where
  ht : P.underlying t = some (.slice e)
  info : ∃ i, P.info? e = some i ∧ i.zero = some z ∧ i.size = size ∧ i.bytes = bytes
  zs : z.cells.size = size
  pos : 0 < size
theorem SlT.mk' {P : Program} {t e : TypeId} {z : Value} {size bytes : Nat} (ht : P.underlying t = some (.slice e))
    (h : (P.info? e).map (fun i => (i.zero, i.size, i.bytes)) = some (some z, size, bytes)) (zs : z.cells.size = size) (pos : 0 < size) : SlT P t e z size bytes := by
  obtain ⟨i, hi, h1, h2, h3⟩ := info_parts h
  exact ⟨ht, ⟨i, hi, h1, h2, h3⟩, zs, pos⟩

/-- v' lies where v lay, or in a new block. -/
def SameOrNew (w : World) (v v' : Value) : Prop := ∀ k, v'.ownBlock = some k → v.ownBlock = some k ∨ w.heap.size ≤ k

theorem own_lt' {w : World} {base e size n : Nat} {v : Value} {xs : List Value} (h : w.ownsRow base e size v n xs) (k : Nat) (hk : v.ownBlock = some k) : k < w.heap.size := (h.lt k hk).2

theorem own_slice {w : World} {base e size n : Nat} {v : Value} {xs : List Value} (h : w.ownsRow base e size v n xs) : ∃ A c, v = .slice A n c := by
  rcases h.2 with ⟨rfl, rfl⟩ | ⟨g, cap, cur, rfl, _⟩
  · exact ⟨_, _, rfl⟩
  · exact ⟨_, _, rfl⟩

section
variable {P : Program} {w : World}
/-- What is made anew by append. -/
theorem app_grown {t e : TypeId} {z : Value} {size bytes : Nat} (T : SlT P t e z size bytes) {n m old : Nat} {xs news : List Value} (hx : xs.length = n * size) (hl : news.length = m * size)
    (h63 : n + m ≤ maxLen) (S : Nat → Prop) :
    (w.drew.alloc (.cells (xs.toArray ++ news.toArray ++ Builtin.zeroCells z.cells (grownCap w (n + m) old e - (n + m))) e)).ownsRow 0 e size
        (.slice (some ⟨w.heap.size, 0, none⟩) (n + m) (grownCap w (n + m) old e)) (n + m) (xs ++ news) ∧
      Keep S w (w.drew.alloc (.cells (xs.toArray ++ news.toArray ++ Builtin.zeroCells z.cells (grownCap w (n + m) old e - (n + m))) e)) := by
  have hlen : (xs ++ news).length = (n + m) * size := by rw [List.length_append, hx, hl, Nat.add_mul]
  have hge := grownCap_ge w (n + m) old e
  have hcm : grownCap w (n + m) old e ≤ maxLen := grownCap_le_maxLen w (n + m) old e h63
  refine ⟨⟨hlen, .inr ⟨w.heap.size, _, _, rfl, Nat.zero_le _, heap_alloc_new w.drew _, hge, hcm, ?_, ?_⟩⟩, ((Keep.refl S w).drew).alloc _⟩
  · have h2 : (xs.toArray ++ news.toArray).size = (n + m) * size := by simpa using hlen
    simp only [Array.size_append, size_zeroCells, T.zs] at h2 ⊢
    rw [h2, ← Nat.add_mul]
    congr 1
    omega
  · simp only [Array.toList_append, List.append_assoc]
    rw [← List.append_assoc, ← hlen]
    exact List.take_left

theorem run_app {t e : TypeId} {z : Value} {size bytes : Nat} (T : SlT P t e z size bytes) (ty : TypeId) {v : Value} {n : Nat} {xs : List Value} (hown : w.ownsRow 0 e size v n xs)
    {G : Nat → Prop} {src : Value} {m : Nat} {news : List Value} (hsrc : Row G w src m size news) (h1 : ∀ u ∈ news, u.oneCell' = true) (hb : (n + m) * bytes ≤ 140737488355328) (h63 : n + m ≤ 140737488355328) :
    ∃ v' w', (Builtin.append_ #[t, t] ty #[v, src]).run P w = .ok v' w' ∧ w'.ownsRow 0 e size v' (n + m) (xs ++ news) ∧ Keep (fun k => some k = v.ownBlock) w w' ∧ SameOrNew w v v' := by
  obtain ⟨i, hi, hz, hsize, hby⟩ := T.info
  have h63' : n + m ≤ maxLen := by unfold maxLen; omega
  have hx := hown.1
  subst hsize
  subst hby
  obtain ⟨A, c, rfl, hl, hmc, hcm, hA⟩ := hsrc
  have hfirst : ∀ w' : World, (∀ a, w'.cell? a = w.cell? a) → (Builtin.firstCells i.size m (.slice A m c)).run P w' = .ok news.toArray w' := by
    intro w' hw'
    rcases hA with rfl | ⟨b, off, rfl, _, _, hcell⟩
    · obtain rfl : m = 0 := by omega
      have : news = [] := List.eq_nil_of_length_eq_zero (by simpa using hl)
      subst this
      cases A with
      | none => simp [Builtin.firstCells]
      | some x => exact run_firstCells_some (P := P) w' i.size 0 x 0 0 [] (by simp) (fun j u hu => by simp at hu)
    · exact run_firstCells_some (P := P) w' i.size m ⟨b, off, none⟩ m c news hl (fun j u hu => by
        rw [hw', Addr.add_lit]
        exact hcell j u hu)
  rcases hown.2 with ⟨rfl, rfl⟩ | ⟨g, cap, cur, rfl, hbg, hg, hnc, hcapm, hcs, htake⟩
  · have hxs : xs = [] := List.eq_nil_of_length_eq_zero (by simpa using hx)
    subst hxs
    by_cases hm : m = 0
    · subst hm
      have hn : news = [] := List.eq_nil_of_length_eq_zero (by simpa using hl)
      subst hn
      refine ⟨.slice none 0 0, w, ?_, World.ownsRow_nil w 0 e i.size, Keep.refl _ _, fun k hk => by simp [Value.ownBlock] at hk⟩
      have := hfirst w (fun _ => rfl)
      simp [Builtin.append_, run_underlying T.ht, sizeOf, typeInfo, hi, Builtin.lenOf, Builtin.firstCells, loadCells, loadCellsFrom]
      cases A <;> simp
    · have hr : (Builtin.append_ #[t, t] ty #[.slice none 0 0, .slice A m c]).run P w =
        .ok (.slice (some ⟨w.heap.size, 0, none⟩) m (grownCap w m 0 e)) (w.drew.alloc (.cells (news.toArray ++ Builtin.zeroCells z.cells (grownCap w m 0 e - m)) e)) := by
        have hb' := hb
        simp only [Nat.zero_add] at hb'
        rcases hA with rfl | ⟨b, off, rfl, _, _, hcell⟩
        · omega
        · exact run_append_nil (P := P) w t ty e i z T.ht hi hz ⟨b, off, none⟩ m c news hl (fun j u hu => by rw [Addr.add_lit]; exact hcell j u hu) (by omega) (by omega) (by omega)
      have hgr := app_grown (P := P) (w := w) T (n := 0) (old := 0) (xs := []) (by simp) hl h63' (fun k => some k = (Value.slice none 0 0).ownBlock)
      simp only [Nat.zero_add, List.nil_append, Array.empty_append] at hgr ⊢
      exact ⟨_, _, hr, hgr.1, hgr.2, fun k hk => .inr (by simp [Value.ownBlock] at hk; omega)⟩
  · have holds : ∀ j u, xs[j]? = some u → w.cell? ((⟨g, 0, none⟩ : Addr).add j) = some u := hown.cells (g := g) rfl
    have hlen : (xs ++ news).length = (n + m) * i.size := by rw [List.length_append, hx, hl, Nat.add_mul]
    by_cases hroom : n + m ≤ cap
    · have hfit : n * i.size + news.length ≤ cur.size := by rw [hl, hcs, ← Nat.add_mul]; exact Nat.mul_le_mul_right _ hroom
      have hf := hfirst w (fun _ => rfl)
      have hst := run_storeCells_at P g (n * i.size) e news 0 cur w hg (by simpa using hfit) h1
      simp only [Nat.add_zero] at hst
      have hr : (Builtin.append_ #[t, t] ty #[.slice (some ⟨g, 0, none⟩) n cap, .slice A m c]).run P w =
          .ok (.slice (some ⟨g, 0, none⟩) (n + m) cap) (w.setRow g (cur.toList.take (n * i.size) ++ news ++ cur.toList.drop (n * i.size + news.length)).toArray) := by
        cases A <;>
          simp [Builtin.append_, run_underlying T.ht, sizeOf, typeInfo, hi, Builtin.lenOf, hroom, hf, Addr.add_lit, hst]
      refine ⟨_, _, hr, ⟨hlen, .inr ⟨g, cap, _, rfl, hbg, setRow_heap w g cur _ e _ hg, hroom, hcapm, ?_, ?_⟩⟩, ⟨rfl, rfl, rfl, by simp, fun k _ hk => setRow_other w g k _ (fun e => hk (by simp [Value.ownBlock, e]))⟩, fun k hk => .inl (by simpa [Value.ownBlock] using hk)⟩
      · simp only [List.size_toArray, List.length_append, List.length_take, List.length_drop, Array.length_toList]
        omega
      · rw [htake, ← hlen]
        exact List.take_left
    · have hm : 0 < m := by omega
      have hr : (Builtin.append_ #[t, t] ty #[.slice (some ⟨g, 0, none⟩) n cap, .slice A m c]).run P w =
          .ok (.slice (some ⟨w.heap.size, 0, none⟩) (n + m) (grownCap w (n + m) cap e)) (w.drew.alloc (.cells (xs.toArray ++ news.toArray ++ Builtin.zeroCells z.cells (grownCap w (n + m) cap e - (n + m))) e)) := by
        rcases hA with rfl | ⟨b, off, rfl, _, _, hcell⟩
        · omega
        · exact run_append_grow (P := P) w t ty e i z T.ht hi hz ⟨g, 0, none⟩ n cap xs hx holds ⟨b, off, none⟩ m c news hl (fun j u hu => by rw [Addr.add_lit]; exact hcell j u hu) (by omega) (by omega) (growslice_fits (by omega) hb)
      have hgr := app_grown (P := P) (w := w) T (n := n) (old := cap) hx hl h63' (fun k => some k = (Value.slice (some ⟨g, 0, none⟩) n cap).ownBlock)
      exact ⟨_, _, hr, hgr.1, hgr.2, fun k hk => .inr (by simp [Value.ownBlock] at hk; omega)⟩

theorem wpl_app {ops : Array Oper} {rest : List Oper} {o : Oper} {a : Act} {Q : Exit → Act → World → Prop} (hgd : o.guard = none) {s x : Operand} {t e : TypeId}
    (ho : o.op = .call { callee := .builtin .append, args := #[s, x], argTypes := #[t, t] }) {z : Value} {size bytes : Nat} (T : SlT P t e z size bytes)
    {v : Value} {n : Nat} {xs : List Value} (hs : a.eval s = v) (hown : w.ownsRow 0 e size v n xs)
    {G : Nat → Prop} {src : Value} {m : Nat} {news : List Value} (hx : a.eval x = src) (hsrc : Row G w src m size news) (h1 : ∀ u ∈ news, u.oneCell' = true)
    (hb : (n + m) * bytes ≤ 140737488355328) (h63 : n + m ≤ 140737488355328)
    (h : ∀ A c w', w'.ownsRow 0 e size (.slice A (n + m) c) (n + m) (xs ++ news) → Keep (fun k => some k = v.ownBlock) w w' → SameOrNew w v (.slice A (n + m) c) → wpList P ops Q rest (a.put o.dst (.slice A (n + m) c)) w') :
    wpList P ops Q (o :: rest) a w := by
  obtain ⟨v', w', hr, h2, h3, h4⟩ := run_app (P := P) T o.type hown hsrc h1 hb h63
  refine wpList_plain hgd (fun K hK => ?_)
  unfold Oper.wp execOp
  simp only [ho, resolve, invoke, builtin, Sem.run_bind, Sem.run_pure, Result.andThen_ok, List.map_toArray, List.map_cons, List.map_nil, hs, hx, hr]
  obtain ⟨A, c, rfl⟩ := own_slice h2
  exact hK _ _ (h A c w' h2 h3 h4)

theorem run_app_str {t u e : TypeId} (T : SlT P t e (.int .u8 0) 1 1) (hu : P.underlying u = some .string) (ty : TypeId) {v : Value} {n : Nat} {xs : List Value} (hown : w.ownsRow 0 e 1 v n xs)
    (s : ByteArray) (hb : n + s.size ≤ 140737488355328) :
    ∃ v' w', (Builtin.append_ #[t, u] ty #[v, .string s]).run P w = .ok v' w' ∧ w'.ownsRow 0 e 1 v' (n + s.size) (xs ++ strCells s) ∧ Keep (fun k => some k = v.ownBlock) w w' ∧ SameOrNew w v v' := by
  obtain ⟨i, hi, hz, hsize, hby⟩ := T.info
  have h63' : n + s.size ≤ maxLen := by unfold maxLen; omega
  have hx := hown.1
  have hl : (strCells s).length = s.size * 1 := by rw [strCells_length]; omega
  rcases hown.2 with ⟨rfl, rfl⟩ | ⟨g, cap, cur, rfl, hbg, hg, hnc, hcapm, hcs, htake⟩
  · have hxs : xs = [] := List.eq_nil_of_length_eq_zero (by simpa using hx)
    subst hxs
    by_cases hm : s.size = 0
    · have hn : strCells s = [] := List.eq_nil_of_length_eq_zero (by omega)
      refine ⟨.slice none 0 0, w, ?_, ?_, Keep.refl _ _, fun k hk => by simp [Value.ownBlock] at hk⟩
      · simp [Builtin.append_, run_underlying T.ht, run_underlying hu, sizeOf, typeInfo, hi, Builtin.lenOf, Builtin.firstCells, hm]
      · rw [hm, hn]
        exact World.ownsRow_nil w 0 e 1
    · have hr := run_append_nil_string (P := P) w t u ty e i (.int .u8 0) T.ht hu hi hz s (by omega) (by omega) (by rw [hby]; omega)
      have hgr := app_grown (P := P) (w := w) T (n := 0) (old := 0) (xs := []) (by simp) hl (by omega) (fun k => some k = (Value.slice none 0 0).ownBlock)
      have he : (s.data.map (fun b => Value.int .u8 b.toNat) ++ Builtin.zeroCells (Value.int .u8 0).cells (grownCap w s.size 0 e - s.size)) = ([].toArray ++ (strCells s).toArray ++ Builtin.zeroCells (Value.int .u8 0).cells (grownCap w (0 + s.size) 0 e - (0 + s.size))) := by
        simp only [Nat.zero_add, Array.empty_append]
        congr 1
        apply Array.ext'
        simp [strCells]
      rw [he] at hr
      simp only [Nat.zero_add] at hgr hr ⊢
      exact ⟨_, _, hr, hgr.1, hgr.2, fun k hk => .inr (by simp [Value.ownBlock] at hk; omega)⟩
  · have holds : ∀ j u, xs[j]? = some u → w.cell? ((⟨g, 0, none⟩ : Addr).add j) = some u := hown.cells (g := g) rfl
    have hlen : (xs ++ strCells s).length = (n + s.size) * 1 := by rw [List.length_append, hx, hl, Nat.add_mul]
    by_cases hroom : n + s.size ≤ cap
    · have hr := run_append_room_string (P := P) w t u ty e i T.ht hu hi hsize g n cap cur hg s hroom (by omega)
      refine ⟨_, _, hr, ⟨hlen, .inr ⟨g, cap, _, rfl, hbg, setRow_heap w g cur _ e _ hg, hroom, hcapm, ?_, ?_⟩⟩, ⟨rfl, rfl, rfl, by simp, fun k _ hk => setRow_other w g k _ (fun e => hk (by simp [Value.ownBlock, e]))⟩, fun k hk => .inl (by simpa [Value.ownBlock] using hk)⟩
      · simp only [List.size_toArray, List.length_append, List.length_take, List.length_drop, Array.length_toList, strCells_length]
        omega
      · simp only [Nat.mul_one] at htake
        rw [htake, ← hlen]
        exact List.take_left
    · have hr := run_append_grow_string (P := P) w t u ty e i (.int .u8 0) T.ht hu hi hz ⟨g, 0, none⟩ n cap xs (by rw [hsize]; omega) holds s (by omega) (by omega) (by rw [hby]; exact growslice_fits (by omega) (by omega))
      have hgr := app_grown (P := P) (w := w) T (n := n) (old := cap) hx hl h63' (fun k => some k = (Value.slice (some ⟨g, 0, none⟩) n cap).ownBlock)
      exact ⟨_, _, hr, hgr.1, hgr.2, fun k hk => .inr (by simp [Value.ownBlock] at hk; omega)⟩

theorem wpl_app_str {ops : Array Oper} {rest : List Oper} {o : Oper} {a : Act} {Q : Exit → Act → World → Prop} (hgd : o.guard = none) {s x : Operand} {t u e : TypeId}
    (ho : o.op = .call { callee := .builtin .append, args := #[s, x], argTypes := #[t, u] }) (T : SlT P t e (.int .u8 0) 1 1) (hu : P.underlying u = some .string)
    {v : Value} {n : Nat} {xs : List Value} (hs : a.eval s = v) (hown : w.ownsRow 0 e 1 v n xs) {b : ByteArray} (hx : a.eval x = .string b) (hb : n + b.size ≤ 140737488355328)
    (h : ∀ A c w', w'.ownsRow 0 e 1 (.slice A (n + b.size) c) (n + b.size) (xs ++ strCells b) → Keep (fun k => some k = v.ownBlock) w w' → SameOrNew w v (.slice A (n + b.size) c) → wpList P ops Q rest (a.put o.dst (.slice A (n + b.size) c)) w') :
    wpList P ops Q (o :: rest) a w := by
  obtain ⟨v', w', hr, h2, h3, h4⟩ := run_app_str (P := P) T hu o.type hown b hb
  refine wpList_plain hgd (fun K hK => ?_)
  unfold Oper.wp execOp
  simp only [ho, resolve, invoke, builtin, Sem.run_bind, Sem.run_pure, Result.andThen_ok, List.map_toArray, List.map_cons, List.map_nil, hs, hx, hr]
  obtain ⟨A, c, rfl⟩ := own_slice h2
  exact hK _ _ (h A c w' h2 h3 h4)
end

/-- The new cell that one value is appended from. -/
theorem Row.one (w : World) (x : Value) (e : TypeId) : Row (fun k => k = w.heap.size) (w.alloc (.cells #[x] e)) (.slice (some ⟨w.heap.size, 0, none⟩) 1 1) 1 1 [x] :=
  ⟨_, _, rfl, by simp, Nat.le_refl _, by decide, .inr ⟨w.heap.size, 0, rfl, rfl, by simp, fun j u hu => by
    rcases j with _ | j
    · simpa using hu
    · simp at hu⟩⟩
theorem ownsAlloc {w : World} {base e size n : Nat} {v : Value} {xs : List Value} (h : w.ownsRow base e size v n xs) (o : Obj) : (w.alloc o).ownsRow base e size v n xs := h.alloc o
end Go.Proofs.Ytofljidmdabkcaa

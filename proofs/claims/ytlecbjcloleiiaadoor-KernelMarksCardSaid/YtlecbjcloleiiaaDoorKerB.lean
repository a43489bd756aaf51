import Derived.Test.YtlecbjcloleiiaaDoorKerA
/-! Slices that are read; copies of strings and of events. -/
namespace Go.Proofs.YtlecbjcloleiiaaDoor.Ram
open Go

/-- A slice of rows of so many cells, as it reads. -/
structure Rows (H : AH) (sz : Nat) (v : AV) (rows : List (List AV)) : Prop where
  is : (∃ s c, v = .sl none s 0 c ∧ rows = []) ∨ (∃ i off c l ro, v = .sl (some (i, off)) sz rows.length c ∧ H.get i = some (.cells l ro) ∧ i < H.next ∧ (l.drop off).take (rows.length * sz) = rows.flatten ∧ off + rows.length * sz ≤ l.length)
  row : ∀ r ∈ rows, r.length = sz
theorem Tip.rows {H : AH} {sz : Nat} {v : AV} {rows : List (List AV)} (h : Tip H sz v rows) (hr : ∀ r ∈ rows, r.length = sz) : Rows H sz v rows := by
  refine ⟨?_, hr⟩
  rcases h with h | ⟨t, rfl, h1, h2⟩
  · exact .inl h
  · refine .inr ⟨t, 0, none, _, false, rfl, h1, h2, ?_, ?_⟩
    · rw [List.drop_zero, ← flat_len hr, List.take_length]
    · rw [flat_len hr]; omega
theorem Rows.of {H H' : AH} {sz : Nat} {v : AV} {rows : List (List AV)} (h : Rows H sz v rows) (hn : H.next ≤ H'.next) (hg : ∀ i, tipId v = some i → i < H.next → H'.get i = H.get i) : Rows H' sz v rows := by
  refine ⟨?_, h.row⟩
  rcases h.is with h | ⟨i, off, c, l, ro, rfl, h1, h2, h3⟩
  · exact .inl h
  · exact .inr ⟨i, off, c, l, ro, rfl, (hg i rfl h2).trans h1, by omega, h3⟩
theorem Rows.keep {H H' : AH} {sz : Nat} {v : AV} {rows : List (List AV)} (h : Rows H sz v rows) (k : Keep H H') : Rows H' sz v rows := h.of k.next fun i _ hi => k.get i hi
theorem Rows.sl {H : AH} {sz : Nat} {v : AV} {rows : List (List AV)} (h : Rows H sz v rows) : ∃ a s c, v = .sl a s rows.length c := by
  rcases h.is with ⟨s, c, rfl, rfl⟩ | ⟨i, off, c, l, ro, rfl, _⟩
  · exact ⟨none, s, c, rfl⟩
  · exact ⟨_, _, c, rfl⟩
theorem Rows.one {H : AH} {sz : Nat} {v : AV} {rows : List (List AV)} (h : Rows H sz v rows) : oneCell v = true := by obtain ⟨a, s, c, rfl⟩ := h.sl; rfl
theorem Rows.len {H : AH} {sz : Nat} {v : AV} {rows : List (List AV)} (h : Rows H sz v rows) : lenOf false (some v) = some (.int .i64 rows.length) := by obtain ⟨a, s, c, rfl⟩ := h.sl; rfl
theorem Rows.lenA {H : AH} {sz : Nat} {v : AV} {rows : List (List AV)} (h : Rows H sz v rows) : lenA v = some rows.length := by obtain ⟨a, s, c, rfl⟩ := h.sl; rfl
theorem Rows.cells {H : AH} {sz : Nat} {v : AV} {rows : List (List AV)} (h : Rows H sz v rows) : sliceCells H sz rows.length v = some rows.flatten := by
  rcases h.is with ⟨s, c, rfl, rfl⟩ | ⟨i, off, c, l, ro, rfl, h1, h2, h3, h4⟩
  · simp [sliceCells]
  · simp [sliceCells, h1, h3, h4]
theorem row_of_flat {sz : Nat} : ∀ {rows : List (List AV)} {j : Nat} {r : List AV}, (∀ r ∈ rows, r.length = sz) → rows[j]? = some r → (rows.flatten.drop (j * sz)).take sz = r
  | [], j, r, _, h => by simp at h
  | x :: rows, 0, r, hr, h => by
    simp at h; subst h
    simp [← hr x (by simp)]
  | x :: rows, j + 1, r, hr, h => by
    have hx := hr x (by simp)
    rw [List.flatten_cons, show (j + 1) * sz = x.length + j * sz by rw [Nat.succ_mul, hx]; omega, List.drop_append]
    simp only [List.drop_eq_nil_of_le (Nat.le_add_right _ _), List.nil_append, Nat.add_sub_cancel_left]
    exact row_of_flat (fun r h => hr r (by simp [h])) (by simpa using h)
theorem Rows.at {H : AH} {sz : Nat} {v : AV} {rows : List (List AV)} (h : Rows H sz v rows) {j : Nat} {r : List AV} (hj : rows[j]? = some r) : ∃ i o, (∀ k, indexAA sz v (.int k j) = some (.ptr (some (i, o)))) ∧ loadA H sz true (.ptr (some (i, o))) = some (.agg r) ∧ ∀ q, q < sz → loadA H 1 false (.ptr (some (i, o + q))) = r[q]? := by
  have hlt := (List.getElem?_eq_some_iff.1 hj).1
  rcases h.is with ⟨s, c, rfl, rfl⟩ | ⟨i, off, c, l, ro, rfl, h1, h2, h3, h4⟩
  · simp at hj
  · have hle : (j + 1) * sz ≤ rows.length * sz := Nat.mul_le_mul_right sz hlt
    rw [Nat.succ_mul] at hle
    have hrow : (l.drop (off + j * sz)).take sz = r := by
      rw [← row_of_flat h.row hj, ← h3, List.drop_take, List.drop_drop, List.take_take, Nat.min_eq_left (by omega)]
    refine ⟨i, off + j * sz, fun k => ?_, ?_, fun q hq => ?_⟩
    · simp only [indexAA]
      rw [if_pos ⟨trivial, by omega, by omega⟩]
      simp
    · rw [load_agg h1, if_pos (by omega), hrow]
    · rw [load_one h1, ← hrow, List.getElem?_take, if_pos hq, List.getElem?_drop]

/-! strings -/
def strRows (l : List Str) : List (List AV) := l.map fun s => [.str s]
theorem strRows_flat (l : List Str) : (strRows l).flatten = l.map .str := by
  unfold strRows
  induction l with
  | nil => rfl
  | cons s l ih => simp [ih]
theorem strRows_row (l : List Str) : ∀ r ∈ strRows l, r.length = 1 := by
  intro r hr
  obtain ⟨s, _, rfl⟩ := List.mem_map.1 hr
  rfl
@[simp] theorem strRows_len (l : List Str) : (strRows l).length = l.length := by simp [strRows]
abbrev Strs (H : AH) (v : AV) (l : List Str) : Prop := Rows H 1 v (strRows l)
theorem Strs.at {H : AH} {v : AV} {l : List Str} (h : Strs H v l) {j : Nat} {s : Str} (hj : l[j]? = some s) : ∃ i o, (∀ k, indexAA 1 v (.int k j) = some (.ptr (some (i, o)))) ∧ loadA H 1 false (.ptr (some (i, o))) = some (.str s) := by
  obtain ⟨i, o, h1, _, h2⟩ := Rows.at h (j := j) (r := [.str s]) (by simp [strRows, hj])
  exact ⟨i, o, h1, by simpa using h2 0 (by omega)⟩

/-- A copy's memory is its own. -/
def Fresh (n : Nat) (H : AH) (v : AV) : Prop := ∀ i, tipId v = some i → n ≤ i ∧ ∃ l, H.get i = some (.cells l false)
theorem c_clone {H : AH} {v : AV} {l : List Str} (h : Strs H v l) (hn : l.length < 1000000) :
    ∃ v' H', Call U 43 [v] H = some (v', H') ∧ Strs H' v' l ∧ Keep H H' ∧ Fresh H.next H' v' := by
  rw [Call_of (F := a43) rfl rfl]
  rcases h.is with ⟨s, c, rfl, e⟩ | ⟨i, off, c, lc, ro, rfl, h1, h2, h3, h4⟩
  · refine ⟨.sl none 1 0 (some 0), H, ?_, ⟨.inl ⟨_, _, rfl, e⟩, strRows_row l⟩, Keep.refl _, fun i hi => by cases hi⟩
    simp -implicitDefEqProofs [a43, c43, frOf, eqA]
  · have h5 := (h.keep (Keep.push H (.cells [] false))).cells
    simp only [strRows_len] at h5 h3 h4 ⊢
    by_cases h0 : l.length = 0
    · refine ⟨.sl (some (H.next, 0)) 1 0 (some 0), H.push (.cells [] false), ?_, ?_, Keep.push _ _, fun i hi => ?_⟩
      · rw [h0] at h5 ⊢; simp -implicitDefEqProofs [a43, c43, frOf, eqA, appendA, lenA, h5]
      · obtain rfl : l = [] := List.length_eq_zero_iff.1 h0
        exact ⟨.inr ⟨H.next, 0, some 0, [], false, rfl, by simp, by simp, by simp [strRows], by simp [strRows]⟩, strRows_row _⟩
      · simp only [tipId, Option.some.injEq] at hi
        subst hi
        exact ⟨Nat.le_refl _, [], by simp⟩
    · refine ⟨.sl (some (H.next + 1, 0)) 1 l.length none, (H.push (.cells [] false)).push (.cells (strRows l).flatten false), ?_, ?_, (Keep.push _ _).trans (Keep.push _ _), fun i hi => ?_⟩
      · have h9 : l.length * 16 ≤ 140737488355328 := by omega
        simp -implicitDefEqProofs [a43, c43, frOf, eqA, appendA, lenA, h5, h0, h9]
      · exact ⟨.inr ⟨H.next + 1, 0, none, (strRows l).flatten, false, by simp, by simp, by simp, by rw [List.drop_zero]; exact List.take_of_length_le (by rw [flat_len (strRows_row l)]; omega), by rw [flat_len (strRows_row l)]; omega⟩, strRows_row _⟩
      · simp only [tipId, Option.some.injEq] at hi
        subst hi
        exact ⟨by omega, _, by simp; rfl⟩

/-! events -/
structure Ev where
  kind : Int
  n : Int
  a : Str
  b : Str
  l : List Str
def EvR (H : AH) (row : List AV) (e : Ev) : Prop := ∃ lv, row = evRow e.kind e.n e.a e.b lv ∧ Strs H lv e.l
/-- Events that read so. -/
structure EvRows (H : AH) (rows : List (List AV)) (es : List Ev) : Prop where
  len : rows.length = es.length
  ev : ∀ (j : Nat) (e : Ev), es[j]? = some e → ∃ row, rows[j]? = some row ∧ EvR H row e
theorem EvR.keep {H H' : AH} {row : List AV} {e : Ev} (h : EvR H row e) (k : Keep H H') : EvR H' row e := by
  obtain ⟨lv, h1, h2⟩ := h
  exact ⟨lv, h1, h2.keep k⟩
theorem EvRows.keep {H H' : AH} {rows : List (List AV)} {es : List Ev} (h : EvRows H rows es) (k : Keep H H') : EvRows H' rows es := ⟨h.len, fun j e hj => by
  obtain ⟨row, h1, h2⟩ := h.ev j e hj
  exact ⟨row, h1, h2.keep k⟩⟩
theorem EvRows.snoc {H : AH} {rows : List (List AV)} {es : List Ev} {row : List AV} {e : Ev} (h : EvRows H rows es) (hr : EvR H row e) : EvRows H (rows ++ [row]) (es ++ [e]) := ⟨by simp [h.len], fun j x hj => by
  rw [List.getElem?_append] at hj
  split at hj
  · rename_i hlt
    obtain ⟨r, h1, h2⟩ := h.ev j x hj
    exact ⟨r, by rw [List.getElem?_append, if_pos (by rw [h.len]; exact hlt)]; exact h1, h2⟩
  · rename_i hge
    obtain ⟨h1, h2⟩ := List.getElem?_eq_some_iff.1 hj
    simp at h1
    have : j = es.length := by omega
    subst this
    simp at h2; subst h2
    exact ⟨row, by rw [List.getElem?_append, if_neg (by rw [h.len]; omega), h.len]; simp, hr⟩⟩
theorem EvRows.of {H H' : AH} {rows : List (List AV)} {es : List Ev} (h : EvRows H rows es) (hn : H.next ≤ H'.next) (hg : ∀ r ∈ rows, ∀ x ∈ r, ∀ i, tipId x = some i → i < H.next → H'.get i = H.get i) : EvRows H' rows es := ⟨h.len, fun j e hj => by
  obtain ⟨row, h1, lv, h2, h3⟩ := h.ev j e hj
  exact ⟨row, h1, lv, h2, h3.of hn (hg row (List.mem_of_getElem? h1) lv (by rw [h2]; simp [evRow]))⟩⟩
theorem Rows.lt {H : AH} {sz : Nat} {v : AV} {rows : List (List AV)} (h : Rows H sz v rows) {i : Nat} (hi : tipId v = some i) : i < H.next := by
  rcases h.is with ⟨s, c, rfl, _⟩ | ⟨k, off, c, l, ro, rfl, _, h2, _⟩
  · cases hi
  · obtain rfl := Option.some.inj hi; exact h2
theorem evRow_tip {k n : Int} {a b : Str} {l x : AV} (h : x ∈ evRow k n a b l) {i : Nat} (hi : tipId x = some i) : x = l := by
  simp only [evRow, List.mem_cons, List.not_mem_nil, or_false] at h
  rcases h with rfl | rfl | rfl | rfl | rfl <;> first | rfl | cases hi
theorem evRow_all {k n : Int} {a b : Str} {l : AV} (h : oneCell l = true) : ∀ x, x ∈ evRow k n a b l → oneCell x = true := by
  intro x hx
  simp only [evRow, List.mem_cons, List.not_mem_nil, or_false] at hx
  rcases hx with rfl | rfl | rfl | rfl | rfl <;> first | rfl | exact h
theorem evRow_len {k n : Int} {a b : Str} {l : AV} : (evRow k n a b l).length = 5 := rfl
theorem fill_ev {k n : Int} {a b : Str} {l : AV} (h : oneCell l = true) : fillA [.int .i64 0, .int .i64 0, .str [], .str [], .sl none 1 0 (some 0)] [(0, 5, .agg (evRow k n a b l))] = some (evRow k n a b l) := by simp [evRow, h]
/-- The rows' own slices are other arrays than this one. -/
def Apart (out : AV) (rows : List (List AV)) : Prop := ∀ r ∈ rows, ∀ x ∈ r, ∀ i, tipId x = some i → tipId out ≠ some i
/-- The rows' own slices are new, and may be written. -/
def News (n : Nat) (H : AH) (rows : List (List AV)) : Prop := ∀ r ∈ rows, ∀ x ∈ r, Fresh n H x
theorem EvRows.row {H : AH} {rows : List (List AV)} {es : List Ev} (h : EvRows H rows es) : ∀ r ∈ rows, r.length = 5 := by
  intro r hr
  obtain ⟨j, hj⟩ := List.mem_iff_getElem?.1 hr
  have hlt := (List.getElem?_eq_some_iff.1 hj).1
  rw [h.len] at hlt
  obtain ⟨row, h1, lv, h2, _⟩ := h.ev j es[j] (List.getElem?_eq_getElem hlt)
  rw [hj] at h1
  obtain rfl := Option.some.inj h1
  rw [h2]; rfl

theorem wrap64 {x : Int} (h1 : -9223372036854775808 ≤ x) (h2 : x < 9223372036854775808) : IntKind.i64.wrap x = x := IntWalk.i64_in x ⟨h1, by omega⟩
theorem copied_loop {H0 : AH} {v : AV} {rows : List (List AV)} {es : List Ev} (hl : ∀ e ∈ es, e.l.length < 1000000) (hn : es.length < 1000000) (hv : Rows H0 5 v rows) (he : EvRows H0 rows es) : ∀ (d j : Nat) (H : AH) (out : AV) (rows' : List (List AV)), j + d = es.length → Keep H0 H → Tip H 5 out rows' → EvRows H rows' (es.take j) → (∀ i, tipId out = some i → H0.next ≤ i) → Apart out rows' → News H0.next H rows' →
    ∃ fr' H' out' rows'', loopL (execL U.E (Call U) c48l0) ([(3, out), (6, v), (7, .int .i64 es.length), (8, .int .i64 j)], H) = some (.exit 0, (fr', H')) ∧ Fr.get fr' 3 = some out' ∧ Tip H' 5 out' rows'' ∧ EvRows H' rows'' es ∧ (∀ i, tipId out' = some i → H0.next ≤ i) ∧ Apart out' rows'' ∧ News H0.next H' rows'' ∧ Keep H0 H' := by
  intro d
  induction d with
  | zero =>
    intro j H out rows' hj hk ho hr hid hap hnw
    obtain rfl : j = es.length := by omega
    rw [List.take_length] at hr
    refine ⟨[(3, out), (6, v), (7, .int .i64 es.length), (8, .int .i64 es.length), (9, .bool false)], H, out, rows', ?_, by simp, ho, hr, hid, hap, hnw, hk⟩
    rw [loopL_eq]
    simp -implicitDefEqProofs [c48l0, binA]
  | succ d ih =>
    intro j H out rows' hj hk ho hr hid hap hnw
    have hjl : j < es.length := by omega
    obtain ⟨row, h1, lv, h2, h3⟩ := he.ev j es[j] (List.getElem?_eq_getElem hjl)
    obtain ⟨i, o, g1, g2, g3⟩ := (hv.keep hk).at h1
    have h3 := h3.keep hk
    have hlv := h3.one
    -- the event's own slot
    let H1 := (H.push (.cells [.int .i64 0, .int .i64 0, .str [], .str [], .sl none 1 0 (some 0)] false)).set H.next (.cells row false)
    have k1 : Keep H H1 := (Keep.push H _).set (Nat.le_refl _) _
    have f1 : storeA (H.push (.cells [.int .i64 0, .int .i64 0, .str [], .str [], .sl none 1 0 (some 0)] false)) 5 (.ptr (some (H.next, 0))) (.agg row) = some H1 := by
      subst h2; simp [storeA, evRow, putCells, hlv, H1]
    have f2 : loadA H1 1 false (.ptr (some (H.next, 0 + 4))) = some lv := by
      subst h2; simp [loadA, H1, evRow]
    obtain ⟨lv', H2, g4, g5, g6, g7⟩ := c_clone (h3.keep k1) (hl _ (List.getElem_mem hjl))
    have hlv' := g5.one
    have hA : H2.get H.next = some (.cells row false) := by rw [g6.get _ (by simp [H1])]; simp [H1]
    let H3 := H2.set H.next (.cells (evRow es[j].kind es[j].n es[j].a es[j].b lv') false)
    have f3 : storeA H2 1 (.ptr (some (H.next, 0 + 4))) lv' = some H3 := by
      obtain ⟨a', s', c', rfl⟩ := g5.sl
      subst h2; simp [storeA, hA, evRow, putCells, H3]
    have f4 : loadA H3 5 true (.ptr (some (H.next, 0))) = some (.agg (evRow es[j].kind es[j].n es[j].a es[j].b lv')) := by
      simp [loadA, H3, evRow]
    have k3 : Keep H H3 := (k1.trans g6).set (Nat.le_refl _) _
    have k4 : Keep H (H3.push (.cells (evRow es[j].kind es[j].n es[j].a es[j].b lv') false)) := k3.trans (Keep.push _ _)
    obtain ⟨H5, f5, f6, f7, f8⟩ := append_one (bytes := 72) (x := H3.next) (c := some 1) (row := evRow es[j].kind es[j].n es[j].a es[j].b lv') (ro := false) (ho.keep k4) hr.row (by simp) rfl (by omega) (by omega) (by rw [hr.len]; simp; omega) (by simp)
    have hget : ∀ i, i < H.next → tipId out ≠ some i → H5.get i = H.get i := fun i hi hne => by
      rw [f8 i (by simp [H3]; have := k1.next; have := g6.next; omega) hne]
      exact k4.get i hi
    have hjc : (j : Int) < (es.length : Int) := by omega
    have hw : IntKind.i64.wrap ((j : Int) + 1) = ((j + 1 : Nat) : Int) := by rw [wrap64 (by omega) (by omega)]; omega
    simp only [push_next] at f5 f6 f7 f8
    have hstep : execL U.E (Call U) c48l0 ([(3, out), (6, v), (7, .int .i64 es.length), (8, .int .i64 j)], H) = some (.norm, ([(8, .int .i64 (j + 1 : Nat)), (20, .int .i64 (j + 1 : Nat)), (3, .sl (some (H3.next + 1, 0)) 5 (rows'.length + 1) none), (6, v), (7, .int .i64 es.length), (8, .int .i64 j)], H5)) := by
      simp -implicitDefEqProofs [-fill_cons, c48l0, binA, hjc, g1, g2, f1, f2, g4, f3, f4, f5, hw, fill_ev hlv']
    rw [loopL_eq, hstep, seqR_norm]
    have hn3 := k3.next
    rw [show c48l0 = ACode.keep [3, 6, 7, 8] _ from rfl, loop_keep, ← show c48l0 = ACode.keep [3, 6, 7, 8] _ from rfl]
    have hfr : Fr.keep [(8, AV.int .i64 (j + 1 : Nat)), (20, .int .i64 (j + 1 : Nat)), (3, .sl (some (H3.next + 1, 0)) 5 (rows'.length + 1) none), (6, v), (7, .int .i64 es.length), (8, .int .i64 j)] [3, 6, 7, 8] = [(3, .sl (some (H3.next + 1, 0)) 5 (rows'.length + 1) none), (6, v), (7, .int .i64 es.length), (8, .int .i64 (j + 1 : Nat))] := by simp
    rw [hfr]
    have hh3 : ∀ i, i < H.next → H3.get i = H.get i := fun i hi => k3.get i hi
    have hlt : ∀ r ∈ rows', ∀ x ∈ r, ∀ i, tipId x = some i → i < H.next := fun r hr' x hx i hi => by
      obtain ⟨q, hq⟩ := List.mem_iff_getElem?.1 hr'
      have hql := (List.getElem?_eq_some_iff.1 hq).1
      rw [hr.len] at hql
      obtain ⟨row2, e1, lv2, e2, e3⟩ := hr.ev q _ (List.getElem?_eq_getElem hql)
      rw [hq] at e1; obtain rfl := Option.some.inj e1
      rw [e2] at hx
      obtain rfl := evRow_tip hx hi
      exact e3.lt hi
    have hn1 : H1.next = H.next + 1 := rfl
    have hH3n : H3.next = H2.next := rfl
    have hlv5 : ∀ i, tipId lv' = some i → H0.next ≤ i ∧ i < H3.next ∧ H.next < i + 0 ∧ ∃ l, H5.get i = some (.cells l false) := fun i hi => by
      obtain ⟨a1, l1, a2⟩ := g7 i hi
      have a3 := g5.lt hi
      have hkn := hk.next
      refine ⟨by omega, by omega, by omega, l1, ?_⟩
      rw [f8 i (by omega) (fun e => ?_), push_get, if_neg (by omega)]
      · show (H2.set H.next _).get i = _
        rw [set_get, if_neg (by omega)]; exact a2
      · rcases ho with ⟨s, c, rfl, _⟩ | ⟨t, rfl, _, ht⟩
        · cases e
        · obtain rfl := Option.some.inj e; omega
    have hlvS : Strs H5 lv' es[j].l := g5.of (by omega) fun i hi hi2 => by
      obtain ⟨a1, a2, a3, l1, a4⟩ := hlv5 i hi
      rw [f8 i (by omega) (fun e => ?_), push_get, if_neg (by omega)]
      · show (H2.set H.next _).get i = _
        rw [set_get, if_neg (by omega)]
      · rcases ho with ⟨s, c, rfl, _⟩ | ⟨t, rfl, _, ht⟩
        · cases e
        · obtain rfl := Option.some.inj e; omega
    refine ih (j + 1) H5 _ _ (by omega) ⟨by have := hk.next; omega, fun i hi => ?_⟩ f6 ?_ (fun i hi => ?_) (fun r hr' x hx i hi => ?_) (fun r hr' x hx i hi => ?_)
    · rw [hget i (by have := hk.next; omega) (fun e => by have := hid i e; omega), hk.get i hi]
    · rw [List.take_succ_eq_append_getElem hjl]
      refine EvRows.snoc (hr.of (by omega) fun r hr' x hx i hi hi2 => hget i hi2 (hap r hr' x hx i hi)) ⟨lv', rfl, hlvS⟩
    · simp only [tipId, Option.some.injEq] at hi; have := hk.next; omega
    · simp only [tipId, ne_eq, Option.some.injEq]
      rcases List.mem_append.1 hr' with hr' | hr'
      · have := hlt r hr' x hx i hi; omega
      · simp only [List.mem_cons, List.not_mem_nil, or_false] at hr'; subst hr'
        obtain rfl := evRow_tip hx hi
        have := (hlv5 i hi).2.1; omega
    · rcases List.mem_append.1 hr' with hr' | hr'
      · obtain ⟨b1, l1, b2⟩ := hnw r hr' x hx i hi
        exact ⟨b1, l1, by rw [hget i (hlt r hr' x hx i hi) (hap r hr' x hx i hi)]; exact b2⟩
      · simp only [List.mem_cons, List.not_mem_nil, or_false] at hr'; subst hr'
        obtain rfl := evRow_tip hx hi
        exact ⟨(hlv5 i hi).1, (hlv5 i hi).2.2.2⟩
end Go.Proofs.YtlecbjcloleiiaaDoor.Ram

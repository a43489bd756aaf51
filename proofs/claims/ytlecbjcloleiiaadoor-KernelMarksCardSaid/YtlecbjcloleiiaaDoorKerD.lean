import Derived.Test.YtlecbjcloleiiaaDoorKerC
/-! Erasing what is plumbing. -/
namespace Go.Proofs.YtlecbjcloleiiaaDoor.Ram
open Go

theorem c_plumb {H : AH} {r : List AV} {e : Ev} (h : EvR H r e) : ∃ H', Call U 51 [.agg r] H = some (.bool (plumb e.kind), H') ∧ Keep H H' := by
  obtain ⟨k1, n1, a1, b1, l1⟩ := e
  obtain ⟨la, rfl, ha⟩ := h
  dsimp only at ha ⊢
  have h1 := evRow_all (k := k1) (n := n1) (a := a1) (b := b1) ha.one
  rw [← List.all_eq_true] at h1
  obtain ⟨H1, hH1⟩ : ∃ H1, H1 = H.push (.cells (evRow k1 n1 a1 b1 la) false) := ⟨_, rfl⟩
  have x0 : loadA H1 1 false (.ptr (some (H.next, 0 + 0))) = some (.int .i64 k1) := by
    rw [hH1, load_one (l := evRow k1 n1 a1 b1 la) (ro := false) (by simp)]; rfl
  refine ⟨H1, ?_, hH1 ▸ Keep.push _ _⟩
  rw [Call_of (F := a51) rfl rfl]
  have hfirst : execL U.E (Call U) (.reg [⟨(some 1), .box (.t 0), none⟩, ⟨(some 2), .mov (.c (.bool false)), none⟩]) (frOf [.agg (evRow k1 n1 a1 b1 la)], H) = some (.norm, ([(2, .bool false), (1, .ptr (some (H.next, 0))), (0, .agg (evRow k1 n1 a1 b1 la))], H1)) := by
    simp -implicitDefEqProofs [-List.all_eq_true, frOf, h1, hH1]
  show finR a51.res (execL U.E (Call U) c51 _) = _
  unfold c51
  rw [x_seq, hfirst, seqR_norm]
  clear hfirst hH1 h1
  by_cases e4 : k1 = 4
  · simp -implicitDefEqProofs [a51, binA, x0, plumb, e4]
  · by_cases e5 : k1 = 5
    · simp -implicitDefEqProofs [a51, binA, x0, plumb, e5]
    · by_cases e6 : k1 = 6
      · simp -implicitDefEqProofs [a51, binA, x0, plumb, e6]
      · simp -implicitDefEqProofs [a51, binA, x0, plumb, e4, e5, e6]

theorem index_loop {H0 : AH} {v : AV} {rows : List (List AV)} {es : List Ev} (hv : Rows H0 5 v rows) (he : EvRows H0 rows es) (hn : es.length < 1000000) : ∀ (d j : Nat) (H : AH), j + d = es.length → Keep H0 H →
    ∃ fr' H', Keep H0 H' ∧ (((∀ e ∈ es.drop j, plumb e.kind = false) ∧ loopL (execL U.E (Call U) c68l0) ([(0, v), (1, .fn 51 []), (7, .int .i64 es.length), (8, .int .i64 j)], H) = some (.exit 0, (fr', H'))) ∨
      ∃ i, j ≤ i ∧ i < es.length ∧ (∀ q e, j ≤ q → q < i → es[q]? = some e → plumb e.kind = false) ∧ (∀ e, es[i]? = some e → plumb e.kind = true) ∧ loopL (execL U.E (Call U) c68l0) ([(0, v), (1, .fn 51 []), (7, .int .i64 es.length), (8, .int .i64 j)], H) = some (.ret, (fr', H')) ∧ Fr.get fr' 4 = some (.int .i64 i)) := by
  intro d
  induction d with
  | zero =>
    intro j H hj hk
    obtain rfl : j = es.length := by omega
    refine ⟨[(0, v), (1, .fn 51 []), (7, .int .i64 es.length), (8, .int .i64 es.length), (9, .bool false)], H, hk, .inl ⟨by simp, ?_⟩⟩
    rw [loopL_eq]
    simp -implicitDefEqProofs [c68l0, binA]
  | succ d ih =>
    intro j H hj hk
    have hje : j < es.length := by omega
    obtain ⟨r, r1, r2⟩ := he.ev j _ (List.getElem?_eq_getElem hje)
    obtain ⟨i, o, g1, g2, _⟩ := (hv.keep hk).at r1
    obtain ⟨H1, c1, c2⟩ := c_plumb (r2.keep hk)
    have hjc : (j : Int) < (es.length : Int) := by omega
    have hw : IntKind.i64.wrap ((j : Int) + 1) = ((j + 1 : Nat) : Int) := by rw [wrap64 (by omega) (by omega)]; omega
    cases hp : plumb es[j].kind with
    | false =>
      rw [hp] at c1
      obtain ⟨fr', H', k', h⟩ := ih (j + 1) H1 (by omega) (hk.trans c2)
      have hstep : execL U.E (Call U) c68l0 ([(0, v), (1, .fn 51 []), (7, .int .i64 es.length), (8, .int .i64 j)], H) = some (.norm, ([(8, .int .i64 (j + 1 : Nat)), (18, .int .i64 (j + 1 : Nat)), (0, v), (1, .fn 51 []), (7, .int .i64 es.length), (8, .int .i64 j)], H1)) := by
        simp -implicitDefEqProofs [c68l0, binA, hjc, g1, g2, actA, c1, putD, Fr.set, hw]
      have hk2 : loopL (execL U.E (Call U) c68l0) ([(0, v), (1, .fn 51 []), (7, .int .i64 es.length), (8, .int .i64 j)], H) = loopL (execL U.E (Call U) c68l0) ([(0, v), (1, .fn 51 []), (7, .int .i64 es.length), (8, .int .i64 (j + 1 : Nat))], H1) := by
        rw [loopL_eq, hstep, seqR_norm, show c68l0 = ACode.keep [0, 1, 7, 8] _ from rfl, loop_keep]
        simp
      refine ⟨fr', H', k', ?_⟩
      rw [hk2]
      rcases h with ⟨h1, h2⟩ | ⟨q, h1, h2, h3, h4, h5⟩
      · refine .inl ⟨fun e he' => ?_, h2⟩
        rw [List.drop_eq_getElem_cons hje] at he'
        rcases List.mem_cons.1 he' with rfl | he'
        · exact hp
        · exact h1 e he'
      · refine .inr ⟨q, by omega, h2, fun p e hp1 hp2 hpe => ?_, h4, h5⟩
        by_cases hpj : p = j
        · subst hpj; rw [List.getElem?_eq_getElem hje] at hpe; obtain rfl := Option.some.inj hpe; exact hp
        · exact h3 p e (by omega) hp2 hpe
    | true =>
      rw [hp] at c1
      refine ⟨[(4, .int .i64 j), (17, .int .i64 j), (0, v), (1, .fn 51 []), (5, .int .i64 j), (7, .int .i64 es.length), (8, .int .i64 j), (16, .bool true)], H1, hk.trans c2, .inr ⟨j, Nat.le_refl _, hje, fun q e h1 h2 => by omega, fun e h1 => by rw [List.getElem?_eq_getElem hje] at h1; obtain rfl := Option.some.inj h1; exact hp, ?_, by simp⟩⟩
      have hstep : execL U.E (Call U) c68l0 ([(0, v), (1, .fn 51 []), (7, .int .i64 es.length), (8, .int .i64 j)], H) = some (.ret, ([(4, .int .i64 j), (17, .int .i64 j), (0, v), (1, .fn 51 []), (5, .int .i64 j), (7, .int .i64 es.length), (8, .int .i64 j), (16, .bool true)], H1)) := by
        simp -implicitDefEqProofs [c68l0, binA, hjc, g1, g2, actA, c1, putD, Fr.set]
      rw [loopL_eq, hstep, seqR_ret]

theorem take_flat {sz : Nat} : ∀ {rows : List (List AV)} (i : Nat), (∀ r ∈ rows, r.length = sz) → rows.flatten.take (i * sz) = (rows.take i).flatten
  | [], i, _ => by simp
  | r :: rows, 0, _ => by simp
  | r :: rows, i + 1, h => by
    have hr := h r (by simp)
    rw [List.flatten_cons, List.take_succ_cons, List.flatten_cons, ← take_flat i fun x hx => h x (by simp [hx]), Nat.succ_mul, Nat.add_comm, ← hr, List.take_append]
    simp [List.take_of_length_le]
theorem drop_flat {sz : Nat} : ∀ {rows : List (List AV)} (i : Nat), (∀ r ∈ rows, r.length = sz) → rows.flatten.drop (i * sz) = (rows.drop i).flatten
  | [], i, _ => by simp
  | r :: rows, 0, _ => by simp
  | r :: rows, i + 1, h => by
    have hr := h r (by simp)
    rw [List.flatten_cons, List.drop_succ_cons, ← drop_flat i fun x hx => h x (by simp [hx]), Nat.succ_mul, Nat.add_comm, ← hr, List.drop_append]
    simp [List.drop_eq_nil_of_le]
theorem put_row {sz i : Nat} {rows : List (List AV)} {r : List AV} (h : ∀ r ∈ rows, r.length = sz) (hi : i < rows.length) (hr : r.length = sz) : putCells rows.flatten (i * sz) r = (rows.set i r).flatten := by
  unfold putCells
  rw [take_flat i h, hr, ← Nat.succ_mul, drop_flat (i + 1) h, List.set_eq_take_append_cons_drop, if_pos hi]
  simp
structure KeepBut (t : Nat) (H H' : AH) : Prop where
  next : H.next ≤ H'.next
  get : ∀ i, i < H.next → i ≠ t → H'.get i = H.get i
theorem KeepBut.trans {t : Nat} {H H1 H2 : AH} (h : KeepBut t H H1) (k : KeepBut t H1 H2) : KeepBut t H H2 := ⟨Nat.le_trans h.next k.next, fun i hi ht => (k.get i (Nat.lt_of_lt_of_le hi h.next) ht).trans (h.get i hi ht)⟩
theorem Keep.but {t : Nat} {H H' : AH} (h : Keep H H') : KeepBut t H H' := ⟨h.next, fun i hi _ => h.get i hi⟩
def notPl (e : Ev) : Bool := !plumb e.kind

theorem delete_loop {H0 : AH} {t : Nat} {rows : List (List AV)} {es : List Ev} (ht : t < H0.next) (he : EvRows H0 rows es) (hap : Apart (.sl (some (t, 0)) 5 es.length none) rows) (hn : es.length < 1000000) : ∀ (d i j : Nat) (H : AH) (R : List (List AV)), j + d = es.length → i ≤ j → KeepBut t H0 H → R.length = es.length → (∀ r ∈ R, r.length = 5) → H.get t = some (.cells R.flatten false) → R.drop j = rows.drop j → EvRows H (R.take i) ((es.take j).filter notPl) → (∀ r ∈ R.take i, r ∈ rows) →
    ∃ (fr' : Fr) (H' : AH) (R' : List (List AV)) (i' : Nat), loopL (execL U.E (Call U) c50l0) ([(0, .sl (some (t, 0)) 5 es.length none), (1, .fn 51 []), (5, .int .i64 i), (6, .int .i64 j)], H) = some (.exit 0, (fr', H')) ∧ Fr.get fr' 0 = some (.sl (some (t, 0)) 5 es.length none) ∧ Fr.get fr' 5 = some (.int .i64 (i' : Nat)) ∧ i' ≤ es.length ∧ R'.length = es.length ∧ (∀ r ∈ R', r.length = 5) ∧ H'.get t = some (.cells R'.flatten false) ∧ KeepBut t H0 H' ∧ EvRows H' (R'.take i') (es.filter notPl) ∧ (∀ r ∈ R'.take i', r ∈ rows) := by
  intro d
  induction d with
  | zero =>
    intro i j H R hj hij hk hRl hR hg hd hev hmem
    obtain rfl : j = es.length := by omega
    rw [List.take_length] at hev
    refine ⟨[(0, .sl (some (t, 0)) 5 es.length none), (1, .fn 51 []), (5, .int .i64 i), (6, .int .i64 es.length), (19, .bool false)], H, R, i, ?_, by simp, by simp, hij, hRl, hR, hg, hk, hev, hmem⟩
    rw [loopL_eq]
    simp -implicitDefEqProofs [c50l0, binA]
  | succ d ih =>
    intro i j H R hj hij hk hRl hR hg hd hev hmem
    have hje : j < es.length := by omega
    obtain ⟨r, r1, r2⟩ := he.ev j _ (List.getElem?_eq_getElem hje)
    have hrj : R[j]? = some r := by
      have h1 : (R.drop j)[0]? = (rows.drop j)[0]? := by rw [hd]
      rw [List.getElem?_drop, List.getElem?_drop] at h1
      rw [← r1]; exact h1
    have hrm : r ∈ rows := List.mem_of_getElem? r1
    have hr5 : r.length = 5 := he.row r hrm
    have hkeep : ∀ r ∈ rows, ∀ x ∈ r, ∀ q, tipId x = some q → q ≠ t := fun r hr x hx q hq e => hap r hr x hx q hq (by rw [e]; rfl)
    -- the row in our slot
    have hvR : Rows H 5 (.sl (some (t, 0)) 5 es.length none) R := ⟨.inr ⟨t, 0, none, _, false, by rw [hRl], hg, by have := hk.next; omega, by rw [List.drop_zero, ← flat_len hR, List.take_length], by rw [flat_len hR]; omega⟩, hR⟩
    obtain ⟨q, o, g1, g2, _⟩ := hvR.at hrj
    have g1 := g1 .i64
    have r2H : EvR H r es[j] := by
      obtain ⟨lv, e1, e2⟩ := r2
      exact ⟨lv, e1, e2.of hk.next fun q hq hql => hk.get q hql (hkeep r hrm lv (by rw [e1]; simp [evRow]) q hq)⟩
    obtain ⟨H1, hH1⟩ : ∃ H1, H1 = (H.push (.cells [.int .i64 0, .int .i64 0, .str [], .str [], .sl none 1 0 (some 0)] false)).set H.next (.cells r false) := ⟨_, rfl⟩
    have k1 : Keep H H1 := hH1 ▸ (Keep.push H _).set (Nat.le_refl _) _
    have hone : r.all oneCell = true := by
      obtain ⟨lv, e1, e2⟩ := r2
      rw [e1, List.all_eq_true]; exact evRow_all e2.one
    have f1 : storeA (H.push (.cells [.int .i64 0, .int .i64 0, .str [], .str [], .sl none 1 0 (some 0)] false)) 5 (.ptr (some (H.next, 0))) (.agg r) = some H1 := by
      rw [store_at (l := [.int .i64 0, .int .i64 0, .str [], .str [], .sl none 1 0 (some 0)]) (by simp), if_pos ⟨hr5, by simp, hone⟩, hH1]
      simp [putCells, hr5]
    have f2 : loadA H1 5 true (.ptr (some (H.next, 0))) = some (.agg r) := by
      rw [load_agg (l := r) (ro := false) (by rw [hH1]; simp), if_pos (by omega), ← hr5]; simp
    obtain ⟨H2, c1, c2⟩ := c_plumb (show EvR H1 r es[j] from by obtain ⟨lv, e1, e2⟩ := r2H; exact ⟨lv, e1, e2.keep k1⟩)
    have k2 := k1.trans c2
    have htl : t < H.next := by have := hk.next; omega
    have hg2 : H2.get t = some (.cells R.flatten false) := by rw [k2.get t htl]; exact hg
    have f2' : loadA H2 5 true (.ptr (some (H.next, 0))) = some (.agg r) := by
      rw [load_agg (l := r) (ro := false) (by rw [c2.get _ (by rw [hH1]; simp), hH1]; simp), if_pos (by omega), ← hr5]; simp
    have hjc : (j : Int) < (es.length : Int) := by omega
    have hw : IntKind.i64.wrap ((j : Int) + 1) = ((j + 1 : Nat) : Int) := by rw [wrap64 (by omega) (by omega)]; omega
    have hwi : IntKind.i64.wrap ((i : Int) + 1) = ((i + 1 : Nat) : Int) := by rw [wrap64 (by omega) (by omega)]; omega
    have hd' : R.drop (j + 1) = rows.drop (j + 1) := by rw [← List.drop_drop, hd, List.drop_drop]
    have hta : (es.take (j + 1)).filter notPl = (es.take j).filter notPl ++ (if notPl es[j] then [es[j]] else []) := by
      rw [List.take_succ_eq_append_getElem hje, List.filter_append]
      congr 1
      by_cases hq : notPl es[j] = true <;> simp [hq]
    cases hp : plumb es[j].kind with
    | true =>
      rw [hp] at c1
      have hnp : notPl es[j] = false := by simp [notPl, hp]
      rw [hnp] at hta
      have hstep : execL U.E (Call U) c50l0 ([(0, .sl (some (t, 0)) 5 es.length none), (1, .fn 51 []), (5, .int .i64 i), (6, .int .i64 j)], H) = some (.norm, ([(6, .int .i64 (j + 1 : Nat)), (21, .int .i64 (j + 1 : Nat)), (20, .int .i64 j), (0, .sl (some (t, 0)) 5 es.length none), (1, .fn 51 []), (5, .int .i64 i), (6, .int .i64 j)], H2)) := by
        simp -implicitDefEqProofs [c50l0, binA, hjc, g1, g2, f1, f2, actA, c1, putD, Fr.set, hw]
      have hk2 : loopL (execL U.E (Call U) c50l0) ([(0, .sl (some (t, 0)) 5 es.length none), (1, .fn 51 []), (5, .int .i64 i), (6, .int .i64 j)], H) = loopL (execL U.E (Call U) c50l0) ([(0, .sl (some (t, 0)) 5 es.length none), (1, .fn 51 []), (5, .int .i64 i), (6, .int .i64 (j + 1 : Nat))], H2) := by
        rw [loopL_eq, hstep, seqR_norm, show c50l0 = ACode.keep [0, 1, 5, 6] _ from rfl, loop_keep]
        simp
      rw [hk2]
      exact ih i (j + 1) H2 R (by omega) (by omega) (hk.trans k2.but) hRl hR hg2 hd' (by rw [hta]; simp; exact hev.keep k2) hmem
    | false =>
      rw [hp] at c1
      have hnp : notPl es[j] = true := by simp [notPl, hp]
      rw [hnp] at hta
      have hii : (i : Int) < (es.length : Int) := by omega
      have hix : indexAA 5 (.sl (some (t, 0)) 5 es.length none) (.int .i64 i) = some (.ptr (some (t, i * 5))) := by simp [indexAA]; omega
      obtain ⟨H3, hH3⟩ : ∃ H3, H3 = H2.set t (.cells (R.set i r).flatten false) := ⟨_, rfl⟩
      have f3 : storeA H2 5 (.ptr (some (t, i * 5))) (.agg r) = some H3 := by
        rw [store_at hg2, if_pos ⟨hr5, by rw [flat_len hR]; omega, hone⟩, cells_agg, put_row hR (by omega) hr5, hH3]
      have k3 : KeepBut t H2 H3 := by rw [hH3]; exact ⟨Nat.le_refl _, fun q _ hq => by rw [set_get, if_neg hq]⟩
      have hstep : execL U.E (Call U) c50l0 ([(0, .sl (some (t, 0)) 5 es.length none), (1, .fn 51 []), (5, .int .i64 i), (6, .int .i64 j)], H) = some (.norm, ([(6, .int .i64 (j + 1 : Nat)), (21, .int .i64 (j + 1 : Nat)), (20, .int .i64 j), (0, .sl (some (t, 0)) 5 es.length none), (1, .fn 51 []), (5, .int .i64 (i + 1 : Nat)), (6, .int .i64 j)], H3)) := by
        simp -implicitDefEqProofs [c50l0, binA, hjc, g1, g2, f1, f2, f2', f3, hix, actA, c1, putD, Fr.set, hw, hwi]
      have hk2 : loopL (execL U.E (Call U) c50l0) ([(0, .sl (some (t, 0)) 5 es.length none), (1, .fn 51 []), (5, .int .i64 i), (6, .int .i64 j)], H) = loopL (execL U.E (Call U) c50l0) ([(0, .sl (some (t, 0)) 5 es.length none), (1, .fn 51 []), (5, .int .i64 (i + 1 : Nat)), (6, .int .i64 (j + 1 : Nat))], H3) := by
        rw [loopL_eq, hstep, seqR_norm, show c50l0 = ACode.keep [0, 1, 5, 6] _ from rfl, loop_keep]
        simp
      rw [hk2]
      have hta2 : (R.set i r).take (i + 1) = R.take i ++ [r] := by
        rw [List.set_eq_take_append_cons_drop, if_pos (by omega), List.take_append]
        simp [List.take_of_length_le, Nat.min_eq_left (show i ≤ R.length by omega)]
      have kk := (k2.but (t := t)).trans k3
      refine ih (i + 1) (j + 1) H3 (R.set i r) (by omega) (by omega) (hk.trans kk) (by simp [hRl]) (fun x hx => ?_) (by rw [hH3]; simp) ?_ ?_ ?_
      · rcases List.mem_or_eq_of_mem_set hx with h | rfl
        · exact hR x h
        · exact hr5
      · rw [List.drop_set_of_lt (by omega)]; exact hd'
      · rw [hta, hta2]
        simp only [if_true]
        refine EvRows.snoc (hev.of kk.next fun x hx y hy q hq hql => kk.get q hql (hkeep x (hmem x hx) y hy q hq)) ?_
        obtain ⟨lv, e1, e2⟩ := r2H
        exact ⟨lv, e1, e2.of kk.next fun q hq hql => kk.get q hql (hkeep r hrm lv (by rw [e1]; simp [evRow]) q hq)⟩
      · rw [hta2]
        intro x hx
        rcases List.mem_append.1 hx with hx | hx
        · exact hmem x hx
        · simp only [List.mem_cons, List.not_mem_nil, or_false] at hx; rw [hx]; exact hrm

theorem c_index {H : AH} {v : AV} {rows : List (List AV)} {es : List Ev} (hv : Rows H 5 v rows) (he : EvRows H rows es) (hn : es.length < 1000000) : ∃ H', Keep H H' ∧ (((∀ e ∈ es, plumb e.kind = false) ∧ Call U 68 [v, .fn 51 []] H = some (.int .i64 (-1), H')) ∨
      ∃ i, i < es.length ∧ (∀ q e, q < i → es[q]? = some e → plumb e.kind = false) ∧ (∀ e, es[i]? = some e → plumb e.kind = true) ∧ Call U 68 [v, .fn 51 []] H = some (.int .i64 (i : Nat), H')) := by
  obtain ⟨fr', H', k', h⟩ := index_loop hv he hn es.length 0 H (by omega) (Keep.refl _)
  have hlen := hv.len
  rw [he.len] at hlen
  refine ⟨H', k', ?_⟩
  rw [Call_of (F := a68) rfl rfl]
  rcases h with ⟨h1, h2⟩ | ⟨i, h1, h2, h3, h4, h5, h6⟩
  · refine .inl ⟨by simpa using h1, ?_⟩
    simp at h2
    simp -implicitDefEqProofs [a68, c68, frOf, hlen, h2]
  · refine .inr ⟨i, h2, fun q e hq => h3 q e (by omega) hq, h4, ?_⟩
    simp at h5
    simp -implicitDefEqProofs [a68, c68, frOf, hlen, h5, h6]

theorem c_delete {n : Nat} {H : AH} {v : AV} {rows : List (List AV)} {es : List Ev} (h : Own n H v rows es) (hn : es.length < 1000000) : ∃ v' H' rows', Call U 50 [v, .fn 51 []] H = some (v', H') ∧ Rows H' 5 v' rows' ∧ EvRows H' rows' (es.filter notPl) ∧ H.next ≤ H'.next ∧ ∀ i, i < H.next → tipId v ≠ some i → H'.get i = H.get i := by
  obtain ⟨H1, k1, hx⟩ := c_index h.rows h.ev hn
  rw [Call_of (F := a50) rfl rfl]
  rcases hx with ⟨h1, h2⟩ | ⟨i, h1, h2, h3, h4⟩
  · refine ⟨v, H1, rows, ?_, h.rows.keep k1, ?_, k1.next, fun i hi _ => k1.get i hi⟩
    · simp -implicitDefEqProofs [a50, c50, frOf, h2, binA]
    · rw [List.filter_eq_self.2 fun e he => by simp [notPl, h1 e he]]
      exact h.ev.keep k1
  · have htip := h.tip.keep k1
    rcases htip with ⟨s, c, rfl, e⟩ | ⟨t, rfl, ht1, ht2⟩
    · have := h.ev.len; rw [e] at this; simp at this; omega
    · have hlen := h.ev.len
      rw [hlen] at h h4 ⊢
      have he1 := h.ev.keep k1
      have htk : (es.take i).filter notPl = es.take i := List.filter_eq_self.2 fun e he => by
        obtain ⟨q, hq⟩ := List.mem_iff_getElem?.1 he
        rw [List.getElem?_take] at hq
        split at hq
        · rename_i hqi; simp [notPl, h2 q e hqi hq]
        · cases hq
      have hti : (es.take (i + 1)).filter notPl = es.take i := by
        have h5 := h3 es[i] (List.getElem?_eq_getElem h1)
        rw [List.take_succ_eq_append_getElem h1, List.filter_append, htk]
        simp [notPl, h5]
      obtain ⟨fr', H', R', i', g1, g2, g3, g4, g5, g6, g7, g8, g9, g10⟩ := delete_loop (H0 := H1) (t := t) (rows := rows) ht2 he1 h.apart hn (es.length - (i + 1)) i (i + 1) H1 rows (by omega) (by omega) (Keep.refl H1).but hlen h.ev.row ht1 rfl (by
        rw [hti]
        refine ⟨by simp [hlen], fun j e hj => ?_⟩
        rw [List.getElem?_take] at hj ⊢
        split at hj
        · rename_i hji; rw [if_pos hji]; exact he1.ev j e hj
        · cases hj) (fun r hr => List.mem_of_mem_take hr)
      obtain ⟨X, hX⟩ : ∃ X, X = putCells R'.flatten (i' * 5) (List.replicate (es.length - i') [AV.int .i64 0, .int .i64 0, .str [], .str [], .sl none 1 0 (some 0)]).flatten := ⟨_, rfl⟩
      have hXt : X.take (i' * 5) = (R'.take i').flatten := by
        rw [hX, ← take_flat i' g6]
        unfold putCells
        rw [List.append_assoc, List.take_append]
        have : (R'.flatten.take (i' * 5)).length = i' * 5 := by rw [List.length_take, flat_len g6]; omega
        rw [this, Nat.sub_self, List.take_zero, List.append_nil, List.take_of_length_le (by omega)]
      have hXl : X.length = es.length * 5 := by
        rw [hX]
        unfold putCells
        have h7 := flat_len g6
        simp only [List.length_append, List.length_take, List.length_drop]
        rw [flat_len (sz := 5) (rows := List.replicate (es.length - i') _) (fun r hr => by rw [(List.mem_replicate.1 hr).2]; rfl), h7, List.length_replicate]
        omega
      have hcl : clearA H' 5 [AV.int .i64 0, .int .i64 0, .str [], .str [], .sl none 1 0 (some 0)] (.sl (some (t, 0 + i' * 5)) 5 (es.length - i') none) = some (.tup [], H'.set t (.cells X false)) := by
        simp only [clearA, g7]
        rw [if_pos ⟨trivial, trivial, by rw [flat_len g6]; omega⟩, hX]
        simp
      have hs1 : slcA 5 (.sl (some (t, 0)) 5 es.length none) (some (.int .i64 (i' : Nat))) none = some (.sl (some (t, 0 + i' * 5)) 5 (es.length - i') none) := by
        simp only [slcA, bndA, natOf, Option.bind_some]
        rw [if_pos (by omega)]
        simp [g4]
      have hs2 : slcA 5 (.sl (some (t, 0)) 5 es.length none) none (some (.int .i64 (i' : Nat))) = some (.sl (some (t, 0)) 5 i' none) := by
        simp only [slcA, bndA, natOf, Option.bind_some]
        rw [if_pos (by omega)]
        simp [g4]
      have hwi : IntKind.i64.wrap ((i : Int) + 1) = ((i + 1 : Nat) : Int) := by rw [wrap64 (by omega) (by omega)]; omega
      have hne : ¬ ((i : Nat) : Int) = -1 := by omega
      refine ⟨.sl (some (t, 0)) 5 i' none, H'.set t (.cells X false), R'.take i', ?_, ⟨.inr ⟨t, 0, none, X, false, by rw [List.length_take, Nat.min_eq_left (by omega)], by simp, by have := g8.next; simp; omega, ?_, ?_⟩, fun r hr => g6 r (List.mem_of_mem_take hr)⟩, ?_, by have := k1.next; have := g8.next; simp; omega, fun q hq hqt => ?_⟩
      · simp at g1
        rw [Nat.zero_add] at hcl hs1
        simp -implicitDefEqProofs [a50, c50, frOf, h4, binA, hne, hwi, g1, g2, g3, pureA, hs1, hcl, hs2]
      · rw [List.drop_zero, List.length_take, Nat.min_eq_left (by omega)]; exact hXt
      · rw [List.length_take, Nat.min_eq_left (by omega), hXl]; omega
      · refine g9.of (by simp) fun r hr x hx q hq _ => ?_
        rw [set_get, if_neg (fun e => h.apart r (g10 r hr) x hx q hq (by rw [e]; rfl))]
      · rw [set_get, if_neg (fun e => hqt (by rw [e]; rfl)), g8.get q (by have := k1.next; omega) (fun e => hqt (by rw [e]; rfl)), k1.get q hq]
theorem c_erase {H : AH} {v : AV} {rows : List (List AV)} {es : List Ev} (hl : ∀ e ∈ es, e.l.length < 1000000) (hn : es.length < 1000000) (hv : Rows H 5 v rows) (he : EvRows H rows es) : ∃ v' H' rows', Call U 22 [v] H = some (v', H') ∧ Rows H' 5 v' rows' ∧ EvRows H' rows' (es.filter notPl) ∧ Keep H H' := by
  obtain ⟨v1, H1, r1, h1, h2, h3⟩ := c_copied hl hn hv he
  obtain ⟨v2, H2, r2, g1, g2, g3, g4, g5⟩ := c_delete h2 hn
  refine ⟨v2, H2, r2, ?_, g2, g3, ⟨Nat.le_trans h3.next g4, fun i hi => ?_⟩⟩
  · rw [Call_of (F := a22) rfl rfl]
    simp -implicitDefEqProofs [a22, c22, frOf, h1, g1]
  · rw [g5 i (by have := h3.next; omega) (fun e => by have := h2.id i e; omega), h3.get i hi]
end Go.Proofs.YtlecbjcloleiiaaDoor.Ram

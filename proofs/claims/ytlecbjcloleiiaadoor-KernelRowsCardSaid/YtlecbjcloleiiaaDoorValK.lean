import Derived.Test.YtlecbjcloleiiaaDoorValJ
/-! Appending; every operation. -/
namespace Go.Proofs.YtlecbjcloleiiaaDoor.Val
open Go Go.Proofs.YtlecbjcloleiiaaDoor.Ram
section
variable {φ : Bk} {G : Fz} {W : Nat → Prop} {st : VS} {fr : Fr} {H : AH}

/-- A list's rows, read by the first machine. -/
theorem Rel.rows (h : Rel φ G W st fr H) {sz : Nat} {v : V} {a : AV} {rows : List (List V)} (hv : VRel φ G v a) (hr : rowsOfV sz v = some rows) :
    ∃ cs, lenA a = some rows.length ∧ sliceCells H sz rows.length a = some cs ∧ cs.length = rows.length * sz ∧ RowsRel φ G sz rows cs := by
  cases v <;> simp only [rowsOfV, reduceCtorEq] at hr
  · rename_i s
    split at hr
    · rename_i h1
      obtain rfl := Option.some.inj hr
      subst h1
      simp only [VRel] at hv; subst hv
      refine ⟨s.map fun b => .int .u8 b.toNat, by simp [lenA], by simp [sliceCells], by simp, ?_⟩
      induction s with
      | nil => simp [RowsRel]
      | cons b s ih => simp only [List.map_cons, RowsRel]; exact ⟨rfl, by simp [VRels, VRel], by simpa using ih⟩
    · cases hr
  · rename_i sz' rows'
    split at hr
    · rename_i h1
      subst h1
      obtain rfl := Option.some.inj hr
      simp only [VRel] at hv
      rcases hv with ⟨rfl, s, c, rfl⟩ | ⟨r, o, c, pre, rfl, h2, h3, h4⟩
      · exact ⟨[], rfl, by simp [sliceCells], by simp, by simp [RowsRel]⟩
      · obtain ⟨_, l, ro, h5, h6⟩ := h.fz r pre h2
        have := h6.length_le
        refine ⟨(l.drop o).take (rows'.length * sz'), rfl, ?_, by simp; omega, ?_⟩
        · simp only [sliceCells, h5]
          rw [if_pos ⟨trivial, Nat.le_refl _, by omega⟩]
        · rw [take_prefix h6 h3]
          have := RowsRel.mono (BkLe.refl φ) (FzLe.refl G) (cs := pre.drop o) (cs' := pre.drop o) (List.prefix_refl _) (by simp; omega) h4
          -- only the rows' own cells matter
          have cut : ∀ {rows : List (List V)} {cs : List AV}, RowsRel φ G sz' rows cs → RowsRel φ G sz' rows (cs.take (rows.length * sz')) := by
            intro rows
            induction rows with
            | nil => intro cs _; simp [RowsRel]
            | cons x rows ih =>
              intro cs h
              simp only [RowsRel] at h ⊢
              rw [List.length_cons, Nat.succ_mul]
              refine ⟨h.1, by rw [List.take_take, Nat.min_eq_left (by omega)]; exact h.2.1, ?_⟩
              rw [List.drop_take, Nat.add_sub_cancel]
              exact ih h.2.2
          exact cut this
    · cases hr
theorem take_rel (h : Rel φ G W st fr H) {x : Opd} {v : V} {a : AV} {s : VS} (hv : evV st.f x = some v) (ha : x.ev fr = some a) (ht : takeR st x = some s) :
    Can G H W a ∧ s.f = st.f ∧ (∀ n t, (n, t) ∈ s.w → (n, t) ∈ st.w) ∧ (s.h = st.h ∨ ∃ i off, s.h = dropOwn st.h i off) ∧ ∀ r, headId a = some r → ∀ R b, Has s R → At fr H φ R b → headId b ≠ some r := by
  cases x with
  | t n =>
    simp only [evV] at hv
    simp only [Opd.ev] at ha
    simp only [takeR] at ht
    split at ht
    · rename_i hc
      obtain rfl := Option.some.inj ht
      have hc : (n, Tag.own) ∈ st.w := by simpa using hc
      obtain ⟨y, h1, h2⟩ := h.rt (.slot n) hc
      have e : a = y := by simp only [At] at h1; rw [ha] at h1; exact Option.some.inj h1
      subst e
      refine ⟨h2, rfl, fun m t hm => (mem_ne.1 hm).1, .inl rfl, fun r hr R b hR hb e => ?_⟩
      have hR' : Has st R := by
        cases R with
        | slot m => exact (mem_ne.1 hR).1
        | part m j => exact (mem_ne.1 hR).1
        | cell i off => exact hR
      have := h.rtx (.slot n) R a b r hc hR' ha hb hr e
      subst this
      exact (mem_ne.1 hR).2 rfl
    · split at ht
      · rename_i m i off hf
        split at ht
        · rename_i ho
          obtain rfl := Option.some.inj ht
          have hmem := List.mem_of_find?_eq_some hf
          have hm : m = n := by have := List.find?_some hf; simpa using this
          subst hm
          obtain ⟨y, h1, h2⟩ := h.alias m i off hmem ho
          have e : a = y := by rw [ha] at h1; exact Option.some.inj h1
          subst e
          obtain ⟨z, h3, h4⟩ := h.rt (.cell i off) ho
          obtain rfl := at_uniq h2 h3
          have hdrop : ownAt (dropOwn st.h i off) i off = false := by
            obtain ⟨l, own, r, cs, g1, _⟩ := h.cellW ho
            unfold ownAt dropOwn
            rw [g1]
            simp [VH.set]
          refine ⟨h4, rfl, fun k t hk => ?_, .inr ⟨i, off, rfl⟩, fun r hr R b hR hb e => ?_⟩
          · simp only [Rts.noCellAt, List.mem_filter] at hk; exact hk.1
          · have hR' : Has st R ∧ R ≠ .cell i off := by
              cases R with
              | slot k => simp only [Has, Rts.noCellAt, List.mem_filter] at hR; exact ⟨hR.1, fun e => by cases e⟩
              | part k j => simp only [Has, Rts.noCellAt, List.mem_filter] at hR; exact ⟨hR.1, fun e => by cases e⟩
              | cell i' off' =>
                simp only [Has] at hR
                refine ⟨?_, fun e => by cases e; rw [hdrop] at hR; cases hR⟩
                unfold ownAt at hR
                split at hR
                · rename_i l own hg
                  obtain ⟨o', q1, q2, _⟩ := drop_get _ hg
                  obtain ⟨own', rfl, q3⟩ := q2 l own rfl
                  simp only [Has, ownAt, q1]
                  simp only [List.contains_iff_mem] at hR ⊢
                  exact (q3 off' hR).1
                · cases hR
            exact hR'.2 (h.rtx R (.cell i off) b _ r hR'.1 ho hb h3 e hr)
        · cases ht
      · cases ht
  | c y =>
    simp only [takeR] at ht
    split at ht
    · rename_i hc
      obtain rfl := Option.some.inj ht
      obtain ⟨q, c, rfl⟩ := VRel.nilc (st := st) hc hv ha
      exact ⟨.inl ⟨q, c, rfl⟩, rfl, fun _ _ h => h, .inl rfl, fun r hr => by cases hr⟩
    · cases ht
  | g n => simp [takeR, isNilC] at ht
  | f n => simp [takeR, isNilC] at ht
/-- An append. -/
theorem Rel.append (h : Rel φ G W st fr H) {d sz bytes : Nat} {x y : Opd} {s : VS} (hs : appV st d sz bytes x y = some s) :
    ∃ a b r H' G' W', x.ev fr = some a ∧ y.ev fr = some b ∧ appendF H sz bytes a b = some (r, H') ∧ Rel φ G' W' s (Fr.set fr d r) H' ∧ Frm φ G W H φ G' W' H' := by
  unfold appV at hs
  simp only [Option.bind_eq_some_iff] at hs
  obtain ⟨u, h1, w, h2, rows, h3, news, h4, hs⟩ := hs
  split at hs
  · rename_i hc
    obtain ⟨c1, c2, c3⟩ := hc
    simp only [Option.map_eq_some_iff] at hs
    obtain ⟨s0, h5, rfl⟩ := hs
    obtain ⟨a, k1, k2⟩ := h.ev h1
    obtain ⟨b, k3, k4⟩ := h.ev h2
    obtain ⟨ns, n1, n2, n3, n4⟩ := h.rows k4 h4
    obtain ⟨q1, q2, q3, q4, q5⟩ := take_rel h h1 k1 h5
    have hWn : ¬ W H.next := fun hw => by have := h.win _ hw; omega
    have hGn : G H.next = none := by
      cases e : G H.next with
      | none => rfl
      | some pre => have := (h.fz _ _ e).1; omega
    have hrows : rows.length = news.length + rows.length - news.length := by omega
    -- the state without the right
    have low : ∀ W', (∀ r, W' r → W r) → (∀ r, W r → ¬ W' r → headId a = some r) → Rel φ G W' s0 fr H := fun W' w1 w2 => by
      refine h.fewer s0 q2 q3 q4 W' w1 fun r hr hn => ?_
      have e := w2 r hr hn
      exact ⟨(q1.id e).2, fun R b hR hb => q5 r e R b hR hb⟩
    -- a result in a new object
    have fresh : ∀ (pre : List AV) (o : Nat) (H' : AH) (l : List AV), (∀ r, headId a = some r → W r) → RowsRel φ G sz (rows ++ news) pre → pre.length = (rows ++ news).length * sz →
        H'.next = H.next + 1 → (∀ q, q < H.next → H'.get q = H.get q ∧ (headId a ≠ some q → H'.tip q = H.tip q)) → H'.get H.next = some (.cells pre true) → H'.tip H.next = true →
        ∃ G' W', Rel φ G' W' ⟨VFr.set s0.f d (.lst sz (rows ++ news)), (d, .own) :: s0.w.del d, s0.h⟩ (Fr.set fr d (.sl (some (H.next, 0)) sz (rows ++ news).length none)) H' ∧ Frm φ G W H φ G' W' H' := fun pre o H' l hidW hr hl hn hk hg ht => by
      have h6 := low (fun r => W r ∧ headId a ≠ some r) (fun r hr => hr.1) (fun r hr hn => Classical.byContradiction fun e => hn ⟨hr, e⟩)
      have h7 := h6.frozen (H' := H') (r := H.next) (pre := pre) (l := pre) (ro := true) (fun hw => hWn hw.1) (by omega) (by omega) (fun p e => by rw [hGn] at e; cases e) (fun q hq _ => ⟨(hk q hq).1, fun hw => (hk q hq).2 hw.2⟩) hg (List.prefix_refl _)
      have hle : FzLe G (Fz.put G H.next pre) := Fz.put_le fun p e => by rw [hGn] at e; cases e
      refine ⟨_, _, h7.put_own (v := .lst sz (rows ++ news)) ?_ (w' := s0.w) (fun _ _ h => h) none ⟨fun R0 x0 q hR hx e e2 => ?_, ?_⟩, ⟨by omega, BkLe.refl _, hle, fun q hq hw => ⟨(hk q hq).1, (hk q hq).2 (fun e => hw (hidW q e)), by simp only [Fz.put]; rw [if_neg (by omega)]⟩, fun q hq => by
        rcases hq with hq | rfl
        · exact .inl hq.1
        · exact .inr (Nat.le_refl _)⟩⟩
      · simp only [VRel]
        exact .inr ⟨H.next, 0, none, pre, rfl, by simp [Fz.put], by omega, by rw [List.drop_zero]; exact hr.mono (BkLe.refl _) hle (List.prefix_refl _) (by omega)⟩
      · obtain rfl := Option.some.inj e
        obtain ⟨z, z1, z2⟩ := h6.rt R0 hR
        obtain ⟨z', z3, z4⟩ := h7.rt R0 hR
        obtain rfl := at_uniq hx z3
        have hsame : x0 = z := by
          cases R0 with
          | slot n => exact at_uniq (R := .slot n) (H := H) (φ := φ) hx z1
          | part n j => exact at_uniq (R := .part n j) (H := H) (φ := φ) hx z1
          | cell i off =>
            obtain ⟨l', own, r, cs', _, _, p3, p4, _, p6, _⟩ := h6.cellW hR
            obtain ⟨r', cs2, ro, e1, e2, e3⟩ := z3
            rw [p3] at e1; obtain rfl := Option.some.inj e1
            have hlt := h6.win _ p4
            rw [(hk _ hlt).1] at e2
            exact at_uniq (R := .cell i off) (fr := fr) (H := H) (φ := φ) ⟨_, cs2, ro, p3, e2, e3⟩ z1
        subst hsame
        exact hWn (z2.id e2).1.1
      · exact .inr ⟨H.next, 0, sz, (rows ++ news).length, none, pre, rfl, .inr rfl, by simp [Fz.put], by omega, fun _ => ⟨ht, hg⟩, fun c e => by cases e⟩
    have hlen2 : (rows ++ news).length = rows.length + news.length := by simp
    -- what the right's list is
    cases u <;> simp only [rowsOfV, reduceCtorEq] at h3
    · -- a string has no right
      rename_i str
      simp only [VRel] at k2; subst k2
      rcases q1 with ⟨_, _, e⟩ | ⟨_, _, _, _, _, _, e, _⟩ <;> cases e
    · rename_i sz' rows'
      split at h3
      · rename_i hsz
        subst hsz
        obtain rfl := Option.some.inj h3
        simp only [VRel] at k2
        rcases q1 with ⟨z, c, rfl⟩ | ⟨r, o, sz2, len, c, pre, rfl, g1, g2, g3, g4, g5⟩
        · -- nil
          have hr0 : rows' = [] := by
            rcases k2 with ⟨e, _⟩ | ⟨_, _, _, _, e, _⟩
            · exact e
            · cases e
          subst hr0
          by_cases hn0 : news.length = 0
          · have hnews : news = [] := List.length_eq_zero_iff.1 hn0
            subst hnews
            refine ⟨_, _, .sl none z 0 c, H, G, W, k1, k3, ?_, ?_, Frm.refl _ _ _ _⟩
            · simp only [appendF, n1, n2, Option.bind_some]; simp
            · have h6 := low W (fun _ h => h) (fun r hr hn => absurd hr hn)
              exact h6.put_own (v := .lst sz' ([] ++ [])) (by simp [VRel]) (w' := s0.w) (fun _ _ h => h) none ⟨fun _ _ _ _ _ e => (by cases e), .inl ⟨_, _, rfl⟩⟩
          · obtain ⟨G', W', z1, z2⟩ := fresh ns 0 (H.grow ns) [] (fun r e => by cases e) (by simpa using n4) (by simpa using n3) rfl (fun q hq => ⟨by rw [show (H.grow ns).get q = if q = H.next then some (.cells ns true) else H.get q from rfl, if_neg (by omega)], fun _ => by show (if q = H.next then true else H.tip q) = H.tip q; rw [if_neg (by omega)]⟩) (by show (if H.next = H.next then some (AObj.cells ns true) else H.get H.next) = _; rw [if_pos rfl]) (by show (if H.next = H.next then true else H.tip H.next) = true; rw [if_pos rfl])
            refine ⟨_, _, .sl (some (H.next, 0)) sz' news.length none, H.grow ns, G', W', k1, k3, ?_, by simpa using z1, z2⟩
            simp only [appendF, n1, n2, Option.bind_some]
            rw [if_neg hn0, if_pos ⟨by simpa using c3, c2, c1, h.n100.2⟩]
        · -- an array
          rcases k2 with ⟨_, _, _, e⟩ | ⟨r', o', c', pre', e, k5, k6, k7⟩
          · cases e
          · cases e
            rw [g2] at k5
            obtain rfl := Option.some.inj k5
            have hcut : RowsRel φ G sz' rows' (pre.drop o) := k7
            have hdl : (pre.drop o).length = rows'.length * sz' := by simp; omega
            have happ : RowsRel φ G sz' (rows' ++ news) (pre.drop o ++ ns) := RowsRel.append hcut hdl n4
            have hal : (pre.drop o ++ ns).length = (rows' ++ news).length * sz' := by rw [List.length_append, hdl, n3, hlen2, Nat.add_mul]
            have hnr : r < H.next := h.win r g1
            have grow : ∀ l ro, H.get r = some (.cells l ro) → pre <+: l → (l.drop o).take (rows'.length * sz') ++ ns = pre.drop o ++ ns := fun l ro e hp => by
              rw [take_prefix hp (by omega)]
              rw [List.take_of_length_le (by omega)]
            cases c with
            | none =>
              obtain ⟨t1, t2⟩ := g4 rfl
              obtain ⟨G', W', z1, z2⟩ := fresh (pre.drop o ++ ns) 0 ((H.grow (pre.drop o ++ ns)).stop r) [] (fun q e => by obtain rfl := Option.some.inj e; exact g1) happ hal rfl (fun q hq => ⟨by show (if q = H.next then some (AObj.cells (pre.drop o ++ ns) true) else H.get q) = _; rw [if_neg (by omega)], fun hne => by
                show (if q = r then false else if q = H.next then true else H.tip q) = H.tip q
                rw [if_neg (fun e => hne (by rw [e]; rfl)), if_neg (by omega)]⟩) (by show (if H.next = H.next then some (AObj.cells (pre.drop o ++ ns) true) else H.get H.next) = _; rw [if_pos rfl]) (by show (if H.next = r then false else if H.next = H.next then true else H.tip H.next) = true; rw [if_neg (by omega), if_pos rfl])
              refine ⟨_, _, .sl (some (H.next, 0)) sz' (rows'.length + news.length) none, (H.grow (pre.drop o ++ ns)).stop r, G', W', k1, k3, ?_, by rw [← hlen2]; exact z1, z2⟩
              simp only [appendF, n1, n2, Option.bind_some, t2]
              rw [if_pos ⟨trivial, c1, c2, c3⟩, if_pos ⟨t1, trivial, by omega, h.n100.2⟩]
            | some cap =>
              obtain ⟨t0, l, t1, t2, t3⟩ := g5 cap rfl
              by_cases hroom : rows'.length + news.length ≤ cap
              · by_cases hn0 : news.length = 0
                · have hnews : news = [] := List.length_eq_zero_iff.1 hn0
                  subst hnews
                  refine ⟨_, _, .sl (some (r, o)) sz' rows'.length (some cap), H, G, W, k1, k3, ?_, ?_, Frm.refl _ _ _ _⟩
                  · simp only [appendF, n1, n2, Option.bind_some, t1]
                    rw [if_pos ⟨trivial, c1, c2, c3⟩, if_pos hroom, if_pos hn0]
                  · have h6 := low W (fun _ h => h) (fun r hr hn => absurd hr hn)
                    refine h6.put_own (v := .lst sz' (rows' ++ [])) (by rw [List.append_nil]; simp only [VRel]; exact .inr ⟨r, o, some cap, pre, rfl, g2, k6, k7⟩) (w' := s0.w) (fun _ _ h => h) none ⟨fun R0 x0 q hR hx e => q5 q e R0 x0 hR hx, ?_⟩
                    exact .inr ⟨r, o, sz', rows'.length, some cap, pre, rfl, g1, g2, g3, fun e => (by cases e), g5⟩
                · -- in place
                  have hmul : (rows'.length + news.length) * sz' ≤ cap * sz' := Nat.mul_le_mul_right _ hroom
                  have hmul2 : (rows'.length + news.length) * sz' = rows'.length * sz' + news.length * sz' := Nat.add_mul _ _ _
                  have hput : pre ++ ns <+: putCells l (o + rows'.length * sz') ns := by
                    unfold putCells
                    obtain ⟨t, rfl⟩ := t2
                    rw [List.take_append_of_le_length (by omega), List.take_of_length_le (by omega)]
                    exact List.prefix_append _ _
                  have hpl : (putCells l (o + rows'.length * sz') ns).length = l.length := by
                    unfold putCells; simp; omega
                  let H' := H.set r (.cells (putCells l (o + rows'.length * sz') ns) false)
                  have hget : ∀ q, H'.get q = if q = r then some (.cells (putCells l (o + rows'.length * sz') ns) false) else H.get q := fun q => rfl
                  have h6 := low (fun q => W q ∧ some r ≠ some q) (fun q hq => hq.1) (fun q hq hn => Classical.byContradiction fun e => hn ⟨hq, e⟩)
                  have hGle : ∀ p, G r = some p → p <+: pre ++ ns := fun p e => by rw [g2] at e; obtain rfl := Option.some.inj e; exact List.prefix_append _ _
                  have h7 := h6.frozen (H' := H') (r := r) (pre := pre ++ ns) (fun hw => hw.2 rfl) hnr (Nat.le_refl _) hGle (fun q hq hne => ⟨by rw [hget, if_neg hne], fun _ => rfl⟩) (by rw [hget, if_pos rfl]) hput
                  have hle : FzLe G (Fz.put G r (pre ++ ns)) := Fz.put_le hGle
                  refine ⟨_, _, .sl (some (r, o)) sz' (rows'.length + news.length) (some cap), H', _, _, k1, k3, ?_, h7.put_own (v := .lst sz' (rows' ++ news)) ?_ (w' := s0.w) (fun _ _ h => h) none ⟨fun R0 x0 q hR hx e e2 => ?_, ?_⟩, ⟨Nat.le_refl _, BkLe.refl _, hle, fun q hq hw => ⟨by rw [hget, if_neg (fun e => hw (by rw [e]; exact g1))], rfl, by simp only [Fz.put]; rw [if_neg (fun e => hw (by rw [e]; exact g1))]⟩, fun q hq => by
                    rcases hq with hq | rfl
                    · exact .inl hq.1
                    · exact .inl g1⟩⟩
                  · simp only [appendF, n1, n2, Option.bind_some, t1]
                    rw [if_pos ⟨trivial, c1, c2, c3⟩, if_pos hroom, if_neg hn0, if_pos ⟨trivial, by omega⟩]
                  · simp only [VRel]
                    refine .inr ⟨r, o, some cap, pre ++ ns, by rw [hlen2], by simp [Fz.put], by simp; omega, ?_⟩
                    rw [List.drop_append_of_le_length (by omega)]
                    exact happ.mono (BkLe.refl _) hle (List.prefix_refl _) (by omega)
                  · obtain rfl := Option.some.inj e
                    have hR0 := q5 r rfl R0
                    obtain ⟨z, z1, z2⟩ := h6.rt R0 hR
                    obtain ⟨z', z3, z4⟩ := h7.rt R0 hR
                    obtain rfl := at_uniq hx z3
                    have hsame : x0 = z := by
                      cases R0 with
                      | slot n => exact at_uniq (R := .slot n) (H := H) (φ := φ) hx z1
                      | part n j => exact at_uniq (R := .part n j) (H := H) (φ := φ) hx z1
                      | cell i off =>
                        obtain ⟨l', own, r2, cs', _, _, p3, p4, _, p6, _⟩ := h6.cellW hR
                        obtain ⟨r', cs2, ro, e1, e2, e3⟩ := z3
                        rw [p3] at e1; obtain rfl := Option.some.inj e1
                        rw [hget, if_neg (fun e => p4.2 (by rw [e]))] at e2
                        exact at_uniq (R := .cell i off) (fr := fr) (H := H) (φ := φ) ⟨_, cs2, ro, p3, e2, e3⟩ z1
                    subst hsame
                    exact hR0 _ hR z1 e2
                  · exact .inr ⟨r, o, sz', rows'.length + news.length, some cap, pre ++ ns, rfl, .inr rfl, by simp [Fz.put], by simp; omega, fun e => (by cases e), fun d' e => by
                      obtain rfl := Option.some.inj e
                      exact ⟨hroom, _, by rw [hget, if_pos rfl], hput, by omega⟩⟩
              · obtain ⟨G', W', z1, z2⟩ := fresh (pre.drop o ++ ns) 0 (H.grow (pre.drop o ++ ns)) [] (fun q e => by obtain rfl := Option.some.inj e; exact g1) happ hal rfl (fun q hq => ⟨by show (if q = H.next then some (AObj.cells (pre.drop o ++ ns) true) else H.get q) = _; rw [if_neg (by omega)], fun _ => by
                  show (if q = H.next then true else H.tip q) = H.tip q
                  rw [if_neg (by omega)]⟩) (by show (if H.next = H.next then some (AObj.cells (pre.drop o ++ ns) true) else H.get H.next) = _; rw [if_pos rfl]) (by show (if H.next = H.next then true else H.tip H.next) = true; rw [if_pos rfl])
                refine ⟨_, _, .sl (some (H.next, 0)) sz' (rows'.length + news.length) none, H.grow (pre.drop o ++ ns), G', W', k1, k3, ?_, by rw [← hlen2]; exact z1, z2⟩
                simp only [appendF, n1, n2, Option.bind_some, t1]
                have hle := t2.length_le
                rw [if_pos ⟨trivial, c1, c2, c3⟩, if_neg hroom, if_pos ⟨by omega, h.n100.2⟩, grow l false t1 t2]
      · cases h3
  · cases hs
end
end Go.Proofs.YtlecbjcloleiiaaDoor.Val

/-
  Parts of the proof: ValJ, ValK, ValL, ValS, ValU, RamS.
-/
import Derived.Test.YtbpgbhmibmcbnaaGreatDoorMga
/-! Stores; appending. -/
namespace Go.Proofs.YtbpgbhmibmcbnaaGreatDoor.Val
open Go Go.Proofs.YtbpgbhmibmcbnaaGreatDoor.Ram
section
variable {φ : Bk} {G : Fz} {W : Nat → Prop} {st : VS} {fr : Fr} {H : AH}

theorem rights_of (h : Rel φ G W st fr H) {st' : VS} {fr' : Fr} {H' : AH} {φ' : Bk} {G' : Fz} {W' : Nat → Prop} (org : Rt → Option Rt)
    (ha : ∀ R, Has st' R → ∃ x, At fr' H' φ' R x ∧ Can G' H' W' x ∧ match org R with
      | none => ∀ r, headId x = some r → ∀ R0 x0, Has st R0 → At fr H φ R0 x0 → headId x0 ≠ some r
      | some R0 => Has st R0 ∧ ∃ x0, At fr H φ R0 x0 ∧ headId x = headId x0)
    (hb : ∀ R R', Has st' R → Has st' R' → org R = org R' → R = R') :
    (∀ R, Has st' R → ∃ a, At fr' H' φ' R a ∧ Can G' H' W' a) ∧ (∀ R R' a a' r, Has st' R → Has st' R' → At fr' H' φ' R a → At fr' H' φ' R' a' → headId a = some r → headId a' = some r → R = R') := by
  refine ⟨fun R hR => by obtain ⟨x, h1, h2, _⟩ := ha R hR; exact ⟨x, h1, h2⟩, fun R R' x x' r hR hR' hx hx' hr hr' => ?_⟩
  obtain ⟨y, h1, _, h2⟩ := ha R hR
  obtain ⟨y', h1', _, h2'⟩ := ha R' hR'
  obtain rfl := at_uniq hx h1
  obtain rfl := at_uniq hx' h1'
  cases ho : org R with
  | none =>
    rw [ho] at h2
    cases ho' : org R' with
    | none => exact hb R R' hR hR' (ho.trans ho'.symm)
    | some R0' =>
      rw [ho'] at h2'
      obtain ⟨g1', x0', g2', g3'⟩ := h2'
      exact absurd (by rw [← g3']; exact hr') (h2 r hr R0' x0' g1' g2')
  | some R0 =>
    rw [ho] at h2
    obtain ⟨g1, x0, g2, g3⟩ := h2
    cases ho' : org R' with
    | none =>
      rw [ho'] at h2'
      exact absurd (by rw [← g3]; exact hr) (h2' r hr' R0 x0 g1 g2)
    | some R0' =>
      rw [ho'] at h2'
      obtain ⟨g1', x0', g2', g3'⟩ := h2'
      have := h.rtx R0 R0' x0 x0' r g1 g1' g2 g2' (by rw [← g3]; exact hr) (by rw [← g3']; exact hr')
      subst this
      exact hb R R' hR hR' (ho.trans ho'.symm)
theorem Rel.store (h : Rel φ G W st fr H) {n : Nat} {p x : V} {pa xa : AV} (hp : VRel φ G p pa) (hx : VRel φ G x xa) {rt : Bool} {S : VH} (hs : storeV st.h n p x rt = some S) {w' : Rts} (hw : ∀ m t, (m, t) ∈ w' → (m, t) ∈ st.w) (hnc : ∀ m i o, (m, Tag.cell i o) ∉ w')
    (hrt : rt = true → n = 1 ∧ ((∃ s c, xa = .sl none s 0 c) ∨ ∃ k, (k, Tag.own) ∈ st.w ∧ (k, Tag.own) ∉ w' ∧ Fr.get fr k = some xa)) :
    ∃ H', storeA H n pa xa = some H' ∧ Rel φ G W ⟨st.f, w', S⟩ fr H' ∧ Frm φ G W H φ G W H' := by
  unfold storeV at hs
  split at hs
  · rename_i i off
    split at hs
    · rename_i l own hg
      split at hs
      · rename_i hc
        obtain ⟨c1, c2, c3⟩ := hc
        obtain rfl := Option.some.inj hs
        simp only [VRel] at hp
        obtain ⟨r, h1, rfl⟩ := hp
        obtain ⟨_, r', h2, hWr, hGr, cs, h3, h4⟩ := h.objs i _ hg
        rw [h1] at h2
        obtain rfl := Option.some.inj h2
        have hcl := hx.cells
        have hcs : (cellsOf xa).length = n := hcl.length.trans c1
        let H' := H.set r (.cells (putCells cs off (cellsOf xa)) false)
        have hget : ∀ q, H'.get q = if q = r then some (.cells (putCells cs off (cellsOf xa)) false) else H.get q := fun q => rfl
        refine ⟨H', ?_, ?_, ⟨Nat.le_refl _, BkLe.refl _, FzLe.refl _, fun q _ hq => ⟨by rw [hget, if_neg (fun e => hq (by rw [e]; exact hWr))], rfl, rfl⟩, fun q hq => .inl hq⟩⟩
        · simp only [storeA, h3]
          rw [if_pos ⟨trivial, hcs, by rw [h4.length]; exact c2, by rw [hcl.one]; exact c3⟩]
        have hGne : ∀ q pre, G q = some pre → q ≠ r := fun q pre hq e => by rw [e, hGr] at hq; cases hq
        have hcan : ∀ a, Can G H W a → Can G H' W a := fun a ha => by
          rcases ha with ha | ⟨q, o, sz, len, c, pre, rfl, k1, k2, k3, k4, k5⟩
          · exact .inl ha
          · have hne := hGne q pre k2
            exact .inr ⟨q, o, sz, len, c, pre, rfl, k1, k2, k3, fun e => ⟨(k4 e).1, by rw [hget, if_neg hne]; exact (k4 e).2⟩, fun d e => by
              obtain ⟨z1, l, z2, z3⟩ := k5 d e
              exact ⟨z1, l, by rw [hget, if_neg hne]; exact z2, z3⟩⟩
        have hownS : ∀ j o, ownAt (st.h.set i (.cells (putV l off (cellsV x)) ((if rt = true then [off] else []) ++ own.filter fun o => !(decide (off ≤ o) && decide (o < off + n))))) j o = true → (j = i ∧ o = off ∧ rt = true) ∨ (ownAt st.h j o = true ∧ (j = i → ¬ (off ≤ o ∧ o < off + n))) := fun j o ho => by
          unfold ownAt at ho ⊢
          simp only [VH.set] at ho
          by_cases e : j = i
          · subst e
            rw [if_pos rfl] at ho
            simp only [List.contains_iff_mem, List.mem_append, List.mem_filter, Bool.not_eq_true', Bool.and_eq_false_iff, decide_eq_false_iff_not] at ho
            rcases ho with ho | ho
            · split at ho
              · rename_i hr; simp only [List.mem_singleton] at ho; exact .inl ⟨rfl, ho, hr⟩
              · cases ho
            · right
              rw [hg]
              exact ⟨by simpa using ho.1, fun _ hh => by rcases ho.2 with q | q <;> omega⟩
          · rw [if_neg e] at ho
            exact .inr ⟨ho, fun e' => absurd e' e⟩
        -- a cell that is not written
        have hcell : ∀ j o y, ownAt st.h j o = true → (j = i → ¬ (off ≤ o ∧ o < off + n)) → At fr H φ (.cell j o) y → At fr H' φ (.cell j o) y := fun j o y ho hno hy => by
          obtain ⟨q, cq, ro, e1, e2, e3⟩ := hy
          by_cases e : j = i
          · subst e
            rw [h1] at e1; obtain rfl := Option.some.inj e1
            rw [h3] at e2
            simp only [Option.some.injEq, AObj.cells.injEq] at e2
            obtain ⟨rfl, rfl⟩ := e2
            refine ⟨_, _, _, h1, by rw [hget, if_pos rfl], ?_⟩
            have hno := hno rfl
            have hlt := (List.getElem?_eq_some_iff.1 e3).1
            have hl : cs.length = l.length := h4.length
            unfold putCells
            rw [hcs]
            by_cases hlo : o < off
            · rw [List.append_assoc, List.getElem?_append_left (by simp; omega), List.getElem?_take, if_pos hlo]; exact e3
            · rw [List.getElem?_append_right (by simp; omega), List.getElem?_drop]
              rw [← e3]; congr 1; simp; omega
          · obtain ⟨lj, oj, rj, cj, g1, _, g2, _, _, _, _⟩ := h.cellW ho
            rw [g2] at e1; obtain rfl := Option.some.inj e1
            have hne : rj ≠ r := fun e' => e (by subst e'; exact h.inj j i rj _ _ g1 hg g2 h1)
            exact ⟨_, cq, ro, g2, by rw [hget, if_neg hne]; exact e2, e3⟩
        let org : Rt → Option Rt := fun R => match R with
          | .cell j o => if j = i ∧ o = off ∧ rt = true then (match hk : (Classical.propDecidable (∃ k, (k, Tag.own) ∈ st.w ∧ (k, Tag.own) ∉ w' ∧ Fr.get fr k = some xa)) with | isTrue e => some (.slot (Classical.choose e)) | isFalse _ => none) else some (.cell j o)
          | R => some R
        have hall := rights_of h (st' := ⟨st.f, w', st.h.set i (.cells (putV l off (cellsV x)) ((if rt = true then [off] else []) ++ own.filter fun o => !(decide (off ≤ o) && decide (o < off + n))))⟩) (fr' := fr) (H' := H') (φ' := φ) (G' := G) (W' := W) org (fun R hR => ?_) (fun R R' hR hR' e => ?_)
        · refine ⟨h.slots, fun j o ho => ?_, fun j k q oj ok hj hk => ?_, h.dom, h.glob, h.n100, fun q pre hq => ?_, h.win, hall.1, hall.2, h.gl, fun m j o hm _ => absurd hm (hnc m j o)⟩
          · simp only [VH.set] at ho
            split at ho
            · rename_i e; subst e
              obtain rfl := Option.some.inj ho
              have := h.objs j _ hg
              exact ⟨this.1, r, h1, hWr, hGr, _, by rw [hget, if_pos rfl], put_rel h4 hcl⟩
            · rename_i e
              obtain ⟨k1, q, k2, k3, k4, k5⟩ := h.objs j o ho
              have hne : q ≠ r := fun e' => e (by subst e'; exact h.inj j i q _ _ ho hg k2 h1)
              refine ⟨k1, q, k2, k3, k4, ?_⟩
              cases o with
              | cells lo oo => obtain ⟨cq, z1, z2⟩ := k5; exact ⟨cq, by rw [hget, if_neg hne]; exact z1, z2⟩
              | map lo => obtain ⟨cq, z1, z2⟩ := k5; exact ⟨cq, by rw [hget, if_neg hne]; exact z1, z2⟩
          · have old : ∀ j oj, (st.h.set i (.cells (putV l off (cellsV x)) ((if rt = true then [off] else []) ++ own.filter fun o => !(decide (off ≤ o) && decide (o < off + n))))).get j = some oj → ∃ o, st.h.get j = some o := fun j oj hj => by
              simp only [VH.set] at hj
              split at hj
              · rename_i e; subst e; exact ⟨_, hg⟩
              · exact ⟨_, hj⟩
            obtain ⟨_, z1⟩ := old j oj hj
            obtain ⟨_, z2⟩ := old k ok hk
            exact h.inj j k q _ _ z1 z2
          · obtain ⟨k1, lq, rq, k2, k3⟩ := h.fz q pre hq
            exact ⟨k1, lq, rq, by rw [hget, if_neg (hGne q pre hq)]; exact k2, k3⟩
        · -- where the rights come from
          cases R with
          | slot m =>
            obtain ⟨y, k1, k2⟩ := h.rt (.slot m) (hw _ _ hR)
            exact ⟨y, k1, hcan y k2, hw _ _ hR, y, k1, rfl⟩
          | part m j =>
            obtain ⟨y, k1, k2⟩ := h.rt (.part m j) (hw _ _ hR)
            exact ⟨y, k1, hcan y k2, hw _ _ hR, y, k1, rfl⟩
          | cell j o =>
            rcases hownS j o hR with ⟨rfl, rfl, hr⟩ | ⟨ho, hno⟩
            · obtain ⟨hn1, hcase⟩ := hrt hr
              have hnew : At fr H' φ (.cell j o) xa := by
                refine ⟨r, _, false, h1, by rw [hget, if_pos rfl], ?_⟩
                have hxa : cellsOf xa = [xa] := by
                  rcases hcase with ⟨s, c, rfl⟩ | ⟨k, k1, _, k2⟩
                  · rfl
                  · obtain ⟨y, k3, k4⟩ := h.rt (.slot k) k1
                    simp only [At] at k3
                    rw [k2] at k3
                    obtain rfl := Option.some.inj k3
                    rcases k4 with ⟨s, c, rfl⟩ | ⟨_, _, _, _, _, _, rfl, _⟩ <;> rfl
                have hl : cs.length = l.length := h4.length
                unfold putCells
                rw [hxa, List.append_assoc, List.getElem?_append_right (by simp; omega)]
                simp
                rw [Nat.min_eq_left (by omega), Nat.sub_self]; rfl
              refine ⟨xa, hnew, ?_, ?_⟩
              · rcases hcase with ⟨s, c, rfl⟩ | ⟨k, k1, _, k2⟩
                · exact .inl ⟨s, c, rfl⟩
                · obtain ⟨y, k3, k4⟩ := h.rt (.slot k) k1
                  simp only [At] at k3
                  rw [k2] at k3
                  obtain rfl := Option.some.inj k3
                  exact hcan _ k4
              · simp only [org]
                rw [if_pos ⟨trivial, trivial, hr⟩]
                split
                · rename_i e0
                  split at e0
                  · cases e0
                  · rename_i hne _
                    rcases hcase with ⟨s, c, rfl⟩ | hk
                    · intro q e; cases e
                    · exact absurd hk hne
                · rename_i R0 e0
                  split at e0
                  · rename_i e _
                    obtain rfl := Option.some.inj e0
                    have := Classical.choose_spec e
                    exact ⟨this.1, xa, this.2.2, rfl⟩
                  · cases e0
            · obtain ⟨y, k1, k2⟩ := h.rt (.cell j o) ho
              refine ⟨y, hcell j o y ho hno k1, hcan y k2, ?_⟩
              have : ¬ (j = i ∧ o = off ∧ rt = true) := fun ⟨e1, e2, e3⟩ => hno e1 (by have := (hrt e3).1; omega)
              simp only [org]
              rw [if_neg this]
              exact ⟨ho, y, k1, rfl⟩
        · -- two rights have two sources
          have slotne : ∀ m j o, (m, Tag.own) ∈ w' → org (.cell j o) ≠ some (.slot m) := fun m j o hm e => by
            simp only [org] at e
            split at e
            · split at e
              · rename_i e2 _
                have := Classical.choose_spec e2
                simp only [Option.some.injEq, Rt.slot.injEq] at e
                rw [e] at this
                exact this.2.1 hm
              · cases e
            · cases e
          have cellcase : ∀ j o, org (.cell j o) = none ∨ (∃ m, org (.cell j o) = some (.slot m)) → j = i ∧ o = off := fun j o e => by
            simp only [org] at e
            split at e
            · rename_i hc; exact ⟨hc.1, hc.2.1⟩
            · rcases e with e | ⟨m, e⟩ <;> cases e
          have cellother : ∀ j o j' o', org (.cell j o) = some (.cell j' o') → j = j' ∧ o = o' := fun j o j' o' e => by
            simp only [org] at e
            split at e
            · split at e <;> cases e
            · simp only [Option.some.injEq, Rt.cell.injEq] at e; exact e
          cases R with
          | slot m =>
            cases R' with
            | slot m' => exact Option.some.inj e
            | part m' j' => cases e
            | cell j o => exact absurd e.symm (slotne m j o hR)
          | part m j =>
            cases R' with
            | slot m' => cases e
            | part m' j' => exact Option.some.inj e
            | cell j' o =>
              exfalso
              have e' : org (.cell j' o) = some (.part m j) := e.symm
              simp only [org] at e'
              split at e'
              · split at e' <;> cases e'
              · cases e'
          | cell j o =>
            cases R' with
            | slot m' => exact absurd e (slotne m' j o hR')
            | part m' j' =>
              exfalso
              have e' : org (.cell j o) = some (.part m' j') := e
              simp only [org] at e'
              split at e'
              · split at e' <;> cases e'
              · cases e'
            | cell j' o' =>
              cases ho : org (.cell j o) with
              | none =>
                obtain ⟨rfl, rfl⟩ := cellcase j o (.inl ho)
                obtain ⟨rfl, rfl⟩ := cellcase j' o' (.inl (e.symm.trans ho))
                rfl
              | some R0 =>
                cases R0 with
                | slot m =>
                  obtain ⟨rfl, rfl⟩ := cellcase j o (.inr ⟨m, ho⟩)
                  obtain ⟨rfl, rfl⟩ := cellcase j' o' (.inr ⟨m, e.symm.trans ho⟩)
                  rfl
                | part m k =>
                  exfalso
                  simp only [org] at ho
                  split at ho
                  · split at ho <;> cases ho
                  · cases ho
                | cell a b =>
                  obtain ⟨rfl, rfl⟩ := cellother j o a b ho
                  obtain ⟨rfl, rfl⟩ := cellother j' o' j o (e.symm.trans ho)
                  rfl
      · cases hs
    · cases hs
  · cases hs
end
end Go.Proofs.YtbpgbhmibmcbnaaGreatDoor.Val

/-! Appending; every operation. -/
namespace Go.Proofs.YtbpgbhmibmcbnaaGreatDoor.Val
open Go Go.Proofs.YtbpgbhmibmcbnaaGreatDoor.Ram
section
variable {φ : Bk} {G : Fz} {W : Nat → Prop} {st : VS} {fr : Fr} {H : AH}

theorem Rel.rows (h : Rel φ G W st fr H) {sz : Nat} {v : V} {a : AV} {rows : List (List V)} (hv : VRel φ G v a) (hr : rowsOfV sz v = some rows) :
    ∃ cs, lenA a = some rows.length ∧ sliceCells H sz rows.length a = some cs ∧ cs.length = rows.length * sz ∧ RowsRel φ G sz rows cs := by
  cases v <;> simp only [rowsOfV, reduceCtorEq] at hr
  · rename_i s
    split at hr
    · rename_i h1
      obtain rfl := Option.some.inj hr
      subst h1
      simp only [VRel] at hv; subst hv
      refine ⟨s.map fun b => .int .u8 b.toNat, by simp [lenA], by simp [sliceCells], by simp, ?_⟩
      induction s with
      | nil => simp [RowsRel]
      | cons b s ih => simp only [List.map_cons, RowsRel]; exact ⟨rfl, by simp [VRels, VRel], by simpa using ih⟩
    · cases hr
  · rename_i sz' rows'
    split at hr
    · rename_i h1
      subst h1
      obtain rfl := Option.some.inj hr
      simp only [VRel] at hv
      rcases hv with ⟨rfl, s, c, rfl⟩ | ⟨r, o, c, pre, rfl, h2, h3, h4⟩
      · exact ⟨[], rfl, by simp [sliceCells], by simp, by simp [RowsRel]⟩
      · obtain ⟨_, l, ro, h5, h6⟩ := h.fz r pre h2
        have := h6.length_le
        refine ⟨(l.drop o).take (rows'.length * sz'), rfl, ?_, by simp; omega, ?_⟩
        · simp only [sliceCells, h5]
          rw [if_pos ⟨trivial, Nat.le_refl _, by omega⟩]
        · rw [take_prefix h6 h3]
          have := RowsRel.mono (BkLe.refl φ) (FzLe.refl G) (cs := pre.drop o) (cs' := pre.drop o) (List.prefix_refl _) (by simp; omega) h4
          -- only the rows' own cells matter
          have cut : ∀ {rows : List (List V)} {cs : List AV}, RowsRel φ G sz' rows cs → RowsRel φ G sz' rows (cs.take (rows.length * sz')) := by
            intro rows
            induction rows with
            | nil => intro cs _; simp [RowsRel]
            | cons x rows ih =>
              intro cs h
              simp only [RowsRel] at h ⊢
              rw [List.length_cons, Nat.succ_mul]
              refine ⟨h.1, by rw [List.take_take, Nat.min_eq_left (by omega)]; exact h.2.1, ?_⟩
              rw [List.drop_take, Nat.add_sub_cancel]
              exact ih h.2.2
          exact cut this
    · cases hr
theorem Rel.seen (h : Rel φ G W st fr H) {sz : Nat} {v : V} {a : AV} {rows : List (List V)} (hv : VRel φ G v a) (hr : seenV st.h sz v = some rows) :
    ∃ cs, lenA a = some rows.length ∧ sliceCells H sz rows.length a = some cs ∧ cs.length = rows.length * sz ∧ RowsRel φ G sz rows cs := by
  cases v <;> simp only [seenV, reduceCtorEq] at hr
  · exact h.rows hv (by simpa only [rowsOfV] using hr)
  · exact h.rows hv (by simpa only [rowsOfV] using hr)
  · rename_i p sz' len cap
    cases p with
    | none =>
      obtain rfl := Option.some.inj hr
      simp only [VRel] at hv
      obtain ⟨_, s, c, rfl⟩ := hv
      exact ⟨[], rfl, by simp [sliceCells], by simp, by simp [RowsRel]⟩
    | some q =>
      obtain ⟨i, off⟩ := q
      simp only at hr
      split at hr
      · rename_i l own hg
        split at hr
        · rename_i hc
          obtain ⟨rfl, hc⟩ := hc
          obtain rfl := Option.some.inj hr
          simp only [VRel] at hv
          obtain ⟨r, h1, rfl⟩ := hv
          obtain ⟨_, r', h2, _, _, cs, h3, h4⟩ := h.objs i _ hg
          rw [h1] at h2; obtain rfl := Option.some.inj h2
          have hl := h4.length
          refine ⟨(cs.drop off).take (len * sz'), by rw [rowsOf_len]; rfl, ?_, by rw [rowsOf_len]; simp; omega, ?_⟩
          · rw [rowsOf_len]
            simp only [sliceCells, h3]
            rw [if_pos ⟨trivial, Nat.le_refl _, by omega⟩]
          · have := RowsRel.of_rowsOf (G := G) (φ := φ) (sz := sz') (n := len) ((h4.drop off).take (len * sz')) (by simp; omega)
            rw [rowsOf_take] at this; exact this
        · cases hr
      · cases hr
theorem take_rel (h : Rel φ G W st fr H) {x : Opd} {v : V} {a : AV} {s : VS} (hv : evV st.f x = some v) (ha : x.ev fr = some a) (ht : takeR st x = some s) :
    Can G H W a ∧ s.f = st.f ∧ (∀ n t, (n, t) ∈ s.w → (n, t) ∈ st.w) ∧ (s.h = st.h ∨ ∃ i off, s.h = dropOwn st.h i off) ∧ ∀ r, headId a = some r → ∀ R b, Has s R → At fr H φ R b → headId b ≠ some r := by
  cases x with
  | t n =>
    simp only [evV] at hv
    simp only [Opd.ev] at ha
    simp only [takeR] at ht
    split at ht
    · rename_i hc
      obtain rfl := Option.some.inj ht
      have hc : (n, Tag.own) ∈ st.w := by simpa using hc
      obtain ⟨y, h1, h2⟩ := h.rt (.slot n) hc
      have e : a = y := by simp only [At] at h1; rw [ha] at h1; exact Option.some.inj h1
      subst e
      refine ⟨h2, rfl, fun m t hm => (mem_ne.1 hm).1, .inl rfl, fun r hr R b hR hb e => ?_⟩
      have hR' : Has st R := by
        cases R with
        | slot m => exact (mem_ne.1 hR).1
        | part m j => exact (mem_ne.1 hR).1
        | cell i off => exact hR
      have := h.rtx (.slot n) R a b r hc hR' ha hb hr e
      subst this
      exact (mem_ne.1 hR).2 rfl
    · split at ht
      · rename_i m i off hf
        split at ht
        · rename_i ho
          obtain rfl := Option.some.inj ht
          have hmem := List.mem_of_find?_eq_some hf
          have hm : m = n := by have := List.find?_some hf; simpa using this
          subst hm
          obtain ⟨y, h1, h2⟩ := h.alias m i off hmem ho
          have e : a = y := by rw [ha] at h1; exact Option.some.inj h1
          subst e
          obtain ⟨z, h3, h4⟩ := h.rt (.cell i off) ho
          obtain rfl := at_uniq h2 h3
          have hdrop : ownAt (dropOwn st.h i off) i off = false := by
            obtain ⟨l, own, r, cs, g1, _⟩ := h.cellW ho
            unfold ownAt dropOwn
            rw [g1]
            simp [VH.set]
          refine ⟨h4, rfl, fun k t hk => ?_, .inr ⟨i, off, rfl⟩, fun r hr R b hR hb e => ?_⟩
          · simp only [Rts.noCellAt, List.mem_filter] at hk; exact hk.1
          · have hR' : Has st R ∧ R ≠ .cell i off := by
              cases R with
              | slot k => simp only [Has, Rts.noCellAt, List.mem_filter] at hR; exact ⟨hR.1, fun e => by cases e⟩
              | part k j => simp only [Has, Rts.noCellAt, List.mem_filter] at hR; exact ⟨hR.1, fun e => by cases e⟩
              | cell i' off' =>
                simp only [Has] at hR
                refine ⟨?_, fun e => by cases e; rw [hdrop] at hR; cases hR⟩
                unfold ownAt at hR
                split at hR
                · rename_i l own hg
                  obtain ⟨o', q1, q2, _⟩ := drop_get _ hg
                  obtain ⟨own', rfl, q3⟩ := q2 l own rfl
                  simp only [Has, ownAt, q1]
                  simp only [List.contains_iff_mem] at hR ⊢
                  exact (q3 off' hR).1
                · cases hR
            exact hR'.2 (h.rtx R (.cell i off) b _ r hR'.1 ho hb h3 e hr)
        · cases ht
      · cases ht
  | c y =>
    simp only [takeR] at ht
    split at ht
    · rename_i hc
      obtain rfl := Option.some.inj ht
      obtain ⟨q, c, rfl⟩ := VRel.nilc (st := st) hc hv ha
      exact ⟨.inl ⟨q, c, rfl⟩, rfl, fun _ _ h => h, .inl rfl, fun r hr => by cases hr⟩
    · cases ht
  | g n => simp [takeR, isNilC] at ht
  | f n => simp [takeR, isNilC] at ht
theorem Rel.append (h : Rel φ G W st fr H) {d sz bytes : Nat} {x y : Opd} {s : VS} (hs : appV st d sz bytes x y = some s) :
    ∃ a b r H' G' W', x.ev fr = some a ∧ y.ev fr = some b ∧ appendF H sz bytes a b = some (r, H') ∧ Rel φ G' W' s (Fr.set fr d r) H' ∧ Frm φ G W H φ G' W' H' := by
  unfold appV at hs
  simp only [Option.bind_eq_some_iff] at hs
  obtain ⟨u, h1, w, h2, rows, h3, news, h4, hs⟩ := hs
  split at hs
  · rename_i hc
    obtain ⟨c1, c2, c3⟩ := hc
    simp only [Option.map_eq_some_iff] at hs
    obtain ⟨s0, h5, rfl⟩ := hs
    obtain ⟨a, k1, k2⟩ := h.ev h1
    obtain ⟨b, k3, k4⟩ := h.ev h2
    obtain ⟨ns, n1, n2, n3, n4⟩ := h.seen k4 h4
    obtain ⟨q1, q2, q3, q4, q5⟩ := take_rel h h1 k1 h5
    have hWn : ¬ W H.next := fun hw => by have := h.win _ hw; omega
    have hGn : G H.next = none := by
      cases e : G H.next with
      | none => rfl
      | some pre => have := (h.fz _ _ e).1; omega
    have hrows : rows.length = news.length + rows.length - news.length := by omega
    -- the state without the right
    have low : ∀ W', (∀ r, W' r → W r) → (∀ r, W r → ¬ W' r → headId a = some r) → Rel φ G W' s0 fr H := fun W' w1 w2 => by
      refine h.fewer s0 q2 q3 q4 W' w1 fun r hr hn => ?_
      have e := w2 r hr hn
      exact ⟨(q1.id e).2, fun R b hR hb => q5 r e R b hR hb⟩
    -- a result in a new object
    have fresh : ∀ (pre : List AV) (o : Nat) (H' : AH) (l : List AV), (∀ r, headId a = some r → W r) → RowsRel φ G sz (rows ++ news) pre → pre.length = (rows ++ news).length * sz →
        H'.next = H.next + 1 → (∀ q, q < H.next → H'.get q = H.get q ∧ (headId a ≠ some q → H'.tip q = H.tip q)) → H'.get H.next = some (.cells pre true) → H'.tip H.next = true →
        ∃ G' W', Rel φ G' W' ⟨VFr.set s0.f d (.lst sz (rows ++ news)), (d, .own) :: s0.w.del d, s0.h⟩ (Fr.set fr d (.sl (some (H.next, 0)) sz (rows ++ news).length none)) H' ∧ Frm φ G W H φ G' W' H' := fun pre o H' l hidW hr hl hn hk hg ht => by
      have h6 := low (fun r => W r ∧ headId a ≠ some r) (fun r hr => hr.1) (fun r hr hn => Classical.byContradiction fun e => hn ⟨hr, e⟩)
      have h7 := h6.frozen (H' := H') (r := H.next) (pre := pre) (l := pre) (ro := true) (fun hw => hWn hw.1) (by omega) (by omega) (fun p e => by rw [hGn] at e; cases e) (fun q hq _ => ⟨(hk q hq).1, fun hw => (hk q hq).2 hw.2⟩) hg (List.prefix_refl _)
      have hle : FzLe G (Fz.put G H.next pre) := Fz.put_le fun p e => by rw [hGn] at e; cases e
      refine ⟨_, _, h7.put_own (v := .lst sz (rows ++ news)) ?_ (w' := s0.w) (fun _ _ h => h) none ⟨fun R0 x0 q hR hx e e2 => ?_, ?_⟩, ⟨by omega, BkLe.refl _, hle, fun q hq hw => ⟨(hk q hq).1, (hk q hq).2 (fun e => hw (hidW q e)), by simp only [Fz.put]; rw [if_neg (by omega)]⟩, fun q hq => by
        rcases hq with hq | rfl
        · exact .inl hq.1
        · exact .inr (Nat.le_refl _)⟩⟩
      · simp only [VRel]
        exact .inr ⟨H.next, 0, none, pre, rfl, by simp [Fz.put], by omega, by rw [List.drop_zero]; exact hr.mono (BkLe.refl _) hle (List.prefix_refl _) (by omega)⟩
      · obtain rfl := Option.some.inj e
        obtain ⟨z, z1, z2⟩ := h6.rt R0 hR
        obtain ⟨z', z3, z4⟩ := h7.rt R0 hR
        obtain rfl := at_uniq hx z3
        have hsame : x0 = z := by
          cases R0 with
          | slot n => exact at_uniq (R := .slot n) (H := H) (φ := φ) hx z1
          | part n j => exact at_uniq (R := .part n j) (H := H) (φ := φ) hx z1
          | cell i off =>
            obtain ⟨l', own, r, cs', _, _, p3, p4, _, p6, _⟩ := h6.cellW hR
            obtain ⟨r', cs2, ro, e1, e2, e3⟩ := z3
            rw [p3] at e1; obtain rfl := Option.some.inj e1
            have hlt := h6.win _ p4
            rw [(hk _ hlt).1] at e2
            exact at_uniq (R := .cell i off) (fr := fr) (H := H) (φ := φ) ⟨_, cs2, ro, p3, e2, e3⟩ z1
        subst hsame
        exact hWn (z2.id e2).1.1
      · exact .inr ⟨H.next, 0, sz, (rows ++ news).length, none, pre, rfl, .inr rfl, by simp [Fz.put], by omega, fun _ => ⟨ht, hg⟩, fun c e => by cases e⟩
    have hlen2 : (rows ++ news).length = rows.length + news.length := by simp
    -- what the right's list is
    cases u <;> simp only [rowsOfV, reduceCtorEq] at h3
    · -- a string has no right
      rename_i str
      simp only [VRel] at k2; subst k2
      rcases q1 with ⟨_, _, e⟩ | ⟨_, _, _, _, _, _, e, _⟩ <;> cases e
    · rename_i sz' rows'
      split at h3
      · rename_i hsz
        subst hsz
        obtain rfl := Option.some.inj h3
        simp only [VRel] at k2
        rcases q1 with ⟨z, c, rfl⟩ | ⟨r, o, sz2, len, c, pre, rfl, g1, g2, g3, g4, g5⟩
        · -- nil
          have hr0 : rows' = [] := by
            rcases k2 with ⟨e, _⟩ | ⟨_, _, _, _, e, _⟩
            · exact e
            · cases e
          subst hr0
          by_cases hn0 : news.length = 0
          · have hnews : news = [] := List.length_eq_zero_iff.1 hn0
            subst hnews
            refine ⟨_, _, .sl none z 0 c, H, G, W, k1, k3, ?_, ?_, Frm.refl _ _ _ _⟩
            · simp only [appendF, n1, n2, Option.bind_some]; simp
            · have h6 := low W (fun _ h => h) (fun r hr hn => absurd hr hn)
              exact h6.put_own (v := .lst sz' ([] ++ [])) (by simp [VRel]) (w' := s0.w) (fun _ _ h => h) none ⟨fun _ _ _ _ _ e => (by cases e), .inl ⟨_, _, rfl⟩⟩
          · obtain ⟨G', W', z1, z2⟩ := fresh ns 0 (H.grow ns) [] (fun r e => by cases e) (by simpa using n4) (by simpa using n3) rfl (fun q hq => ⟨by rw [show (H.grow ns).get q = if q = H.next then some (.cells ns true) else H.get q from rfl, if_neg (by omega)], fun _ => by show (if q = H.next then true else H.tip q) = H.tip q; rw [if_neg (by omega)]⟩) (by show (if H.next = H.next then some (AObj.cells ns true) else H.get H.next) = _; rw [if_pos rfl]) (by show (if H.next = H.next then true else H.tip H.next) = true; rw [if_pos rfl])
            refine ⟨_, _, .sl (some (H.next, 0)) sz' news.length none, H.grow ns, G', W', k1, k3, ?_, by simpa using z1, z2⟩
            simp only [appendF, n1, n2, Option.bind_some]
            rw [if_neg hn0, if_pos ⟨by simpa using c3, c2, c1, h.n100.2⟩]
        · -- an array
          rcases k2 with ⟨_, _, _, e⟩ | ⟨r', o', c', pre', e, k5, k6, k7⟩
          · cases e
          · cases e
            rw [g2] at k5
            obtain rfl := Option.some.inj k5
            have hcut : RowsRel φ G sz' rows' (pre.drop o) := k7
            have hdl : (pre.drop o).length = rows'.length * sz' := by simp; omega
            have happ : RowsRel φ G sz' (rows' ++ news) (pre.drop o ++ ns) := RowsRel.append hcut hdl n4
            have hal : (pre.drop o ++ ns).length = (rows' ++ news).length * sz' := by rw [List.length_append, hdl, n3, hlen2, Nat.add_mul]
            have hnr : r < H.next := h.win r g1
            have grow : ∀ l ro, H.get r = some (.cells l ro) → pre <+: l → (l.drop o).take (rows'.length * sz') ++ ns = pre.drop o ++ ns := fun l ro e hp => by
              rw [take_prefix hp (by omega)]
              rw [List.take_of_length_le (by omega)]
            cases c with
            | none =>
              obtain ⟨t1, t2⟩ := g4 rfl
              obtain ⟨G', W', z1, z2⟩ := fresh (pre.drop o ++ ns) 0 ((H.grow (pre.drop o ++ ns)).stop r) [] (fun q e => by obtain rfl := Option.some.inj e; exact g1) happ hal rfl (fun q hq => ⟨by show (if q = H.next then some (AObj.cells (pre.drop o ++ ns) true) else H.get q) = _; rw [if_neg (by omega)], fun hne => by
                show (if q = r then false else if q = H.next then true else H.tip q) = H.tip q
                rw [if_neg (fun e => hne (by rw [e]; rfl)), if_neg (by omega)]⟩) (by show (if H.next = H.next then some (AObj.cells (pre.drop o ++ ns) true) else H.get H.next) = _; rw [if_pos rfl]) (by show (if H.next = r then false else if H.next = H.next then true else H.tip H.next) = true; rw [if_neg (by omega), if_pos rfl])
              refine ⟨_, _, .sl (some (H.next, 0)) sz' (rows'.length + news.length) none, (H.grow (pre.drop o ++ ns)).stop r, G', W', k1, k3, ?_, by rw [← hlen2]; exact z1, z2⟩
              simp only [appendF, n1, n2, Option.bind_some, t2]
              rw [if_pos ⟨trivial, c1, c2, c3⟩, if_pos ⟨t1, trivial, by omega, h.n100.2⟩]
            | some cap =>
              obtain ⟨t0, l, t1, t2, t3⟩ := g5 cap rfl
              by_cases hroom : rows'.length + news.length ≤ cap
              · by_cases hn0 : news.length = 0
                · have hnews : news = [] := List.length_eq_zero_iff.1 hn0
                  subst hnews
                  refine ⟨_, _, .sl (some (r, o)) sz' rows'.length (some cap), H, G, W, k1, k3, ?_, ?_, Frm.refl _ _ _ _⟩
                  · simp only [appendF, n1, n2, Option.bind_some, t1]
                    rw [if_pos ⟨trivial, c1, c2, c3⟩, if_pos hroom, if_pos hn0]
                  · have h6 := low W (fun _ h => h) (fun r hr hn => absurd hr hn)
                    refine h6.put_own (v := .lst sz' (rows' ++ [])) (by rw [List.append_nil]; simp only [VRel]; exact .inr ⟨r, o, some cap, pre, rfl, g2, k6, k7⟩) (w' := s0.w) (fun _ _ h => h) none ⟨fun R0 x0 q hR hx e => q5 q e R0 x0 hR hx, ?_⟩
                    exact .inr ⟨r, o, sz', rows'.length, some cap, pre, rfl, g1, g2, g3, fun e => (by cases e), g5⟩
                · -- in place
                  have hmul : (rows'.length + news.length) * sz' ≤ cap * sz' := Nat.mul_le_mul_right _ hroom
                  have hmul2 : (rows'.length + news.length) * sz' = rows'.length * sz' + news.length * sz' := Nat.add_mul _ _ _
                  have hput : pre ++ ns <+: putCells l (o + rows'.length * sz') ns := by
                    unfold putCells
                    obtain ⟨t, rfl⟩ := t2
                    rw [List.take_append_of_le_length (by omega), List.take_of_length_le (by omega)]
                    exact List.prefix_append _ _
                  have hpl : (putCells l (o + rows'.length * sz') ns).length = l.length := by
                    unfold putCells; simp; omega
                  let H' := H.set r (.cells (putCells l (o + rows'.length * sz') ns) false)
                  have hget : ∀ q, H'.get q = if q = r then some (.cells (putCells l (o + rows'.length * sz') ns) false) else H.get q := fun q => rfl
                  have h6 := low (fun q => W q ∧ some r ≠ some q) (fun q hq => hq.1) (fun q hq hn => Classical.byContradiction fun e => hn ⟨hq, e⟩)
                  have hGle : ∀ p, G r = some p → p <+: pre ++ ns := fun p e => by rw [g2] at e; obtain rfl := Option.some.inj e; exact List.prefix_append _ _
                  have h7 := h6.frozen (H' := H') (r := r) (pre := pre ++ ns) (fun hw => hw.2 rfl) hnr (Nat.le_refl _) hGle (fun q hq hne => ⟨by rw [hget, if_neg hne], fun _ => rfl⟩) (by rw [hget, if_pos rfl]) hput
                  have hle : FzLe G (Fz.put G r (pre ++ ns)) := Fz.put_le hGle
                  refine ⟨_, _, .sl (some (r, o)) sz' (rows'.length + news.length) (some cap), H', _, _, k1, k3, ?_, h7.put_own (v := .lst sz' (rows' ++ news)) ?_ (w' := s0.w) (fun _ _ h => h) none ⟨fun R0 x0 q hR hx e e2 => ?_, ?_⟩, ⟨Nat.le_refl _, BkLe.refl _, hle, fun q hq hw => ⟨by rw [hget, if_neg (fun e => hw (by rw [e]; exact g1))], rfl, by simp only [Fz.put]; rw [if_neg (fun e => hw (by rw [e]; exact g1))]⟩, fun q hq => by
                    rcases hq with hq | rfl
                    · exact .inl hq.1
                    · exact .inl g1⟩⟩
                  · simp only [appendF, n1, n2, Option.bind_some, t1]
                    rw [if_pos ⟨trivial, c1, c2, c3⟩, if_pos hroom, if_neg hn0, if_pos ⟨trivial, by omega⟩]
                  · simp only [VRel]
                    refine .inr ⟨r, o, some cap, pre ++ ns, by rw [hlen2], by simp [Fz.put], by simp; omega, ?_⟩
                    rw [List.drop_append_of_le_length (by omega)]
                    exact happ.mono (BkLe.refl _) hle (List.prefix_refl _) (by omega)
                  · obtain rfl := Option.some.inj e
                    have hR0 := q5 r rfl R0
                    obtain ⟨z, z1, z2⟩ := h6.rt R0 hR
                    obtain ⟨z', z3, z4⟩ := h7.rt R0 hR
                    obtain rfl := at_uniq hx z3
                    have hsame : x0 = z := by
                      cases R0 with
                      | slot n => exact at_uniq (R := .slot n) (H := H) (φ := φ) hx z1
                      | part n j => exact at_uniq (R := .part n j) (H := H) (φ := φ) hx z1
                      | cell i off =>
                        obtain ⟨l', own, r2, cs', _, _, p3, p4, _, p6, _⟩ := h6.cellW hR
                        obtain ⟨r', cs2, ro, e1, e2, e3⟩ := z3
                        rw [p3] at e1; obtain rfl := Option.some.inj e1
                        rw [hget, if_neg (fun e => p4.2 (by rw [e]))] at e2
                        exact at_uniq (R := .cell i off) (fr := fr) (H := H) (φ := φ) ⟨_, cs2, ro, p3, e2, e3⟩ z1
                    subst hsame
                    exact hR0 _ hR z1 e2
                  · exact .inr ⟨r, o, sz', rows'.length + news.length, some cap, pre ++ ns, rfl, .inr rfl, by simp [Fz.put], by simp; omega, fun e => (by cases e), fun d' e => by
                      obtain rfl := Option.some.inj e
                      exact ⟨hroom, _, by rw [hget, if_pos rfl], hput, by omega⟩⟩
              · obtain ⟨G', W', z1, z2⟩ := fresh (pre.drop o ++ ns) 0 (H.grow (pre.drop o ++ ns)) [] (fun q e => by obtain rfl := Option.some.inj e; exact g1) happ hal rfl (fun q hq => ⟨by show (if q = H.next then some (AObj.cells (pre.drop o ++ ns) true) else H.get q) = _; rw [if_neg (by omega)], fun _ => by
                  show (if q = H.next then true else H.tip q) = H.tip q
                  rw [if_neg (by omega)]⟩) (by show (if H.next = H.next then some (AObj.cells (pre.drop o ++ ns) true) else H.get H.next) = _; rw [if_pos rfl]) (by show (if H.next = H.next then true else H.tip H.next) = true; rw [if_pos rfl])
                refine ⟨_, _, .sl (some (H.next, 0)) sz' (rows'.length + news.length) none, H.grow (pre.drop o ++ ns), G', W', k1, k3, ?_, by rw [← hlen2]; exact z1, z2⟩
                simp only [appendF, n1, n2, Option.bind_some, t1]
                have hle := t2.length_le
                rw [if_pos ⟨trivial, c1, c2, c3⟩, if_neg hroom, if_pos ⟨by omega, h.n100.2⟩, grow l false t1 t2]
      · cases h3
  · cases hs
end
end Go.Proofs.YtbpgbhmibmcbnaaGreatDoor.Val

/-! The second machine is sound: what a call comes to there it comes to here. -/
namespace Go.Proofs.YtbpgbhmibmcbnaaGreatDoor.Val
open Go Go.Proofs.YtbpgbhmibmcbnaaGreatDoor.Ram
section
variable {φ : Bk} {G : Fz} {W : Nat → Prop} {st : VS} {fr : Fr} {H : AH}

theorem mapSet_rel {l : List (List UInt8 × V)} {l' : List (List UInt8 × AV)} (h : MapV φ G l l') (s : List UInt8) {v : V} {a : AV} (hv : VRel φ G v a) : MapV φ G (mapSetV l s v) (mapSet l' s a) := by
  induction h with
  | nil => exact .cons hv .nil
  | cons hw hr ih =>
    rename_i k w b l l'
    simp only [mapSetV, mapSet]
    split
    · exact .cons hv hr
    · exact .cons hw ih
theorem mapDel_rel {l : List (List UInt8 × V)} {l' : List (List UInt8 × AV)} (h : MapV φ G l l') (s : List UInt8) : MapV φ G (mapDelV l s) (mapDel l' s) := by
  induction h with
  | nil => exact .nil
  | cons hw hr ih =>
    simp only [mapDelV, mapDel]
    split
    · exact hr
    · exact .cons hw ih
theorem Rel.setMap (h : Rel φ G W st fr H) {i r : Nat} {l l2 : List (List UInt8 × V)} {l' l2' : List (List UInt8 × AV)} (hg : st.h.get i = some (.map l)) (hr : φ i = some r) (hH : H.get r = some (.map l' false)) (h2 : MapV φ G l2 l2') :
    Rel φ G W ⟨st.f, st.w, st.h.set i (.map l2)⟩ fr (H.set r (.map l2' false)) ∧ Frm φ G W H φ G W (H.set r (.map l2' false)) := by
  obtain ⟨hi, r', h1, hW, hG, _⟩ := h.objs i _ hg
  rw [hr] at h1; obtain rfl := Option.some.inj h1
  have hget : ∀ q, (H.set r (.map l2' false)).get q = if q = r then some (.map l2' false) else H.get q := fun q => rfl
  have hvget : ∀ q, (st.h.set i (.map l2)).get q = if q = i then some (.map l2) else st.h.get q := fun q => rfl
  have hown : ∀ j o, ownAt (st.h.set i (.map l2)) j o = true → j ≠ i ∧ ownAt st.h j o = true := fun j o ho => by
    unfold ownAt at ho ⊢
    rw [hvget] at ho
    by_cases e : j = i
    · rw [if_pos e] at ho; cases ho
    · rw [if_neg e] at ho; exact ⟨e, ho⟩
  have hhas : ∀ R, Has ⟨st.f, st.w, st.h.set i (.map l2)⟩ R → Has st R := fun R hR => by
    cases R with
    | slot n => exact hR
    | part n j => exact hR
    | cell j o => exact (hown j o hR).2
  have hne : ∀ q, G q ≠ none → q ≠ r := fun q hq e => hq (by rw [e]; exact hG)
  have hat : ∀ R x, Has st R → (At fr (H.set r (.map l2' false)) φ R x ↔ At fr H φ R x) := fun R x hR => by
    cases R with
    | slot n => exact Iff.rfl
    | part n j => exact Iff.rfl
    | cell j o =>
      obtain ⟨lj, own, q, cs, g1, g2, g3, g4, g5, g6, g7⟩ := h.cellW hR
      have hqr : q ≠ r := fun e => by subst e; rw [hH] at g6; cases g6
      constructor
      · rintro ⟨q', cs', ro, e1, e2, e3⟩
        rw [g3] at e1; obtain rfl := Option.some.inj e1
        rw [hget, if_neg hqr] at e2
        exact ⟨_, cs', ro, g3, e2, e3⟩
      · rintro ⟨q', cs', ro, e1, e2, e3⟩
        rw [g3] at e1; obtain rfl := Option.some.inj e1
        exact ⟨_, cs', ro, g3, by rw [hget, if_neg hqr]; exact e2, e3⟩
  refine ⟨⟨h.slots, fun j o ho => ?_, fun j k q oj ok hj hk => ?_, h.dom, h.glob, h.n100, fun q pre hq => ?_, h.win, fun R hR => ?_, fun R R' a a' q hR hR' ha ha' => ?_, h.gl, fun n j o hm ho => ?_⟩, ⟨Nat.le_refl _, BkLe.refl _, FzLe.refl _, fun q _ hq => ⟨by rw [hget, if_neg (fun e => hq (by rw [e]; exact hW))], rfl, rfl⟩, fun q hq => .inl hq⟩⟩
  · rw [hvget] at ho
    split at ho
    · rename_i e; subst e
      obtain rfl := Option.some.inj ho
      exact ⟨hi, r, hr, hW, hG, l2', by rw [hget, if_pos rfl], h2⟩
    · rename_i e
      obtain ⟨k1, q, k2, k3, k4, k5⟩ := h.objs j o ho
      have hqr : q ≠ r := fun e' => e (by subst e'; exact h.inj j i q _ _ ho hg k2 hr)
      refine ⟨k1, q, k2, k3, k4, ?_⟩
      cases o with
      | cells lo oo => obtain ⟨cq, z1, z2⟩ := k5; exact ⟨cq, by rw [hget, if_neg hqr]; exact z1, z2⟩
      | map lo => obtain ⟨cq, z1, z2⟩ := k5; exact ⟨cq, by rw [hget, if_neg hqr]; exact z1, z2⟩
  · have old : ∀ j oj, (st.h.set i (.map l2)).get j = some oj → ∃ o, st.h.get j = some o := fun j oj hj => by
      rw [hvget] at hj
      split at hj
      · rename_i e; subst e; exact ⟨_, hg⟩
      · exact ⟨_, hj⟩
    obtain ⟨_, z1⟩ := old j oj hj
    obtain ⟨_, z2⟩ := old k ok hk
    exact h.inj j k q _ _ z1 z2
  · obtain ⟨k1, lq, rq, k2, k3⟩ := h.fz q pre hq
    exact ⟨k1, lq, rq, by rw [hget, if_neg (hne q (by rw [hq]; simp))]; exact k2, k3⟩
  · obtain ⟨a, h3, h4⟩ := h.rt R (hhas R hR)
    refine ⟨a, (hat R a (hhas R hR)).2 h3, ?_⟩
    rcases h4 with h4 | ⟨q, o, sz, len, c, pre, rfl, k1, k2, k3, k4, k5⟩
    · exact .inl h4
    · have hqr := hne q (by rw [k2]; simp)
      exact .inr ⟨q, o, sz, len, c, pre, rfl, k1, k2, k3, fun e => ⟨(k4 e).1, by rw [hget, if_neg hqr]; exact (k4 e).2⟩, fun d e => by
        obtain ⟨z1, l, z2, z3⟩ := k5 d e
        exact ⟨z1, l, by rw [hget, if_neg hqr]; exact z2, z3⟩⟩
  · exact h.rtx R R' a a' q (hhas R hR) (hhas R' hR') ((hat R a (hhas R hR)).1 ha) ((hat R' a' (hhas R' hR')).1 ha')
  · obtain ⟨a, h3, h4⟩ := h.alias n j o hm (hown j o ho).2
    exact ⟨a, h3, (hat (.cell j o) a (hown j o ho).2).2 h4⟩
theorem noCell_mem {w : Rts} {m i o : Nat} : (m, Tag.cell i o) ∉ w.noCell := fun h => by
  simp only [Rts.noCell, List.mem_filter] at h
  cases h.2
theorem noCell_sub {w : Rts} {p : Nat × Tag} (h : p ∈ w.noCell) : p ∈ w := by
  simp only [Rts.noCell, List.mem_filter] at h; exact h.1

theorem mem_noCellNew {n : Nat} {w : Rts} {p : Nat × Tag} (h : p ∈ noCellNew n w) : p ∈ w ∧ ∀ i off, p.2 = .cell i off → i < n := by
  obtain ⟨h1, h2⟩ := List.mem_filter.1 h
  refine ⟨h1, fun i off e => ?_⟩
  rw [e] at h2
  simpa using h2
theorem Rel.gainNew {f : VFr} {w : Rts} {S : VH} {H : AH} {l : List V} {own : List Nat} {cs : List AV} (h : Rel φ G W ⟨f, w, S.push (.cells l [])⟩ fr (H.push (.cells cs false))) (hφ : φ S.next = some H.next)
    (hnil : ∀ j ∈ own, ∃ s c, cs[j]? = some (.sl none s 0 c)) : Rel φ G W ⟨f, noCellNew S.next w, S.push (.cells l own)⟩ fr (H.push (.cells cs false)) := by
  have old : ∀ i off, i ≠ S.next → ownAt (S.push (.cells l own)) i off = ownAt (S.push (.cells l [])) i off := fun i off e => by
    simp [ownAt, VH.push, e]
  refine h.gain rfl rfl rfl (fun i o hi => ?_) (fun R hR => ?_) fun n i off hm ho => ?_
  · by_cases e : i = S.next
    · subst e
      simp only [VH.push, if_true, Option.some.injEq] at hi ⊢
      subst hi
      exact ⟨_, rfl, rfl⟩
    · refine ⟨o, by simpa [VH.push, e] using hi, ?_⟩
      cases o <;> rfl
  · cases R with
    | slot n => exact .inl (mem_noCellNew hR).1
    | part n j => exact .inl (mem_noCellNew hR).1
    | cell i off =>
      by_cases e : i = S.next
      · subst e
        right
        simp only [Has, ownAt, VH.push, if_true] at hR
        obtain ⟨s, c, h1⟩ := hnil off (by simpa using hR)
        exact ⟨s, c, H.next, cs, false, hφ, by simp [AH.push], h1⟩
      · left
        simp only [Has] at hR ⊢
        rw [← old i off e]; exact hR
  · obtain ⟨h1, h2⟩ := mem_noCellNew hm
    have := h2 i off rfl
    refine ⟨h1, ?_⟩
    rw [← old i off (by omega)]; exact ho
theorem mem_compsOf {w : Rts} {x : Opd} {v : V} {j : Nat} (h : j ∈ compsOf w x v) : ∃ n l, x = .t n ∧ v = .agg l ∧ (n, Tag.comp j) ∈ w := by
  unfold compsOf at h
  split at h
  · rename_i n l
    obtain ⟨⟨m, t⟩, h1, h2⟩ := List.mem_filterMap.1 h
    refine ⟨n, l, rfl, rfl, ?_⟩
    cases t with
    | own => cases h2
    | cell i o => cases h2
    | comp j' =>
      simp only at h2
      split at h2
      · rename_i e; obtain rfl := Option.some.inj h2; subst e; exact h1
      · cases h2
  · cases h
theorem Rel.noCells (h : Rel φ G W st fr H) : Rel φ G W ⟨st.f, st.w.noCell, st.h⟩ fr H :=
  h.fewer ⟨st.f, st.w.noCell, st.h⟩ rfl (fun _ _ hm => noCell_sub hm) (.inl rfl) W (fun _ h => h) fun _ hr hn => absurd hr hn
theorem VRels.rep {z : List V} {zs : List AV} (h : VRels φ G z zs) : ∀ n : Nat, VRels φ G (List.replicate n z).flatten (List.replicate n zs).flatten
  | 0 => by simp [VRels]
  | n + 1 => by simp only [List.replicate_succ, List.flatten_cons]; exact h.append (h.rep n)
theorem Rel.setCells (h : Rel φ G W st fr H) {i r : Nat} {l l2 : List V} {own : List Nat} {cs2 : List AV} (hg : st.h.get i = some (.cells l own)) (hr : φ i = some r) (h2 : VRels φ G l2 cs2) :
    Rel φ G W ⟨st.f, st.w.noCell, st.h.set i (.cells l2 [])⟩ fr (H.set r (.cells cs2 false)) ∧ Frm φ G W H φ G W (H.set r (.cells cs2 false)) := by
  obtain ⟨hi, r', h1, hW, hG, _⟩ := h.objs i _ hg
  rw [hr] at h1; obtain rfl := Option.some.inj h1
  have hget : ∀ q, (H.set r (.cells cs2 false)).get q = if q = r then some (.cells cs2 false) else H.get q := fun q => rfl
  have hvget : ∀ q, (st.h.set i (.cells l2 [])).get q = if q = i then some (.cells l2 []) else st.h.get q := fun q => rfl
  have hown : ∀ j o, ownAt (st.h.set i (.cells l2 [])) j o = true → j ≠ i ∧ ownAt st.h j o = true := fun j o ho => by
    unfold ownAt at ho ⊢
    rw [hvget] at ho
    by_cases e : j = i
    · rw [if_pos e] at ho; cases ho
    · rw [if_neg e] at ho; exact ⟨e, ho⟩
  have hhas : ∀ R, Has ⟨st.f, st.w.noCell, st.h.set i (.cells l2 [])⟩ R → Has st R ∧ ∀ j o, R = .cell j o → j ≠ i := fun R hR => by
    cases R with
    | slot n => exact ⟨noCell_sub hR, fun _ _ e => by cases e⟩
    | part n j => exact ⟨noCell_sub hR, fun _ _ e => by cases e⟩
    | cell j o => exact ⟨(hown j o hR).2, fun _ _ e => by cases e; exact (hown j o hR).1⟩
  have hne : ∀ q, G q ≠ none → q ≠ r := fun q hq e => hq (by rw [e]; exact hG)
  have hat : ∀ R x, Has st R → (∀ j o, R = .cell j o → j ≠ i) → (At fr (H.set r (.cells cs2 false)) φ R x ↔ At fr H φ R x) := fun R x hR hji => by
    cases R with
    | slot n => exact Iff.rfl
    | part n j => exact Iff.rfl
    | cell j o =>
      obtain ⟨lj, own, q, cs, g1, g2, g3, g4, g5, g6, g7⟩ := h.cellW hR
      have hqr : q ≠ r := fun e => by subst e; exact hji j o rfl (h.inj j i q _ _ g1 hg g3 hr)
      constructor
      · rintro ⟨q', cs', ro, e1, e2, e3⟩
        rw [g3] at e1; obtain rfl := Option.some.inj e1
        rw [hget, if_neg hqr] at e2
        exact ⟨_, cs', ro, g3, e2, e3⟩
      · rintro ⟨q', cs', ro, e1, e2, e3⟩
        rw [g3] at e1; obtain rfl := Option.some.inj e1
        exact ⟨_, cs', ro, g3, by rw [hget, if_neg hqr]; exact e2, e3⟩
  refine ⟨⟨h.slots, fun j o ho => ?_, fun j k q oj ok hj hk => ?_, h.dom, h.glob, h.n100, fun q pre hq => ?_, h.win, fun R hR => ?_, fun R R' a a' q hR hR' ha ha' => ?_, h.gl, fun n j o hm ho => absurd hm noCell_mem⟩, ⟨Nat.le_refl _, BkLe.refl _, FzLe.refl _, fun q _ hq => ⟨by rw [hget, if_neg (fun e => hq (by rw [e]; exact hW))], rfl, rfl⟩, fun q hq => .inl hq⟩⟩
  · rw [hvget] at ho
    split at ho
    · rename_i e; subst e
      obtain rfl := Option.some.inj ho
      exact ⟨hi, r, hr, hW, hG, cs2, by rw [hget, if_pos rfl], h2⟩
    · rename_i e
      obtain ⟨k1, q, k2, k3, k4, k5⟩ := h.objs j o ho
      have hqr : q ≠ r := fun e' => e (by subst e'; exact h.inj j i q _ _ ho hg k2 hr)
      refine ⟨k1, q, k2, k3, k4, ?_⟩
      cases o with
      | cells lo oo => obtain ⟨cq, z1, z2⟩ := k5; exact ⟨cq, by rw [hget, if_neg hqr]; exact z1, z2⟩
      | map lo => obtain ⟨cq, z1, z2⟩ := k5; exact ⟨cq, by rw [hget, if_neg hqr]; exact z1, z2⟩
  · have old : ∀ j oj, (st.h.set i (.cells l2 [])).get j = some oj → ∃ o, st.h.get j = some o := fun j oj hj => by
      rw [hvget] at hj
      split at hj
      · rename_i e; subst e; exact ⟨_, hg⟩
      · exact ⟨_, hj⟩
    obtain ⟨_, z1⟩ := old j oj hj
    obtain ⟨_, z2⟩ := old k ok hk
    exact h.inj j k q _ _ z1 z2
  · obtain ⟨k1, lq, rq, k2, k3⟩ := h.fz q pre hq
    exact ⟨k1, lq, rq, by rw [hget, if_neg (hne q (by rw [hq]; simp))]; exact k2, k3⟩
  · obtain ⟨h3, h4⟩ := hhas R hR
    obtain ⟨a, h5, h6⟩ := h.rt R h3
    refine ⟨a, (hat R a h3 h4).2 h5, ?_⟩
    rcases h6 with h6 | ⟨q, o, sz, len, c, pre, rfl, k1, k2, k3, k4, k5⟩
    · exact .inl h6
    · have hqr := hne q (by rw [k2]; simp)
      exact .inr ⟨q, o, sz, len, c, pre, rfl, k1, k2, k3, fun e => ⟨(k4 e).1, by rw [hget, if_neg hqr]; exact (k4 e).2⟩, fun d e => by
        obtain ⟨z1, l, z2, z3⟩ := k5 d e
        exact ⟨z1, l, by rw [hget, if_neg hqr]; exact z2, z3⟩⟩
  · obtain ⟨h3, h4⟩ := hhas R hR
    obtain ⟨h3', h4'⟩ := hhas R' hR'
    exact h.rtx R R' a a' q h3 h3' ((hat R a h3 h4).1 ha) ((hat R' a' h3' h4').1 ha')
theorem Rel.killC (h : Rel φ G W st fr H) {i r : Nat} {l : List V} {own : List Nat} (hg : st.h.get i = some (.cells l own)) (hr : φ i = some r) :
    Rel φ G W ⟨st.f, st.w.noCell, killV st.h i⟩ fr (H.kill r) ∧ Frm φ G W H φ G W (H.kill r) := by
  obtain ⟨hi, r', h1, hW, hG, _⟩ := h.objs i _ hg
  rw [hr] at h1; obtain rfl := Option.some.inj h1
  have hget : ∀ q, (H.kill r).get q = if q = r then none else H.get q := fun q => rfl
  have htip : ∀ q, (H.kill r).tip q = if q = r then false else H.tip q := fun q => rfl
  have hvget : ∀ q, (killV st.h i).get q = if q = i then none else st.h.get q := fun q => rfl
  have hown : ∀ j o, ownAt (killV st.h i) j o = true → j ≠ i ∧ ownAt st.h j o = true := fun j o ho => by
    unfold ownAt at ho ⊢
    rw [hvget] at ho
    by_cases e : j = i
    · rw [if_pos e] at ho; cases ho
    · rw [if_neg e] at ho; exact ⟨e, ho⟩
  have hhas : ∀ R, Has ⟨st.f, st.w.noCell, killV st.h i⟩ R → Has st R ∧ ∀ j o, R = .cell j o → j ≠ i := fun R hR => by
    cases R with
    | slot n => exact ⟨noCell_sub hR, fun _ _ e => by cases e⟩
    | part n j => exact ⟨noCell_sub hR, fun _ _ e => by cases e⟩
    | cell j o => exact ⟨(hown j o hR).2, fun _ _ e => by cases e; exact (hown j o hR).1⟩
  have hne : ∀ q, G q ≠ none → q ≠ r := fun q hq e => hq (by rw [e]; exact hG)
  have hat : ∀ R x, Has st R → (∀ j o, R = .cell j o → j ≠ i) → (At fr (H.kill r) φ R x ↔ At fr H φ R x) := fun R x hR hji => by
    cases R with
    | slot n => exact Iff.rfl
    | part n j => exact Iff.rfl
    | cell j o =>
      obtain ⟨lj, own, q, cs, g1, g2, g3, g4, g5, g6, g7⟩ := h.cellW hR
      have hqr : q ≠ r := fun e => by subst e; exact hji j o rfl (h.inj j i q _ _ g1 hg g3 hr)
      constructor
      · rintro ⟨q', cs', ro, e1, e2, e3⟩
        rw [g3] at e1; obtain rfl := Option.some.inj e1
        rw [hget, if_neg hqr] at e2
        exact ⟨_, cs', ro, g3, e2, e3⟩
      · rintro ⟨q', cs', ro, e1, e2, e3⟩
        rw [g3] at e1; obtain rfl := Option.some.inj e1
        exact ⟨_, cs', ro, g3, by rw [hget, if_neg hqr]; exact e2, e3⟩
  have hvo : ∀ j o, (killV st.h i).get j = some o → j ≠ i ∧ st.h.get j = some o := fun j o ho => by
    rw [hvget] at ho
    split at ho
    · cases ho
    · rename_i e; exact ⟨e, ho⟩
  refine ⟨⟨h.slots, fun j o ho => ?_, fun j k q oj ok hj hk => h.inj j k q _ _ (hvo j oj hj).2 (hvo k ok hk).2, h.dom, h.glob, h.n100, fun q pre hq => ?_, h.win, fun R hR => ?_, fun R R' a a' q hR hR' ha ha' => ?_, h.gl, fun n j o hm ho => absurd hm noCell_mem⟩, ⟨Nat.le_refl _, BkLe.refl _, FzLe.refl _, fun q _ hq => ⟨by rw [hget, if_neg (fun e => hq (by rw [e]; exact hW))], by rw [htip, if_neg (fun e => hq (by rw [e]; exact hW))], rfl⟩, fun q hq => .inl hq⟩⟩
  · obtain ⟨e, ho⟩ := hvo j o ho
    obtain ⟨k1, q, k2, k3, k4, k5⟩ := h.objs j o ho
    have hqr : q ≠ r := fun e' => e (by subst e'; exact h.inj j i q _ _ ho hg k2 hr)
    refine ⟨k1, q, k2, k3, k4, ?_⟩
    cases o with
    | cells lo oo => obtain ⟨cq, z1, z2⟩ := k5; exact ⟨cq, by rw [hget, if_neg hqr]; exact z1, z2⟩
    | map lo => obtain ⟨cq, z1, z2⟩ := k5; exact ⟨cq, by rw [hget, if_neg hqr]; exact z1, z2⟩
  · obtain ⟨k1, lq, rq, k2, k3⟩ := h.fz q pre hq
    exact ⟨k1, lq, rq, by rw [hget, if_neg (hne q (by rw [hq]; simp))]; exact k2, k3⟩
  · obtain ⟨h3, h4⟩ := hhas R hR
    obtain ⟨a, h5, h6⟩ := h.rt R h3
    refine ⟨a, (hat R a h3 h4).2 h5, ?_⟩
    rcases h6 with h6 | ⟨q, o, sz, len, c, pre, rfl, k1, k2, k3, k4, k5⟩
    · exact .inl h6
    · have hqr := hne q (by rw [k2]; simp)
      exact .inr ⟨q, o, sz, len, c, pre, rfl, k1, k2, k3, fun e => ⟨by rw [htip, if_neg hqr]; exact (k4 e).1, by rw [hget, if_neg hqr]; exact (k4 e).2⟩, fun d e => by
        obtain ⟨z1, l, z2, z3⟩ := k5 d e
        exact ⟨z1, l, by rw [hget, if_neg hqr]; exact z2, z3⟩⟩
  · obtain ⟨h3, h4⟩ := hhas R hR
    obtain ⟨h3', h4'⟩ := hhas R' hR'
    exact h.rtx R R' a a' q h3 h3' ((hat R a h3 h4).1 ha) ((hat R' a' h3' h4').1 ha')
theorem Rel.setH {S : VH} (h : Rel φ G W ⟨st.f, st.w.noCell, S⟩ fr H) {v : V} {a : AV} (hv : VRel φ G v a) (dst : Option Nat) : Rel φ G W (putH st dst v S) (putD fr dst (some a)) H := by
  cases dst with
  | none => exact h
  | some d => exact h.put_del hv
theorem rows_cells {sz n : Nat} {rows : List (List V)} {cs : List AV} (hn : n = rows.length) (hl : cs.length = n * sz) (hr : RowsRel φ G sz rows cs) : VRels φ G rows.flatten cs := by
  subst hn
  have := hr.cells (by omega)
  rwa [List.take_of_length_le (by omega)] at this
theorem appH_rel (h : Rel φ G W st fr H) {sz bytes : Nat} {v v2 : V} {a b : AV} {news : List (List V)} {ns : List AV} {S2 : VH} (hv : VRel φ G v a) (n1 : lenA b = some news.length) (n2 : sliceCells H sz news.length b = some ns) (n3 : ns.length = news.length * sz) (n4 : RowsRel φ G sz news ns)
    (hs : appH st.h sz bytes v news = some (v2, S2)) : ∃ x H' φ' W', appendA H sz bytes a b = some (x, H') ∧ Rel φ' G W' ⟨st.f, st.w.noCell, S2⟩ fr H' ∧ VRel φ' G v2 x ∧ Frm φ G W H φ' G W' H' := by
  have hf := rows_cells rfl n3 n4
  cases v <;> simp only [appH, reduceCtorEq] at hs
  rename_i p sz' len cap
  have newB : ∀ {l2 : List V} {cs2 : List AV}, VRels φ G l2 cs2 → Rel (Bk.put φ st.h.next H.next) G (fun r => W r ∨ r = H.next) ⟨st.f, st.w.noCell, st.h.push (.cells l2 [])⟩ fr (H.push (.cells cs2 false)) ∧ Frm φ G W H (Bk.put φ st.h.next H.next) G (fun r => W r ∨ r = H.next) (H.push (.cells cs2 false)) := fun {l2 cs2} h2 => by
    have hφ : φ st.h.next = none := by
      cases e : φ st.h.next with
      | none => rfl
      | some r => have := h.dom _ _ e; omega
    obtain ⟨k1, k2⟩ := h.block (o := .cells l2 []) (bo := .cells cs2 false) (fun φ' hle => ⟨rfl, cs2, rfl, h2.mono hle (FzLe.refl _)⟩)
    exact ⟨k1.noCells, k2⟩
  have newV : ∀ {len : Nat} {c : Option Nat}, VRel (Bk.put φ st.h.next H.next) G (.sl (some (st.h.next, 0)) sz len c) (.sl (some (H.next, 0)) sz len c) := fun {len c} => by
    simp only [VRel]; exact ⟨H.next, by simp [Bk.put], rfl⟩
  cases p with
  | none =>
    simp only [VRel] at hv
    obtain ⟨rfl, s, c, rfl⟩ := hv
    simp only at hs
    split at hs
    · rename_i h0
      obtain ⟨rfl, rfl⟩ := Prod.mk.inj (Option.some.inj hs)
      refine ⟨.sl none s 0 c, H, φ, W, ?_, h.noCells, by simp only [VRel]; exact ⟨trivial, _, _, rfl⟩, Frm.refl _ _ _ _⟩
      simp only [appendA, n1, n2, Option.bind_some]; rw [if_pos h0]
    · rename_i h0
      split at hs
      · rename_i hc
        obtain ⟨c1, c2, c3⟩ := hc
        obtain ⟨rfl, rfl⟩ := Prod.mk.inj (Option.some.inj hs)
        obtain ⟨k1, k2⟩ := newB hf
        refine ⟨_, _, _, _, ?_, k1, newV, k2⟩
        simp only [appendA, n1, n2, Option.bind_some]; rw [if_neg h0, if_pos ⟨c3, c2, c1⟩]
      · cases hs
  | some q =>
    obtain ⟨i, off⟩ := q
    simp only [VRel] at hv
    obtain ⟨r, hr, rfl⟩ := hv
    simp only at hs
    split at hs
    · rename_i hc
      obtain ⟨rfl, c1, c2, c3⟩ := hc
      split at hs
      · rename_i l own hg
        obtain ⟨_, r', e1, hW, hG, cs, e2, e3⟩ := h.objs i _ hg
        rw [hr] at e1; obtain rfl := Option.some.inj e1
        have hl := e3.length
        cases cap with
        | none =>
          simp only at hs
          split at hs
          · rename_i hc
            obtain ⟨rfl, rfl⟩ := Prod.mk.inj (Option.some.inj hs)
            obtain ⟨k1, k2⟩ := newB ((e3.drop off).append hf)
            have hin : i ≠ st.h.next := by have := h.dom _ _ hr; omega
            have hle : Bk.put φ st.h.next H.next i = some r := by simp [Bk.put, hin, hr]
            obtain ⟨k3, k4⟩ := k1.killC (i := i) (r := r) (l := l) (own := own) (by simp [VH.push, hin, hg]) hle
            have hnc : ∀ w : Rts, w.noCell.noCell = w.noCell := fun w => by simp [Rts.noCell]
            simp only [hnc] at k3
            refine ⟨_, _, _, _, ?_, k3, newV, k2.trans k4⟩
            simp only [appendA, n1, n2, Option.bind_some]
            rw [if_pos ⟨trivial, c1, c2, c3⟩]
            simp only [e2]
            rw [if_pos ⟨trivial, by omega⟩]
          · cases hs
        | some c =>
          simp only at hs
          split at hs
          · rename_i hroom
            split at hs
            · rename_i h0
              obtain ⟨rfl, rfl⟩ := Prod.mk.inj (Option.some.inj hs)
              refine ⟨_, H, φ, W, ?_, h.noCells, by simp only [VRel]; exact ⟨r, hr, rfl⟩, Frm.refl _ _ _ _⟩
              simp only [appendA, n1, n2, Option.bind_some]
              rw [if_pos ⟨trivial, c1, c2, c3⟩]
              simp only [e2]
              rw [if_pos hroom, if_pos h0]
            · rename_i h0
              split at hs
              · rename_i hc
                obtain ⟨rfl, rfl⟩ := Prod.mk.inj (Option.some.inj hs)
                obtain ⟨k1, k2⟩ := h.setCells hg hr (put_rel (off := off + len * sz') e3 hf)
                refine ⟨_, _, φ, W, ?_, k1, by simp only [VRel]; exact ⟨r, hr, rfl⟩, k2⟩
                simp only [appendA, n1, n2, Option.bind_some]
                rw [if_pos ⟨trivial, c1, c2, c3⟩]
                simp only [e2]
                rw [if_pos hroom, if_neg h0, if_pos ⟨trivial, by omega⟩]
              · cases hs
          · rename_i hroom
            split at hs
            · rename_i hc
              obtain ⟨rfl, rfl⟩ := Prod.mk.inj (Option.some.inj hs)
              obtain ⟨k1, k2⟩ := newB (((e3.drop off).take (len * sz')).append hf)
              refine ⟨_, _, _, _, ?_, k1, newV, k2⟩
              simp only [appendA, n1, n2, Option.bind_some]
              rw [if_pos ⟨trivial, c1, c2, c3⟩]
              simp only [e2]
              rw [if_neg hroom, if_pos (by omega)]
            · cases hs
      · cases hs
    · cases hs
theorem op_rel {E : Env} {Fl : Flags} {O : VOracle} {A : Oracle} (hO : VOSound O A) (h : Rel φ G W st fr H) {dst : Option Nat} {op : AOp} {st' : VS} (hs : opV E Fl O st dst op = some st') :
    ∃ r φ' G' W', opA E A fr H op = some r ∧ Rel φ' G' W' st' (putD fr dst r.1) r.2 ∧ Frm φ G W H φ' G' W' r.2 := by
  unfold opV at hs
  split at hs
  · rename_i hp
    simp only [Option.map_eq_some_iff] at hs
    obtain ⟨v, h1, rfl⟩ := hs
    obtain ⟨a, h2, h3⟩ := pure_rel h hp h1
    exact ⟨(some a, H), φ, G, W, by simp [opA, hp, h2], setS_rel (E := E) h (.inl hp) h3 (by rw [if_pos hp]; exact ⟨h1, h2⟩) dst, Frm.refl _ _ _ _⟩
  · rename_i hp
    split at hs
    · rename_i hq
      simp only [Option.map_eq_some_iff] at hs
      obtain ⟨v, h1, rfl⟩ := hs
      obtain ⟨a, h2, h3⟩ := read_rel h hq h1
      exact ⟨(some a, H), φ, G, W, by simp [opA, hp, hq, h2], setS_rel (E := E) h (.inr hq) h3 (by rw [if_neg hp]; exact ⟨h1, h2⟩) dst, Frm.refl _ _ _ _⟩
    · rename_i hq
      cases op <;> first | (exact absurd rfl hp) | (exact absurd rfl hq) | skip
      case alloc zero =>
        simp only [actV, Option.bind_eq_some_iff, Option.map_eq_some_iff] at hs
        obtain ⟨z, h1, d, rfl, rfl⟩ := hs
        obtain ⟨h2, h3⟩ := h.block (o := .cells z []) (bo := .cells zero false) (fun φ' _ => ⟨rfl, zero, rfl, ofAVs_rel h1⟩)
        exact ⟨(some (.ptr (some (H.next, 0))), H.push (.cells zero false)), _, _, _, rfl, (h2.put_del (v := .ptr (some (st.h.next, 0))) (a := .ptr (some (H.next, 0))) (by simp only [VRel]; exact ⟨H.next, by simp [Bk.put], rfl⟩)).gainNew (by simp [Bk.put]) (fun j hj => by obtain ⟨_, s, c, h4⟩ := mem_nilsFrom hj; exact ⟨s, c, h4⟩), h3⟩
      case box x =>
        simp only [actV, Option.bind_eq_some_iff] at hs
        obtain ⟨v, h1, hs⟩ := hs
        split at hs
        · rename_i hc
          simp only [Option.map_eq_some_iff] at hs
          obtain ⟨d, rfl, rfl⟩ := hs
          obtain ⟨a, k1, k2⟩ := h.ev h1
          obtain ⟨h2, h3⟩ := h.block (o := .cells (cellsV v) []) (bo := .cells (cellsOf a) false) (fun φ' hle => ⟨rfl, _, rfl, (k2.mono hle (FzLe.refl _)).cells⟩)
          refine ⟨(some (.ptr (some (H.next, 0))), H.push (.cells (cellsOf a) false)), _, _, _, ?_, (h2.put_del (v := .ptr (some (st.h.next, 0))) (a := .ptr (some (H.next, 0))) (by simp only [VRel]; exact ⟨H.next, by simp [Bk.put], rfl⟩)).gainNew (by simp [Bk.put]) (fun j hj => ?_), h3⟩
          rotate_left
          · obtain ⟨n, l, rfl, rfl, hm⟩ := mem_compsOf hj
            obtain ⟨y, ⟨cs, k3 | ⟨k3, s, c, rfl⟩, k4⟩, _⟩ := h.rt (.part n j) hm
            · simp only [VRel] at k2
              obtain ⟨cs', rfl, _⟩ := k2
              simp only [Opd.ev] at k1
              rw [k3] at k1; cases k1
            · simp only [Opd.ev] at k1
              rw [k3] at k1
              obtain rfl := Option.some.inj k1
              exact ⟨s, c, k4⟩
          simp only [opA, AOp.isPure, AOp.isRead, AOp.isMake, Bool.false_eq_true, if_false, if_true, makeA, k1, Option.bind_some]
          rw [if_pos (by rw [k2.cells.one]; exact hc)]; rfl
        · cases hs
      case mkMap =>
        simp only [actV, Option.map_eq_some_iff] at hs
        obtain ⟨d, rfl, rfl⟩ := hs
        obtain ⟨h2, h3⟩ := h.block (o := .map []) (bo := .map [] false) (fun φ' _ => ⟨[], rfl, .nil⟩)
        exact ⟨(some (.map (some H.next)), H.push (.map [] false)), _, _, _, rfl, h2.put_del (v := .map (some st.h.next)) (a := .map (some H.next)) (by simp only [VRel]; exact ⟨H.next, by simp [Bk.put], rfl⟩), h3⟩
      case bslice hp sz len zero parts =>
        simp only [actV, Option.bind_eq_some_iff] at hs
        obtain ⟨z, h1, ps, h2, l, h3, hs⟩ := hs
        split at hs
        · simp only [Option.map_eq_some_iff] at hs
          obtain ⟨d, rfl, rfl⟩ := hs
          obtain ⟨qs, k1, k2⟩ := h.parts h2
          obtain ⟨s, k3, k4⟩ := fill_rel k2 (ofAVs_rel h1) h3
          obtain ⟨h5, h6⟩ := h.block (o := .cells l []) (bo := .cells s false) (fun φ' hle => ⟨rfl, s, rfl, k4.mono hle (FzLe.refl _)⟩)
          refine ⟨(some (.sl (some (H.next, 0)) sz len (some len)), H.push (.cells s false)), _, _, _, ?_, (h5.put_del (v := .sl (some (st.h.next, 0)) sz len (some len)) (a := .sl (some (H.next, 0)) sz len (some len)) (by simp only [VRel]; exact ⟨H.next, by simp [Bk.put], rfl⟩)).gainNew (by simp [Bk.put]) (fun j hj => by cases hj), h6⟩
          simp only [opA, AOp.isPure, AOp.isRead, AOp.isMake, Bool.false_eq_true, if_false, if_true, makeA, k1, k3, Option.bind_some, Option.map_some]
        split at hs
        · rename_i hc
          simp only [Option.map_eq_some_iff] at hs
          obtain ⟨d, rfl, rfl⟩ := hs
          obtain ⟨qs, k1, k2⟩ := h.parts h2
          obtain ⟨s, k3, k4⟩ := fill_rel k2 (ofAVs_rel h1) h3
          have hl := k4.length
          obtain ⟨h5, h6⟩ := h.newList (d := d) (sz := sz) (rows := rowsOf sz len l) (cs := s) (cap := len) (pre := s) (RowsRel.of_rowsOf k4 hc.1) (by rw [rowsOf_len]; omega) (List.prefix_refl _) (by rw [rowsOf_len]; exact Nat.le_refl _) (by omega)
          rw [rowsOf_len] at h5
          refine ⟨(some (.sl (some (H.next, 0)) sz len (some len)), H.push (.cells s false)), _, _, _, ?_, h5, h6⟩
          simp only [opA, AOp.isPure, AOp.isRead, AOp.isMake, Bool.false_eq_true, if_false, if_true, makeA, k1, k3, Option.bind_some, Option.map_some]
        · cases hs
      case store n a v =>
        cases dst with
        | some d => simp [actV] at hs
        | none =>
          simp only [actV, Option.isSome_none, Bool.false_eq_true, if_false, Option.bind_eq_some_iff, Option.map_eq_some_iff] at hs
          obtain ⟨p, h1, x, h2, S, h3, rfl⟩ := hs
          obtain ⟨pa, k1, k2⟩ := h.ev h1
          obtain ⟨xa, k3, k4⟩ := h.ev h2
          have g1 : ∀ m t, (m, t) ∈ storeW st.w v (storeRt st.w n v) → (m, t) ∈ st.w := fun m t hm => by
            unfold storeW at hm
            split at hm
            · split at hm
              · exact (mem_ne.1 (noCell_sub hm)).1
              · exact noCell_sub hm
            · exact noCell_sub hm
          have g2 : ∀ m i o, (m, Tag.cell i o) ∉ storeW st.w v (storeRt st.w n v) := fun m i o hm => by
            unfold storeW at hm
            split at hm
            · split at hm <;> exact noCell_mem hm
            · exact noCell_mem hm
          have g3 : storeRt st.w n v = true → n = 1 ∧ ((∃ s c, xa = .sl none s 0 c) ∨ ∃ k, (k, Tag.own) ∈ st.w ∧ (k, Tag.own) ∉ storeW st.w v (storeRt st.w n v) ∧ Fr.get fr k = some xa) := fun hr => by
            have hr0 := hr
            unfold storeRt at hr
            split at hr
            · rename_i k
              simp only [Bool.and_eq_true, decide_eq_true_eq, List.contains_iff_mem] at hr
              refine ⟨hr.1, .inr ⟨k, hr.2, fun hm => ?_, k3⟩⟩
              rw [hr0] at hm
              simp only [storeW, if_true] at hm
              exact (mem_ne.1 (noCell_sub hm)).2 rfl
            · rename_i q sz' nn cc
              simp only [decide_eq_true_eq] at hr
              refine ⟨hr, .inl ?_⟩
              exact VRel.nilc (st := st) (x := .c (.sl none sz' nn cc)) rfl h2 k3
            · cases hr
          obtain ⟨H', k5, k6, k7⟩ := h.store k2 k4 h3 g1 g2 g3
          exact ⟨(none, H'), φ, G, W, by simp [opA, AOp.isPure, AOp.isRead, AOp.isMake, actA, k1, k3, k5], k6, k7⟩
      case mkSlice hp sz bytes zero len cap =>
        simp only [actV, Option.bind_eq_some_iff] at hs
        obtain ⟨l, h1, c, h2, hs⟩ := hs
        split at hs
        · rename_i k l k' c
          split at hs
          · simp only [Option.bind_eq_some_iff] at hs
            obtain ⟨z, hz, hs⟩ := hs
            split at hs
            · rename_i hc
              obtain ⟨c0, c1, c2, c3⟩ := hc
              simp only [Option.map_eq_some_iff] at hs
              obtain ⟨d, rfl, rfl⟩ := hs
              obtain ⟨a, k1, k2⟩ := h.ev h1
              obtain ⟨b, k3, k4⟩ := h.ev h2
              simp only [VRel] at k2 k4
              subst k2; subst k4
              obtain ⟨h5, h6⟩ := h.block (o := .cells (List.replicate c.toNat z).flatten []) (bo := .cells (List.replicate c.toNat zero).flatten false) (fun φ' hle => ⟨rfl, _, rfl, (ofAVs_rel hz).rep _⟩)
              refine ⟨(some (.sl (some (H.next, 0)) sz l.toNat (some c.toNat)), H.push (.cells (List.replicate c.toNat zero).flatten false)), _, _, _, ?_, (h5.put_del (v := .sl (some (st.h.next, 0)) sz l.toNat (some c.toNat)) (a := .sl (some (H.next, 0)) sz l.toNat (some c.toNat)) (by simp only [VRel]; exact ⟨H.next, by simp [Bk.put], rfl⟩)).gainNew (by simp [Bk.put]) (fun j hj => by cases hj), h6⟩
              simp only [opA, AOp.isPure, AOp.isRead, AOp.isMake, Bool.false_eq_true, if_false, actA, k1, k3]
              rw [if_pos ⟨c0, c1, c2, c3⟩]
            · cases hs
          split at hs
          · rename_i hc
            obtain ⟨rfl, c0, c1, c2, c3, c4⟩ := hc
            simp only [Option.map_eq_some_iff] at hs
            obtain ⟨d, rfl, rfl⟩ := hs
            obtain ⟨a, k1, k2⟩ := h.ev h1
            obtain ⟨b, k3, k4⟩ := h.ev h2
            simp only [VRel] at k2 k4
            subst k2; subst k4
            have hfl : (List.replicate c.toNat zero).flatten.length = c.toNat * sz := by
              rw [List.length_flatten, List.map_replicate, List.sum_replicate_nat, c4]
            obtain ⟨h5, h6⟩ := h.newList (d := d) (sz := sz) (rows := []) (cs := (List.replicate c.toNat zero).flatten) (cap := c.toNat) (pre := []) (by simp [RowsRel]) (by simp) (List.nil_prefix) (Nat.zero_le _) (by omega)
            refine ⟨(some (.sl (some (H.next, 0)) sz 0 (some c.toNat)), H.push (.cells (List.replicate c.toNat zero).flatten false)), _, _, _, ?_, h5, h6⟩
            simp only [opA, AOp.isPure, AOp.isRead, AOp.isMake, Bool.false_eq_true, if_false, actA, k1, k3]
            rw [if_pos ⟨by omega, by omega, c1, c2⟩]; rfl
          · cases hs
        · cases hs
      case slc3 sz x hi mx =>
        simp only [actV, Option.bind_eq_some_iff, Option.map_eq_some_iff] at hs
        obtain ⟨u, h1, y, h2, z, h3, v, h4, rfl⟩ := hs
        obtain ⟨a, k1, k2⟩ := h.ev h1
        obtain ⟨b, k3, k4⟩ := h.ev h2
        obtain ⟨c, k5, k6⟩ := h.ev h3
        unfold slc3V at h4
        split at h4
        · split at h4
          · rename_i hc
            obtain rfl := Option.some.inj h4
            simp only [VRel] at k2 k4 k6
            obtain ⟨rfl, s, cc, rfl⟩ := k2
            subst k4; subst k6
            refine ⟨(some (nilSl sz), H), φ, G, W, ?_, h.noCells.setH (by simp only [VRel, nilSl]; exact ⟨trivial, _, _, rfl⟩) dst, Frm.refl _ _ _ _⟩
            simp only [opA, AOp.isPure, AOp.isRead, AOp.isMake, Bool.false_eq_true, if_false, actA, k1, k3, k5]
            rw [if_pos hc]
          · cases h4
        · rename_i i off sz' len cap kh hh km mm
          split at h4
          · rename_i hc
            obtain rfl := Option.some.inj h4
            simp only [VRel] at k2 k4 k6
            obtain ⟨r, hr, rfl⟩ := k2
            subst k4; subst k6
            refine ⟨(some (.sl (some (r, off)) sz hh.toNat (some mm.toNat)), H), φ, G, W, ?_, h.noCells.setH (by simp only [VRel]; exact ⟨r, hr, rfl⟩) dst, Frm.refl _ _ _ _⟩
            simp only [opA, AOp.isPure, AOp.isRead, AOp.isMake, Bool.false_eq_true, if_false, actA, k1, k3, k5]
            rw [if_pos hc]
          · cases h4
        · cases h4
      case mset m k v =>
        simp only [actV, Option.bind_eq_some_iff] at hs
        obtain ⟨mv, h1, kv, h2, x, h3, hs⟩ := hs
        split at hs
        · rename_i i s
          split at hs
          · rename_i l hg
            split at hs
            · rename_i hc
              obtain rfl := Option.some.inj hs
              simp only [Bool.and_eq_true, Option.isNone_iff_eq_none] at hc
              obtain ⟨hc1, rfl⟩ := hc
              obtain ⟨a, k1, k2⟩ := h.ev h1
              obtain ⟨b, k3, k4⟩ := h.ev h2
              obtain ⟨xa, k5, k6⟩ := h.ev h3
              simp only [VRel] at k2 k4
              subst k4
              obtain ⟨r, k7, rfl⟩ := k2
              obtain ⟨_, r', e1, _, _, l', e2, e3⟩ := h.objs i _ hg
              rw [k7] at e1; obtain rfl := Option.some.inj e1
              obtain ⟨h5, h6⟩ := h.setMap hg k7 e2 (mapSet_rel e3 s k6)
              refine ⟨(none, H.set r (.map (mapSet l' s xa) false)), φ, G, W, ?_, h5, h6⟩
              simp only [opA, AOp.isPure, AOp.isRead, AOp.isMake, Bool.false_eq_true, if_false, actA, k1, k3, k5, e2]
              rw [if_pos (by rw [k6.one]; exact hc1)]
            · cases hs
          · cases hs
        · cases hs
      case mdel m k =>
        simp only [actV, Option.bind_eq_some_iff] at hs
        obtain ⟨mv, h1, kv, h2, hs⟩ := hs
        split at hs
        · rename_i i s
          split at hs
          · rename_i l hg
            obtain rfl := Option.some.inj hs
            obtain ⟨a, k1, k2⟩ := h.ev h1
            obtain ⟨b, k3, k4⟩ := h.ev h2
            simp only [VRel] at k2 k4
            subst k4
            obtain ⟨r, k7, rfl⟩ := k2
            obtain ⟨_, r', e1, _, _, l', e2, e3⟩ := h.objs i _ hg
            rw [k7] at e1; obtain rfl := Option.some.inj e1
            obtain ⟨h5, h6⟩ := h.setMap hg k7 e2 (mapDel_rel e3 s)
            refine ⟨(some (.tup []), H.set r (.map (mapDel l' s) false)), φ, G, W, by simp only [opA, AOp.isPure, AOp.isRead, AOp.isMake, Bool.false_eq_true, if_false, actA, k1, k3, e2], ?_, h6⟩
            cases dst with
            | none => exact h5
            | some d => exact h5.put_del (v := .tup []) (a := .tup []) (by simp [VRel, VRels])
          · cases hs
        · cases hs
      case callF f args =>
        simp only [actV, Option.bind_eq_some_iff, callR, Option.map_eq_some_iff] at hs
        obtain ⟨vs, h1, ⟨v, rs, S'⟩, h2, rfl⟩ := hs
        obtain ⟨as', k1, k2⟩ := h.evs h1
        have hc := h.callee (l := Fl.lin f) (caps := []) (caps' := []) h1 k1 (by simpa using k2) (.inl rfl)
        simp only [List.append_nil] at hc
        obtain ⟨a, H', φ', G', W', k3, k4, k5⟩ := hO f vs _ _ v rs S' h2 _ _ _ _ as' hc k2.length
        obtain ⟨W2, k6, k7⟩ := h.back k4 k5 dst
        refine ⟨(some a, H'), φ', G', W2, by simp [opA, AOp.isPure, AOp.isRead, AOp.isMake, actA, k1, k3], ?_, k7⟩
        cases dst <;> exact k6
      case callV x args =>
        simp only [actV, Option.bind_eq_some_iff] at hs
        obtain ⟨c, h0, hs⟩ := hs
        split at hs
        · rename_i f caps
          split at hs
          · rename_i hl
            simp only [Option.bind_eq_some_iff, callR, Option.map_eq_some_iff] at hs
            obtain ⟨vs, h1, ⟨v, rs, S'⟩, h2, rfl⟩ := hs
            obtain ⟨as', k1, k2⟩ := h.evs h1
            obtain ⟨ca, k8, k9⟩ := h.ev h0
            simp only [VRel] at k9
            obtain ⟨cs, rfl, k9⟩ := k9
            have hc := h.callee (l := Fl.lin f) (caps := caps) (caps' := cs) h1 k1 (k2.append k9) (.inr hl)
            obtain ⟨a, H', φ', G', W', k3, k4, k5⟩ := hO f (vs ++ caps) _ _ v rs S' h2 _ _ _ _ (as' ++ cs) hc (by simp [k2.length, k9.length])
            obtain ⟨W2, k6, k7⟩ := h.back k4 k5 dst
            refine ⟨(some a, H'), φ', G', W2, by simp [opA, AOp.isPure, AOp.isRead, AOp.isMake, actA, k1, k8, k3], ?_, k7⟩
            cases dst <;> exact k6
          · cases hs
        · cases hs
      case append fz sz bytes x y =>
        simp only [actV] at hs
        split at hs
        · rename_i hf
          subst hf
          simp only [Option.bind_eq_some_iff] at hs
          obtain ⟨d, rfl, hs⟩ := hs
          obtain ⟨a, b, r, H', G', W', k1, k2, k3, k4, k5⟩ := h.append hs
          exact ⟨(some r, H'), φ, G', W', by simp [opA, AOp.isPure, AOp.isRead, AOp.isMake, actA, k1, k2, appendX, k3], k4, k5⟩
        · rename_i hf
          simp only [Option.bind_eq_some_iff, Option.map_eq_some_iff] at hs
          obtain ⟨u, h1, w, h2, news, h3, ⟨v2, S2⟩, h4, rfl⟩ := hs
          obtain ⟨a, k1, k2⟩ := h.ev h1
          obtain ⟨b, k3, k4⟩ := h.ev h2
          obtain ⟨ns, n1, n2, n3, n4⟩ := h.seen k4 h3
          obtain ⟨x', H', φ', W', e1, e2, e3, e4⟩ := appH_rel h k2 n1 n2 n3 n4 h4
          have hf' : fz = false := by simpa using hf
          subst hf'
          exact ⟨(some x', H'), φ', G, W', by simp [opA, AOp.isPure, AOp.isRead, AOp.isMake, actA, k1, k3, appendX, e1], e2.setH e3 dst, e4⟩
      case copy sz x y =>
        simp only [actV, Option.bind_eq_some_iff, Option.map_eq_some_iff] at hs
        obtain ⟨u, h1, w, h2, news, h3, ⟨v2, S2⟩, h4, rfl⟩ := hs
        obtain ⟨a, k1, k2⟩ := h.ev h1
        obtain ⟨b, k3, k4⟩ := h.ev h2
        obtain ⟨ns, n1, n2, n3, n4⟩ := h.seen k4 h3
        unfold copyV at h4
        split at h4
        · obtain ⟨rfl, rfl⟩ := Prod.mk.inj (Option.some.inj h4)
          simp only [VRel] at k2
          obtain ⟨_, s, cc, rfl⟩ := k2
          refine ⟨(some (.int .i64 0), H), φ, G, W, ?_, h.noCells.setH (by simp only [VRel]) dst, Frm.refl _ _ _ _⟩
          simp [opA, AOp.isPure, AOp.isRead, AOp.isMake, actA, k1, k3, copyA, n1]
        · rename_i i off sz' len cap
          split at h4
          · rename_i l own hg
            split at h4
            · rename_i hc
              obtain ⟨rfl, hc⟩ := hc
              obtain ⟨rfl, rfl⟩ := Prod.mk.inj (Option.some.inj h4)
              simp only [VRel] at k2
              obtain ⟨r, hr, rfl⟩ := k2
              obtain ⟨_, r', e1, hW, hG, cs, e2, e3⟩ := h.objs i _ hg
              rw [hr] at e1; obtain rfl := Option.some.inj e1
              have hl := e3.length
              have hmm : (min news.length len) * sz' ≤ news.length * sz' := Nat.mul_le_mul_right _ (Nat.min_le_left _ _)
              have hsub : sliceCells H sz' (min news.length len) b = some (ns.take (min news.length len * sz')) := by
                clear k4 h2 h3
                unfold sliceCells at n2 ⊢
                split at n2
                · split at n2
                  · rename_i e; rw [if_pos (by omega)]; obtain rfl := Option.some.inj n2; simp
                  · cases n2
                · split at n2
                  · rename_i hg2
                    split at n2
                    · rename_i q
                      rw [if_pos ⟨q.1, by omega, by omega⟩]
                      obtain rfl := Option.some.inj n2
                      rw [List.take_take, Nat.min_eq_left hmm]
                    · cases n2
                  · cases n2
                · split at n2
                  · rename_i q
                    obtain ⟨rfl, q2⟩ := q
                    rw [if_pos ⟨rfl, by omega⟩]
                    obtain rfl := Option.some.inj n2
                    rw [← List.map_take, List.take_take, Nat.mul_one, Nat.min_eq_left (Nat.min_le_left _ _)]
                  · cases n2
                · cases n2
              have hfl : VRels φ G (news.take (min news.length len)).flatten (ns.take (min news.length len * sz')) := by
                have := (n4.take (min news.length len)).cells (by rw [List.length_take]; have : min (min news.length len) news.length ≤ news.length := Nat.min_le_right _ _; have := Nat.mul_le_mul_right sz' this; omega)
                rw [List.length_take, Nat.min_eq_left (Nat.min_le_left _ _)] at this
                exact this
              obtain ⟨z1, z2⟩ := h.setCells hg hr (put_rel (off := off) e3 hfl)
              refine ⟨(some (.int .i64 (min news.length len : Nat)), H.set r (.cells (putCells cs off (ns.take (min news.length len * sz'))) false)), φ, G, W, ?_, z1.setH (by simp only [VRel]) dst, z2⟩
              simp only [opA, AOp.isPure, AOp.isRead, AOp.isMake, Bool.false_eq_true, if_false, actA, k1, k3, Option.bind_some, copyA, n1, hsub, e2]
              rw [if_pos ⟨trivial, trivial, by omega⟩]; rfl
            · cases h4
          · cases h4
        · cases h4
      case clear sz zero x =>
        simp only [actV, Option.bind_eq_some_iff, Option.map_eq_some_iff] at hs
        obtain ⟨z, hz, u, h1, S2, h4, rfl⟩ := hs
        obtain ⟨a, k1, k2⟩ := h.ev h1
        unfold clearV at h4
        split at h4
        · obtain rfl := Option.some.inj h4
          simp only [VRel] at k2
          obtain ⟨_, s, cc, rfl⟩ := k2
          refine ⟨(some (.tup []), H), φ, G, W, ?_, h.noCells.setH (by simp [VRel, VRels]) dst, Frm.refl _ _ _ _⟩
          simp [opA, AOp.isPure, AOp.isRead, AOp.isMake, actA, k1, clearA]
        · rename_i i off sz' len cap
          split at h4
          · rename_i l own hg
            split at h4
            · rename_i hc
              obtain ⟨rfl, hc⟩ := hc
              obtain rfl := Option.some.inj h4
              simp only [VRel] at k2
              obtain ⟨r, hr, rfl⟩ := k2
              obtain ⟨_, r', e1, hW, hG, cs, e2, e3⟩ := h.objs i _ hg
              rw [hr] at e1; obtain rfl := Option.some.inj e1
              have hl := e3.length
              obtain ⟨z1, z2⟩ := h.setCells hg hr (put_rel (off := off) e3 ((ofAVs_rel hz).rep len))
              refine ⟨(some (.tup []), _), φ, G, W, ?_, z1.setH (by simp [VRel, VRels]) dst, z2⟩
              simp only [opA, AOp.isPure, AOp.isRead, AOp.isMake, Bool.false_eq_true, if_false, actA, k1, Option.bind_some, clearA, e2]
              rw [if_pos ⟨trivial, trivial, by omega⟩]; rfl
            · cases h4
          · cases h4
        · cases h4
theorem wanted_rel (h : Rel φ G W st fr H) {g : Option (Nat × Bool)} {b : Bool} (hw : wantedV st.f g = some b) : wantedA fr g = some b := by
  cases g with
  | none => exact hw
  | some q =>
    obtain ⟨t, want⟩ := q
    simp only [wantedV] at hw
    split at hw
    · rename_i e
      obtain ⟨a, h1, h2⟩ := h.slots _ _ e
      simp only [VRel] at h2; subst h2
      simpa only [wantedA, h1] using hw
    · rename_i e
      obtain ⟨a, h1, h2⟩ := h.slots _ _ e
      simp only [VRel] at h2; subst h2
      simpa only [wantedA, h1] using hw
    · cases hw
theorem step_rel {E : Env} {Fl : Flags} {O : VOracle} {A : Oracle} (hO : VOSound O A) (h : Rel φ G W st fr H) {o : AOper} {st' : VS} (hs : stepV E Fl O o st = some st') :
    ∃ fr' H' φ' G' W', stepA E A o (fr, H) = some (fr', H') ∧ Rel φ' G' W' st' fr' H' ∧ Frm φ G W H φ' G' W' H' := by
  unfold stepV at hs
  split at hs
  · cases hs
  · rename_i e
    have e' := wanted_rel h e
    obtain rfl := Option.some.inj hs
    refine ⟨putD fr o.dst (some .und), H, φ, G, W, by unfold stepA; simp only [e'], ?_, Frm.refl _ _ _ _⟩
    cases o.dst with
    | none => exact h
    | some d => exact h.put_del (v := .und) (a := .und) (by simp [VRel])
  · rename_i e
    have e' := wanted_rel h e
    obtain ⟨r, φ', G', W', h1, h2, h3⟩ := op_rel hO h hs
    exact ⟨_, _, φ', G', W', by unfold stepA; simp only [e', h1]; rfl, h2, h3⟩
theorem ops_rel {E : Env} {Fl : Flags} {O : VOracle} {A : Oracle} (hO : VOSound O A) {l : List AOper} : ∀ {φ : Bk} {G : Fz} {W : Nat → Prop} {st : VS} {fr : Fr} {H : AH}, Rel φ G W st fr H → ∀ {st' : VS}, opsV E Fl O l st = some st' →
    ∃ fr' H' φ' G' W', opsA E A l (fr, H) = some (fr', H') ∧ Rel φ' G' W' st' fr' H' ∧ Frm φ G W H φ' G' W' H' := by
  induction l with
  | nil =>
    intro φ G W st fr H h st' hs
    obtain rfl := Option.some.inj hs
    exact ⟨fr, H, φ, G, W, rfl, h, Frm.refl _ _ _ _⟩
  | cons o l ih =>
    intro φ G W st fr H h st' hs
    simp only [opsV, Option.bind_eq_some_iff] at hs
    obtain ⟨s1, h1, h2⟩ := hs
    obtain ⟨fr1, H1, φ1, G1, W1, k1, k2, k3⟩ := step_rel hO h h1
    obtain ⟨fr2, H2, φ2, G2, W2, k4, k5, k6⟩ := ih k2 h2
    exact ⟨fr2, H2, φ2, G2, W2, by simp only [opsA, k1, Option.bind_some]; exact k4, k5, k3.trans k6⟩
theorem Rel.mixed (h : Rel φ G W st fr H) {φ' : Bk} {G' : Fz} {W' : Nat → Prop} {st' : VS} {fr' : Fr} {H' : AH} (h' : Rel φ' G' W' st' fr' H') (hf : Frm φ G W H φ' G' W' H') : Rel φ' G' W' ⟨st.f, [], st'.h⟩ fr H' where
  slots := fun n v hv => by obtain ⟨a, h1, h2⟩ := h.slots n v hv; exact ⟨a, h1, h2.mono hf.phi hf.fz⟩
  objs := h'.objs
  inj := h'.inj
  dom := h'.dom
  glob := h'.glob
  n100 := h'.n100
  fz := h'.fz
  win := h'.win
  rt := fun R hR => by
    cases R with
    | slot n => cases hR
    | part n j => cases hR
    | cell i off => exact h'.rt (.cell i off) hR
  rtx := fun R R' a a' r hR hR' ha ha' => by
    cases R with
    | slot n => cases hR
    | part n j => cases hR
    | cell i off =>
      cases R' with
      | slot n => cases hR'
      | part n j => cases hR'
      | cell i' off' => exact h'.rtx (.cell i off) (.cell i' off') a a' r hR hR' ha ha'
  gl := h'.gl
  alias := fun n i off hm => by cases hm
theorem Can.wider {W' : Nat → Prop} {a : AV} (h : Can G H W a) (hw : ∀ r pre, W r → G r = some pre → W' r) : Can G H W' a := by
  rcases h with h | ⟨r, o, sz, len, c, pre, h1, h2, h3, h4⟩
  · exact .inl h
  · exact .inr ⟨r, o, sz, len, c, pre, h1, hw r pre h2 h3, h3, h4⟩
theorem Rel.hide (h : Rel φ G W st fr H) {i r0 : Nat} {o : VObj} (hi : st.h.get i = some o) (hr0 : φ i = some r0) : Rel φ G (fun r => W r ∧ r ≠ r0) (st.hide i) fr H := by
  obtain ⟨_, r1, e1, w1, g1, _⟩ := h.objs i o hi
  rw [hr0] at e1; obtain rfl := Option.some.inj e1
  have hget : ∀ q o', (st.hide i).h.get q = some o' → q ≠ i ∧ st.h.get q = some o' := fun q o' hq => by
    simp only [VS.hide, VH.hide] at hq
    split at hq
    · cases hq
    · rename_i e; exact ⟨e, hq⟩
  have hown : ∀ q off, ownAt (st.hide i).h q off = true → ownAt st.h q off = true := fun q off ho => by
    unfold ownAt at ho
    split at ho
    · rename_i l own hg
      obtain ⟨_, k2⟩ := hget q _ hg
      unfold ownAt; rw [k2]; exact ho
    · cases ho
  have hhas : ∀ R, Has (st.hide i) R → Has st R := fun R hR => by
    cases R with
    | slot n => exact hR
    | part n j => exact hR
    | cell q off => exact hown q off hR
  refine ⟨h.slots, fun q o' hq => ?_, fun q j r oq oj hq hj hrq hrj => h.inj q j r oq oj (hget q _ hq).2 (hget j _ hj).2 hrq hrj, h.dom, h.glob, h.n100, h.fz, fun r hr => h.win r hr.1, fun R hR => ?_, fun R R' a a' r hR hR' ha ha' => h.rtx R R' a a' r (hhas R hR) (hhas R' hR') ha ha', h.gl, fun n q off hm ho => h.alias n q off hm (hown q off ho)⟩
  · obtain ⟨hne, hq'⟩ := hget q _ hq
    obtain ⟨b1, r, b2, b3, b4, b5⟩ := h.objs q o' hq'
    refine ⟨b1, r, b2, ⟨b3, fun e => ?_⟩, b4, b5⟩
    subst e
    exact hne (h.inj q i _ _ _ hq' hi b2 hr0)
  · obtain ⟨a, k1, k2⟩ := h.rt R (hhas R hR)
    refine ⟨a, k1, k2.wider fun r pre hw hg => ⟨hw, fun e => ?_⟩⟩
    subst e; rw [g1] at hg; cases hg
theorem Rel.unhide (h : Rel φ G W st fr H) {i r0 : Nat} {cs : List V} (hi : st.h.get i = some (.cells cs [])) (hr0 : φ i = some r0) {φ1 : Bk} {G1 : Fz} {W1 : Nat → Prop} {st1 : VS} {fr1 : Fr} {H1 : AH} (k2 : Rel φ1 G1 W1 st1 fr1 H1) (k3 : Frm φ G (fun r => W r ∧ r ≠ r0) H φ1 G1 W1 H1) (hn : st1.h.get i = none) :
    Rel φ1 G1 (fun r => W1 r ∨ r = r0) ⟨st1.f, st1.w, st1.h.back i (some (.cells cs []))⟩ fr1 H1 ∧ Frm φ G W H φ1 G1 (fun r => W1 r ∨ r = r0) H1 ∧ H1.get r0 = H.get r0 := by
  obtain ⟨_, r1, e1, w1, g1, ov⟩ := h.objs i _ hi
  rw [hr0] at e1; obtain rfl := Option.some.inj e1
  have hlt := h.win _ w1
  obtain ⟨o1, o2, o3⟩ := k3.out r0 hlt (fun hw => hw.2 rfl)
  have hφ : φ1 i = some r0 := k3.phi i r0 hr0
  have hW1 : ¬ W1 r0 := fun hw => (k3.win r0 hw).elim (fun e => e.2 rfl) fun e => by omega
  have hget : ∀ q o', (st1.h.back i (some (.cells cs []))).get q = some o' → (q = i ∧ o' = .cells cs []) ∨ (q ≠ i ∧ st1.h.get q = some o') := fun q o' hq => by
    simp only [VH.back] at hq
    split at hq
    · rename_i e; exact .inl ⟨e, (Option.some.inj hq).symm⟩
    · rename_i e; exact .inr ⟨e, hq⟩
  have hown : ∀ q off, ownAt (st1.h.back i (some (.cells cs []))) q off = true → ownAt st1.h q off = true := fun q off ho => by
    unfold ownAt at ho
    split at ho
    · rename_i l own hg
      rcases hget q _ hg with ⟨_, e⟩ | ⟨_, k⟩
      · injection e with e1 e2; subst e2; simp at ho
      · unfold ownAt; rw [k]; exact ho
    · cases ho
  have hhas : ∀ R, Has ⟨st1.f, st1.w, st1.h.back i (some (.cells cs []))⟩ R → Has st1 R := fun R hR => by
    cases R with
    | slot n => exact hR
    | part n j => exact hR
    | cell q off => exact hown q off hR
  refine ⟨⟨k2.slots, fun q o' hq => ?_, fun q j r oq oj hq hj hrq hrj => ?_, k2.dom, k2.glob, k2.n100, k2.fz, fun r hr => ?_, fun R hR => ?_, fun R R' a a' r hR hR' ha ha' => k2.rtx R R' a a' r (hhas R hR) (hhas R' hR') ha ha', k2.gl, fun n q off hm ho => k2.alias n q off hm (hown q off ho)⟩, ⟨k3.next, k3.phi, k3.fz, fun r hr hw => k3.out r hr fun e => hw e.1, fun r hr => ?_⟩, o1⟩
  · rcases hget q _ hq with ⟨rfl, rfl⟩ | ⟨hne, hq'⟩
    · refine ⟨k2.dom _ _ hφ, r0, hφ, .inr rfl, by rw [o3]; exact g1, ?_⟩
      obtain ⟨cs', c1, c2⟩ := ov
      exact ⟨cs', by rw [o1]; exact c1, c2.mono k3.phi k3.fz⟩
    · obtain ⟨b1, r, b2, b3, b4, b5⟩ := k2.objs q o' hq'
      exact ⟨b1, r, b2, .inl b3, b4, b5⟩
  · rcases hget q _ hq with ⟨rfl, rfl⟩ | ⟨hne, hq'⟩ <;> rcases hget j _ hj with ⟨rfl, rfl⟩ | ⟨hnj, hj'⟩
    · rfl
    · rw [hφ] at hrq; obtain rfl := Option.some.inj hrq
      obtain ⟨_, r, b2, b3, _⟩ := k2.objs j _ hj'
      rw [hrj] at b2; obtain rfl := Option.some.inj b2
      exact absurd b3 hW1
    · rw [hφ] at hrj; obtain rfl := Option.some.inj hrj
      obtain ⟨_, r, b2, b3, _⟩ := k2.objs q _ hq'
      rw [hrq] at b2; obtain rfl := Option.some.inj b2
      exact absurd b3 hW1
    · exact k2.inj q j r _ _ hq' hj' hrq hrj
  · rcases hr with hr | rfl
    · exact k2.win r hr
    · exact Nat.lt_of_lt_of_le hlt k3.next
  · obtain ⟨a, q1, q2⟩ := k2.rt R (hhas R hR)
    exact ⟨a, q1, q2.wider fun r pre hw _ => .inl hw⟩
  · rcases hr with hr | rfl
    · exact (k3.win r hr).imp (fun e => e.1) id
    · exact .inl w1
theorem hidL_obj {all : List DOp} {st : VS} {i : Nat} : ∀ {l : List Nat}, hidL all st l = some i → ∃ cs, st.h.get i = some (.cells cs []) := by
  intro l
  induction l with
  | nil => intro h; cases h
  | cons j l ih =>
    intro h
    simp only [hidL] at h
    split at h
    · rename_i k hk
      obtain rfl := Option.some.inj h
      unfold hidR at hk
      split at hk
      · unfold hidV at hk
        split at hk
        · rename_i k2 off e
          unfold hidO at hk
          split at hk
          · rename_i cs e2
            split at hk
            · cases hk
            · obtain rfl := Option.some.inj hk
              exact ⟨cs, e2⟩
          · cases hk
        · cases hk
      · cases hk
    · exact ih h
theorem sameRead_of {E : Env} (h : Rel φ G W st fr H) {φ1 : Bk} {G1 : Fz} {W1 : Nat → Prop} {s1 : VS} {fr1 : Fr} {H1 : AH} (k2 : Rel φ1 G1 W1 s1 fr1 H1) (k3 : Frm φ G W H φ1 G1 W1 H1) {r : AOper} (hc : sameReadV E st s1 r) : sameRead E fr H H1 r := by
  rcases hc with e | ⟨e, v, e1, e2, e3⟩
  · exact .inl (wanted_rel h e)
  · refine .inr ⟨wanted_rel h e, ?_⟩
    have hrd : r.op.isRead = true := by
      generalize r.op = op at e1
      cases op <;> first | rfl | (simp [readV] at e1)
    obtain ⟨a, q1, q2⟩ := read_rel h hrd e2
    obtain ⟨b, q3, q4⟩ := read_rel (h.mixed k2 k3) (st := ⟨st.f, [], s1.h⟩) hrd e1
    rw [q1, q3, VRel.rigid e3 q2 q4 k3.phi]
theorem dreg_rel {E : Env} {Fl : Flags} {O : VOracle} {A : Oracle} (hO : VOSound O A) {all l : List DOp} : ∀ {φ : Bk} {G : Fz} {W : Nat → Prop} {st : VS} {fr : Fr} {H : AH}, Rel φ G W st fr H → ∀ {st' : VS}, dregV E Fl O all l st = some st' →
    ∃ fr' H' φ' G' W', dregA E A all l (fr, H) = some (fr', H') ∧ Rel φ' G' W' st' fr' H' ∧ Frm φ G W H φ' G' W' H' := by
  induction l with
  | nil =>
    intro φ G W st fr H h st' hs
    obtain rfl := Option.some.inj hs
    exact ⟨fr, H, φ, G, W, rfl, h, Frm.refl _ _ _ _⟩
  | cons o l ih =>
    intro φ G W st fr H h st' hs
    simp only [dregV] at hs
    split at hs
    · simp only [Option.bind_eq_some_iff] at hs
      obtain ⟨s1, h1, h2⟩ := hs
      split at h2
      · rename_i hc
        obtain ⟨fr1, H1, φ1, G1, W1, k1, k2, k3⟩ := step_rel hO h h1
        obtain ⟨fr2, H2, φ2, G2, W2, k4, k5, k6⟩ := ih k2 h2
        refine ⟨fr2, H2, φ2, G2, W2, ?_, k5, k3.trans k6⟩
        simp only [dregA, k1, Option.bind_some]
        rw [if_pos (fun j hj r hr => sameRead_of h k2 k3 (hc j hj r hr))]
        exact k4
      · cases h2
    · rename_i i hi
      obtain ⟨cs, hg⟩ := hidL_obj hi
      simp only [Option.bind_eq_some_iff] at hs
      obtain ⟨s1, h1, h2⟩ := hs
      split at h2
      · rename_i hc
        obtain ⟨hc0, hc⟩ := hc
        obtain ⟨_, r0, hr0, _⟩ := h.objs i _ hg
        have hh := h.hide hg hr0
        obtain ⟨fr1, H1, φ1, G1, W1, k1, k2, k3⟩ := step_rel hO hh h1
        obtain ⟨b1, b2, b3⟩ := h.unhide hg hr0 k2 k3 hc0
        rw [hg] at h2
        obtain ⟨fr2, H2, φ2, G2, W2, k4, k5, k6⟩ := ih b1 h2
        refine ⟨fr2, H2, φ2, G2, W2, ?_, k5, b2.trans k6⟩
        simp only [dregA, k1, Option.bind_some]
        rw [if_pos (fun j hj r hr => ?_)]
        · exact k4
        · rcases hc j hj r hr with e | ⟨e, n, ag, s, off, e1, e2⟩
          · exact sameRead_of hh k2 k3 e
          · refine .inr ⟨by rw [e]; rfl, ?_⟩
            obtain ⟨a, q1, q2⟩ := h.slots s _ e2
            simp only [VRel] at q2
            obtain ⟨r', q3, rfl⟩ := q2
            rw [hr0] at q3; obtain rfl := Option.some.inj q3
            rw [e1]
            simp only [readA, Opd.ev, q1, Option.bind_some]
            unfold loadA
            simp only [b3]
      · cases h2
theorem vget_keep {f : VFr} {l : List Nat} {n : Nat} {v : V} (h : VFr.get (VFr.keep f l) n = some v) : n ∈ l ∧ VFr.get f n = some v := by
  induction l with
  | nil => cases h
  | cons m l ih =>
    unfold VFr.keep at h ih
    rw [List.filterMap_cons] at h
    cases e : VFr.get f m with
    | none =>
      rw [e] at h
      obtain ⟨h1, h2⟩ := ih h
      exact ⟨List.mem_cons_of_mem _ h1, h2⟩
    | some w =>
      rw [e] at h
      simp only [Option.map_some, VFr.get] at h
      split at h
      · rename_i e2; subst e2; obtain rfl := Option.some.inj h; exact ⟨List.mem_cons_self, e⟩
      · obtain ⟨h1, h2⟩ := ih h
        exact ⟨List.mem_cons_of_mem _ h1, h2⟩
theorem get_keep' {f : Fr} {l : List Nat} {n : Nat} (h : n ∈ l) : Fr.get (Fr.keep f l) n = Fr.get f n := by
  induction l with
  | nil => cases h
  | cons m l ih =>
    unfold Fr.keep at ih ⊢
    rw [List.filterMap_cons]
    cases e : Fr.get f m with
    | none =>
      simp only [Option.map_none]
      rcases List.mem_cons.1 h with rfl | h
      · by_cases hm : n ∈ l
        · exact ih hm
        · rw [e]
          clear ih h
          induction l with
          | nil => rfl
          | cons k l ih2 =>
            rw [List.filterMap_cons]
            cases e3 : Fr.get f k with
            | none => simp only [Option.map_none]; exact ih2 (fun h => hm (List.mem_cons_of_mem _ h))
            | some w => simp only [Option.map_some, Fr.get]; rw [if_neg (fun e4 => hm (by rw [e4]; exact List.mem_cons_self))]; exact ih2 (fun h => hm (List.mem_cons_of_mem _ h))
      · exact ih h
    | some w =>
      simp only [Option.map_some, Fr.get]
      split
      · rename_i e2; subst e2; exact e.symm
      · rename_i e2
        rcases List.mem_cons.1 h with rfl | h
        · exact absurd rfl e2
        · exact ih h
theorem Rel.keep (h : Rel φ G W st fr H) (l : List Nat) : Rel φ G W ⟨VFr.keep st.f l, Rts.keep st.w l, st.h⟩ (Fr.keep fr l) H := by
  have hm : ∀ n t, (n, t) ∈ Rts.keep st.w l → (n, t) ∈ st.w ∧ n ∈ l := fun n t h => by
    simp only [Rts.keep, List.mem_filter, List.contains_iff_mem] at h; exact h
  have hhas : ∀ R, Has ⟨VFr.keep st.f l, Rts.keep st.w l, st.h⟩ R → Has st R ∧ ∀ x, At (Fr.keep fr l) H φ R x ↔ At fr H φ R x := fun R hR => by
    cases R with
    | slot n => obtain ⟨h1, h2⟩ := hm _ _ hR; exact ⟨h1, fun x => by simp only [At]; rw [get_keep' h2]⟩
    | part n j => obtain ⟨h1, h2⟩ := hm _ _ hR; exact ⟨h1, fun x => by simp only [At]; rw [get_keep' h2]⟩
    | cell i off => exact ⟨hR, fun x => Iff.rfl⟩
  refine ⟨fun n v hv => ?_, h.objs, h.inj, h.dom, h.glob, h.n100, h.fz, h.win, fun R hR => ?_, fun R R' a a' r hR hR' ha ha' => ?_, h.gl, fun n i off hq ho => ?_⟩
  · obtain ⟨h1, h2⟩ := vget_keep hv
    obtain ⟨a, h3, h4⟩ := h.slots n v h2
    exact ⟨a, by rw [get_keep' h1]; exact h3, h4⟩
  · obtain ⟨h1, h2⟩ := hhas R hR
    obtain ⟨a, h3, h4⟩ := h.rt R h1
    exact ⟨a, (h2 a).2 h3, h4⟩
  · obtain ⟨h1, h2⟩ := hhas R hR
    obtain ⟨h1', h2'⟩ := hhas R' hR'
    exact h.rtx R R' a a' r h1 h1' ((h2 a).1 ha) ((h2' a').1 ha')
  · obtain ⟨h1, h2⟩ := hm _ _ hq
    obtain ⟨a, h3, h4⟩ := h.alias n i off h1 ho
    exact ⟨a, by rw [get_keep' h2]; exact h3, h4⟩
theorem Rel.trim (h : Rel φ G W st fr H) {φ1 : Bk} {G1 : Fz} {W1 : Nat → Prop} {st1 : VS} {fr1 : Fr} {H1 : AH} (h1 : Rel φ1 G1 W1 st1 fr1 H1) (hf : Frm φ G W H φ1 G1 W1 H1) (hc : cloH st.h st1.h) (hcf : cloF st.h.next st1.f = true) (w' : Rts) (hw : ∀ n t, (n, t) ∈ w' → (n, t) ∈ st1.w) (_hw2 : ∀ n i off, (n, Tag.cell i off) ∈ w' → i < st.h.next) :
    Rel (fun i => if i < st.h.next then φ1 i else none) G1 W1 ⟨st1.f, w', VH.trim st.h st1.h⟩ fr1 H1 ∧ Frm φ G W H (fun i => if i < st.h.next then φ1 i else none) G1 W1 H1 := by
  have hag : ∀ i r, i < 100 ∨ i < st.h.next → φ1 i = some r → (if i < st.h.next then φ1 i else none) = some r := fun i r hi hr => by
    have := h.n100.1
    rw [if_pos (by omega)]; exact hr
  have hget : ∀ i o, (VH.trim st.h st1.h).get i = some o → i < st.h.next ∧ st1.h.get i = some o := fun i o ho => by
    simp only [VH.trim] at ho
    split at ho
    · rename_i e; exact ⟨e, ho⟩
    · rename_i e; exact absurd (h.objs i o ho).1 e
  have hown : ∀ i off, ownAt (VH.trim st.h st1.h) i off = true → i < st.h.next ∧ ownAt st1.h i off = true := fun i off ho => by
    unfold ownAt at ho
    split at ho
    · rename_i l own hg
      obtain ⟨k1, k2⟩ := hget i _ hg
      exact ⟨k1, by unfold ownAt; rw [k2]; exact ho⟩
    · cases ho
  have hhas : ∀ R, Has ⟨st1.f, w', VH.trim st.h st1.h⟩ R → Has st1 R ∧ ∀ x, At fr1 H1 (fun i => if i < st.h.next then φ1 i else none) R x ↔ At fr1 H1 φ1 R x := fun R hR => by
    cases R with
    | slot n => exact ⟨hw _ _ hR, fun x => Iff.rfl⟩
    | part n j => exact ⟨hw _ _ hR, fun x => Iff.rfl⟩
    | cell i off =>
      obtain ⟨k1, k2⟩ := hown i off hR
      refine ⟨k2, fun x => ?_⟩
      simp only [At]; rw [if_pos k1]
  refine ⟨⟨fun n v hv => ?_, fun i o ho => ?_, fun i j r oi oj hi hj hri hrj => ?_, fun i r hi => ?_, fun g hg => ?_, ⟨h.n100.1, h1.n100.2⟩, h1.fz, h1.win, fun R hR => ?_, fun R R' a a' r hR hR' ha ha' => ?_, gl_mono (fun i r hi => by simp only [if_pos (h.dom i r hi)]; exact hf.phi i r hi) hf.fz h.gl, fun n i off hm ho => ?_⟩, ⟨hf.next, fun i r hi => ?_, hf.fz, hf.out, hf.win⟩⟩
  · obtain ⟨a, k1, k2⟩ := h1.slots n v hv
    refine ⟨a, k1, k2.clo hag ?_⟩
    have : ∀ (f : VFr), cloF st.h.next f = true → VFr.get f n = some v → V.clo st.h.next v = true := by
      intro f
      induction f with
      | nil => intro _ h; cases h
      | cons p f ih =>
        intro hq hv
        obtain ⟨k, u⟩ := p
        simp only [cloF, List.all_cons, Bool.and_eq_true] at hq
        simp only [VFr.get] at hv
        split at hv
        · obtain rfl := Option.some.inj hv; exact hq.1
        · exact ih hq.2 hv
    exact this st1.f hcf hv
  · obtain ⟨k1, k2⟩ := hget i o ho
    obtain ⟨_, r, k3, k4, k5, k6⟩ := h1.objs i o k2
    refine ⟨k1, r, by rw [if_pos k1]; exact k3, k4, k5, ?_⟩
    have hclo : o.clo st.h.next = true := by
      rcases hc i k1 with e | e
      · rw [k2] at e
        obtain ⟨_, r0, _, _, _, q⟩ := h.objs i o e.symm
        cases o with
        | cells l own =>
          obtain ⟨cs, _, q⟩ := q
          exact VRels.clo_of (fun i r => h.dom i r) q
        | map l =>
          obtain ⟨cs, _, q⟩ := q
          simp only [VObj.clo, List.all_eq_true]
          exact q.clo_of (fun i r => h.dom i r)
      · exact e o k2
    cases o with
    | cells l own =>
      obtain ⟨cs, q1, q2⟩ := k6
      exact ⟨cs, q1, q2.clo hag hclo⟩
    | map l =>
      obtain ⟨cs, q1, q2⟩ := k6
      simp only [VObj.clo, List.all_eq_true] at hclo
      exact ⟨cs, q1, q2.clo hag hclo⟩
  · obtain ⟨k1, k2⟩ := hget i oi hi
    obtain ⟨k3, k4⟩ := hget j oj hj
    rw [if_pos k1] at hri
    rw [if_pos k3] at hrj
    exact h1.inj i j r oi oj k2 k4 hri hrj
  · split at hi
    · assumption
    · cases hi
  · have := h.n100.1
    rw [if_pos (by omega)]; exact h1.glob g hg
  · obtain ⟨k1, k2⟩ := hhas R hR
    obtain ⟨a, k3, k4⟩ := h1.rt R k1
    exact ⟨a, (k2 a).2 k3, k4⟩
  · obtain ⟨k1, k2⟩ := hhas R hR
    obtain ⟨k1', k2'⟩ := hhas R' hR'
    exact h1.rtx R R' a a' r k1 k1' ((k2 a).1 ha) ((k2' a').1 ha')
  · obtain ⟨k1, k2⟩ := hown i off ho
    obtain ⟨a, k3, k4⟩ := h1.alias n i off (hw _ _ hm) k2
    refine ⟨a, k3, ?_⟩
    obtain ⟨r, cs, ro, e1, e2⟩ := k4
    exact ⟨r, cs, ro, by show (if i < st.h.next then φ1 i else none) = some r; rw [if_pos k1]; exact e1, e2⟩
  · have := h.dom i r hi
    rw [if_pos this]; exact hf.phi i r hi
theorem exec_rel {E : Env} {Fl : Flags} {O : VOracle} {A : Oracle} (hO : VOSound O A) {n : Nat} {c : ACode} : ∀ {φ : Bk} {G : Fz} {W : Nat → Prop} {st : VS} {fr : Fr} {H : AH}, Rel φ G W st fr H → ∀ {e : AEx} {st' : VS}, vexec E Fl O n c st = some (e, st') →
    ∃ fr' H' φ' G' W', execL E A c (fr, H) = some (e, (fr', H')) ∧ Rel φ' G' W' st' fr' H' ∧ Frm φ G W H φ' G' W' H' := by
  induction c with
  | skip => intro φ G W st fr H h e st' hs; obtain ⟨rfl, rfl⟩ := Prod.mk.inj (Option.some.inj hs); exact ⟨fr, H, φ, G, W, rfl, h, Frm.refl _ _ _ _⟩
  | reg ops =>
    intro φ G W st fr H h e st' hs
    simp only [vexec, Option.map_eq_some_iff] at hs
    obtain ⟨s, h1, h2⟩ := hs
    obtain ⟨rfl, rfl⟩ := Prod.mk.inj h2
    obtain ⟨fr', H', φ', G', W', k1, k2, k3⟩ := ops_rel hO h h1
    exact ⟨fr', H', φ', G', W', by simp [execL, k1], k2, k3⟩
  | dreg ops =>
    intro φ G W st fr H h e st' hs
    simp only [vexec, Option.map_eq_some_iff] at hs
    obtain ⟨s, h1, h2⟩ := hs
    obtain ⟨rfl, rfl⟩ := Prod.mk.inj h2
    obtain ⟨fr', H', φ', G', W', k1, k2, k3⟩ := dreg_rel hO h h1
    exact ⟨fr', H', φ', G', W', by simp [execL, k1], k2, k3⟩
  | keep l c ih =>
    intro φ G W st fr H h e st' hs
    simp only [vexec] at hs
    exact ih (h.keep l) hs
  | seq a b iha ihb =>
    intro φ G W st fr H h e st' hs
    simp only [vexec] at hs
    rw [seqV_some] at hs
    rcases hs with ⟨s, h1, h2⟩ | ⟨h1, h2⟩
    · obtain ⟨fr1, H1, φ1, G1, W1, k1, k2, k3⟩ := iha h h1
      obtain ⟨fr2, H2, φ2, G2, W2, k4, k5, k6⟩ := ihb k2 h2
      exact ⟨fr2, H2, φ2, G2, W2, by simp only [execL, k1]; exact k4, k5, k3.trans k6⟩
    · obtain ⟨fr1, H1, φ1, G1, W1, k1, k2, k3⟩ := iha h h1
      refine ⟨fr1, H1, φ1, G1, W1, ?_, k2, k3⟩
      simp only [execL, k1]
      cases e with
      | norm => exact absurd rfl (h2 st')
      | exit i => rfl
      | ret => rfl
  | cond c a b iha ihb =>
    intro φ G W st fr H h e st' hs
    simp only [vexec, condV] at hs
    split at hs
    · rename_i hc
      obtain ⟨x, h1, h2⟩ := h.ev hc
      simp only [VRel] at h2; subst h2
      obtain ⟨fr1, H1, φ1, G1, W1, k1, k2, k3⟩ := iha h hs
      exact ⟨fr1, H1, φ1, G1, W1, by simp only [execL, condR, h1]; exact k1, k2, k3⟩
    · rename_i hc
      obtain ⟨x, h1, h2⟩ := h.ev hc
      simp only [VRel] at h2; subst h2
      obtain ⟨fr1, H1, φ1, G1, W1, k1, k2, k3⟩ := ihb h hs
      exact ⟨fr1, H1, φ1, G1, W1, by simp only [execL, condR, h1]; exact k1, k2, k3⟩
    · cases hs
  | block id b ih =>
    intro φ G W st fr H h e st' hs
    simp only [vexec] at hs
    cases hb : vexec E Fl O n b st with
    | none => rw [hb] at hs; cases hs
    | some p =>
      obtain ⟨e0, s0⟩ := p
      rw [hb] at hs
      obtain ⟨fr1, H1, φ1, G1, W1, k1, k2, k3⟩ := ih h hb
      cases e0 with
      | norm =>
        obtain ⟨rfl, rfl⟩ := Prod.mk.inj (Option.some.inj hs)
        exact ⟨fr1, H1, φ1, G1, W1, by simp only [execL, k1]; rfl, k2, k3⟩
      | ret =>
        obtain ⟨rfl, rfl⟩ := Prod.mk.inj (Option.some.inj hs)
        exact ⟨fr1, H1, φ1, G1, W1, by simp only [execL, k1]; rfl, k2, k3⟩
      | exit j =>
        simp only [blockV] at hs
        split at hs
        · rename_i hj
          obtain ⟨rfl, rfl⟩ := Prod.mk.inj (Option.some.inj hs)
          exact ⟨fr1, H1, φ1, G1, W1, by simp only [execL, k1, blockR]; rw [if_pos hj], k2, k3⟩
        · rename_i hj
          obtain ⟨rfl, rfl⟩ := Prod.mk.inj (Option.some.inj hs)
          exact ⟨fr1, H1, φ1, G1, W1, by simp only [execL, k1, blockR]; rw [if_neg hj], k2, k3⟩
  | loop b ih =>
    intro φ G W st fr H h e st' hs
    simp only [vexec] at hs
    have key : ∀ k {φ : Bk} {G : Fz} {W : Nat → Prop} {st : VS} {fr : Fr} {H : AH}, Rel φ G W st fr H → loopNV (fun s => roundV s.h (vexec E Fl O n b s.top)) k st = some (e, st') →
        ∃ fr' H' φ' G' W', loopL (execL E A b) (fr, H) = some (e, (fr', H')) ∧ Rel φ' G' W' st' fr' H' ∧ Frm φ G W H φ' G' W' H' := by
      intro k
      induction k with
      | zero => intro φ G W st fr H h hs; cases hs
      | succ k ihk =>
        intro φ G W st fr H h hs
        simp only [loopNV] at hs
        have h := h.fewer st.top rfl (fun n t hm => noCell_sub hm) (.inl rfl) W (fun r hr => hr) (fun r h1 h2 => absurd h1 h2)
        cases hb : vexec E Fl O n b st.top with
        | none => rw [hb] at hs; cases hs
        | some p =>
          obtain ⟨e0, s0⟩ := p
          rw [hb] at hs
          obtain ⟨fr1, H1, φ1, G1, W1, k1, k2, k3⟩ := ih h hb
          cases e0 with
          | norm =>
            have hr : ∃ s1 φ2 W2, roundV st.h (some (.norm, s0)) = some (.norm, s1) ∧ Rel φ2 G1 W2 s1 fr1 H1 ∧ Frm φ G W H φ2 G1 W2 H1 := by
              simp only [roundV]
              split
              · rename_i hc
                obtain ⟨q1, q2⟩ := h.trim k2 k3 hc.1 hc.2 (noCellNew st.h.next s0.w) (fun n t hm => by simp only [noCellNew, List.mem_filter] at hm; exact hm.1) (fun n i off hm => by simp only [noCellNew, List.mem_filter, decide_eq_true_eq] at hm; exact hm.2)
                exact ⟨_, _, _, rfl, q1, q2⟩
              · exact ⟨_, _, _, rfl, k2, k3⟩
            obtain ⟨s1, φ2, W2, e1, e2, e3⟩ := hr
            rw [e1] at hs
            obtain ⟨fr3, H3, φ3, G3, W3, k4, k5, k6⟩ := ihk e2 hs
            exact ⟨fr3, H3, φ3, G3, W3, by rw [loopL_eq, k1]; exact k4, k5, e3.trans k6⟩
          | ret =>
            have e1 : roundV st.h (some (.ret, s0)) = some (.ret, s0) := rfl
            rw [e1] at hs
            obtain ⟨rfl, rfl⟩ := Prod.mk.inj (Option.some.inj hs)
            exact ⟨fr1, H1, φ1, G1, W1, by rw [loopL_eq, k1]; rfl, k2, k3⟩
          | exit i =>
            have e1 : roundV st.h (some (.exit i, s0)) = some (.exit i, s0) := rfl
            rw [e1] at hs
            obtain ⟨rfl, rfl⟩ := Prod.mk.inj (Option.some.inj hs)
            exact ⟨fr1, H1, φ1, G1, W1, by rw [loopL_eq, k1]; rfl, k2, k3⟩
    exact key n h hs
  | exit id => intro φ G W st fr H h e st' hs; obtain ⟨rfl, rfl⟩ := Prod.mk.inj (Option.some.inj hs); exact ⟨fr, H, φ, G, W, rfl, h, Frm.refl _ _ _ _⟩
  | ret => intro φ G W st fr H h e st' hs; obtain ⟨rfl, rfl⟩ := Prod.mk.inj (Option.some.inj hs); exact ⟨fr, H, φ, G, W, rfl, h, Frm.refl _ _ _ _⟩
  | bad => intro φ G W st fr H h e st' hs; cases hs
theorem res_rel (h : Rel φ G W st fr H) : ∀ {res : List ARes} {l : List V}, resV st res = some l → ∃ l', resA (fr, H) res = some l' ∧ VRels φ G l l' ∧ ∀ (j t : Nat), (res[j]?).bind tmpOf = some t → ∃ x, l'[j]? = some x ∧ Fr.get fr t = some x
  | [], _, hl => by simp only [resV, Option.some.injEq] at hl; subst hl; exact ⟨[], rfl, by simp [VRels], fun j t h => by simp at h⟩
  | .tmp t :: res, _, hl => by
    simp only [resV, Option.bind_eq_some_iff, Option.map_eq_some_iff] at hl
    obtain ⟨v, h1, l, h2, rfl⟩ := hl
    obtain ⟨a, k1, k2⟩ := h.slots t v h1
    obtain ⟨l', k3, k4, k5⟩ := res_rel h h2
    refine ⟨a :: l', by simp [resA, k1, k3], by simp only [VRels]; exact ⟨a, l', rfl, k2, k4⟩, fun j t' hj => ?_⟩
    cases j with
    | zero => simp [tmpOf] at hj; subst hj; exact ⟨a, rfl, k1⟩
    | succ j => simp at hj; obtain ⟨x, q1, q2⟩ := k5 j t' (by simpa using hj); exact ⟨x, by simpa using q1, q2⟩
  | .cell t n ag :: res, _, hl => by
    simp only [resV, Option.bind_eq_some_iff, Option.map_eq_some_iff] at hl
    obtain ⟨p, h1, v, h0, l, h2, rfl⟩ := hl
    obtain ⟨a, k1, k2⟩ := h.slots t p h1
    obtain ⟨b, q3, q4⟩ := h.load k2 h0
    obtain ⟨l', k3, k4, k5⟩ := res_rel h h2
    refine ⟨b :: l', by simp [resA, k1, q3, k3], by simp only [VRels]; exact ⟨b, l', rfl, q4, k4⟩, fun j t' hj => ?_⟩
    cases j with
    | zero => simp [tmpOf] at hj
    | succ j => simp at hj; obtain ⟨x, q1, q2⟩ := k5 j t' (by simpa using hj); exact ⟨x, by simpa using q1, q2⟩
theorem tmps_inj : ∀ {res : List ARes} {j j' t : Nat}, (res.filterMap tmpOf).Nodup → (res[j]?).bind tmpOf = some t → (res[j']?).bind tmpOf = some t → j = j'
  | [], _, _, _, _, h, _ => by simp at h
  | x :: res, j, j', t, hn, h, h' => by
    have hin : ∀ k, (res[k]?).bind tmpOf = some t → t ∈ res.filterMap tmpOf := fun k hk => by
      simp only [Option.bind_eq_some_iff] at hk
      obtain ⟨y, h1, h2⟩ := hk
      exact List.mem_filterMap.2 ⟨y, List.mem_of_getElem? h1, h2⟩
    rw [List.filterMap_cons] at hn
    cases j with
    | zero =>
      cases j' with
      | zero => rfl
      | succ j' =>
        exfalso
        simp at h h'
        rw [h] at hn
        exact (List.nodup_cons.1 hn).1 (hin j' (by simpa using h'))
    | succ j =>
      cases j' with
      | zero =>
        exfalso
        simp at h h'
        rw [h'] at hn
        exact (List.nodup_cons.1 hn).1 (hin j (by simpa using h))
      | succ j' =>
        simp at h h'
        have hn' : (res.filterMap tmpOf).Nodup := by
          split at hn
          · exact hn
          · exact (List.nodup_cons.1 hn).2
        exact congrArg (· + 1) (tmps_inj (j := j) (j' := j') (t := t) hn' (by simpa using h) (by simpa using h'))
theorem tup_rel {l : List V} {l' : List AV} (h : VRels φ G l l') : VRel φ G (tupV l) (tupOf l') := by
  cases l with
  | nil => simp only [VRels] at h; subst h; simp [tupV, tupOf, VRel, VRels]
  | cons v l =>
    cases l with
    | nil => simp only [VRels] at h; obtain ⟨a, r, rfl, h1, rfl⟩ := h; exact h1
    | cons w l =>
      have h0 := h
      simp only [VRels] at h
      obtain ⟨a, r, rfl, h1, b, r', rfl, h2, h3⟩ := h
      simp only [tupV, tupOf, VRel]
      exact ⟨_, rfl, h0⟩
def AnsOk (F : AFun) (l : List V) : Rt → Rt → Prop
  | .cell i off, R0 => R0 = .cell i off
  | .slot m, R0 => m = 0 ∧ l.length = 1 ∧ ∃ s, R0 = .slot s
  | .part m j, R0 => m = 0 ∧ l.length ≠ 1 ∧ ∃ s, R0 = .slot s ∧ (F.res[j]?).bind tmpOf = some s ∧ (F.res.filterMap tmpOf).Nodup
theorem Rel.answer (h : Rel φ G W st fr H) {Fl : Flags} {f : Nat} {F : AFun} {l : List V} (hl : resV st F.res = some l) : ∃ l', resA (fr, H) F.res = some l' ∧ Rel φ G W ⟨[(0, tupV l)], gives 0 (tupV l) (rtsR Fl f F st.w l), st.h⟩ [(0, tupOf l')] H := by
  obtain ⟨l', h1, h2, h3⟩ := res_rel h hl
  have h4 := tup_rel h2
  refine ⟨l', h1, ?_⟩
  -- a right of the answer comes from a slot
  have src : ∀ m t, (m, t) ∈ gives 0 (tupV l) (rtsR Fl f F st.w l) → m = 0 ∧ ∃ j s, (F.res[j]?).bind tmpOf = some s ∧ (s, Tag.own) ∈ st.w ∧ (F.res.filterMap tmpOf).Nodup ∧ ((t = .own ∧ l.length = 1 ∧ j = 0) ∨ (t = .comp j ∧ l.length ≠ 1)) := fun m t hm => by
    have hres : ∀ j, j ∈ resR st.w F.res → ∃ s, (F.res[j]?).bind tmpOf = some s ∧ (s, Tag.own) ∈ st.w ∧ (F.res.filterMap tmpOf).Nodup := fun j hj => by
      unfold resR at hj
      split at hj
      · rename_i hn
        simp only [List.mem_filter] at hj
        have := hj.2
        split at this
        · rename_i s e; exact ⟨s, e, by simpa using this, hn⟩
        · cases this
      · cases hj
    have hr : ∀ j, j ∈ rtsR Fl f F st.w l → j ∈ resR st.w F.res ∧ ∀ v, l = [v] → ∃ sz rows, v = .lst sz rows := fun j hj => by
      unfold rtsR at hj
      split at hj
      · split at hj
        · exact ⟨hj, fun v e => by cases e; exact ⟨_, _, rfl⟩⟩
        · cases hj
        · rename_i hn1 hn2; exact ⟨hj, fun v e => absurd e (hn2 v)⟩
      · cases hj
    unfold gives at hm
    split at hm
    · rename_i tl htl
      simp only [List.mem_map, List.mem_eraseDups, Prod.mk.injEq] at hm
      obtain ⟨j, hj, rfl, rfl⟩ := hm
      obtain ⟨q1, q2⟩ := hr j hj
      obtain ⟨s, q3, q4, q5⟩ := hres j q1
      refine ⟨rfl, j, s, q3, q4, q5, .inr ⟨rfl, fun e => ?_⟩⟩
      match l, e with
      | [v], _ =>
        obtain ⟨sz, rows, rfl⟩ := q2 v rfl
        simp [tupV] at htl
    · rename_i sz rows htl
      split at hm
      · rename_i hc
        simp only [List.mem_singleton, Prod.mk.injEq] at hm
        obtain ⟨rfl, rfl⟩ := hm
        have hc : 0 ∈ rtsR Fl f F st.w l := by simpa using hc
        obtain ⟨q1, q2⟩ := hr 0 hc
        obtain ⟨s, q3, q4, q5⟩ := hres 0 q1
        refine ⟨rfl, 0, s, q3, q4, q5, .inl ⟨rfl, ?_, rfl⟩⟩
        match l with
        | [] => simp [tupV] at htl
        | [v] => rfl
        | _ :: _ :: _ => simp [tupV] at htl
      · cases hm
    · cases hm
  have hlen : l'.length = l.length := h2.length
  have hcell : ∀ i off x, At [(0, tupOf l')] H φ (.cell i off) x ↔ At fr H φ (.cell i off) x := fun i off x => Iff.rfl
  have hP : ∀ R, Has ⟨[(0, tupV l)], gives 0 (tupV l) (rtsR Fl f F st.w l), st.h⟩ R → ∃ R0, Has st R0 ∧ (∀ x, At fr H φ R0 x → At [(0, tupOf l')] H φ R x) ∧ AnsOk F l R R0 := fun R hR => by
    cases R with
    | slot m =>
      obtain ⟨rfl, j, s, q1, q2, q3, q4⟩ := src m .own hR
      rcases q4 with ⟨_, q5, rfl⟩ | ⟨q5, _⟩
      · refine ⟨.slot s, q2, fun x hx => ?_, rfl, q5, s, rfl⟩
        obtain ⟨y, q6, q7⟩ := h3 0 s q1
        simp only [At] at hx ⊢
        rw [hx] at q7
        obtain rfl := Option.some.inj q7
        match l', hlen.trans q5 with
        | [z], _ => simp at q6; subst q6; simp [Fr.get, tupOf]
      · cases q5
    | part m j =>
      obtain ⟨rfl, j', s, q1, q2, q3, q4⟩ := src m (.comp j) hR
      rcases q4 with ⟨q5, _⟩ | ⟨q5, q6⟩
      · cases q5
      · cases q5
        refine ⟨.slot s, q2, fun x hx => ?_, rfl, q6, s, rfl, q1, q3⟩
        obtain ⟨y, q7, q8⟩ := h3 j s q1
        simp only [At] at hx ⊢
        rw [hx] at q8
        obtain rfl := Option.some.inj q8
        refine ⟨l', .inl ?_, q7⟩
        match l', (fun e => q6 (hlen.symm.trans e) : l'.length ≠ 1) with
        | [], _ => rfl
        | [_], hne => exact absurd rfl hne
        | _ :: _ :: _, _ => rfl
    | cell i off => exact ⟨.cell i off, hR, fun x hx => hx, rfl⟩
  let org : Rt → Option Rt := fun R => @dite _ (∃ R0, Has st R0 ∧ (∀ x, At fr H φ R0 x → At [(0, tupOf l')] H φ R x) ∧ AnsOk F l R R0) (Classical.propDecidable _) (fun e => some (Classical.choose e)) (fun _ => none)
  have horg : ∀ R, Has ⟨[(0, tupV l)], gives 0 (tupV l) (rtsR Fl f F st.w l), st.h⟩ R → ∃ R0, org R = some R0 ∧ Has st R0 ∧ (∀ x, At fr H φ R0 x → At [(0, tupOf l')] H φ R x) ∧ AnsOk F l R R0 := fun R hR =>
    ⟨Classical.choose (hP R hR), dif_pos (hP R hR), Classical.choose_spec (hP R hR)⟩
  have hall := rights_of h (st' := ⟨[(0, tupV l)], gives 0 (tupV l) (rtsR Fl f F st.w l), st.h⟩) (fr' := [(0, tupOf l')]) (H' := H) (φ' := φ) (G' := G) (W' := W) org (fun R hR => ?_) (fun R R' hR hR' e => ?_)
  · refine ⟨fun n v hv => ?_, h.objs, h.inj, h.dom, h.glob, h.n100, h.fz, h.win, hall.1, hall.2, h.gl, fun n i off hm _ => ?_⟩
    · simp only [VFr.get] at hv
      split at hv
      · rename_i e; subst e; obtain rfl := Option.some.inj hv; exact ⟨_, by simp [Fr.get], h4⟩
      · cases hv
    · exfalso
      obtain ⟨_, j, s, _, _, _, q | q⟩ := src n _ hm
      · cases q.1
      · cases q.1
  · obtain ⟨R0, e, h5, h6, _⟩ := horg R hR
    obtain ⟨x, q1, q2⟩ := h.rt R0 h5
    refine ⟨x, h6 x q1, q2, ?_⟩
    rw [e]
    exact ⟨h5, x, q1, rfl⟩
  · obtain ⟨R0, e1, _, _, hs⟩ := horg R hR
    obtain ⟨R0', e2, _, _, hs'⟩ := horg R' hR'
    rw [e1, e2] at e
    obtain rfl := Option.some.inj e
    cases R with
    | slot m =>
      cases R' with
      | slot m' => rw [hs.1, hs'.1]
      | part m' j' => exact absurd hs.2.1 hs'.2.1
      | cell i off => obtain ⟨_, _, s, e⟩ := hs; rw [e] at hs'; cases hs'
    | part m j =>
      cases R' with
      | slot m' => exact absurd hs'.2.1 hs.2.1
      | part m' j' =>
        obtain ⟨q1, _, s, q2, q3, q4⟩ := hs
        obtain ⟨q1', _, s', q2', q3', _⟩ := hs'
        rw [q2] at q2'
        simp only [Rt.slot.injEq] at q2'
        subst q2'
        rw [q1, q1', tmps_inj q4 q3 q3']
      | cell i off => obtain ⟨_, _, s, e, _⟩ := hs; rw [e] at hs'; cases hs'
    | cell i off =>
      cases R' with
      | slot m' => obtain ⟨_, _, s, e⟩ := hs'; rw [e] at hs; cases hs
      | part m' j' => obtain ⟨_, _, s, e, _⟩ := hs'; rw [e] at hs; cases hs
      | cell i' off' =>
        have e : (Rt.cell i off) = .cell i' off' := hs.symm.trans hs'
        exact e
theorem Rel.only0 (h : Rel φ G W st fr H) : Rel φ G W ⟨[], [], st.h⟩ [] H := by
  have h1 := h.mixed h (Frm.refl _ _ _ _)
  exact { h1 with
    slots := fun n u hu => by cases hu
    rt := fun R hR => by
      cases R with
      | slot n => cases hR
      | part n j => cases hR
      | cell i off => exact h1.rt (.cell i off) hR
    rtx := fun R R' x x' r hR hR' hx hx' => by
      cases R with
      | slot n => cases hR
      | part n j => cases hR
      | cell i off =>
        cases R' with
        | slot n => cases hR'
        | part n j => cases hR'
        | cell i' off' => exact h1.rtx (.cell i off) (.cell i' off') x x' r hR hR' hx hx'
    alias := fun n i off hm => by cases hm }
theorem Rel.only1 (h : Rel φ G W st fr H) {v : V} {a : AV} (hv : VRel φ G v a) : Rel φ G W ⟨[(0, v)], [], st.h⟩ [(0, a)] H := by
  have h1 := h.only0
  exact { h1 with
    slots := fun n u hu => by
      simp only [VFr.get] at hu
      split at hu
      · rename_i e; subst e; obtain rfl := Option.some.inj hu; exact ⟨a, by simp [Fr.get], hv⟩
      · cases hu
    rt := fun R hR => by
      cases R with
      | slot n => cases hR
      | part n j => cases hR
      | cell i off => exact h1.rt (.cell i off) hR
    rtx := fun R R' x x' r hR hR' hx hx' => by
      cases R with
      | slot n => cases hR
      | part n j => cases hR
      | cell i off =>
        cases R' with
        | slot n => cases hR'
        | part n j => cases hR'
        | cell i' off' => exact h1.rtx (.cell i off) (.cell i' off') x x' r hR hR' hx hx'
    alias := fun n i off hm => by cases hm }
/-! what is written no more -/
theorem Rel.fzMore (h : Rel φ G W st fr H) {G' : Fz} (hG : ∀ r pre, G r = some pre → G' r = some pre) (ho : ∀ i o r, st.h.get i = some o → φ i = some r → G' r = none)
    (hf : ∀ r pre, G' r = some pre → r < H.next ∧ ∃ l ro, H.get r = some (.cells l ro) ∧ pre <+: l) : Rel φ G' W st fr H := by
  have hle : FzLe G G' := fun r pre hp => ⟨pre, hG r pre hp, List.prefix_refl _⟩
  refine ⟨fun n v hv => ?_, fun i o hi => ?_, h.inj, h.dom, h.glob, h.n100, hf, h.win, fun R hR => ?_, h.rtx, gl_mono (BkLe.refl _) (fun r pre hp => ⟨pre, hG r pre hp, List.prefix_refl _⟩) h.gl, h.alias⟩
  · obtain ⟨a, h1, h2⟩ := h.slots n v hv
    exact ⟨a, h1, h2.mono (BkLe.refl _) hle⟩
  · obtain ⟨h1, r, h2, h3, h4, h5⟩ := h.objs i o hi
    refine ⟨h1, r, h2, h3, ho i o r hi h2, ?_⟩
    cases o with
    | cells l own => obtain ⟨cs, h6, h7⟩ := h5; exact ⟨cs, h6, h7.mono (BkLe.refl _) hle⟩
    | map l => obtain ⟨l', h6, h7⟩ := h5; exact ⟨l', h6, h7.mono (BkLe.refl _) hle⟩
  · obtain ⟨a, h1, h2⟩ := h.rt R hR
    refine ⟨a, h1, ?_⟩
    rcases h2 with h2 | ⟨q, o, sz, len, c, pre, rfl, k1, k2, k3⟩
    · exact .inl h2
    · exact .inr ⟨q, o, sz, len, c, pre, rfl, k1, hG _ _ k2, k3⟩
open Classical in
noncomputable def fzNew (φ : Bk) (G : Fz) (H : AH) (n : Nat) (S : VH) : Fz := fun r => if (∃ i l own, n ≤ i ∧ S.get i = some (.cells l own) ∧ φ i = some r) then (match H.get r with | some (.cells cs _) => some cs | _ => none) else G r
theorem fzNew_of (h : Rel φ G W st fr H) {n i : Nat} {l : List V} {own : List Nat} (hn : n ≤ i) (hg : st.h.get i = some (.cells l own)) : ∃ r cs, φ i = some r ∧ H.get r = some (.cells cs false) ∧ VRels φ G l cs ∧ fzNew φ G H n st.h r = some cs := by
  obtain ⟨_, r, h1, _, _, cs, h2, h3⟩ := h.objs i _ hg
  refine ⟨r, cs, h1, h2, h3, ?_⟩
  unfold fzNew
  rw [if_pos ⟨i, l, own, hn, hg, h1⟩, h2]
theorem fzNew_old (h : Rel φ G W st fr H) {n r : Nat} {pre : List AV} (hp : G r = some pre) : fzNew φ G H n st.h r = some pre := by
  unfold fzNew
  rw [if_neg]
  · exact hp
  · rintro ⟨i, l, own, _, hg, hi⟩
    obtain ⟨_, r', h1, _, h2, _⟩ := h.objs i _ hg
    rw [hi] at h1; obtain rfl := Option.some.inj h1
    rw [h2] at hp; cases hp
theorem frzV_rel (h : Rel φ G W st fr H) {n : Nat} {v : V} {a : AV} (hv : VRel φ G v a) : VRel φ (fzNew φ G H n st.h) (frzV n st.h v) a := by
  have hle : FzLe G (fzNew φ G H n st.h) := fun r pre hp => ⟨pre, fzNew_old h hp, List.prefix_refl _⟩
  have same := hv.mono (BkLe.refl _) hle
  cases v <;> first | exact same | skip
  rename_i p sz len cap
  cases p with
  | none =>
    simp only [VRel] at hv
    obtain ⟨_, s, c, rfl⟩ := hv
    simp only [frzV, VRel]
    exact .inl ⟨trivial, _, _, rfl⟩
  | some q =>
    obtain ⟨i, off⟩ := q
    simp only [frzV]
    split
    · exact same
    · rename_i hi
      split
      · rename_i l own hg
        split
        · rename_i hc
          obtain ⟨r, cs, h1, h2, h3, h4⟩ := fzNew_of h (Nat.le_of_not_lt hi) hg
          simp only [VRel] at hv
          obtain ⟨r', h5, rfl⟩ := hv
          rw [h1] at h5; obtain rfl := Option.some.inj h5
          simp only [VRel]
          have hl := h3.length
          refine .inr ⟨r, off, cap, cs, by rw [rowsOf_len], h4, by rw [rowsOf_len]; omega, ?_⟩
          have := RowsRel.of_rowsOf (G := fzNew φ G H n st.h) (φ := φ) (sz := sz) (n := len) (((h3.mono (BkLe.refl _) hle).drop off).take (len * sz)) (by simp; omega)
          rw [rowsOf_take] at this
          exact RowsRel.mono (BkLe.refl _) (FzLe.refl _) (List.take_prefix _ _) (by rw [rowsOf_len]; simp; omega) this
        · exact same
      · exact same
theorem frzs_rel (h : Rel φ G W st fr H) {n : Nat} : ∀ {l : List V} {cs : List AV}, VRels φ G l cs → VRels φ (fzNew φ G H n st.h) (l.map (frzV n st.h)) cs
  | [], _, hv => by simp only [VRels] at hv; subst hv; simp [VRels]
  | v :: l, _, hv => by
    simp only [VRels] at hv
    obtain ⟨a, r, rfl, h1, h2⟩ := hv
    simp only [List.map_cons, VRels]
    exact ⟨a, r, rfl, frzV_rel h h1, frzs_rel h h2⟩
end
structure VTabOk (TV : VTab) (TR : Tab) : Prop where
  env : TV.E = TR.E
  code : ∀ f F, TV.fn f = some (.code F) → TR.fn f = some (.code F)
  prim : ∀ f p, TV.fn f = some (.prim p) → ∀ (vs : List V) (rs : List Nat) (S : VH) (v : V) (S' : VH), p vs S = some (v, S') → ∀ (φ : Bk) (G : Fz) (W : Nat → Prop) (H : AH) (as' : List AV), Rel φ G W ⟨frV vs, rs.map fun k => (k, .own), S⟩ (frOf as') H → as'.length = vs.length →
    ∃ a H' φ' G' W', Ram.Call TR f as' H = some (a, H') ∧ Rel φ' G' W' ⟨[(0, v)], [], S'⟩ [(0, a)] H' ∧ Frm φ G W H φ' G' W' H'
theorem gives_nil {d : Nat} {v : V} : gives d v [] = [] := by
  unfold gives
  split <;> simp
theorem vcallN_sound {TV : VTab} {TR : Tab} (hT : VTabOk TV TR) : ∀ n, VOSound (vcallN TV n) (Ram.Call TR) := by
  intro n
  induction n with
  | zero => intro f vs rs S v rs' S' h; cases h
  | succ n ih =>
    intro f vs rs S v rs' S' hs φ G W H as' h hl
    unfold vcallN at hs
    cases hd : TV.fn f with
    | none => rw [hd] at hs; cases hs
    | some d =>
      rw [hd] at hs
      cases d with
      | prim p =>
        simp only [Option.map_eq_some_iff] at hs
        obtain ⟨⟨v1, S1⟩, h1, h2⟩ := hs
        simp only [Prod.mk.injEq] at h2
        obtain ⟨rfl, rfl, rfl⟩ := h2
        obtain ⟨a, H', φ', G', W', k1, k2, k3⟩ := hT.prim f p hd vs rs S _ _ h1 φ G W H as' h hl
        exact ⟨a, H', φ', G', W', k1, by rw [gives_nil]; exact k2, k3⟩
      | code F =>
        simp only [vfun] at hs
        split at hs
        · rename_i hnp
          cases hx : vexec TV.E TV.Fl (vcallN TV n) n F.body ⟨frV vs, rs.map fun k => (k, .own), S⟩ with
          | none => rw [hx] at hs; cases hs
          | some p =>
            obtain ⟨e, s1⟩ := p
            rw [hx] at hs
            obtain ⟨fr1, H1, φ1, G1, W1, k1, k2, k3⟩ := exec_rel ih h hx
            rw [hT.env] at k1
            have fin : ∀ r, endV TV.Fl f F S (some (.ret, s1)) = some (v, rs', S') →
                (∀ l', resA (fr1, H1) F.res = some l' → finA F (execL TR.E (Ram.Call TR) F.body (frOf as', H)) = some (tupOf l', H1)) → r = () → ∃ a H' φ' G' W', Ram.Call TR f as' H = some (a, H') ∧ Rel φ' G' W' ⟨[(0, v)], gives 0 v rs', S'⟩ [(0, a)] H' ∧ Frm φ G W H φ' G' W' H' := fun _ hr hfin _ => by
              simp only [endV, Option.bind_eq_some_iff] at hr
              obtain ⟨l, h1, h2⟩ := hr
              obtain ⟨l', q1, q2⟩ := k2.answer (Fl := TV.Fl) (f := f) (F := F) h1
              have hcall : Ram.Call TR f as' H = some (tupOf l', H1) := by
                rw [Call_code (hT.code f F hd)]
                unfold afunL
                rw [if_pos (hl.trans hnp)]
                exact hfin l' q1
              split at h2
              · simp only [Option.some.injEq, Prod.mk.injEq] at h2
                obtain ⟨rfl, rfl, rfl⟩ := h2
                exact ⟨_, H1, φ1, G1, W1, hcall, q2, k3⟩
              split at h2
              · split at h2
                · rename_i hc
                  simp only [Option.some.injEq, Prod.mk.injEq] at h2
                  obtain ⟨rfl, rfl, rfl⟩ := h2
                  obtain ⟨l2, e1, e2, _⟩ := res_rel k2 h1
                  rw [q1] at e1
                  obtain rfl := Option.some.inj e1
                  obtain ⟨q3, q4⟩ := h.trim (q2.only0) k3 hc.1 (by simp [cloF]) [] (fun _ _ h => h) (fun n i off hm => by cases hm)
                  have hv := tup_rel (frzs_rel k2 (n := S.next) e2)
                  have hnone : ∀ i o r, (VH.trim S s1.h).get i = some o → (if i < S.next then φ1 i else none) = some r → fzNew φ1 G1 H1 S.next s1.h r = none := fun i o r ho hr => by
                    obtain ⟨k5, r', k6, k7, k8, _⟩ := q3.objs i o ho
                    simp only [hr, Option.some.injEq] at k6
                    subst k6
                    unfold fzNew
                    rw [if_neg]
                    · exact k8
                    · rintro ⟨i', l', own', hn', hg', hi'⟩
                      simp only [VH.trim] at k5 ho
                      rw [if_pos k5] at ho hr
                      have := k2.inj i i' r _ _ ho hg' hr hi'
                      omega
                  have q5 := q3.fzMore (G' := fzNew φ1 G1 H1 S.next s1.h) (fun r pre hp => fzNew_old k2 hp) hnone (fun r pre hp => by
                    unfold fzNew at hp
                    split at hp
                    · rename_i hx'
                      obtain ⟨i, l3, own, _, hg, hi⟩ := hx'
                      obtain ⟨_, r', z1, z2, _, cs, z3, z4⟩ := k2.objs i _ hg
                      rw [hi] at z1; obtain rfl := Option.some.inj z1
                      rw [z3] at hp
                      obtain rfl := Option.some.inj hp
                      exact ⟨k2.win _ z2, _, _, z3, List.prefix_refl _⟩
                    · exact k2.fz r pre hp)
                  have hv2 := hv.clo (φ' := fun i => if i < S.next then φ1 i else none) (n := S.next) (fun i r hi hr => by
                    have := h.n100.1
                    dsimp only at this
                    rw [if_pos (by omega)]; exact hr) hc.2
                  refine ⟨_, H1, _, _, W1, hcall, by rw [gives_nil]; exact q5.only1 hv2, ⟨q4.next, q4.phi, q4.fz.trans (fun r pre hp => ⟨pre, fzNew_old k2 hp, List.prefix_refl _⟩), fun r hr hw => ?_, q4.win⟩⟩
                  obtain ⟨o1, o2, o3⟩ := q4.out r hr hw
                  refine ⟨o1, o2, ?_⟩
                  rw [← o3]
                  unfold fzNew
                  rw [if_neg]
                  rintro ⟨i, l3, own, _, hg, hi⟩
                  obtain ⟨_, r', z1, z2, _⟩ := k2.objs i _ hg
                  rw [hi] at z1; obtain rfl := Option.some.inj z1
                  rcases q4.win r z2 with z | z
                  · exact hw z
                  · omega
                · cases h2
              · split at h2
                · rename_i hc
                  simp only [Option.some.injEq, Prod.mk.injEq] at h2
                  obtain ⟨rfl, rfl, rfl⟩ := h2
                  obtain ⟨q3, q4⟩ := h.trim q2 k3 hc.1 (by simp [cloF, hc.2]) (gives 0 (tupV l) (rtsR TV.Fl f F s1.w l)) (fun _ _ h => h) (fun n i off hm => by
                    obtain ⟨_, q | ⟨j, q, _⟩⟩ := mem_gives hm
                    · cases q.1
                    · cases q)
                  exact ⟨_, H1, _, G1, W1, hcall, q3, q4⟩
                · cases h2
            cases e with
            | norm => exact fin () hs (fun l' hl' => by rw [k1]; simp [finA, hl']) rfl
            | ret => exact fin () hs (fun l' hl' => by rw [k1]; simp [finA, hl']) rfl
            | exit i => cases hs
        · cases hs
theorem VCall_sound {TV : VTab} {TR : Tab} (hT : VTabOk TV TR) : VOSound (VCall TV) (Ram.Call TR) := fun f vs rs S v rs' S' h => by
  obtain ⟨n, hn⟩ := VCall_iff.1 h
  exact vcallN_sound hT n f vs rs S v rs' S' hn
end Go.Proofs.YtbpgbhmibmcbnaaGreatDoor.Val

/-! The second machine step by step, for simp. -/
namespace Go.Proofs.YtbpgbhmibmcbnaaGreatDoor.Val
open Go Go.Proofs.YtbpgbhmibmcbnaaGreatDoor.Ram

theorem nd {α : Type} {a b : α} (h : a = b) : a = b := h
section
variable {E : Env} {Fl : Flags} {O : VOracle} {f : VFr} {w : Rts} {h : VH} {st : VS}
@[simp] theorem x_skip : execV E Fl O .skip st = some (.norm, st) := nd rfl
@[simp] theorem x_reg {l : List AOper} : execV E Fl O (.reg l) st = (opsV E Fl O l st).map fun s => (.norm, s) := nd rfl
@[simp] theorem x_dreg {l : List DOp} : execV E Fl O (.dreg l) st = (dregV E Fl O l l st).map fun s => (.norm, s) := nd rfl
@[simp] theorem x_keep {l : List Nat} {c : ACode} : execV E Fl O (.keep l c) ⟨f, w, h⟩ = execV E Fl O c ⟨VFr.keep f l, Rts.keep w l, h⟩ := nd rfl
@[simp] theorem x_seq {a b : ACode} : execV E Fl O (.seq a b) st = seqV (execV E Fl O a st) (execV E Fl O b) := nd rfl
@[simp] theorem x_cond {c : Opd} {a b : ACode} : execV E Fl O (.cond c a b) ⟨f, w, h⟩ = condV (evV f c) (execV E Fl O a ⟨f, w, h⟩) (execV E Fl O b ⟨f, w, h⟩) := nd rfl
@[simp] theorem x_block {id : Nat} {b : ACode} : execV E Fl O (.block id b) st = blockV id (execV E Fl O b st) := nd rfl
noncomputable def loopX (E : Env) (Fl : Flags) (O : VOracle) (b : ACode) (st : VS) : VRes := loopV (fun s => roundV s.h (execV E Fl O b s.top)) st
theorem loopX_eq {b : ACode} : loopX E Fl O b st = seqV (roundV st.h (execV E Fl O b st.top)) (loopX E Fl O b) := loopV_eq _ _
theorem noCell_noCell : Rts.noCell (Rts.noCell w) = Rts.noCell w := by unfold Rts.noCell; rw [List.filter_filter]; congr 1; funext p; rw [Bool.and_self]
@[simp] theorem top_eq : VS.top ⟨f, w, h⟩ = ⟨f, w.noCell, h⟩ := nd rfl
theorem loopX_top {b : ACode} : loopX E Fl O b ⟨f, w, h⟩ = loopX E Fl O b ⟨f, w.noCell, h⟩ := by
  rw [loopX_eq, loopX_eq (st := ⟨f, w.noCell, h⟩)]
  simp only [top_eq, noCell_noCell]
@[simp] theorem x_loop {b : ACode} : execV E Fl O (.loop b) ⟨f, w, h⟩ = loopX E Fl O b ⟨f, w.noCell, h⟩ := by rw [← loopX_top]; rfl
@[simp] theorem x_exit {id : Nat} : execV E Fl O (.exit id) st = some (.exit id, st) := nd rfl
@[simp] theorem x_ret : execV E Fl O .ret st = some (.ret, st) := nd rfl
@[simp] theorem seqV_norm {k : VS → VRes} : seqV (some (.norm, st)) k = k st := nd rfl
@[simp] theorem seqV_ret {k : VS → VRes} : seqV (some (.ret, st)) k = some (.ret, st) := nd rfl
@[simp] theorem seqV_exit {k : VS → VRes} {i : Nat} : seqV (some (.exit i, st)) k = some (.exit i, st) := nd rfl
@[simp] theorem blockV_norm {i : Nat} : blockV i (some (.norm, st)) = some (.norm, st) := nd rfl
@[simp] theorem blockV_ret {i : Nat} : blockV i (some (.ret, st)) = some (.ret, st) := nd rfl
@[simp] theorem blockV_exit {i j : Nat} : blockV i (some (.exit j, st)) = if j = i then some (.norm, st) else some (.exit j, st) := nd rfl
@[simp] theorem condV_bool {b : Bool} {x y : VRes} : condV (some (.bool b)) x y = if b = true then x else y := by cases b <;> rfl
@[simp] theorem ev_t {n : Nat} : evV f (.t n) = VFr.get f n := nd rfl
@[simp] theorem ev_c {v : AV} : evV f (.c v) = ofAV v := nd rfl
@[simp] theorem ev_g {n : Nat} : evV f (.g n) = if n < 100 then some (.ptr (some (n, 0))) else none := nd rfl
@[simp] theorem ev_f {n : Nat} : evV f (.f n) = some (.fn n []) := nd rfl
@[simp] theorem of_int {k : IntKind} {n : Int} : ofAV (.int k n) = some (.int k n) := nd rfl
@[simp] theorem of_bool {b : Bool} : ofAV (.bool b) = some (.bool b) := nd rfl
@[simp] theorem of_str {s : List UInt8} : ofAV (.str s) = some (.str s) := nd rfl
@[simp] theorem of_ptr : ofAV (.ptr none) = some (.ptr none) := nd rfl
@[simp] theorem of_sl {sz c : Nat} : ofAV (.sl none sz 0 (some c)) = some (.lst sz []) := nd rfl
@[simp] theorem of_slH {sz : Nat} : ofAV (.sl none sz 0 none) = some (.sl none sz 0 none) := nd rfl
@[simp] theorem of_map : ofAV (.map none) = some (.map none) := nd rfl
@[simp] theorem of_nilFn : ofAV .nilFn = some .nilFn := nd rfl
@[simp] theorem of_nilI : ofAV .nilI = some .nilI := nd rfl
@[simp] theorem of_ifc {t : Nat} {v : AV} : ofAV (.ifc t v) = (ofAV v).map (.ifc t) := nd rfl
@[simp] theorem of_agg {l : List AV} : ofAV (.agg l) = (ofAVs l).map .agg := nd rfl
@[simp] theorem ofs_nil : ofAVs [] = some [] := nd rfl
@[simp] theorem ofs_cons {x : AV} {l : List AV} : ofAVs (x :: l) = (ofAV x).bind fun v => (ofAVs l).map (v :: ·) := nd rfl
@[simp] theorem get_nil {n : Nat} : VFr.get [] n = none := nd rfl
@[simp] theorem get_cons {k n : Nat} {v : V} {r : VFr} : VFr.get ((k, v) :: r) n = if k = n then some v else VFr.get r n := nd rfl
def kpV (o : Option V) (n : Nat) (r : VFr) : VFr := match o with
  | some v => (n, v) :: r
  | none => r
@[simp] theorem kp_some {n : Nat} {v : V} {r : VFr} : kpV (some v) n r = (n, v) :: r := nd rfl
@[simp] theorem kp_none {n : Nat} {r : VFr} : kpV none n r = r := nd rfl
@[simp] theorem keep_nil : VFr.keep f [] = [] := nd rfl
@[simp] theorem keep_cons {n : Nat} {l : List Nat} : VFr.keep f (n :: l) = kpV (VFr.get f n) n (VFr.keep f l) := by
  unfold VFr.keep kpV
  rw [List.filterMap_cons]
  cases VFr.get f n <;> rfl
-- rights
@[simp] theorem rkeep_nil {l : List Nat} : Rts.keep [] l = [] := nd rfl
@[simp] theorem rkeep_cons {n : Nat} {t : Tag} {l : List Nat} : Rts.keep ((n, t) :: w) l = if n ∈ l then (n, t) :: Rts.keep w l else Rts.keep w l := by
  unfold Rts.keep
  rw [List.filter_cons]
  by_cases e : n ∈ l <;> simp [e]
@[simp] theorem rdel_nil {d : Nat} : Rts.del [] d = [] := nd rfl
@[simp] theorem rdel_cons {n d : Nat} {t : Tag} : Rts.del ((n, t) :: w) d = if n = d then Rts.del w d else (n, t) :: Rts.del w d := by
  unfold Rts.del
  rw [List.filter_cons]
  by_cases e : n = d <;> simp [e]
@[simp] theorem rmove_nil {n d : Nat} : Rts.move [] n d = [] := by simp [Rts.move]
@[simp] theorem rmove_cons {m n d : Nat} {t : Tag} : Rts.move ((m, t) :: w) n d = if n = d then (m, t) :: w else if m = d then Rts.move w n d else (if m = n then d else m, t) :: Rts.move w n d := by
  unfold Rts.move
  by_cases e : n = d
  · simp [e]
  · simp only [if_neg e, List.filter_cons, bne_iff_ne]
    by_cases e2 : m = d
    · simp [e2]
    · simp only [ne_eq, e2, not_false_eq_true, if_true, List.map_cons, if_false]
      congr 1
      split <;> rfl
@[simp] theorem rnoCell_nil : Rts.noCell [] = [] := nd rfl
@[simp] theorem rnoCell_own {n : Nat} : Rts.noCell ((n, .own) :: w) = (n, .own) :: Rts.noCell w := nd rfl
@[simp] theorem rnoCell_comp {n j : Nat} : Rts.noCell ((n, .comp j) :: w) = (n, .comp j) :: Rts.noCell w := nd rfl
@[simp] theorem rnoCell_cell {n i o : Nat} : Rts.noCell ((n, .cell i o) :: w) = Rts.noCell w := nd rfl
@[simp] theorem rnew_nil {n : Nat} : noCellNew n [] = [] := nd rfl
@[simp] theorem rnew_own {n m : Nat} : noCellNew n ((m, .own) :: w) = (m, .own) :: noCellNew n w := nd rfl
@[simp] theorem rnew_comp {n m j : Nat} : noCellNew n ((m, .comp j) :: w) = (m, .comp j) :: noCellNew n w := nd rfl
@[simp] theorem rnew_cell {n m i o : Nat} : noCellNew n ((m, .cell i o) :: w) = if i < n then (m, .cell i o) :: noCellNew n w else noCellNew n w := by
  unfold noCellNew
  rw [List.filter_cons]
  by_cases e : i < n <;> simp [e]
def hasR (w : Rts) (p : Nat × Tag) : Bool := w.contains p
@[simp] theorem has_nil {p : Nat × Tag} : List.contains ([] : Rts) p = false := nd rfl
@[simp] theorem has_cons {n m : Nat} {t t' : Tag} : List.contains ((m, t') :: w) (n, t) = (decide (n = m ∧ t = t') || List.contains w (n, t)) := by
  rw [List.contains_cons]
  congr 1
  by_cases e : n = m ∧ t = t'
  · obtain ⟨rfl, rfl⟩ := e; simp
  · rw [decide_eq_false e]
    exact beq_eq_false_iff_ne.2 fun h => e (Prod.mk.inj h)
@[simp] theorem fil_nil {p : Nat × Tag} : List.filter (fun x => x != p) ([] : Rts) = [] := nd rfl
@[simp] theorem fil_cons {n m : Nat} {t t' : Tag} : List.filter (fun x => x != (n, t)) ((m, t') :: w) = if m = n ∧ t' = t then List.filter (fun x => x != (n, t)) w else (m, t') :: List.filter (fun x => x != (n, t)) w := by
  rw [List.filter_cons]
  by_cases e : m = n ∧ t' = t
  · obtain ⟨rfl, rfl⟩ := e; simp
  · rw [if_neg e, if_pos (bne_iff_ne.2 fun h => e (Prod.mk.inj h))]
-- operations
@[simp] theorem ops_nil : opsV E Fl O [] st = some st := nd rfl
@[simp] theorem ops_cons {o : AOper} {l : List AOper} : opsV E Fl O (o :: l) st = (stepV E Fl O o st).bind (opsV E Fl O l) := nd rfl
@[simp] theorem dreg_nil {all : List DOp} : dregV E Fl O all [] st = some st := nd rfl
@[simp] theorem dreg_cons {all : List DOp} {i : Nat} {o : AOper} {pre : List Nat} {l : List DOp} : dregV E Fl O all (⟨i, o, pre, []⟩ :: l) st = (stepV E Fl O o st).bind (dregV E Fl O all l) := by
  simp only [dregV]
  congr 1
def gdV (g : Option V) (want : Bool) (s r : Option VS) : Option VS := match g with
  | some (.bool b) => if b = want then r else s
  | some .und => s
  | _ => none
@[simp] theorem gd_bool {b want : Bool} {s r : Option VS} : gdV (some (.bool b)) want s r = if b = want then r else s := nd rfl
@[simp] theorem gd_und {want : Bool} {s r : Option VS} : gdV (some .und) want s r = s := nd rfl
@[simp] theorem step_guard {d : Nat} {op : AOp} {t : Nat} {want : Bool} : stepV E Fl O ⟨some d, op, some (t, want)⟩ ⟨f, w, h⟩ = gdV (VFr.get f t) want (some ⟨(d, .und) :: f, w.del d, h⟩) (stepV E Fl O ⟨some d, op, none⟩ ⟨f, w, h⟩) := by
  unfold stepV gdV
  simp only [wantedV]
  cases VFr.get f t with
  | none => rfl
  | some v =>
    cases v <;> first | rfl | skip
    rename_i b
    cases b <;> cases want <;> rfl
@[simp] theorem step_guard0 {op : AOp} {t : Nat} {want : Bool} : stepV E Fl O ⟨none, op, some (t, want)⟩ ⟨f, w, h⟩ = gdV (VFr.get f t) want (some ⟨f, w, h⟩) (stepV E Fl O ⟨none, op, none⟩ ⟨f, w, h⟩) := by
  unfold stepV gdV
  simp only [wantedV]
  cases VFr.get f t with
  | none => rfl
  | some v =>
    cases v <;> first | rfl | skip
    rename_i b
    cases b <;> cases want <;> rfl
theorem step_pure {d : Nat} {op : AOp} (hp : op.isPure = true) : stepV E Fl O ⟨some d, op, none⟩ ⟨f, w, h⟩ = (pureV f op).map fun v => ⟨(d, v) :: f, rtsV ⟨f, w, h⟩ d op, h⟩ := by
  unfold stepV opV
  simp only [wantedV, hp, if_true]
  rfl
theorem step_read {d : Nat} {op : AOp} (hp : op.isPure = false) (hq : op.isRead = true) : stepV E Fl O ⟨some d, op, none⟩ ⟨f, w, h⟩ = (readV E f h op).map fun v => ⟨(d, v) :: f, rtsV ⟨f, w, h⟩ d op, h⟩ := by
  unfold stepV opV
  simp only [wantedV, hp, hq, if_true, Bool.false_eq_true, if_false]
  rfl
theorem step_act {d : Option Nat} {op : AOp} (hp : op.isPure = false) (hq : op.isRead = false) : stepV E Fl O ⟨d, op, none⟩ ⟨f, w, h⟩ = actV Fl O ⟨f, w, h⟩ d op := by
  unfold stepV opV
  simp only [wantedV, hp, hq, Bool.false_eq_true, if_false]
variable {d n m : Nat} {x y z : Opd}
@[simp] theorem s_mov_t : stepV E Fl O ⟨some d, .mov (.t n), none⟩ ⟨f, w, h⟩ = (VFr.get f n).map fun v => ⟨(d, v) :: f, w.move n d, h⟩ := step_pure rfl
@[simp] theorem s_mov_nil {sz k : Nat} {c : Option Nat} : stepV E Fl O ⟨some d, .mov (.c (.sl none sz k c)), none⟩ ⟨f, w, h⟩ = (ofAV (.sl none sz k c)).map fun v => ⟨(d, v) :: f, (d, .own) :: w.del d, h⟩ := step_pure rfl
@[simp] theorem s_mov_int {k : IntKind} {i : Int} : stepV E Fl O ⟨some d, .mov (.c (.int k i)), none⟩ ⟨f, w, h⟩ = some ⟨(d, .int k i) :: f, w.del d, h⟩ := step_pure rfl
@[simp] theorem s_mov_bool {b : Bool} : stepV E Fl O ⟨some d, .mov (.c (.bool b)), none⟩ ⟨f, w, h⟩ = some ⟨(d, .bool b) :: f, w.del d, h⟩ := step_pure rfl
@[simp] theorem s_mov_str {s : List UInt8} : stepV E Fl O ⟨some d, .mov (.c (.str s)), none⟩ ⟨f, w, h⟩ = some ⟨(d, .str s) :: f, w.del d, h⟩ := step_pure rfl
@[simp] theorem s_mov_ptr {p : Option (Nat × Nat)} : stepV E Fl O ⟨some d, .mov (.c (.ptr p)), none⟩ ⟨f, w, h⟩ = (ofAV (.ptr p)).map fun v => ⟨(d, v) :: f, w.del d, h⟩ := step_pure rfl
@[simp] theorem s_mov_map {p : Option Nat} : stepV E Fl O ⟨some d, .mov (.c (.map p)), none⟩ ⟨f, w, h⟩ = (ofAV (.map p)).map fun v => ⟨(d, v) :: f, w.del d, h⟩ := step_pure rfl
@[simp] theorem s_mov_nilFn : stepV E Fl O ⟨some d, .mov (.c .nilFn), none⟩ ⟨f, w, h⟩ = some ⟨(d, .nilFn) :: f, w.del d, h⟩ := step_pure rfl
@[simp] theorem s_mov_nilI : stepV E Fl O ⟨some d, .mov (.c .nilI), none⟩ ⟨f, w, h⟩ = some ⟨(d, .nilI) :: f, w.del d, h⟩ := step_pure rfl
@[simp] theorem s_mov_agg {l : List AV} : stepV E Fl O ⟨some d, .mov (.c (.agg l)), none⟩ ⟨f, w, h⟩ = (ofAV (.agg l)).map fun v => ⟨(d, v) :: f, w.del d, h⟩ := step_pure rfl
@[simp] theorem s_mov_ifc {t : Nat} {v : AV} : stepV E Fl O ⟨some d, .mov (.c (.ifc t v)), none⟩ ⟨f, w, h⟩ = (ofAV (.ifc t v)).map fun v => ⟨(d, v) :: f, w.del d, h⟩ := step_pure rfl
@[simp] theorem s_mov_g : stepV E Fl O ⟨some d, .mov (.g n), none⟩ ⟨f, w, h⟩ = (evV f (.g n)).map fun v => ⟨(d, v) :: f, w.del d, h⟩ := step_pure rfl
@[simp] theorem s_mov_f : stepV E Fl O ⟨some d, .mov (.f n), none⟩ ⟨f, w, h⟩ = some ⟨(d, .fn n []) :: f, w.del d, h⟩ := step_pure rfl
@[simp] theorem pickV_bool {c : Bool} {a b : Option V} : pickV (some (.bool c)) a b = if c = true then a else b := by cases c <;> rfl
@[simp] theorem s_pick : stepV E Fl O ⟨some d, .pick x y z, none⟩ ⟨f, w, h⟩ = (pickV (evV f x) (evV f y) (evV f z)).map fun v => ⟨(d, v) :: f, w.del d, h⟩ := step_pure rfl
@[simp] theorem s_build {zero : List AV} {ps : List (Nat × Nat × Opd)} : stepV E Fl O ⟨some d, .build zero ps, none⟩ ⟨f, w, h⟩ = (ofAVs zero).bind fun z => (partsV f ps).bind fun qs => (fillV z qs).map fun l => ⟨(d, .agg l) :: f, bldR w d zero ps, h⟩ := by
  rw [step_pure rfl]
  simp only [pureV, Option.map_bind, Function.comp_def, Option.map_map]
  rfl
@[simp] theorem s_nilchk : stepV E Fl O ⟨some d, .nilchk x, none⟩ ⟨f, w, h⟩ = (evV f x).bind fun v => (nilchkV v).map fun v => ⟨(d, v) :: f, w.del d, h⟩ := by
  rw [step_pure rfl]; simp only [pureV, Option.map_bind, Function.comp_def]; rfl
@[simp] theorem s_bin {op : BinOp} : stepV E Fl O ⟨some d, .bin op x y, none⟩ ⟨f, w, h⟩ = (evV f x).bind fun a => (evV f y).bind fun b => (binV op a b).map fun v => ⟨(d, v) :: f, w.del d, h⟩ := by
  rw [step_pure rfl]; simp only [pureV, Option.map_bind, Function.comp_def]; rfl
@[simp] theorem s_not : stepV E Fl O ⟨some d, .not x, none⟩ ⟨f, w, h⟩ = (evV f x).bind fun v => (notV v).map fun v => ⟨(d, v) :: f, w.del d, h⟩ := by
  rw [step_pure rfl]; simp only [pureV, Option.map_bind, Function.comp_def]; rfl
@[simp] theorem s_neg : stepV E Fl O ⟨some d, .neg x, none⟩ ⟨f, w, h⟩ = (evV f x).bind fun v => (negV v).map fun v => ⟨(d, v) :: f, w.del d, h⟩ := by
  rw [step_pure rfl]; simp only [pureV, Option.map_bind, Function.comp_def]; rfl
@[simp] theorem s_conv {k : IntKind} : stepV E Fl O ⟨some d, .conv k x, none⟩ ⟨f, w, h⟩ = (evV f x).bind fun v => (convV k v).map fun v => ⟨(d, v) :: f, w.del d, h⟩ := by
  rw [step_pure rfl]; simp only [pureV, Option.map_bind, Function.comp_def]; rfl
@[simp] theorem s_convS : stepV E Fl O ⟨some d, .convS x, none⟩ ⟨f, w, h⟩ = (evV f x).bind fun v => (convSV v).map fun v => ⟨(d, v) :: f, w.del d, h⟩ := by
  rw [step_pure rfl]; simp only [pureV, Option.map_bind, Function.comp_def]; rfl
@[simp] theorem s_mkIfc {t : Nat} : stepV E Fl O ⟨some d, .mkIfc t x, none⟩ ⟨f, w, h⟩ = (evV f x).map fun v => ⟨(d, .ifc t v) :: f, w.del d, h⟩ := by
  rw [step_pure rfl]; simp only [pureV, Option.map_map]; rfl
@[simp] theorem s_mkFn {g : Nat} {caps : List Opd} : stepV E Fl O ⟨some d, .mkFn g caps, none⟩ ⟨f, w, h⟩ = (evsV f caps).map fun v => ⟨(d, .fn g v) :: f, w.del d, h⟩ := by
  rw [step_pure rfl]; simp only [pureV, Option.map_map]; rfl
@[simp] theorem s_slc_hi {sz : Nat} {lo : Option Opd} {hi : Opd} : stepV E Fl O ⟨some d, .slc sz x lo (some hi), none⟩ ⟨f, w, h⟩ = (evV f x).bind fun v => (oev f lo).bind fun l => (oev f (some hi)).bind fun u => (slcV sz v l u).map fun v => ⟨(d, v) :: f, w.del d, h⟩ := by
  rw [step_pure rfl]; simp only [pureV, Option.map_bind, Function.comp_def, rtsV, slcR]
@[simp] theorem s_slc_lo {sz : Nat} {lo : Option Opd} : stepV E Fl O ⟨some d, .slc sz x lo none, none⟩ ⟨f, w, h⟩ = (evV f x).bind fun v => (oev f lo).bind fun l => (slcV sz v l none).map fun v => ⟨(d, v) :: f, slcR w x none d, h⟩ := by
  rw [step_pure rfl]; simp only [pureV, Option.map_bind, Function.comp_def, oev, Option.bind_some, rtsV]
@[simp] theorem slcR_t : slcR w (.t n) none d = if w.contains (n, .own) && n != d then (d, .own) :: (Rts.del (w.filter fun p => p != (n, .own)) d) else w.del d := nd rfl
@[simp] theorem oev_none : oev f none = some none := nd rfl
@[simp] theorem oev_some : oev f (some x) = (evV f x).map some := nd rfl
@[simp] theorem s_fieldA {off : Nat} : stepV E Fl O ⟨some d, .fieldA off x, none⟩ ⟨f, w, h⟩ = (evV f x).bind fun v => (fieldAV off v).map fun v => ⟨(d, v) :: f, w.del d, h⟩ := by
  rw [step_pure rfl]; simp only [pureV, Option.map_bind, Function.comp_def]; rfl
@[simp] theorem s_field {off : Nat} {ag : Bool} : stepV E Fl O ⟨some d, .field off n ag x, none⟩ ⟨f, w, h⟩ = (evV f x).bind fun v => (fieldV off n ag v).map fun v => ⟨(d, v) :: f, w.del d, h⟩ := by
  rw [step_pure rfl]; simp only [pureV, Option.map_bind, Function.comp_def]; rfl
@[simp] theorem s_indexA {sz : Nat} : stepV E Fl O ⟨some d, .indexA sz x y, none⟩ ⟨f, w, h⟩ = (evV f x).bind fun a => (evV f y).bind fun b => (indexV sz a b).map fun v => ⟨(d, v) :: f, w.del d, h⟩ := by
  rw [step_pure rfl]; simp only [pureV, Option.map_bind, Function.comp_def]; rfl
@[simp] theorem s_index : stepV E Fl O ⟨some d, .index x y, none⟩ ⟨f, w, h⟩ = (evV f x).bind fun a => (evV f y).bind fun b => (chrV a b).map fun v => ⟨(d, v) :: f, w.del d, h⟩ := by
  rw [step_pure rfl]; simp only [pureV, Option.map_bind, Function.comp_def]; rfl
@[simp] theorem s_extract {j : Nat} : stepV E Fl O ⟨some d, .extract x j, none⟩ ⟨f, w, h⟩ = (evV f x).bind fun v => (extractV j v).map fun v => ⟨(d, v) :: f, extR w x j d, h⟩ := by
  rw [step_pure rfl]; simp only [pureV, Option.map_bind, Function.comp_def]; rfl
@[simp] theorem extR_t {j : Nat} : extR w (.t n) j d = if w.contains (n, .comp j) && n != d then (d, .own) :: (Rts.del (w.filter fun p => p != (n, .comp j)) d) else w.del d := nd rfl
@[simp] theorem s_len {b : Bool} : stepV E Fl O ⟨some d, .len b x, none⟩ ⟨f, w, h⟩ = (evV f x).bind fun v => (lenV b v).map fun v => ⟨(d, v) :: f, w.del d, h⟩ := by
  rw [step_pure rfl]; simp only [pureV, Option.map_bind, Function.comp_def]; rfl
@[simp] theorem s_minmax {b : Bool} : stepV E Fl O ⟨some d, .minmax b x y, none⟩ ⟨f, w, h⟩ = (evV f x).bind fun a => (evV f y).bind fun c => (minmaxV b a c).map fun v => ⟨(d, v) :: f, w.del d, h⟩ := by
  rw [step_pure rfl]; simp only [pureV, Option.map_bind, Function.comp_def]; rfl
def loadW (w : Rts) (h : VH) (ag : Bool) (p : V) (d : Nat) : Rts := loadR w h ag (some p) d
@[simp] theorem s_load {ag : Bool} : stepV E Fl O ⟨some d, .load n ag x, none⟩ ⟨f, w, h⟩ = (evV f x).bind fun p => (loadV h n ag p).map fun v => ⟨(d, v) :: f, loadW w h ag p d, h⟩ := by
  rw [step_read rfl rfl]
  simp only [readV, Option.map_bind, rtsV]
  cases evV f x <;> rfl
@[simp] theorem loadW_ag {p : V} : loadW w h true p d = w.del d := nd rfl
@[simp] theorem loadW_r {r : List V} {o : Nat} : loadW w h false (.rptr r o) d = w.del d := nd rfl
@[simp] theorem loadW_p {i o : Nat} : loadW w h false (.ptr (some (i, o))) d = if ownAt h i o then (d, .cell i o) :: w.del d else w.del d := nd rfl
@[simp] theorem s_eq {neg : Bool} {k : EqK} : stepV E Fl O ⟨some d, .eq neg k x y, none⟩ ⟨f, w, h⟩ = (evV f x).bind fun a => (evV f y).bind fun b => (eqV E h (x.isC || y.isC) k a b).map fun r => ⟨(d, .bool (if neg then !r else r)) :: f, w.del d, h⟩ := by
  rw [step_read rfl rfl]; simp only [readV, Option.map_bind, Function.comp_def, Option.map_map]; rfl
@[simp] theorem s_lookup {dv : AV} {ok : Bool} : stepV E Fl O ⟨some d, .lookup dv ok x y, none⟩ ⟨f, w, h⟩ = (ofAV dv).bind fun dv => (evV f x).bind fun a => (evV f y).bind fun b => (lookupV h dv ok a b).map fun v => ⟨(d, v) :: f, w.del d, h⟩ := by
  rw [step_read rfl rfl]; simp only [readV, Option.map_bind, Function.comp_def]; rfl
@[simp] theorem nilA_n {sz : Nat} {c : Option Nat} : isNilA (.sl none sz 0 c) = true := nd rfl
@[simp] theorem nilA_i {k : IntKind} {i : Int} : isNilA (.int k i) = false := nd rfl
@[simp] theorem nilA_b {b : Bool} : isNilA (.bool b) = false := nd rfl
@[simp] theorem nilA_s {s : List UInt8} : isNilA (.str s) = false := nd rfl
@[simp] theorem nilA_p {p : Option (Nat × Nat)} : isNilA (.ptr p) = false := nd rfl
@[simp] theorem nilA_m {p : Option Nat} : isNilA (.map p) = false := nd rfl
@[simp] theorem nilA_f : isNilA .nilFn = false := nd rfl
@[simp] theorem nilA_0 : isNilA .nilI = false := nd rfl
@[simp] theorem nilA_e {t : Nat} {v : AV} : isNilA (.ifc t v) = false := nd rfl
@[simp] theorem nilA_a {l : List AV} : isNilA (.agg l) = false := nd rfl
@[simp] theorem nils_nil {k : Nat} : nilsFrom k [] = [] := nd rfl
@[simp] theorem nils_cons {k : Nat} {x : AV} {l : List AV} : nilsFrom k (x :: l) = if isNilA x then k :: nilsFrom (k + 1) l else nilsFrom (k + 1) l := nd rfl
@[simp] theorem free_nil {j : Nat} : free [] j = true := nd rfl
@[simp] theorem free_cons {j a b : Nat} {x : Opd} {l : List (Nat × Nat × Opd)} : free ((a, b, x) :: l) j = ((decide (j < a) || decide (a + b ≤ j)) && free l j) := nd rfl
def frees (ps : List (Nat × Nat × Opd)) (l : List Nat) : List Nat := l.filter (free ps)
@[simp] theorem frees_nil {ps : List (Nat × Nat × Opd)} : frees ps [] = [] := nd rfl
@[simp] theorem frees_cons {ps : List (Nat × Nat × Opd)} {j : Nat} {l : List Nat} : frees ps (j :: l) = if free ps j then j :: frees ps l else frees ps l := by
  unfold frees; rw [List.filter_cons]
@[simp] theorem bldR_eq {zero : List AV} {ps : List (Nat × Nat × Opd)} : bldR w d zero ps = (frees ps (nilsFrom 0 zero)).map (fun j => (d, .comp j)) ++ w.del d := nd rfl
section
variable {v : V}
@[simp] theorem comps_nil : compsOf [] x v = [] := by unfold compsOf; split <;> rfl
@[simp] theorem comps_comp {j : Nat} {l : List V} : compsOf ((m, .comp j) :: w) (.t n) (.agg l) = if m = n then j :: compsOf w (.t n) (.agg l) else compsOf w (.t n) (.agg l) := by
  simp only [compsOf, List.filterMap_cons]
  by_cases e : m = n <;> simp [e]
@[simp] theorem comps_own {l : List V} : compsOf ((m, .own) :: w) (.t n) (.agg l) = compsOf w (.t n) (.agg l) := nd rfl
@[simp] theorem comps_cell {i o : Nat} {l : List V} : compsOf ((m, .cell i o) :: w) (.t n) (.agg l) = compsOf w (.t n) (.agg l) := nd rfl
@[simp] theorem comps_i {k : IntKind} {i : Int} : compsOf w (.t n) (.int k i) = [] := nd rfl
@[simp] theorem comps_b {b : Bool} : compsOf w (.t n) (.bool b) = [] := nd rfl
@[simp] theorem comps_s {s : List UInt8} : compsOf w (.t n) (.str s) = [] := nd rfl
@[simp] theorem comps_l {sz : Nat} {l : List (List V)} : compsOf w (.t n) (.lst sz l) = [] := nd rfl
@[simp] theorem comps_sl {p : Option (Nat × Nat)} {sz len : Nat} {c : Option Nat} : compsOf w (.t n) (.sl p sz len c) = [] := nd rfl
@[simp] theorem comps_p {p : Option (Nat × Nat)} : compsOf w (.t n) (.ptr p) = [] := nd rfl
@[simp] theorem comps_r {r : List V} {o : Nat} : compsOf w (.t n) (.rptr r o) = [] := nd rfl
@[simp] theorem comps_m {p : Option Nat} : compsOf w (.t n) (.map p) = [] := nd rfl
@[simp] theorem comps_f {g : Nat} {l : List V} : compsOf w (.t n) (.fn g l) = [] := nd rfl
@[simp] theorem comps_e {t : Nat} {u : V} : compsOf w (.t n) (.ifc t u) = [] := nd rfl
@[simp] theorem comps_0 : compsOf w (.t n) .nilI = [] := nd rfl
@[simp] theorem comps_1 : compsOf w (.t n) .nilFn = [] := nd rfl
@[simp] theorem comps_c {a : AV} : compsOf w (.c a) v = [] := nd rfl
end
@[simp] theorem s_alloc {zero : List AV} : stepV E Fl O ⟨some d, .alloc zero, none⟩ ⟨f, w, h⟩ = (ofAVs zero).map fun z => ⟨(d, .ptr (some (h.next, 0))) :: f, noCellNew h.next (w.del d), h.push (.cells z (nilsFrom 0 zero))⟩ := by
  rw [step_act rfl rfl]; simp only [actV, Option.map_some]; cases ofAVs zero <;> rfl
@[simp] theorem s_box : stepV E Fl O ⟨some d, .box x, none⟩ ⟨f, w, h⟩ = (evV f x).bind fun v => if (cellsV v).all oneV = true then some ⟨(d, .ptr (some (h.next, 0))) :: f, noCellNew h.next (w.del d), h.push (.cells (cellsV v) (compsOf w x v))⟩ else none := by
  rw [step_act rfl rfl]; simp only [actV, Option.map_some]; rfl
@[simp] theorem s_mkMap : stepV E Fl O ⟨some d, .mkMap, none⟩ ⟨f, w, h⟩ = some ⟨(d, .map (some h.next)) :: f, w.del d, h.push (.map [])⟩ := by
  rw [step_act rfl rfl]; rfl
@[simp] theorem s_bsliceH {sz len : Nat} {zero : List AV} {ps : List (Nat × Nat × Opd)} : stepV E Fl O ⟨some d, .bslice true sz len zero ps, none⟩ ⟨f, w, h⟩ = (ofAVs zero).bind fun z => (partsV f ps).bind fun qs => (fillV z qs).bind fun l => some ⟨(d, .sl (some (h.next, 0)) sz len (some len)) :: f, noCellNew h.next (w.del d), h.push (.cells l [])⟩ := by
  rw [step_act rfl rfl]; simp only [actV, Option.map_some, if_true]; rfl
@[simp] theorem s_bslice {sz len : Nat} {zero : List AV} {ps : List (Nat × Nat × Opd)} : stepV E Fl O ⟨some d, .bslice false sz len zero ps, none⟩ ⟨f, w, h⟩ = (ofAVs zero).bind fun z => (partsV f ps).bind fun qs => (fillV z qs).bind fun l => if l.length = len * sz ∧ 0 < sz then some ⟨(d, .lst sz (rowsOf sz len l)) :: f, (d, .own) :: w.del d, h⟩ else none := by
  rw [step_act rfl rfl]; simp only [actV, Option.map_some, Bool.false_eq_true, if_false]; rfl
def mkV (f : VFr) (w : Rts) (h : VH) (d sz bytes : Nat) (zero : List AV) (l c : V) : Option VS := match l, c with
  | .int _ l, .int _ c => if l = 0 ∧ 0 ≤ c ∧ (bytes : Int) * c ≤ 281474976710656 ∧ c ≤ 9223372036854775807 ∧ 0 < sz ∧ zero.length = sz then some ⟨(d, .lst sz []) :: f, (d, .own) :: w.del d, h⟩ else none
  | _, _ => none
@[simp] theorem mkV_i {d sz bytes : Nat} {zero : List AV} {k k' : IntKind} {l c : Int} : mkV f w h d sz bytes zero (.int k l) (.int k' c) = if l = 0 ∧ 0 ≤ c ∧ (bytes : Int) * c ≤ 281474976710656 ∧ c ≤ 9223372036854775807 ∧ 0 < sz ∧ zero.length = sz then some ⟨(d, .lst sz []) :: f, (d, .own) :: w.del d, h⟩ else none := nd rfl
@[simp] theorem s_mkSlice {sz bytes : Nat} {zero : List AV} : stepV E Fl O ⟨some d, .mkSlice false sz bytes zero x y, none⟩ ⟨f, w, h⟩ = (evV f x).bind fun l => (evV f y).bind fun c => mkV f w h d sz bytes zero l c := by
  rw [step_act rfl rfl]; simp only [actV, Option.map_some, Bool.false_eq_true, if_false]; rfl
def mkH (f : VFr) (w : Rts) (h : VH) (d sz bytes : Nat) (zero : List AV) (l c : V) : Option VS := match l, c with
  | .int _ l, .int _ c => (ofAVs zero).bind fun z => if 0 ≤ l ∧ l ≤ c ∧ (bytes : Int) * c ≤ 281474976710656 ∧ c ≤ 9223372036854775807 then some ⟨(d, .sl (some (h.next, 0)) sz l.toNat (some c.toNat)) :: f, noCellNew h.next (w.del d), h.push (.cells (List.replicate c.toNat z).flatten [])⟩ else none
  | _, _ => none
@[simp] theorem mkH_i {d sz bytes : Nat} {zero : List AV} {k k' : IntKind} {l c : Int} : mkH f w h d sz bytes zero (.int k l) (.int k' c) = (ofAVs zero).bind fun z => if 0 ≤ l ∧ l ≤ c ∧ (bytes : Int) * c ≤ 281474976710656 ∧ c ≤ 9223372036854775807 then some ⟨(d, .sl (some (h.next, 0)) sz l.toNat (some c.toNat)) :: f, noCellNew h.next (w.del d), h.push (.cells (List.replicate c.toNat z).flatten [])⟩ else none := nd rfl
@[simp] theorem s_mkSliceH {sz bytes : Nat} {zero : List AV} : stepV E Fl O ⟨some d, .mkSlice true sz bytes zero x y, none⟩ ⟨f, w, h⟩ = (evV f x).bind fun l => (evV f y).bind fun c => mkH f w h d sz bytes zero l c := by
  rw [step_act rfl rfl]; simp only [actV, Option.map_some, if_true]; rfl
@[simp] theorem s_store_t {k : Nat} : stepV E Fl O ⟨none, .store n x (.t k), none⟩ ⟨f, w, h⟩ = (evV f x).bind fun p => (VFr.get f k).bind fun v => (storeV h n p v (decide (n = 1) && w.contains (k, .own))).map fun S => ⟨f, if decide (n = 1) && w.contains (k, .own) then Rts.noCell (w.filter fun p => p != (k, .own)) else Rts.noCell w, S⟩ := by
  rw [step_act rfl rfl]; simp only [actV, Option.isSome_none, Bool.false_eq_true, if_false]; rfl
@[simp] theorem s_store_c {v : AV} : stepV E Fl O ⟨none, .store n x (.c v), none⟩ ⟨f, w, h⟩ = (evV f x).bind fun p => (ofAV v).bind fun u => (storeV h n p u (match v with | .sl none _ _ _ => decide (n = 1) | _ => false)).map fun S => ⟨f, w.noCell, S⟩ := by
  rw [step_act rfl rfl]; simp only [actV, Option.isSome_none, Bool.false_eq_true, if_false]; cases v <;> first | rfl | (rename_i a b c e; cases a <;> rfl)
@[simp] theorem s_store_g {k : Nat} : stepV E Fl O ⟨none, .store n x (.g k), none⟩ ⟨f, w, h⟩ = (evV f x).bind fun p => (evV f (.g k)).bind fun v => (storeV h n p v false).map fun S => ⟨f, w.noCell, S⟩ := by
  rw [step_act rfl rfl]; simp only [actV, Option.isSome_none, Bool.false_eq_true, if_false]; rfl
@[simp] theorem s_store_f {k : Nat} : stepV E Fl O ⟨none, .store n x (.f k), none⟩ ⟨f, w, h⟩ = (evV f x).bind fun p => (storeV h n p (.fn k []) false).map fun S => ⟨f, w.noCell, S⟩ := by
  rw [step_act rfl rfl]; simp only [actV, Option.isSome_none, Bool.false_eq_true, if_false]; rfl
def msO (f : VFr) (w : Rts) (h : VH) (i : Nat) (s : List UInt8) (x : V) (o : Option VObj) : Option VS := match o with
  | some (.map l) => if oneV x then some ⟨f, w, h.set i (.map (mapSetV l s x))⟩ else none
  | _ => none
@[simp] theorem msO_m {i : Nat} {s : List UInt8} {v : V} {l : List (List UInt8 × V)} : msO f w h i s v (some (.map l)) = if oneV v then some ⟨f, w, h.set i (.map (mapSetV l s v))⟩ else none := nd rfl
def msV (f : VFr) (w : Rts) (h : VH) (m k x : V) : Option VS := match m, k with
  | .map (some i), .str s => msO f w h i s x (h.get i)
  | _, _ => none
@[simp] theorem msV_m {i : Nat} {s : List UInt8} {v : V} : msV f w h (.map (some i)) (.str s) v = msO f w h i s v (h.get i) := nd rfl
@[simp] theorem s_mset : stepV E Fl O ⟨none, .mset x y z, none⟩ ⟨f, w, h⟩ = (evV f x).bind fun m => (evV f y).bind fun k => (evV f z).bind fun v => msV f w h m k v := by
  rw [step_act rfl rfl]; simp only [actV, Option.isNone_none, Bool.and_true]; rfl
@[simp] theorem s_mdel {d : Option Nat} : stepV E Fl O ⟨d, .mdel x y, none⟩ ⟨f, w, h⟩ = actV Fl O ⟨f, w, h⟩ d (.mdel x y) := step_act rfl rfl
@[simp] theorem s_callF {g : Nat} {l : List Opd} : stepV E Fl O ⟨some d, .callF g l, none⟩ ⟨f, w, h⟩ = (evsV f l).bind fun vs => (O g vs (fstL (goes w (Fl.lin g) l)) h).map fun r => ⟨(d, r.1) :: f, gives d r.1 r.2.1 ++ (gone w.noCell (goes w (Fl.lin g) l)).del d, r.2.2⟩ := by
  rw [step_act rfl rfl]; rfl
@[simp] theorem s_callF0 {g : Nat} {l : List Opd} : stepV E Fl O ⟨none, .callF g l, none⟩ ⟨f, w, h⟩ = (evsV f l).bind fun vs => (O g vs (fstL (goes w (Fl.lin g) l)) h).map fun r => ⟨f, gone w.noCell (goes w (Fl.lin g) l), r.2.2⟩ := by
  rw [step_act rfl rfl]; rfl
def cvV (Fl : Flags) (O : VOracle) (st : VS) (d : Option Nat) (l : List Opd) (c : V) : Option VS := match c with
  | .fn g caps => if Fl.lin g = none then (evsV st.f l).bind fun vs => callR Fl O st d g l (vs ++ caps) else none
  | _ => none
@[simp] theorem cvV_fn {d : Option Nat} {l : List Opd} {g : Nat} {caps : List V} : cvV Fl O ⟨f, w, h⟩ d l (.fn g caps) = if Fl.lin g = none then (evsV f l).bind fun vs => callR Fl O ⟨f, w, h⟩ d g l (vs ++ caps) else none := nd rfl
@[simp] theorem callR_s {d g : Nat} {l : List Opd} {vs : List V} : callR Fl O ⟨f, w, h⟩ (some d) g l vs = (O g vs (fstL (goes w (Fl.lin g) l)) h).map fun r => ⟨(d, r.1) :: f, gives d r.1 r.2.1 ++ (gone w.noCell (goes w (Fl.lin g) l)).del d, r.2.2⟩ := nd rfl
@[simp] theorem callR_n {g : Nat} {l : List Opd} {vs : List V} : callR Fl O ⟨f, w, h⟩ none g l vs = (O g vs (fstL (goes w (Fl.lin g) l)) h).map fun r => ⟨f, gone w.noCell (goes w (Fl.lin g) l), r.2.2⟩ := nd rfl
@[simp] theorem s_callV {d : Option Nat} {l : List Opd} : stepV E Fl O ⟨d, .callV x l, none⟩ ⟨f, w, h⟩ = (evV f x).bind (cvV Fl O ⟨f, w, h⟩ d l) := by
  rw [step_act rfl rfl]; rfl
@[simp] theorem goes_none {l : List Opd} : goes w none l = none := nd rfl
@[simp] theorem fstL_none : fstL none = [] := nd rfl
@[simp] theorem gone_none : gone w none = w := nd rfl
@[simp] theorem gives_nil' {v : V} : gives d v [] = [] := by unfold gives; split <;> simp
@[simp] theorem s_append {sz bytes : Nat} : stepV E Fl O ⟨some d, .append true sz bytes x y, none⟩ ⟨f, w, h⟩ = appV ⟨f, w, h⟩ d sz bytes x y := by
  rw [step_act rfl rfl]; rfl
@[simp] theorem s_appendH {sz bytes : Nat} : stepV E Fl O ⟨some d, .append false sz bytes x y, none⟩ ⟨f, w, h⟩ = (evV f x).bind fun a => (evV f y).bind fun b => (seenV h sz b).bind fun news => (appH h sz bytes a news).map fun r => ⟨(d, r.1) :: f, w.noCell.del d, r.2⟩ := by
  rw [step_act rfl rfl]; rfl
@[simp] theorem s_copy {sz : Nat} : stepV E Fl O ⟨some d, .copy sz x y, none⟩ ⟨f, w, h⟩ = (evV f x).bind fun a => (evV f y).bind fun b => (seenV h sz b).bind fun news => (copyV h sz a news).map fun r => ⟨(d, r.1) :: f, w.noCell.del d, r.2⟩ := by
  rw [step_act rfl rfl]; rfl
@[simp] theorem s_copy0 {sz : Nat} : stepV E Fl O ⟨none, .copy sz x y, none⟩ ⟨f, w, h⟩ = (evV f x).bind fun a => (evV f y).bind fun b => (seenV h sz b).bind fun news => (copyV h sz a news).map fun r => ⟨f, w.noCell, r.2⟩ := by
  rw [step_act rfl rfl]; rfl
@[simp] theorem s_clear {sz : Nat} {zero : List AV} : stepV E Fl O ⟨some d, .clear sz zero x, none⟩ ⟨f, w, h⟩ = (ofAVs zero).bind fun z => (evV f x).bind fun a => (clearV h sz z a).map fun S => ⟨(d, .tup []) :: f, w.noCell.del d, S⟩ := by
  rw [step_act rfl rfl]; rfl
@[simp] theorem s_clear0 {sz : Nat} {zero : List AV} : stepV E Fl O ⟨none, .clear sz zero x, none⟩ ⟨f, w, h⟩ = (ofAVs zero).bind fun z => (evV f x).bind fun a => (clearV h sz z a).map fun S => ⟨f, w.noCell, S⟩ := by
  rw [step_act rfl rfl]; rfl
@[simp] theorem s_slc3 {sz : Nat} : stepV E Fl O ⟨some d, .slc3 sz x y z, none⟩ ⟨f, w, h⟩ = (evV f x).bind fun a => (evV f y).bind fun b => (evV f z).bind fun c => (slc3V sz a b c).map fun v => ⟨(d, v) :: f, w.noCell.del d, h⟩ := by
  rw [step_act rfl rfl]; rfl
end
end Go.Proofs.YtbpgbhmibmcbnaaGreatDoor.Val

/-! Calls, heaps, values, for simp. -/
namespace Go.Proofs.YtbpgbhmibmcbnaaGreatDoor.Val
open Go Go.Proofs.YtbpgbhmibmcbnaaGreatDoor.Ram

open Classical in
noncomputable def fin (S : VH) (res : List ARes) (r : VRes) : Option (V × List Nat × VH) := match r with
  | some (.exit _, _) => none
  | some (_, st) => (resV st res).bind fun l => if cloH S st.h ∧ V.clo S.next (tupV l) = true then some (tupV l, [], VH.trim S st.h) else none
  | none => none
theorem VCall_of {T : VTab} {f : Nat} {F : AFun} {args : List V} {S : VH} (hf : T.fn f = some (.code F)) (hn : args.length = F.np) (hm : (T.Fl.made f || T.Fl.frz f) = false) (hr : T.Fl.ret f = false) :
    VCall T f args [] S = fin S F.res (execV T.E T.Fl (VCall T) F.body ⟨frV args, [], S⟩) := by
  rw [VCall_code hf]
  unfold vfunL
  rw [if_pos hn]
  simp only [Bool.or_eq_false_iff] at hm
  obtain ⟨hm, hz⟩ := hm
  simp only [List.map_nil]
  cases execV T.E T.Fl (VCall T) F.body ⟨frV args, [], S⟩ with
  | none => rfl
  | some p =>
    obtain ⟨e, st⟩ := p
    cases e <;> simp only [endV, fin, hm, hz, rtsR, hr, Bool.false_eq_true, if_false]
open Classical in
noncomputable def finZ (S : VH) (res : List ARes) (r : VRes) : Option (V × List Nat × VH) := match r with
  | some (.exit _, _) => none
  | some (_, st) => (resV st res).bind fun l => if cloH S st.h ∧ V.clo S.next (tupV (l.map (frzV S.next st.h))) = true then some (tupV (l.map (frzV S.next st.h)), [], VH.trim S st.h) else none
  | none => none
theorem VCall_frz {T : VTab} {f : Nat} {F : AFun} {args : List V} {S : VH} (hf : T.fn f = some (.code F)) (hn : args.length = F.np) (hm : T.Fl.made f = false) (hz : T.Fl.frz f = true) :
    VCall T f args [] S = finZ S F.res (execV T.E T.Fl (VCall T) F.body ⟨frV args, [], S⟩) := by
  rw [VCall_code hf]
  unfold vfunL
  rw [if_pos hn]
  simp only [List.map_nil]
  cases execV T.E T.Fl (VCall T) F.body ⟨frV args, [], S⟩ with
  | none => rfl
  | some p =>
    obtain ⟨e, st⟩ := p
    cases e <;> simp only [endV, finZ, hm, hz, Bool.false_eq_true, if_false, if_true]
def finM (res : List ARes) (r : VRes) : Option (V × List Nat × VH) := match r with
  | some (.exit _, _) => none
  | some (_, st) => (resV st res).map fun l => (tupV l, [], st.h)
  | none => none
theorem VCall_made {T : VTab} {f : Nat} {F : AFun} {args : List V} {S : VH} (hf : T.fn f = some (.code F)) (hn : args.length = F.np) (hm : T.Fl.made f = true) (hr : T.Fl.ret f = false) :
    VCall T f args [] S = finM F.res (execV T.E T.Fl (VCall T) F.body ⟨frV args, [], S⟩) := by
  rw [VCall_code hf]
  unfold vfunL
  rw [if_pos hn]
  simp only [List.map_nil]
  cases execV T.E T.Fl (VCall T) F.body ⟨frV args, [], S⟩ with
  | none => rfl
  | some p =>
    obtain ⟨e, st⟩ := p
    cases e <;> simp only [endV, finM, hm, rtsR, hr, Bool.false_eq_true, if_false, if_true] <;> (cases resV st F.res <;> rfl)
section
variable {S S1 : VH} {st : VS} {res : List ARes} {n i j : Nat} {o : VObj} {f : VFr} {w : Rts} {h : VH}
open Classical in
@[simp] theorem fin_ret : fin S res (some (.ret, st)) = (resV st res).bind fun l => if cloH S st.h ∧ V.clo S.next (tupV l) = true then some (tupV l, [], VH.trim S st.h) else none := nd rfl
open Classical in
@[simp] theorem fin_norm : fin S res (some (.norm, st)) = (resV st res).bind fun l => if cloH S st.h ∧ V.clo S.next (tupV l) = true then some (tupV l, [], VH.trim S st.h) else none := nd rfl
open Classical in
@[simp] theorem finZ_ret : finZ S res (some (.ret, st)) = (resV st res).bind fun l => if cloH S st.h ∧ V.clo S.next (tupV (l.map (frzV S.next st.h))) = true then some (tupV (l.map (frzV S.next st.h)), [], VH.trim S st.h) else none := nd rfl
open Classical in
@[simp] theorem finZ_norm : finZ S res (some (.norm, st)) = (resV st res).bind fun l => if cloH S st.h ∧ V.clo S.next (tupV (l.map (frzV S.next st.h))) = true then some (tupV (l.map (frzV S.next st.h)), [], VH.trim S st.h) else none := nd rfl
@[simp] theorem finM_ret : finM res (some (.ret, st)) = (resV st res).map fun l => (tupV l, [], st.h) := nd rfl
@[simp] theorem finM_norm : finM res (some (.norm, st)) = (resV st res).map fun l => (tupV l, [], st.h) := nd rfl
@[simp] theorem res_nil : resV st [] = some [] := nd rfl
@[simp] theorem res_tmp {t : Nat} {l : List ARes} : resV ⟨f, w, h⟩ (.tmp t :: l) = (VFr.get f t).bind fun v => (resV ⟨f, w, h⟩ l).map (v :: ·) := nd rfl
@[simp] theorem res_cell {t k : Nat} {ag : Bool} {l : List ARes} : resV ⟨f, w, h⟩ (.cell t k ag :: l) = (VFr.get f t).bind fun p => (loadV h k ag p).bind fun v => (resV ⟨f, w, h⟩ l).map (v :: ·) := nd rfl
@[simp] theorem tup_one {v : V} : tupV [v] = v := nd rfl
@[simp] theorem tup_nil : tupV [] = .tup [] := nd rfl
@[simp] theorem tup_two {a b : V} {l : List V} : tupV (a :: b :: l) = .tup (a :: b :: l) := nd rfl
@[simp] theorem frV_0 : frV [] = [] := nd rfl
@[simp] theorem frV_1 {a : V} : frV [a] = [(0, a)] := nd rfl
@[simp] theorem frV_2 {a b : V} : frV [a, b] = [(0, a), (1, b)] := nd rfl
@[simp] theorem frV_3 {a b c : V} : frV [a, b, c] = [(0, a), (1, b), (2, c)] := nd rfl
@[simp] theorem frV_4 {a b c d : V} : frV [a, b, c, d] = [(0, a), (1, b), (2, c), (3, d)] := nd rfl
@[simp] theorem frV_5 {a b c d e : V} : frV [a, b, c, d, e] = [(0, a), (1, b), (2, c), (3, d), (4, e)] := nd rfl
@[simp] theorem frV_6 {a b c d e g : V} : frV [a, b, c, d, e, g] = [(0, a), (1, b), (2, c), (3, d), (4, e), (5, g)] := nd rfl
@[simp] theorem frV_7 {a b c d e g i : V} : frV [a, b, c, d, e, g, i] = [(0, a), (1, b), (2, c), (3, d), (4, e), (5, g), (6, i)] := nd rfl
@[simp] theorem vset {d : Nat} {v : V} : VFr.set f d v = (d, v) :: f := nd rfl
-- heaps
@[simp] theorem push_next : (S.push o).next = S.next + 1 := nd rfl
@[simp] theorem set_next : (S.set i o).next = S.next := nd rfl
@[simp] theorem push_get : (S.push o).get j = if j = S.next then some o else S.get j := nd rfl
@[simp] theorem set_get : (S.set i o).get j = if j = i then some o else S.get j := nd rfl
@[simp] theorem cloH_self : cloH S S := fun _ _ => .inl rfl
@[simp] theorem cloH_push (h : S.next ≤ S1.next) : cloH S (S1.push o) ↔ cloH S S1 := by
  unfold cloH
  constructor <;> intro k i hi <;> have := k i hi <;> simpa [show ¬ i = S1.next by omega] using this
@[simp] theorem cloH_set (h : S.next ≤ i) : cloH S (S1.set i o) ↔ cloH S S1 := by
  unfold cloH
  constructor <;> intro k j hj <;> have := k j hj <;> simpa [show ¬ j = i by omega] using this
@[simp] theorem cloH_in (h : cloH S S1) (ho : o.clo S.next = true) : cloH S (S1.set i o) := fun j hj => by
  by_cases e : j = i
  · right; intro o' ho'; simp [e] at ho'; subst ho'; exact ho
  · rcases h j hj with h | h
    · left; simp [e, h]
    · right; intro o' ho'; simp [e] at ho'; exact h o' ho'
@[simp] theorem trim_self : VH.trim S S = S := by
  unfold VH.trim
  congr 1
  funext i
  split <;> rfl
@[simp] theorem trim_push (h : S.next ≤ S1.next) : VH.trim S (S1.push o) = VH.trim S S1 := by
  unfold VH.trim
  congr 1
  funext i
  split
  · rw [push_get, if_neg (by omega)]
  · rfl
@[simp] theorem trim_set (h : S.next ≤ i) : VH.trim S (S1.set i o) = VH.trim S S1 := by
  unfold VH.trim
  congr 1
  funext j
  split
  · rw [set_get, if_neg (by omega)]
  · rfl
theorem trim_in (h : i < S.next) : VH.trim S (S1.set i o) = (VH.trim S S1).set i o := by
  unfold VH.trim VH.set
  congr 1
  funext j
  by_cases e : j = i
  · subst e; simp [h]
  · simp [e]
@[simp] theorem trim_next : (VH.trim S S1).next = S.next := nd rfl
-- loops
theorem vkeep_mem {l : List Nat} {k : Nat} (hk : k ∈ l) : VFr.get (VFr.keep f l) k = VFr.get f k := by
  induction l with
  | nil => cases hk
  | cons m l ih =>
    rw [keep_cons]
    by_cases e : m = k
    · subst e
      cases e1 : VFr.get f m with
      | some v => simp
      | none =>
        rw [kp_none]
        clear ih hk
        induction l with
        | nil => rfl
        | cons q l ih2 =>
          rw [keep_cons]
          cases e2 : VFr.get f q with
          | none => rw [kp_none]; exact ih2
          | some u =>
            rw [kp_some, get_cons, if_neg (fun e3 => by subst e3; rw [e1] at e2; cases e2)]
            exact ih2
    · have hk' : k ∈ l := (List.mem_cons.1 hk).resolve_left (fun h => e h.symm)
      cases VFr.get f m with
      | none => rw [kp_none]; exact ih hk'
      | some v => rw [kp_some, get_cons, if_neg e]; exact ih hk'
theorem keep_keep {l : List Nat} : VFr.keep (VFr.keep f l) l = VFr.keep f l := by
  have : ∀ l', (∀ k ∈ l', k ∈ l) → VFr.keep (VFr.keep f l) l' = VFr.keep f l' := by
    intro l' hl
    induction l' with
    | nil => rfl
    | cons k l' ih => rw [keep_cons, keep_cons, vkeep_mem (hl k List.mem_cons_self), ih fun q hq => hl q (List.mem_cons_of_mem _ hq)]
  exact this l fun _ h => h
theorem rkeep_rkeep {l : List Nat} : Rts.keep (Rts.keep w l) l = Rts.keep w l := by
  unfold Rts.keep
  rw [List.filter_filter]
  simp
theorem rkeep_noCell {l : List Nat} : Rts.noCell (Rts.keep w l) = Rts.keep (Rts.noCell w) l := by
  unfold Rts.noCell Rts.keep
  rw [List.filter_filter, List.filter_filter]
  congr 1; funext p; rw [Bool.and_comm]
theorem loopX_keep {E : Env} {Fl : Flags} {O : VOracle} {l : List Nat} {b : ACode} : loopX E Fl O (.keep l b) ⟨f, w, h⟩ = loopX E Fl O (.keep l b) ⟨VFr.keep f l, Rts.keep w.noCell l, h⟩ := by
  rw [loopX_eq, loopX_eq (st := ⟨VFr.keep f l, Rts.keep w.noCell l, h⟩)]
  simp only [top_eq, x_keep, keep_keep, rkeep_rkeep, rkeep_noCell, noCell_noCell]
open Classical in
@[simp] theorem round_norm : roundV S (some (.norm, ⟨f, w, h⟩)) = if cloH S h ∧ cloF S.next f = true then some (.norm, ⟨f, noCellNew S.next w, VH.trim S h⟩) else some (.norm, ⟨f, w, h⟩) := nd rfl
@[simp] theorem round_ret : roundV S (some (.ret, st)) = some (.ret, st) := nd rfl
@[simp] theorem round_exit : roundV S (some (.exit i, st)) = some (.exit i, st) := nd rfl
@[simp] theorem cloF_nil : cloF n [] = true := nd rfl
@[simp] theorem cloF_cons {k : Nat} {v : V} : cloF n ((k, v) :: f) = (V.clo n v && cloF n f) := nd rfl
@[simp] theorem clo_int {k : IntKind} {a : Int} : V.clo n (.int k a) = true := nd rfl
@[simp] theorem clo_bool {b : Bool} : V.clo n (.bool b) = true := nd rfl
@[simp] theorem clo_str {s : List UInt8} : V.clo n (.str s) = true := nd rfl
@[simp] theorem clo_ptr0 : V.clo n (.ptr none) = true := nd rfl
@[simp] theorem clo_ptr {k : Nat} : V.clo n (.ptr (some (i, k))) = (decide (i < 100) || decide (i < n)) := nd rfl
@[simp] theorem clo_map0 : V.clo n (.map none) = true := nd rfl
@[simp] theorem clo_map : V.clo n (.map (some i)) = decide (i < n) := nd rfl
@[simp] theorem clo_rptr {r : List V} {k : Nat} : V.clo n (.rptr r k) = V.clos n r := nd rfl
@[simp] theorem clo_lst {sz : Nat} {rows : List (List V)} : V.clo n (.lst sz rows) = V.closs n rows := nd rfl
@[simp] theorem clo_sl0 {sz len : Nat} {c : Option Nat} : V.clo n (.sl none sz len c) = true := nd rfl
@[simp] theorem clo_sl {k sz len : Nat} {c : Option Nat} : V.clo n (.sl (some (i, k)) sz len c) = decide (i < n) := nd rfl
@[simp] theorem clo_fn {g : Nat} {l : List V} : V.clo n (.fn g l) = V.clos n l := nd rfl
@[simp] theorem clo_nilFn : V.clo n .nilFn = true := nd rfl
@[simp] theorem clo_nilI : V.clo n .nilI = true := nd rfl
@[simp] theorem clo_und : V.clo n .und = true := nd rfl
@[simp] theorem clo_ifc {t : Nat} {v : V} : V.clo n (.ifc t v) = V.clo n v := nd rfl
@[simp] theorem clo_agg {l : List V} : V.clo n (.agg l) = V.clos n l := nd rfl
@[simp] theorem clo_tup {l : List V} : V.clo n (.tup l) = V.clos n l := nd rfl
@[simp] theorem clos_nil : V.clos n [] = true := nd rfl
@[simp] theorem clos_cons {v : V} {l : List V} : V.clos n (v :: l) = (V.clo n v && V.clos n l) := nd rfl
@[simp] theorem closs_nil : V.closs n [] = true := nd rfl
@[simp] theorem closs_cons {v : List V} {l : List (List V)} : V.closs n (v :: l) = (V.clos n v && V.closs n l) := nd rfl
theorem closs_all {l : List (List V)} : V.closs n l = l.all (V.clos n) := by
  induction l with
  | nil => rfl
  | cons r l ih => rw [closs_cons, ih]; rfl
theorem closs_map {α : Type} {l : List α} {e : α → List V} (he : ∀ x, V.clos n (e x) = true) : V.closs n (l.map e) = true := by
  rw [closs_all, List.all_eq_true]
  intro r hr
  obtain ⟨x, _, rfl⟩ := List.mem_map.1 hr
  exact he x
@[simp] theorem clos_app {l l' : List V} : V.clos n (l ++ l') = (V.clos n l && V.clos n l') := by
  induction l with
  | nil => simp
  | cons v l ih => simp [ih, Bool.and_assoc]
@[simp] theorem closs_app {l l' : List (List V)} : V.closs n (l ++ l') = (V.closs n l && V.closs n l') := by
  induction l with
  | nil => simp
  | cons v l ih => simp [ih, Bool.and_assoc]
@[simp] theorem oclo_cells {l : List V} {own : List Nat} : (VObj.cells l own).clo n = V.clos n l := nd rfl
-- values
@[simp] theorem nilchk_p {a : Nat × Nat} : nilchkV (.ptr (some a)) = some (.ptr (some a)) := nd rfl
@[simp] theorem nilchk_r {r : List V} {k : Nat} : nilchkV (.rptr r k) = some (.rptr r k) := nd rfl
@[simp] theorem notV_b {b : Bool} : notV (.bool b) = some (.bool (!b)) := nd rfl
@[simp] theorem negV_i {k : IntKind} {a : Int} : negV (.int k a) = some (.int k (k.wrap (-a))) := nd rfl
@[simp] theorem convV_i {k k' : IntKind} {a : Int} : convV k (.int k' a) = some (.int k (k.wrap a)) := nd rfl
@[simp] theorem convSV_s {s : List UInt8} : convSV (.str s) = some (.str s) := nd rfl
@[simp] theorem fieldA_p {a b c : Nat} : fieldAV a (.ptr (some (b, c))) = some (.ptr (some (b, c + a))) := nd rfl
@[simp] theorem fieldA_r {a c : Nat} {r : List V} : fieldAV a (.rptr r c) = some (.rptr r (c + a)) := nd rfl
@[simp] theorem field_a {a c : Nat} {ag : Bool} {l : List V} : fieldV a c ag (.agg l) = if ag then (if a + c ≤ l.length then some (.agg ((l.drop a).take c)) else none) else l[a]? := nd rfl
@[simp] theorem extract_t {l : List V} : extractV i (.tup l) = l[i]? := nd rfl
@[simp] theorem len_l {sz : Nat} {rows : List (List V)} : lenV false (.lst sz rows) = some (.int .i64 rows.length) := nd rfl
@[simp] theorem len_sl {p : Option (Nat × Nat)} {sz len : Nat} {c : Option Nat} : lenV false (.sl p sz len c) = some (.int .i64 len) := nd rfl
@[simp] theorem len_s {s : List UInt8} : lenV true (.str s) = some (.int .i64 s.length) := nd rfl
@[simp] theorem cells_agg {l : List V} : cellsV (.agg l) = l := nd rfl
@[simp] theorem cells_int {k : IntKind} {a : Int} : cellsV (.int k a) = [.int k a] := nd rfl
@[simp] theorem cells_bool {b : Bool} : cellsV (.bool b) = [.bool b] := nd rfl
@[simp] theorem cells_str {s : List UInt8} : cellsV (.str s) = [.str s] := nd rfl
@[simp] theorem cells_lst {sz : Nat} {rows : List (List V)} : cellsV (.lst sz rows) = [.lst sz rows] := nd rfl
@[simp] theorem cells_sl {p : Option (Nat × Nat)} {sz len : Nat} {c : Option Nat} : cellsV (.sl p sz len c) = [.sl p sz len c] := nd rfl
@[simp] theorem cells_ptr {a : Option (Nat × Nat)} : cellsV (.ptr a) = [.ptr a] := nd rfl
@[simp] theorem cells_map {a : Option Nat} : cellsV (.map a) = [.map a] := nd rfl
@[simp] theorem cells_fn {g : Nat} {l : List V} : cellsV (.fn g l) = [.fn g l] := nd rfl
@[simp] theorem cells_ifc {t : Nat} {v : V} : cellsV (.ifc t v) = [.ifc t v] := nd rfl
@[simp] theorem cells_nilI : cellsV .nilI = [.nilI] := nd rfl
@[simp] theorem cells_nilFn : cellsV .nilFn = [.nilFn] := nd rfl
@[simp] theorem one_int {k : IntKind} {a : Int} : oneV (.int k a) = true := nd rfl
@[simp] theorem one_bool {b : Bool} : oneV (.bool b) = true := nd rfl
@[simp] theorem one_str {s : List UInt8} : oneV (.str s) = true := nd rfl
@[simp] theorem one_lst {sz : Nat} {rows : List (List V)} : oneV (.lst sz rows) = true := nd rfl
@[simp] theorem one_sl {p : Option (Nat × Nat)} {sz len : Nat} {c : Option Nat} : oneV (.sl p sz len c) = true := nd rfl
@[simp] theorem one_ptr {a : Option (Nat × Nat)} : oneV (.ptr a) = true := nd rfl
@[simp] theorem one_map {a : Option Nat} : oneV (.map a) = true := nd rfl
@[simp] theorem one_fn {g : Nat} {l : List V} : oneV (.fn g l) = true := nd rfl
@[simp] theorem one_ifc {t : Nat} {v : V} : oneV (.ifc t v) = true := nd rfl
@[simp] theorem one_nilI : oneV .nilI = true := nd rfl
@[simp] theorem one_nilFn : oneV .nilFn = true := nd rfl
@[simp] theorem one_agg {l : List V} : oneV (.agg l) = false := nd rfl
@[simp] theorem one_und : oneV .und = false := nd rfl
@[simp] theorem parts_nil : partsV f [] = some [] := nd rfl
@[simp] theorem parts_cons {a b : Nat} {x : Opd} {l : List (Nat × Nat × Opd)} : partsV f ((a, b, x) :: l) = (evV f x).bind fun v => (partsV f l).map ((a, b, v) :: ·) := nd rfl
@[simp] theorem evs_nil : evsV f [] = some [] := nd rfl
@[simp] theorem evs_cons {x : Opd} {l : List Opd} : evsV f (x :: l) = (evV f x).bind fun v => (evsV f l).map (v :: ·) := nd rfl
@[simp] theorem fill_nil {l : List V} : fillV l [] = some l := nd rfl
@[simp] theorem fill_cons {l : List V} {a b : Nat} {v : V} {r : List (Nat × Nat × V)} : fillV l ((a, b, v) :: r) = if (cellsV v).length = b ∧ a + b ≤ l.length ∧ (cellsV v).all oneV = true then fillV (l.take a ++ cellsV v ++ l.drop (a + b)) r else none := nd rfl
@[simp] theorem rowsOf_0 {sz : Nat} {l : List V} : rowsOf sz 0 l = [] := nd rfl
@[simp] theorem rowsOf_s {sz k : Nat} {l : List V} : rowsOf sz (k + 1) l = l.take sz :: rowsOf sz k (l.drop sz) := nd rfl
@[simp] theorem rowsOf_1 {sz : Nat} {l : List V} : rowsOf sz 1 l = [l.take sz] := nd rfl
@[simp] theorem load_r {k off : Nat} {ag : Bool} {r : List V} : loadV S k ag (.rptr r off) = if ag then (if off + k ≤ r.length ∧ 0 < k then some (.agg ((r.drop off).take k)) else none) else r[off]? := nd rfl
def loadO (o : Option VObj) (g : Option (List V)) (k : Nat) (ag : Bool) (off : Nat) : Option V := match o with
  | some (.cells l _) => if ag then (if off + k ≤ l.length then some (.agg ((l.drop off).take k)) else none) else l[off]?
  | some (.map _) => none
  | none => match g with
    | some l => if ag then (if off + k ≤ l.length ∧ 0 < k then some (.agg ((l.drop off).take k)) else none) else l[off]?
    | none => none
@[simp] theorem load_p {k off : Nat} {ag : Bool} : loadV S k ag (.ptr (some (i, off))) = loadO (S.get i) (S.gl i) k ag off := nd rfl
@[simp] theorem loadO_c {k off : Nat} {ag : Bool} {l : List V} {own : List Nat} {g : Option (List V)} : loadO (some (.cells l own)) g k ag off = if ag then (if off + k ≤ l.length then some (.agg ((l.drop off).take k)) else none) else l[off]? := nd rfl
@[simp] theorem loadO_g {k off : Nat} {ag : Bool} {l : List V} : loadO none (some l) k ag off = if ag then (if off + k ≤ l.length ∧ 0 < k then some (.agg ((l.drop off).take k)) else none) else l[off]? := nd rfl
@[simp] theorem gl_set {o : VObj} : (S.set i o).gl = S.gl := nd rfl
@[simp] theorem gl_push {o : VObj} : (S.push o).gl = S.gl := nd rfl
@[simp] theorem gl_trim {S' : VH} : (VH.trim S S').gl = S.gl := nd rfl
@[simp] theorem gl_kill : (killV S i).gl = S.gl := nd rfl
def ownsO (own : List Nat) (off k : Nat) (rt : Bool) : List Nat := (if rt then [off] else []) ++ own.filter fun o => !(decide (off ≤ o) && decide (o < off + k))
def keepO (l : List Nat) (off k : Nat) : List Nat := l.filter fun o => !(decide (off ≤ o) && decide (o < off + k))
@[simp] theorem ownsO_eq {own : List Nat} {off k : Nat} {rt : Bool} : ownsO own off k rt = (if rt then [off] else []) ++ keepO own off k := nd rfl
@[simp] theorem keepO_nil {off k : Nat} : keepO [] off k = [] := nd rfl
@[simp] theorem keepO_cons {j : Nat} {l : List Nat} {off k : Nat} : keepO (j :: l) off k = if off ≤ j ∧ j < off + k then keepO l off k else j :: keepO l off k := by
  unfold keepO
  rw [List.filter_cons]
  by_cases e : off ≤ j ∧ j < off + k
  · simp [e]
  · rw [if_neg e, if_pos]
    simp only [Bool.not_eq_true', Bool.and_eq_false_iff, decide_eq_false_iff_not]; omega
def storeO (S : VH) (o : Option VObj) (i off k : Nat) (v : V) (rt : Bool) : Option VH := match o with
  | some (.cells l own) => if (cellsV v).length = k ∧ off + k ≤ l.length ∧ (cellsV v).all oneV = true then some (S.set i (.cells (putV l off (cellsV v)) (ownsO own off k rt))) else none
  | _ => none
@[simp] theorem store_p {k off : Nat} {v : V} {rt : Bool} : storeV S k (.ptr (some (i, off))) v rt = storeO S (S.get i) i off k v rt := nd rfl
@[simp] theorem storeO_c {k off : Nat} {v : V} {rt : Bool} {l : List V} {own : List Nat} : storeO S (some (.cells l own)) i off k v rt = if (cellsV v).length = k ∧ off + k ≤ l.length ∧ (cellsV v).all oneV = true then some (S.set i (.cells (putV l off (cellsV v)) (ownsO own off k rt))) else none := nd rfl
@[simp] theorem putV_eq {l news : List V} {off : Nat} : putV l off news = l.take off ++ news ++ l.drop (off + news.length) := nd rfl
def ownO (o : Option VObj) (off : Nat) : Bool := match o with
  | some (.cells _ own) => own.contains off
  | _ => false
@[simp] theorem own_p {off : Nat} : ownAt S i off = ownO (S.get i) off := nd rfl
@[simp] theorem ownO_c {off : Nat} {l : List V} {own : List Nat} : ownO (some (.cells l own)) off = own.contains off := nd rfl
@[simp] theorem set_set {o' : VObj} : (S.set i o).set i o' = S.set i o' := by
  unfold VH.set
  congr 1
  funext j
  by_cases e : j = i <;> simp [e]
@[simp] theorem push_set_next {o' : VObj} : (S.push o).set S.next o' = S.push o' := by
  unfold VH.set VH.push
  congr 1
  funext j
  by_cases e : j = S.next <;> simp [e]
@[simp] theorem push_set_at (h : i = S.next) {o' : VObj} : (S.push o).set i o' = S.push o' := by subst h; exact push_set_next
@[simp] theorem bin_int {op : BinOp} {k k' : IntKind} {a b : Int} : binV op (.int k a) (.int k' b) = (binA op (.int k a) (.int k' b)).bind ofAV := nd rfl
@[simp] theorem bin_str {op : BinOp} {a b : List UInt8} : binV op (.str a) (.str b) = (binA op (.str a) (.str b)).bind ofAV := nd rfl
@[simp] theorem index_l {sz sz' : Nat} {rows : List (List V)} {k : IntKind} {m : Nat} : indexV sz (.lst sz' rows) (.int k m) = if sz' = sz then (rows[m]?).map fun r => .rptr r 0 else none := by
  simp [indexV]
@[simp] theorem index_0 {sz sz' : Nat} {rows : List (List V)} {k : IntKind} : indexV sz (.lst sz' rows) (.int k 0) = if sz' = sz then (rows[0]?).map fun r => .rptr r 0 else none := by
  simp [indexV]
@[simp] theorem index_sl {sz sz' off len : Nat} {c : Option Nat} {k : IntKind} {m : Int} : indexV sz (.sl (some (i, off)) sz' len c) (.int k m) = if sz' = sz ∧ 0 ≤ m ∧ m < (len : Int) then some (.ptr (some (i, off + m.toNat * sz))) else none := nd rfl
def findR (w : Rts) (n : Nat) : Option Tag := (w.find? fun p => p.1 == n).map (·.2)
@[simp] theorem findR_cons {n m : Nat} {t : Tag} : findR ((m, t) :: w) n = if m = n then some t else findR w n := by
  unfold findR
  rw [List.find?_cons]
  by_cases e : m = n
  · subst e; simp
  · rw [if_neg e, beq_eq_false_iff_ne.2 e]
def appC (f : VFr) (w : Rts) (h : VH) (d sz : Nat) (rows : List (List V)) (t : Option Tag) : Option VS := match t with
  | some (.cell i off) => if ownAt h i off then some ⟨(d, .lst sz rows) :: f, (d, .own) :: (w.noCellAt i off).del d, dropOwn h i off⟩ else none
  | _ => none
@[simp] theorem appC_cell {d sz off : Nat} {rows : List (List V)} : appC f w h d sz rows (some (.cell i off)) = if ownAt h i off then some ⟨(d, .lst sz rows) :: f, (d, .own) :: (w.noCellAt i off).del d, dropOwn h i off⟩ else none := nd rfl
@[simp] theorem app_t {d sz bytes n : Nat} {y : Opd} : appV ⟨f, w, h⟩ d sz bytes (.t n) y = (VFr.get f n).bind fun a => (evV f y).bind fun b => (rowsOfV sz a).bind fun rows => (seenV h sz b).bind fun news =>
    if 0 < sz ∧ 0 < bytes ∧ (rows.length + news.length) * bytes ≤ 140737488355328 then
      (if w.contains (n, .own) then some ⟨(d, .lst sz (rows ++ news)) :: f, (d, .own) :: Rts.del (w.filter fun p => p != (n, .own)) d, h⟩ else appC f w h d sz (rows ++ news) (findR w n))
    else none := by
  unfold appV appC findR
  simp only [evV, takeR]
  congr 1; funext a; congr 1; funext b; congr 1; funext rows; congr 1; funext news
  by_cases h1 : 0 < sz ∧ 0 < bytes ∧ (rows.length + news.length) * bytes ≤ 140737488355328
  · rw [if_pos h1, if_pos h1]
    by_cases h2 : w.contains (n, .own) = true
    · rw [if_pos h2, if_pos h2]; rfl
    · rw [if_neg h2, if_neg h2]
      cases w.find? fun p => p.1 == n with
      | none => rfl
      | some p =>
        obtain ⟨m, t⟩ := p
        cases t with
        | own => rfl
        | comp j => rfl
        | cell i off =>
          simp only [Option.map_some]
          by_cases h3 : ownAt h i off = true
          · rw [if_pos h3, if_pos h3]; rfl
          · rw [if_neg h3, if_neg h3]; rfl
  · rw [if_neg h1, if_neg h1]
@[simp] theorem app_nil {d sz bytes s k : Nat} {c : Option Nat} {y : Opd} : appV ⟨f, w, h⟩ d sz bytes (.c (.sl none s k c)) y = (ofAV (.sl none s k c)).bind fun a => (evV f y).bind fun b => (rowsOfV sz a).bind fun rows => (seenV h sz b).bind fun news =>
    if 0 < sz ∧ 0 < bytes ∧ (rows.length + news.length) * bytes ≤ 140737488355328 then some ⟨(d, .lst sz (rows ++ news)) :: f, (d, .own) :: w.del d, h⟩ else none := by
  unfold appV
  simp only [evV, takeR, isNilC, if_true]
  rfl
@[simp] theorem rca_nil {off : Nat} : Rts.noCellAt [] i off = [] := nd rfl
@[simp] theorem rca_own {m off : Nat} : Rts.noCellAt ((m, .own) :: w) i off = (m, .own) :: Rts.noCellAt w i off := nd rfl
@[simp] theorem rca_comp {m j off : Nat} : Rts.noCellAt ((m, .comp j) :: w) i off = (m, .comp j) :: Rts.noCellAt w i off := nd rfl
@[simp] theorem rca_cell {m j o off : Nat} : Rts.noCellAt ((m, .cell j o) :: w) i off = if j = i ∧ o = off then Rts.noCellAt w i off else (m, .cell j o) :: Rts.noCellAt w i off := by
  unfold Rts.noCellAt
  rw [List.filter_cons]
  by_cases e : j = i ∧ o = off
  · obtain ⟨rfl, rfl⟩ := e; simp
  · rw [if_neg e, if_pos (bne_iff_ne.2 fun h => e (by cases h; exact ⟨rfl, rfl⟩))]
def dropO (S : VH) (o : Option VObj) (i off : Nat) : VH := match o with
  | some (.cells l own) => S.set i (.cells l (own.filter (· != off)))
  | _ => S
@[simp] theorem dropOwn_eq {off : Nat} : dropOwn S i off = dropO S (S.get i) i off := nd rfl
@[simp] theorem dropO_c {off : Nat} {l : List V} {own : List Nat} : dropO S (some (.cells l own)) i off = S.set i (.cells l (own.filter (· != off))) := nd rfl
noncomputable def chkO {α : Type} (b : Prop) (x : Option α) : Option α := @ite _ b (Classical.propDecidable b) x none
theorem chkO_t {α : Type} {b : Prop} {x : Option α} (h : b) : chkO b x = x := if_pos h
def sameO (E : Env) (st st' : VS) : Option AOper → Prop
  | some r => sameReadV E st st' r
  | none => True
@[simp] theorem findD_cons {j k : Nat} {o : AOper} {p c : List Nat} {l : List DOp} : findD (⟨k, o, p, c⟩ :: l) j = if k = j then some o else findD l j := by
  unfold findD
  rw [List.find?_cons]
  by_cases e : k = j
  · subst e; simp
  · rw [if_neg e, beq_eq_false_iff_ne.2 e]
@[simp] theorem sameO_s {E : Env} {f' : VFr} {w' : Rts} {h' : VH} {d : Option Nat} {op : AOp} : sameO E ⟨f, w, h⟩ ⟨f', w', h'⟩ (some ⟨d, op, none⟩) ↔ ∃ v, readV E f h' op = some v ∧ readV E f h op = some v ∧ rigid v = true := by
  simp [sameO, sameReadV, wantedV]
@[simp] theorem sameO_g {E : Env} {f' : VFr} {w' : Rts} {h' : VH} {d : Option Nat} {op : AOp} {t : Nat} {b : Bool} : sameO E ⟨f, w, h⟩ ⟨f', w', h'⟩ (some ⟨d, op, some (t, b)⟩) ↔ wantedV f (some (t, b)) = some false ∨ (wantedV f (some (t, b)) = some true ∧ ∃ v, readV E f h' op = some v ∧ readV E f h op = some v ∧ rigid v = true) := Iff.rfl
noncomputable def chkK (E : Env) (Fl : Flags) (O : VOracle) (o : AOper) (st : VS) (P : VS → Prop) (Q : Nat → VS → Prop) (K : VS → Option VS) : Option Nat → Option VS
  | none => (stepV E Fl O o st).bind fun st' => chkO (P st') (K st')
  | some i => (stepV E Fl O o (st.hide i)).bind fun st' => chkO (st'.h.get i = none ∧ Q i st') (K ⟨st'.f, st'.w, st'.h.back i (st.h.get i)⟩)
def sameH (E : Env) (i : Nat) (st st' : VS) : Option AOper → Prop
  | some r => sameHidV E i st st' r
  | none => True
theorem dreg_chk {E : Env} {Fl : Flags} {O : VOracle} {all : List DOp} {k : Nat} {o : AOper} {pre chk : List Nat} {l : List DOp} : dregV E Fl O all (⟨k, o, pre, chk⟩ :: l) st = chkK E Fl O o st (fun st' => ∀ j ∈ chk, sameO E st st' (findD all j)) (fun i st' => ∀ j ∈ chk, sameH E i st st' (findD all j)) (dregV E Fl O all l) (hidL all st chk) := by
  simp only [dregV]
  unfold chkK chkO
  cases hidL all st chk with
  | none =>
    dsimp only
    congr 1; funext st'; congr 1; apply propext
    constructor
    · intro h j hj
      cases e : findD all j with
      | none => exact trivial
      | some r => exact h j hj r e
    · intro h j hj r e
      have := h j hj; rw [e] at this; exact this
  | some i =>
    dsimp only
    congr 1; funext st'; congr 1; apply propext
    constructor
    · rintro ⟨h0, h⟩
      refine ⟨h0, fun j hj => ?_⟩
      cases e : findD all j with
      | none => exact trivial
      | some r => exact h j hj r e
    · rintro ⟨h0, h⟩
      refine ⟨h0, fun j hj r e => ?_⟩
      have := h j hj; rw [e] at this; exact this
theorem mem1 {P : Nat → Prop} {a : Nat} : (∀ j ∈ [a], P j) ↔ P a := by simp
theorem mem2 {P : Nat → Prop} {a b : Nat} : (∀ j ∈ [a, b], P j) ↔ P a ∧ P b := by simp
theorem mem3 {P : Nat → Prop} {a b c : Nat} : (∀ j ∈ [a, b, c], P j) ↔ P a ∧ P b ∧ P c := by simp
@[simp] theorem dreg_chk1 {E : Env} {Fl : Flags} {O : VOracle} {all : List DOp} {k c : Nat} {o : AOper} {pre : List Nat} {l : List DOp} : dregV E Fl O all (⟨k, o, pre, [c]⟩ :: l) st = chkK E Fl O o st (fun st' => sameO E st st' (findD all c)) (fun i st' => sameH E i st st' (findD all c)) (dregV E Fl O all l) (hidL all st [c]) := by
  simp only [dreg_chk, mem1]
@[simp] theorem dreg_chk2 {E : Env} {Fl : Flags} {O : VOracle} {all : List DOp} {k c c' : Nat} {o : AOper} {pre : List Nat} {l : List DOp} : dregV E Fl O all (⟨k, o, pre, [c, c']⟩ :: l) st = chkK E Fl O o st (fun st' => sameO E st st' (findD all c) ∧ sameO E st st' (findD all c')) (fun i st' => sameH E i st st' (findD all c) ∧ sameH E i st st' (findD all c')) (dregV E Fl O all l) (hidL all st [c, c']) := by
  simp only [dreg_chk, mem2]
@[simp] theorem dreg_chk3 {E : Env} {Fl : Flags} {O : VOracle} {all : List DOp} {k c c' c'' : Nat} {o : AOper} {pre : List Nat} {l : List DOp} : dregV E Fl O all (⟨k, o, pre, [c, c', c'']⟩ :: l) st = chkK E Fl O o st (fun st' => sameO E st st' (findD all c) ∧ sameO E st st' (findD all c') ∧ sameO E st st' (findD all c'')) (fun i st' => sameH E i st st' (findD all c) ∧ sameH E i st st' (findD all c') ∧ sameH E i st st' (findD all c'')) (dregV E Fl O all l) (hidL all st [c, c', c'']) := by
  simp only [dreg_chk, mem3]
@[simp] theorem chkK_none {E : Env} {Fl : Flags} {O : VOracle} {o : AOper} {P : VS → Prop} {Q : Nat → VS → Prop} {K : VS → Option VS} : chkK E Fl O o st P Q K none = (stepV E Fl O o st).bind fun st' => chkO (P st') (K st') := nd rfl
@[simp] theorem chkK_some {E : Env} {Fl : Flags} {O : VOracle} {o : AOper} {P : VS → Prop} {Q : Nat → VS → Prop} {K : VS → Option VS} {i : Nat} : chkK E Fl O o st P Q K (some i) = (stepV E Fl O o (st.hide i)).bind fun st' => chkO (st'.h.get i = none ∧ Q i st') (K ⟨st'.f, st'.w, st'.h.back i (st.h.get i)⟩) := nd rfl
def orN (a b : Option Nat) : Option Nat := match a with | some i => some i | none => b
@[simp] theorem orN_some {i : Nat} {b : Option Nat} : orN (some i) b = some i := nd rfl
@[simp] theorem orN_none {b : Option Nat} : orN none b = b := nd rfl
@[simp] theorem hidL_nil {all : List DOp} : hidL all st [] = none := nd rfl
@[simp] theorem hidL_cons {all : List DOp} {j : Nat} {l : List Nat} : hidL all st (j :: l) = orN (hidR st (findD all j)) (hidL all st l) := by
  simp only [hidL, orN]
  cases hidR st (findD all j) <;> rfl
@[simp] theorem hidR_none : hidR st none = none := nd rfl
@[simp] theorem hidR_ld {d : Option Nat} {n s : Nat} : hidR ⟨f, w, h⟩ (some ⟨d, .load n true (.t s), none⟩) = hidV h n (VFr.get f s) := nd rfl
@[simp] theorem hidR_l1 {d : Option Nat} {n : Nat} {x : Opd} {g : Option (Nat × Bool)} : hidR st (some ⟨d, .load n false x, g⟩) = none := nd rfl
@[simp] theorem hidR_lg {d : Option Nat} {n t : Nat} {b ag : Bool} {x : Opd} : hidR st (some ⟨d, .load n ag x, some (t, b)⟩) = none := by
  unfold hidR; split
  · rename_i e; simp at e
  · rfl
@[simp] theorem hidR_eq {d : Option Nat} {n : Bool} {k : EqK} {x y : Opd} {g : Option (Nat × Bool)} : hidR st (some ⟨d, .eq n k x y, g⟩) = none := nd rfl
@[simp] theorem hidR_lk {d : Option Nat} {v : AV} {b : Bool} {x y : Opd} {g : Option (Nat × Bool)} : hidR st (some ⟨d, .lookup v b x y, g⟩) = none := nd rfl
@[simp] theorem hidV_p {S : VH} {n i off : Nat} : hidV S n (some (.ptr (some (i, off)))) = hidO n off i (S.get i) := nd rfl
@[simp] theorem hidV_r {S : VH} {n off : Nat} {r : List V} : hidV S n (some (.rptr r off)) = none := nd rfl
@[simp] theorem hidO_some {n off i : Nat} {cs : List V} : hidO n off i (some (.cells cs [])) = if rigids ((cs.drop off).take n) = true then none else some i := nd rfl
@[simp] theorem hidO_own {n off i k : Nat} {cs : List V} {own : List Nat} : hidO n off i (some (.cells cs (k :: own))) = none := nd rfl
@[simp] theorem hide_mk {i : Nat} : VS.hide ⟨f, w, h⟩ i = ⟨f, w, h.hide i⟩ := nd rfl
@[simp] theorem hide_next {S : VH} {i : Nat} : (S.hide i).next = S.next := nd rfl
@[simp] theorem hide_gl {S : VH} {i : Nat} : (S.hide i).gl = S.gl := nd rfl
@[simp] theorem hide_get {S : VH} {i j : Nat} : (S.hide i).get j = if j = i then none else S.get j := nd rfl
theorem hide_back {S : VH} {i : Nat} : (S.hide i).back i (S.get i) = S := by
  cases S with
  | mk n g gl =>
    simp only [VH.hide, VH.back]
    congr 1; funext j; split
    · rename_i e; rw [e]
    · rfl
@[simp] theorem hide_back' {S : VH} {i : Nat} {o : Option VObj} (h : S.get i = o) : (S.hide i).back i o = S := by rw [← h, hide_back]
@[simp] theorem rigid_lst {n : Nat} {l : List (List V)} : rigid (.lst n l) = false := nd rfl
@[simp] theorem rigid_nilFn : rigid .nilFn = true := nd rfl
theorem sameH_s {E : Env} {i : Nat} {f' : VFr} {w' : Rts} {h' : VH} {d : Option Nat} {op : AOp} : sameH E i ⟨f, w, h⟩ ⟨f', w', h'⟩ (some ⟨d, op, none⟩) ↔ (∃ v, readV E f h' op = some v ∧ readV E f (h.hide i) op = some v ∧ rigid v = true) ∨ ∃ n ag s off, op = .load n ag (.t s) ∧ VFr.get f s = some (.ptr (some (i, off))) := by
  simp [sameH, sameHidV, sameReadV, wantedV, VS.hide]
def ldH (i : Nat) : Option V → Prop
  | some (.ptr (some (j, _))) => j = i
  | _ => False
@[simp] theorem ldH_p {i j off : Nat} : ldH i (some (.ptr (some (j, off)))) ↔ j = i := Iff.rfl
@[simp] theorem sameH_ld {E : Env} {i : Nat} {f' : VFr} {w' : Rts} {h' : VH} {d : Option Nat} {n s : Nat} {ag : Bool} : sameH E i ⟨f, w, h⟩ ⟨f', w', h'⟩ (some ⟨d, .load n ag (.t s), none⟩) ↔ ldH i (VFr.get f s) ∨ (∃ v, readV E f h' (.load n ag (.t s)) = some v ∧ readV E f (h.hide i) (.load n ag (.t s)) = some v ∧ rigid v = true) := by
  rw [sameH_s, Or.comm]
  apply or_congr ?_ Iff.rfl
  constructor
  · rintro ⟨n', ag', s', off, e, hg⟩
    injection e with _ _ e; injection e with e; subst e
    rw [hg]; exact rfl
  · intro hg
    unfold ldH at hg
    split at hg
    · rename_i j off e
      subst hg
      exact ⟨n, ag, s, off, rfl, e⟩
    · exact hg.elim
@[simp] theorem push_back {S : VH} {i : Nat} {o : VObj} {x : Option VObj} (h : ¬ i = S.next) : (S.push o).back i x = (S.back i x).push o := by
  cases S with
  | mk n g gl =>
    simp only [VH.push, VH.back]
    congr 1; funext j
    by_cases e : j = i
    · subst e
      simp only [if_true]
      rw [if_neg h]
    · simp only [e, if_false]
@[simp] theorem set_back {S : VH} {i k : Nat} {o : VObj} {x : Option VObj} (h : ¬ i = k) : (S.set k o).back i x = (S.back i x).set k o := by
  cases S with
  | mk n g gl =>
    simp only [VH.set, VH.back]
    congr 1; funext j
    by_cases e : j = i
    · subst e
      simp only [if_true]
      rw [if_neg h]
    · simp only [e, if_false]
@[simp] theorem chkO_true {α : Type} {x : Option α} : chkO True x = x := chkO_t trivial
@[simp] theorem read_load {E : Env} {k : Nat} {ag : Bool} {x : Opd} : readV E f h (.load k ag x) = (evV f x).bind fun v => loadV h k ag v := nd rfl
@[simp] theorem rig_int {k : IntKind} {a : Int} : rigid (.int k a) = true := nd rfl
@[simp] theorem rig_bool {b : Bool} : rigid (.bool b) = true := nd rfl
@[simp] theorem rig_str {b : List UInt8} : rigid (.str b) = true := nd rfl
@[simp] theorem rig_ptr {b : Option (Nat × Nat)} : rigid (.ptr b) = true := nd rfl
@[simp] theorem rig_map {b : Option Nat} : rigid (.map b) = true := nd rfl
@[simp] theorem rig_nil : rigid .nilI = true := nd rfl
@[simp] theorem rig_agg {l : List V} : rigid (.agg l) = rigids l := nd rfl
@[simp] theorem rigs_nil : rigids [] = true := nd rfl
@[simp] theorem rigs_cons {v : V} {l : List V} : rigids (v :: l) = (rigid v && rigids l) := nd rfl
variable {E : Env} {cst : Bool}
@[simp] theorem eq_bool {a b : Bool} : eqV E S cst .bool (.bool a) (.bool b) = some (a == b) := nd rfl
@[simp] theorem eq_ptr {a b : Option (Nat × Nat)} : eqV E S cst .ptr (.ptr a) (.ptr b) = ptrEqV E S a b := nd rfl
@[simp] theorem ptrEq_00 : ptrEqV E S none none = some true := nd rfl
@[simp] theorem ptrEq_10 {a : Nat × Nat} : ptrEqV E S (some a) none = some false := nd rfl
@[simp] theorem ptrEq_01 {a : Nat × Nat} : ptrEqV E S none (some a) = some false := nd rfl
@[simp] theorem eq_nil : eqV E S cst .ifc .nilI .nilI = if cst = true then some true else none := nd rfl
@[simp] theorem eq_ifc1 {t : Nat} {v : V} : eqV E S cst .ifc .nilI (.ifc t v) = some false := nd rfl
@[simp] theorem eq_ifc2 {t : Nat} {v : V} : eqV E S cst .ifc (.ifc t v) .nilI = some false := nd rfl
@[simp] theorem eq_s0 {s n : Nat} {c : Option Nat} {p : Option (Nat × Nat)} {s' n' : Nat} {c' : Option Nat} : eqV E S cst .nilS (.sl none s n c) (.sl p s' n' c') = some p.isNone := nd rfl
@[simp] theorem eq_s1 {s n : Nat} {c : Option Nat} {p : Nat × Nat} {s' n' : Nat} {c' : Option Nat} : eqV E S cst .nilS (.sl (some p) s' n' c') (.sl none s n c) = some false := nd rfl
@[simp] theorem eq_map1 {a : Option Nat} : eqV E S cst .nilM (.map none) (.map a) = some a.isNone := nd rfl
@[simp] theorem eq_map2 {a : Nat} : eqV E S cst .nilM (.map (some a)) (.map none) = some false := nd rfl
@[simp] theorem eq_fn0 : eqV E S cst .nilF .nilFn .nilFn = some true := nd rfl
@[simp] theorem eq_fn1 {g : Nat} {l : List V} : eqV E S cst .nilF .nilFn (.fn g l) = some false := nd rfl
@[simp] theorem eq_fn2 {g : Nat} {l : List V} : eqV E S cst .nilF (.fn g l) .nilFn = some false := nd rfl
@[simp] theorem rows_l {sz sz' : Nat} {rows : List (List V)} : rowsOfV sz (.lst sz' rows) = if sz' = sz then some rows else none := nd rfl
@[simp] theorem seen_l {sz sz' : Nat} {rows : List (List V)} : seenV S sz (.lst sz' rows) = if sz' = sz then some rows else none := nd rfl
@[simp] theorem seen_s {sz : Nat} {s : List UInt8} : seenV S sz (.str s) = if sz = 1 then some (s.map fun b => [.int .u8 b.toNat]) else none := nd rfl
@[simp] theorem seen_0 {sz sz' len : Nat} {c : Option Nat} : seenV S sz (.sl none sz' len c) = some [] := nd rfl
def seenO (o : Option VObj) (sz sz' off len : Nat) : Option (List (List V)) := match o with
  | some (.cells l _) => if sz' = sz ∧ off + len * sz ≤ l.length then some (rowsOf sz len (l.drop off)) else none
  | _ => none
@[simp] theorem seen_sl {sz sz' off len : Nat} {c : Option Nat} : seenV S sz (.sl (some (i, off)) sz' len c) = seenO (S.get i) sz sz' off len := nd rfl
@[simp] theorem seenO_c {sz sz' off len : Nat} {l : List V} {own : List Nat} : seenO (some (.cells l own)) sz sz' off len = if sz' = sz ∧ off + len * sz ≤ l.length then some (rowsOf sz len (l.drop off)) else none := nd rfl
@[simp] theorem kill_get : (killV S i).get j = if j = i then none else S.get j := nd rfl
@[simp] theorem kill_next : (killV S i).next = S.next := nd rfl
@[simp] theorem cloH_kill (h : cloH S S1) : cloH S (killV S1 i) := fun j hj => by
  by_cases e : j = i
  · right; intro o ho; simp [e] at ho
  · rcases h j hj with h | h
    · left; simp [e, h]
    · right; intro o' ho'; simp [e] at ho'; exact h o' ho'
@[simp] theorem trim_kill (h : S.next ≤ i) : VH.trim S (killV S1 i) = VH.trim S S1 := by
  unfold VH.trim
  congr 1
  funext j
  split
  · rw [kill_get, if_neg (by omega)]
  · rfl
@[simp] theorem appH_0 {sz bytes sz' len : Nat} {c : Option Nat} {news : List (List V)} : appH S sz bytes (.sl none sz' len c) news = if news.length = 0 then some (.sl none sz' len c, S)
    else if 0 < sz ∧ 0 < bytes ∧ news.length * bytes ≤ 140737488355328 then some (.sl (some (S.next, 0)) sz news.length none, S.push (.cells news.flatten [])) else none := nd rfl
def appO (S : VH) (o : Option VObj) (i off sz _bytes len : Nat) (cap : Option Nat) (news : List (List V)) : Option (V × VH) := match o with
  | some (.cells l _) => match cap with
    | some c => if len + news.length ≤ c then
            if news.length = 0 then some (.sl (some (i, off)) sz len (some c), S)
            else if off + (len + news.length) * sz ≤ l.length then some (.sl (some (i, off)) sz (len + news.length) (some c), S.set i (.cells (putV l (off + len * sz) news.flatten) [])) else none
          else if off + len * sz ≤ l.length then some (.sl (some (S.next, 0)) sz (len + news.length) none, S.push (.cells ((l.drop off).take (len * sz) ++ news.flatten) []))
          else none
    | none => if off + len * sz = l.length ∧ off = 0 then some (.sl (some (S.next, 0)) sz (len + news.length) none, killV (S.push (.cells (l.drop off ++ news.flatten) [])) i) else none
  | _ => none
@[simp] theorem appH_s {sz bytes sz' off len : Nat} {c : Option Nat} {news : List (List V)} : appH S sz bytes (.sl (some (i, off)) sz' len c) news = if sz' = sz ∧ 0 < sz ∧ 0 < bytes ∧ (len + news.length) * bytes ≤ 140737488355328 then appO S (S.get i) i off sz bytes len c news else none := nd rfl
@[simp] theorem appO_some {sz bytes off len c : Nat} {l : List V} {own : List Nat} {news : List (List V)} : appO S (some (.cells l own)) i off sz bytes len (some c) news = if len + news.length ≤ c then
            if news.length = 0 then some (.sl (some (i, off)) sz len (some c), S)
            else if off + (len + news.length) * sz ≤ l.length then some (.sl (some (i, off)) sz (len + news.length) (some c), S.set i (.cells (putV l (off + len * sz) news.flatten) [])) else none
          else if off + len * sz ≤ l.length then some (.sl (some (S.next, 0)) sz (len + news.length) none, S.push (.cells ((l.drop off).take (len * sz) ++ news.flatten) []))
          else none := nd rfl
@[simp] theorem appO_none {sz bytes off len : Nat} {l : List V} {own : List Nat} {news : List (List V)} : appO S (some (.cells l own)) i off sz bytes len none news = if off + len * sz = l.length ∧ off = 0 then some (.sl (some (S.next, 0)) sz (len + news.length) none, killV (S.push (.cells (l.drop off ++ news.flatten) [])) i) else none := nd rfl
def copyO (S : VH) (o : Option VObj) (i off sz sz' len : Nat) (rows : List (List V)) : Option (V × VH) := match o with
  | some (.cells l _) => if sz' = sz ∧ off + (min rows.length len) * sz ≤ l.length then some (.int .i64 (min rows.length len : Nat), S.set i (.cells (putV l off (rows.take (min rows.length len)).flatten) [])) else none
  | _ => none
@[simp] theorem copy_s {sz sz' off len : Nat} {c : Option Nat} {rows : List (List V)} : copyV S sz (.sl (some (i, off)) sz' len c) rows = copyO S (S.get i) i off sz sz' len rows := nd rfl
@[simp] theorem copyO_c {sz sz' off len : Nat} {l : List V} {own : List Nat} {rows : List (List V)} : copyO S (some (.cells l own)) i off sz sz' len rows = if sz' = sz ∧ off + (min rows.length len) * sz ≤ l.length then some (.int .i64 (min rows.length len : Nat), S.set i (.cells (putV l off (rows.take (min rows.length len)).flatten) [])) else none := nd rfl
def clearO (S : VH) (o : Option VObj) (i off sz sz' len : Nat) (z : List V) : Option VH := match o with
  | some (.cells l _) => if sz' = sz ∧ off + len * sz ≤ l.length then some (S.set i (.cells (putV l off (List.replicate len z).flatten) [])) else none
  | _ => none
@[simp] theorem clear_s {sz sz' off len : Nat} {c : Option Nat} {z : List V} : clearV S sz z (.sl (some (i, off)) sz' len c) = clearO S (S.get i) i off sz sz' len z := nd rfl
@[simp] theorem clear_0 {sz sz' len : Nat} {c : Option Nat} {z : List V} : clearV S sz z (.sl none sz' len c) = some S := nd rfl
@[simp] theorem clearO_c {sz sz' off len : Nat} {l : List V} {own : List Nat} {z : List V} : clearO S (some (.cells l own)) i off sz sz' len z = if sz' = sz ∧ off + len * sz ≤ l.length then some (S.set i (.cells (putV l off (List.replicate len z).flatten) [])) else none := nd rfl
@[simp] theorem frz_int {k : IntKind} {a : Int} : frzV n S (.int k a) = .int k a := nd rfl
@[simp] theorem frz_bool {b : Bool} : frzV n S (.bool b) = .bool b := nd rfl
@[simp] theorem frz_str {b : List UInt8} : frzV n S (.str b) = .str b := nd rfl
@[simp] theorem frz_ptr {p : Option (Nat × Nat)} : frzV n S (.ptr p) = .ptr p := nd rfl
@[simp] theorem frz_lst {sz : Nat} {rows : List (List V)} : frzV n S (.lst sz rows) = .lst sz rows := nd rfl
@[simp] theorem frz_ifc {t : Nat} {v : V} : frzV n S (.ifc t v) = .ifc t v := nd rfl
@[simp] theorem frz_nilI : frzV n S .nilI = .nilI := nd rfl
@[simp] theorem frz_agg {l : List V} : frzV n S (.agg l) = .agg l := nd rfl
@[simp] theorem frz_0 {sz len : Nat} {c : Option Nat} : frzV n S (.sl none sz len c) = .lst sz [] := nd rfl
def frzO (o : Option VObj) (i off sz len : Nat) (cap : Option Nat) : V := match o with
  | some (.cells l _) => if off + len * sz ≤ l.length then .lst sz (rowsOf sz len (l.drop off)) else .sl (some (i, off)) sz len cap
  | _ => .sl (some (i, off)) sz len cap
@[simp] theorem frz_sl {off sz len : Nat} {c : Option Nat} : frzV n S (.sl (some (i, off)) sz len c) = if i < n then .sl (some (i, off)) sz len c else frzO (S.get i) i off sz len c := nd rfl
@[simp] theorem frzO_c {off sz len : Nat} {c : Option Nat} {l : List V} {own : List Nat} : frzO (some (.cells l own)) i off sz len c = if off + len * sz ≤ l.length then .lst sz (rowsOf sz len (l.drop off)) else .sl (some (i, off)) sz len c := nd rfl
@[simp] theorem rows_s {sz : Nat} {s : List UInt8} : rowsOfV sz (.str s) = if sz = 1 then some (s.map fun b => [.int .u8 b.toNat]) else none := nd rfl
end
end Go.Proofs.YtbpgbhmibmcbnaaGreatDoor.Val

/-! The machine step by step, for simp. -/
namespace Go.Proofs.YtbpgbhmibmcbnaaGreatDoor.Ram
open Go

theorem nd {α : Type} {a b : α} (h : a = b) : a = b := h
section
variable {E : Env} {O : Oracle} {fr : Fr} {H : AH} {st : St}
@[simp] theorem x_skip : execL E O .skip st = some (.norm, st) := nd rfl
@[simp] theorem x_reg {l : List AOper} : execL E O (.reg l) st = (opsA E O l st).map fun s => (.norm, s) := nd rfl
@[simp] theorem x_dreg {l : List DOp} : execL E O (.dreg l) st = (dregA E O l l st).map fun s => (.norm, s) := nd rfl
@[simp] theorem x_keep {l : List Nat} {c : ACode} : execL E O (.keep l c) (fr, H) = execL E O c (Fr.keep fr l, H) := nd rfl
@[simp] theorem x_seq {a b : ACode} : execL E O (.seq a b) st = seqR (execL E O a st) (execL E O b) := nd rfl
@[simp] theorem x_cond {c : Opd} {a b : ACode} : execL E O (.cond c a b) (fr, H) = condR (c.ev fr) (execL E O a (fr, H)) (execL E O b (fr, H)) := nd rfl
@[simp] theorem x_block {id : Nat} {b : ACode} : execL E O (.block id b) st = blockR id (execL E O b st) := nd rfl
@[simp] theorem x_loop {b : ACode} : execL E O (.loop b) st = loopL (execL E O b) st := nd rfl
@[simp] theorem x_exit {id : Nat} : execL E O (.exit id) st = some (.exit id, st) := nd rfl
@[simp] theorem x_ret : execL E O .ret st = some (.ret, st) := nd rfl
@[simp] theorem seqR_norm {k : St → Res} : seqR (some (.norm, st)) k = k st := nd rfl
@[simp] theorem seqR_ret {k : St → Res} : seqR (some (.ret, st)) k = some (.ret, st) := nd rfl
@[simp] theorem seqR_exit {k : St → Res} {i : Nat} : seqR (some (.exit i, st)) k = some (.exit i, st) := nd rfl
@[simp] theorem blockR_norm {i : Nat} : blockR i (some (.norm, st)) = some (.norm, st) := nd rfl
@[simp] theorem blockR_ret {i : Nat} : blockR i (some (.ret, st)) = some (.ret, st) := nd rfl
@[simp] theorem blockR_exit {i j : Nat} : blockR i (some (.exit j, st)) = if j = i then some (.norm, st) else some (.exit j, st) := nd rfl
@[simp] theorem condR_bool {b : Bool} {x y : Res} : condR (some (.bool b)) x y = if b = true then x else y := by cases b <;> rfl
@[simp] theorem ev_t {n : Nat} : (Opd.t n).ev fr = Fr.get fr n := nd rfl
@[simp] theorem ev_c {v : AV} : (Opd.c v).ev fr = some v := nd rfl
@[simp] theorem ev_g {n : Nat} : (Opd.g n).ev fr = some (.ptr (some (n, 0))) := nd rfl
@[simp] theorem ev_f {n : Nat} : (Opd.f n).ev fr = some (.fn n []) := nd rfl
@[simp] theorem get_nil {n : Nat} : Fr.get [] n = none := nd rfl
@[simp] theorem get_cons {k n : Nat} {v : AV} {r : Fr} : Fr.get ((k, v) :: r) n = if k = n then some v else Fr.get r n := nd rfl
def kp (o : Option AV) (n : Nat) (r : Fr) : Fr := match o with
  | some v => (n, v) :: r
  | none => r
@[simp] theorem kp_some {n : Nat} {v : AV} {r : Fr} : kp (some v) n r = (n, v) :: r := nd rfl
@[simp] theorem kp_none {n : Nat} {r : Fr} : kp none n r = r := nd rfl
@[simp] theorem keep_nil : Fr.keep fr [] = [] := nd rfl
@[simp] theorem keep_cons {n : Nat} {l : List Nat} : Fr.keep fr (n :: l) = kp (Fr.get fr n) n (Fr.keep fr l) := by
  unfold Fr.keep kp
  rw [List.filterMap_cons]
  cases Fr.get fr n <;> rfl
@[simp] theorem ops_nil : opsA E O [] st = some st := nd rfl
@[simp] theorem ops_cons {o : AOper} {l : List AOper} : opsA E O (o :: l) st = (stepA E O o st).bind (opsA E O l) := nd rfl
@[simp] theorem dreg_nil {all : List DOp} : dregA E O all [] st = some st := nd rfl
@[simp] theorem dreg_cons {all : List DOp} {i : Nat} {o : AOper} {pre : List Nat} {l : List DOp} : dregA E O all (⟨i, o, pre, []⟩ :: l) st = (stepA E O o st).bind (dregA E O all l) := by
  simp only [dregA]
  congr 1
def gd (g : Option AV) (want : Bool) (s r : Option St) : Option St := match g with
  | some (.bool b) => if b = want then r else s
  | some .und => s
  | _ => none
@[simp] theorem gd_bool {b want : Bool} {s r : Option St} : gd (some (.bool b)) want s r = if b = want then r else s := nd rfl
@[simp] theorem gd_und {want : Bool} {s r : Option St} : gd (some .und) want s r = s := nd rfl
@[simp] theorem step_guard {d : Nat} {op : AOp} {t : Nat} {want : Bool} : stepA E O ⟨some d, op, some (t, want)⟩ (fr, H) = gd (Fr.get fr t) want (some ((d, .und) :: fr, H)) (stepA E O ⟨some d, op, none⟩ (fr, H)) := by
  unfold stepA gd
  simp only [wantedA]
  cases Fr.get fr t with
  | none => rfl
  | some v =>
    cases v <;> first | rfl | skip
    rename_i b
    cases b <;> cases want <;> rfl
@[simp] theorem step_guard0 {op : AOp} {t : Nat} {want : Bool} : stepA E O ⟨none, op, some (t, want)⟩ (fr, H) = gd (Fr.get fr t) want (some (fr, H)) (stepA E O ⟨none, op, none⟩ (fr, H)) := by
  unfold stepA gd
  simp only [wantedA]
  cases Fr.get fr t with
  | none => rfl
  | some v =>
    cases v <;> first | rfl | skip
    rename_i b
    cases b <;> cases want <;> rfl
theorem step_pure {d : Nat} {op : AOp} (h : op.isPure = true) : stepA E O ⟨some d, op, none⟩ (fr, H) = (pureA fr op).map fun v => ((d, v) :: fr, H) := by
  unfold stepA opA
  simp only [wantedA, h, if_true, Option.map_map]
  rfl
theorem step_read {d : Nat} {op : AOp} (h : op.isPure = false) (h' : op.isRead = true) : stepA E O ⟨some d, op, none⟩ (fr, H) = (readA E fr H op).map fun v => ((d, v) :: fr, H) := by
  unfold stepA opA
  simp only [wantedA, h, h', if_true, Bool.false_eq_true, if_false, Option.map_map]
  rfl
theorem step_make {d : Nat} {op : AOp} (h : op.isPure = false) (h' : op.isRead = false) (h2 : op.isMake = true) : stepA E O ⟨some d, op, none⟩ (fr, H) = (makeA fr op).map fun r => ((d, r.1 H.next) :: fr, H.push r.2) := by
  unfold stepA opA
  simp only [wantedA, h, h', h2, if_true, Bool.false_eq_true, if_false, Option.map_map]
  rfl
theorem step_act {d : Option Nat} {op : AOp} (h : op.isPure = false) (h' : op.isRead = false) (h2 : op.isMake = false) : stepA E O ⟨d, op, none⟩ (fr, H) = (actA O fr H op).map fun r => (putD fr d r.1, r.2) := by
  unfold stepA opA
  simp only [wantedA, h, h', h2, Bool.false_eq_true, if_false]
variable {d n m : Nat} {x y z : Opd}
@[simp] theorem s_mov : stepA E O ⟨some d, .mov x, none⟩ (fr, H) = (x.ev fr).map fun v => ((d, v) :: fr, H) := step_pure rfl
def pickA (c a b : Option AV) : Option AV := match c with
  | some (.bool true) => a
  | some (.bool false) => b
  | _ => none
@[simp] theorem pickA_bool {c : Bool} {a b : Option AV} : pickA (some (.bool c)) a b = if c = true then a else b := by cases c <;> rfl
@[simp] theorem s_pick : stepA E O ⟨some d, .pick x y z, none⟩ (fr, H) = (pickA (x.ev fr) (y.ev fr) (z.ev fr)).map fun v => ((d, v) :: fr, H) := step_pure rfl
@[simp] theorem s_build {zero : List AV} {ps : List (Nat × Nat × Opd)} : stepA E O ⟨some d, .build zero ps, none⟩ (fr, H) = (evParts fr ps).bind fun qs => (fillA zero qs).map fun l => ((d, .agg l) :: fr, H) := by
  rw [step_pure rfl]
  simp only [pureA, Option.map_bind]
  congr 1
  funext qs
  simp only [Function.comp, Option.map_map]
  rfl
def nilchkA (v : Option AV) : Option AV := match v with
  | some (.ptr (some a)) => some (.ptr (some a))
  | _ => none
@[simp] theorem nilchkA_ptr {a : Nat × Nat} : nilchkA (some (.ptr (some a))) = some (.ptr (some a)) := nd rfl
@[simp] theorem s_nilchk : stepA E O ⟨some d, .nilchk x, none⟩ (fr, H) = (nilchkA (x.ev fr)).map fun v => ((d, v) :: fr, H) := by rw [step_pure rfl]; rfl
@[simp] theorem s_bin {op : BinOp} : stepA E O ⟨some d, .bin op x y, none⟩ (fr, H) = (x.ev fr).bind fun a => (y.ev fr).bind fun b => (binA op a b).map fun v => ((d, v) :: fr, H) := by
  rw [step_pure rfl]; simp only [pureA, Option.map_bind, Function.comp_def]
def notA (v : Option AV) : Option AV := match v with
  | some (.bool b) => some (.bool (!b))
  | _ => none
@[simp] theorem notA_bool {b : Bool} : notA (some (.bool b)) = some (.bool (!b)) := nd rfl
@[simp] theorem s_not : stepA E O ⟨some d, .not x, none⟩ (fr, H) = (notA (x.ev fr)).map fun v => ((d, v) :: fr, H) := by rw [step_pure rfl]; rfl
def convA (k : IntKind) (v : Option AV) : Option AV := match v with
  | some (.int _ n) => some (.int k (k.wrap n))
  | _ => none
@[simp] theorem convA_int {k k' : IntKind} {n : Int} : convA k (some (.int k' n)) = some (.int k (k.wrap n)) := nd rfl
@[simp] theorem s_conv {k : IntKind} : stepA E O ⟨some d, .conv k x, none⟩ (fr, H) = (convA k (x.ev fr)).map fun v => ((d, v) :: fr, H) := by rw [step_pure rfl]; rfl
@[simp] theorem s_slc {sz : Nat} {lo hi : Option Opd} : stepA E O ⟨some d, .slc sz x lo hi, none⟩ (fr, H) = (pureA fr (.slc sz x lo hi)).map fun v => ((d, v) :: fr, H) := step_pure rfl
def fieldAA (off : Nat) (v : Option AV) : Option AV := match v with
  | some (.ptr (some (i, o))) => some (.ptr (some (i, o + off)))
  | _ => none
@[simp] theorem fieldAA_ptr {off i o : Nat} : fieldAA off (some (.ptr (some (i, o)))) = some (.ptr (some (i, o + off))) := nd rfl
@[simp] theorem s_fieldA {off : Nat} : stepA E O ⟨some d, .fieldA off x, none⟩ (fr, H) = (fieldAA off (x.ev fr)).map fun v => ((d, v) :: fr, H) := by rw [step_pure rfl]; rfl
@[simp] theorem s_field {off : Nat} {ag : Bool} : stepA E O ⟨some d, .field off n ag x, none⟩ (fr, H) = (pureA fr (.field off n ag x)).map fun v => ((d, v) :: fr, H) := step_pure rfl
@[simp] theorem s_indexA {sz : Nat} : stepA E O ⟨some d, .indexA sz x y, none⟩ (fr, H) = (x.ev fr).bind fun a => (y.ev fr).bind fun b => (indexAA sz a b).map fun v => ((d, v) :: fr, H) := by
  rw [step_pure rfl]; simp only [pureA, Option.map_bind, Function.comp_def]
@[simp] theorem s_index : stepA E O ⟨some d, .index x y, none⟩ (fr, H) = (pureA fr (.index x y)).map fun v => ((d, v) :: fr, H) := step_pure rfl
def extractA (v : Option AV) (i : Nat) : Option AV := match v with
  | some (.tup l) => l[i]?
  | _ => none
@[simp] theorem extractA_tup {l : List AV} {i : Nat} : extractA (some (.tup l)) i = l[i]? := nd rfl
@[simp] theorem s_extract {i : Nat} : stepA E O ⟨some d, .extract x i, none⟩ (fr, H) = (extractA (x.ev fr) i).map fun v => ((d, v) :: fr, H) := by rw [step_pure rfl]; rfl
def lenOf (st : Bool) (v : Option AV) : Option AV := match v with
  | some (.sl _ _ n _) => if st = false then some (.int .i64 n) else none
  | some (.str s) => if st = true then some (.int .i64 s.length) else none
  | _ => none
@[simp] theorem lenOf_sl {a : Option (Nat × Nat)} {sz k : Nat} {c : Option Nat} : lenOf false (some (.sl a sz k c)) = some (.int .i64 k) := nd rfl
@[simp] theorem lenOf_str {s : List UInt8} : lenOf true (some (.str s)) = some (.int .i64 s.length) := nd rfl
@[simp] theorem s_len {b : Bool} : stepA E O ⟨some d, .len b x, none⟩ (fr, H) = (lenOf b (x.ev fr)).map fun v => ((d, v) :: fr, H) := by rw [step_pure rfl]; rfl
@[simp] theorem s_minmax {b : Bool} : stepA E O ⟨some d, .minmax b x y, none⟩ (fr, H) = (pureA fr (.minmax b x y)).map fun v => ((d, v) :: fr, H) := step_pure rfl
@[simp] theorem s_mkFn {f : Nat} {caps : List Opd} : stepA E O ⟨some d, .mkFn f caps, none⟩ (fr, H) = (evs fr caps).map fun v => ((d, .fn f v) :: fr, H) := by rw [step_pure rfl]; simp only [pureA, Option.map_map]; rfl
@[simp] theorem s_mkIfc {t : Nat} : stepA E O ⟨some d, .mkIfc t x, none⟩ (fr, H) = (x.ev fr).map fun v => ((d, .ifc t v) :: fr, H) := by rw [step_pure rfl]; simp only [pureA, Option.map_map]; rfl
@[simp] theorem s_load {ag : Bool} : stepA E O ⟨some d, .load n ag x, none⟩ (fr, H) = (x.ev fr).bind fun p => (loadA H n ag p).map fun v => ((d, v) :: fr, H) := by
  rw [step_read rfl rfl]; simp only [readA, Option.map_bind]; rfl
@[simp] theorem s_eq {neg : Bool} {k : EqK} : stepA E O ⟨some d, .eq neg k x y, none⟩ (fr, H) = (x.ev fr).bind fun a => (y.ev fr).bind fun b => (eqA E H (x.isC || y.isC) k a b).map fun r => ((d, .bool (if neg then !r else r)) :: fr, H) := by
  rw [step_read rfl rfl]; simp only [readA, Option.map_bind, Function.comp_def, Option.map_map]
@[simp] theorem s_lookup {dv : AV} {ok : Bool} : stepA E O ⟨some d, .lookup dv ok x y, none⟩ (fr, H) = (readA E fr H (.lookup dv ok x y)).map fun v => ((d, v) :: fr, H) := step_read rfl rfl
@[simp] theorem s_alloc {zero : List AV} : stepA E O ⟨some d, .alloc zero, none⟩ (fr, H) = some ((d, .ptr (some (H.next, 0))) :: fr, H.push (.cells zero false)) := by rw [step_make rfl rfl rfl]; rfl
@[simp] theorem s_box : stepA E O ⟨some d, .box x, none⟩ (fr, H) = (x.ev fr).bind fun v => if (cellsOf v).all oneCell = true then some ((d, .ptr (some (H.next, 0))) :: fr, H.push (.cells (cellsOf v) false)) else none := by
  rw [step_make rfl rfl rfl]
  simp only [makeA, Option.map_bind]
  congr 1
  funext v
  simp only [Function.comp]
  split <;> rfl
@[simp] theorem s_bslice {hp : Bool} {sz len : Nat} {zero : List AV} {ps : List (Nat × Nat × Opd)} : stepA E O ⟨some d, .bslice hp sz len zero ps, none⟩ (fr, H) = (evParts fr ps).bind fun qs => (fillA zero qs).map fun l => ((d, .sl (some (H.next, 0)) sz len (some len)) :: fr, H.push (.cells l false)) := by
  rw [step_make rfl rfl rfl]
  simp only [makeA, Option.map_bind, Function.comp_def, Option.map_map]
@[simp] theorem s_mkMap : stepA E O ⟨some d, .mkMap, none⟩ (fr, H) = some ((d, .map (some H.next)) :: fr, H.push (.map [] false)) := by rw [step_make rfl rfl rfl]; rfl
@[simp] theorem s_store : stepA E O ⟨none, .store n x y, none⟩ (fr, H) = (x.ev fr).bind fun a => (y.ev fr).bind fun v => (storeA H n a v).map fun H' => (fr, H') := by
  rw [step_act rfl rfl rfl]; simp only [actA, Option.map_bind, Function.comp_def, Option.map_map]; rfl
@[simp] theorem s_callF {f : Nat} {l : List Opd} : stepA E O ⟨some d, .callF f l, none⟩ (fr, H) = (evs fr l).bind fun vs => (O f vs H).map fun r => ((d, r.1) :: fr, r.2) := by
  rw [step_act rfl rfl rfl]; simp only [actA, Option.map_bind, Function.comp_def, Option.map_map]; rfl
@[simp] theorem s_callV {l : List Opd} : stepA E O ⟨some d, .callV x l, none⟩ (fr, H) = (actA O fr H (.callV x l)).map fun r => (putD fr (some d) r.1, r.2) := step_act rfl rfl rfl
@[simp] theorem s_append {fz : Bool} {sz bytes : Nat} : stepA E O ⟨some d, .append fz sz bytes x y, none⟩ (fr, H) = (x.ev fr).bind fun a => (y.ev fr).bind fun b => (appendX H fz sz bytes a b).map fun r => ((d, r.1) :: fr, r.2) := by
  rw [step_act rfl rfl rfl]; simp only [actA, Option.map_bind, Function.comp_def, Option.map_map]; rfl
@[simp] theorem s_clear {sz : Nat} {zero : List AV} : stepA E O ⟨none, .clear sz zero x, none⟩ (fr, H) = (x.ev fr).bind fun a => (clearA H sz zero a).map fun r => (fr, r.2) := by
  rw [step_act rfl rfl rfl]; simp only [actA, Option.map_bind, Function.comp_def, Option.map_map]; rfl
@[simp] theorem s_mkSlice {hp : Bool} {sz bytes : Nat} {zero : List AV} : stepA E O ⟨some d, .mkSlice hp sz bytes zero x y, none⟩ (fr, H) = (actA O fr H (.mkSlice hp sz bytes zero x y)).map fun r => (putD fr (some d) r.1, r.2) := step_act rfl rfl rfl
@[simp] theorem s_mset : stepA E O ⟨none, .mset x y z, none⟩ (fr, H) = (actA O fr H (.mset x y z)).map fun r => (fr, r.2) := step_act rfl rfl rfl
@[simp] theorem evs_nil : evs fr [] = some [] := nd rfl
@[simp] theorem evs_cons {l : List Opd} : evs fr (x :: l) = (x.ev fr).bind fun v => (evs fr l).map (v :: ·) := nd rfl
@[simp] theorem evParts_nil : evParts fr [] = some [] := nd rfl
@[simp] theorem evParts_cons {a b : Nat} {l : List (Nat × Nat × Opd)} : evParts fr ((a, b, x) :: l) = (x.ev fr).bind fun v => (evParts fr l).map ((a, b, v) :: ·) := nd rfl
@[simp] theorem fin_norm {F : AFun} : finA F (some (.norm, st)) = (resA st F.res).map fun l => (tupOf l, st.2) := nd rfl
@[simp] theorem fin_ret {F : AFun} : finA F (some (.ret, st)) = (resA st F.res).map fun l => (tupOf l, st.2) := nd rfl
def finR (res : List ARes) (r : Res) : Option (AV × AH) := match r with
  | some (.norm, st) => (resA st res).map fun l => (tupOf l, st.2)
  | some (.ret, st) => (resA st res).map fun l => (tupOf l, st.2)
  | _ => none
@[simp] theorem finR_norm {l : List ARes} : finR l (some (.norm, st)) = (resA st l).map fun l => (tupOf l, st.2) := nd rfl
@[simp] theorem finR_ret {l : List ARes} : finR l (some (.ret, st)) = (resA st l).map fun l => (tupOf l, st.2) := nd rfl
@[simp] theorem res_nil : resA st [] = some [] := nd rfl
@[simp] theorem res_tmp {t : Nat} {l : List ARes} : resA (fr, H) (.tmp t :: l) = (Fr.get fr t).bind fun v => (resA (fr, H) l).map (v :: ·) := nd rfl
@[simp] theorem res_cell {t : Nat} {ag : Bool} {l : List ARes} : resA (fr, H) (.cell t n ag :: l) = (Fr.get fr t).bind fun p => (loadA H n ag p).bind fun v => (resA (fr, H) l).map (v :: ·) := nd rfl
@[simp] theorem tup_one {v : AV} : tupOf [v] = v := nd rfl
@[simp] theorem tup_nil : tupOf [] = .tup [] := nd rfl
@[simp] theorem tup_two {u v : AV} {l : List AV} : tupOf (u :: v :: l) = .tup (u :: v :: l) := nd rfl
@[simp] theorem push_next {o : AObj} : (H.push o).next = H.next + 1 := nd rfl
@[simp] theorem set_next {o : AObj} {i : Nat} : (H.set i o).next = H.next := nd rfl
@[simp] theorem kill_next {i : Nat} : (H.kill i).next = H.next := nd rfl
@[simp] theorem push_get {o : AObj} {j : Nat} : (H.push o).get j = if j = H.next then some o else H.get j := nd rfl
@[simp] theorem set_get {o : AObj} {i j : Nat} : (H.set i o).get j = if j = i then some o else H.get j := nd rfl
@[simp] theorem kill_get {i j : Nat} : (H.kill i).get j = if j = i then none else H.get j := nd rfl
@[simp] theorem isC_t {k : Nat} : (Opd.t k).isC = false := nd rfl
@[simp] theorem isC_c {v : AV} : (Opd.c v).isC = true := nd rfl
@[simp] theorem isC_g {k : Nat} : (Opd.g k).isC = false := nd rfl
@[simp] theorem one_int {k : IntKind} {i : Int} : oneCell (.int k i) = true := nd rfl
@[simp] theorem one_bool {b : Bool} : oneCell (.bool b) = true := nd rfl
@[simp] theorem one_str {s : List UInt8} : oneCell (.str s) = true := nd rfl
@[simp] theorem one_ptr {a : Option (Nat × Nat)} : oneCell (.ptr a) = true := nd rfl
@[simp] theorem one_sl {a : Option (Nat × Nat)} {p q : Nat} {c : Option Nat} : oneCell (.sl a p q c) = true := nd rfl
@[simp] theorem one_ifc {t : Nat} {v : AV} : oneCell (.ifc t v) = true := nd rfl
@[simp] theorem one_nilI : oneCell .nilI = true := nd rfl
@[simp] theorem cells_agg {l : List AV} : cellsOf (.agg l) = l := nd rfl
@[simp] theorem cells_int {k : IntKind} {i : Int} : cellsOf (.int k i) = [.int k i] := nd rfl
@[simp] theorem cells_bool {b : Bool} : cellsOf (.bool b) = [.bool b] := nd rfl
@[simp] theorem cells_str {s : List UInt8} : cellsOf (.str s) = [.str s] := nd rfl
@[simp] theorem cells_sl {a : Option (Nat × Nat)} {p q : Nat} {c : Option Nat} : cellsOf (.sl a p q c) = [.sl a p q c] := nd rfl
@[simp] theorem fill_nil {l : List AV} : fillA l [] = some l := nd rfl
@[simp] theorem fill_cons {l : List AV} {off k : Nat} {v : AV} {r : List (Nat × Nat × AV)} : fillA l ((off, k, v) :: r) = if (cellsOf v).length = k ∧ off + k ≤ l.length ∧ (cellsOf v).all oneCell = true then fillA (l.take off ++ cellsOf v ++ l.drop (off + k)) r else none := nd rfl
end
theorem keep_keep (fr : Fr) (l : List Nat) : Fr.keep (Fr.keep fr l) l = Fr.keep fr l := by
  have h : ∀ (l : List Nat) n, n ∈ l → Fr.get (Fr.keep fr l) n = Fr.get fr n := by
    intro l
    induction l with
    | nil => intro n hn; cases hn
    | cons k l ih =>
      intro n hn
      rw [keep_cons]
      cases hk : Fr.get fr k with
      | none =>
        rw [kp_none]
        rcases List.mem_cons.1 hn with rfl | hn
        · by_cases hm : n ∈ l
          · exact ih n hm
          · have : ∀ (l : List Nat), n ∉ l → Fr.get (Fr.keep fr l) n = none := by
              intro l
              induction l with
              | nil => intro _; rfl
              | cons q l ih2 =>
                intro hq
                rw [keep_cons]
                have h1 : q ≠ n := fun e => hq (by simp [e])
                have h2 := ih2 (fun e => hq (by simp [e]))
                cases Fr.get fr q with
                | none => exact h2
                | some v => rw [kp_some, get_cons, if_neg h1]; exact h2
            rw [this l hm, hk]
        · exact ih n hn
      | some v =>
        rw [kp_some, get_cons]
        split
        · rename_i e; subst e; exact hk.symm
        · rename_i e
          rcases List.mem_cons.1 hn with rfl | hn
          · exact absurd rfl e
          · exact ih n hn
  have h2 : ∀ l' : List Nat, (∀ n ∈ l', n ∈ l) → Fr.keep (Fr.keep fr l) l' = Fr.keep fr l' := by
    intro l'
    induction l' with
    | nil => intro _; rfl
    | cons k l' ih =>
      intro hs
      rw [keep_cons, keep_cons, h l k (hs k (by simp)), ih fun n hn => hs n (by simp [hn])]
  exact h2 l fun n hn => hn
end Go.Proofs.YtbpgbhmibmcbnaaGreatDoor.Ram

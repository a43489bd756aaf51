import Derived.Test.YtlecbjcloleiiaaDoorValI
/-! Stores; appending. -/
namespace Go.Proofs.YtlecbjcloleiiaaDoor.Val
open Go Go.Proofs.YtlecbjcloleiiaaDoor.Ram
section
variable {φ : Bk} {G : Fz} {W : Nat → Prop} {st : VS} {fr : Fr} {H : AH}

theorem rights_of (h : Rel φ G W st fr H) {st' : VS} {fr' : Fr} {H' : AH} {φ' : Bk} {G' : Fz} {W' : Nat → Prop} (org : Rt → Option Rt)
    (ha : ∀ R, Has st' R → ∃ x, At fr' H' φ' R x ∧ Can G' H' W' x ∧ match org R with
      | none => ∀ r, headId x = some r → ∀ R0 x0, Has st R0 → At fr H φ R0 x0 → headId x0 ≠ some r
      | some R0 => Has st R0 ∧ ∃ x0, At fr H φ R0 x0 ∧ headId x = headId x0)
    (hb : ∀ R R', Has st' R → Has st' R' → org R = org R' → R = R') :
    (∀ R, Has st' R → ∃ a, At fr' H' φ' R a ∧ Can G' H' W' a) ∧ (∀ R R' a a' r, Has st' R → Has st' R' → At fr' H' φ' R a → At fr' H' φ' R' a' → headId a = some r → headId a' = some r → R = R') := by
  refine ⟨fun R hR => by obtain ⟨x, h1, h2, _⟩ := ha R hR; exact ⟨x, h1, h2⟩, fun R R' x x' r hR hR' hx hx' hr hr' => ?_⟩
  obtain ⟨y, h1, _, h2⟩ := ha R hR
  obtain ⟨y', h1', _, h2'⟩ := ha R' hR'
  obtain rfl := at_uniq hx h1
  obtain rfl := at_uniq hx' h1'
  cases ho : org R with
  | none =>
    rw [ho] at h2
    cases ho' : org R' with
    | none => exact hb R R' hR hR' (ho.trans ho'.symm)
    | some R0' =>
      rw [ho'] at h2'
      obtain ⟨g1', x0', g2', g3'⟩ := h2'
      exact absurd (by rw [← g3']; exact hr') (h2 r hr R0' x0' g1' g2')
  | some R0 =>
    rw [ho] at h2
    obtain ⟨g1, x0, g2, g3⟩ := h2
    cases ho' : org R' with
    | none =>
      rw [ho'] at h2'
      exact absurd (by rw [← g3]; exact hr) (h2' r hr' R0 x0 g1 g2)
    | some R0' =>
      rw [ho'] at h2'
      obtain ⟨g1', x0', g2', g3'⟩ := h2'
      have := h.rtx R0 R0' x0 x0' r g1 g1' g2 g2' (by rw [← g3]; exact hr) (by rw [← g3']; exact hr')
      subst this
      exact hb R R' hR hR' (ho.trans ho'.symm)
/-- A cell's store. -/
theorem Rel.store (h : Rel φ G W st fr H) {n : Nat} {p x : V} {pa xa : AV} (hp : VRel φ G p pa) (hx : VRel φ G x xa) {rt : Bool} {S : VH} (hs : storeV st.h n p x rt = some S) {w' : Rts} (hw : ∀ m t, (m, t) ∈ w' → (m, t) ∈ st.w) (hnc : ∀ m i o, (m, Tag.cell i o) ∉ w')
    (hrt : rt = true → n = 1 ∧ ((∃ s c, xa = .sl none s 0 c) ∨ ∃ k, (k, Tag.own) ∈ st.w ∧ (k, Tag.own) ∉ w' ∧ Fr.get fr k = some xa)) :
    ∃ H', storeA H n pa xa = some H' ∧ Rel φ G W ⟨st.f, w', S⟩ fr H' ∧ Frm φ G W H φ G W H' := by
  unfold storeV at hs
  split at hs
  · rename_i i off
    split at hs
    · rename_i l own hg
      split at hs
      · rename_i hc
        obtain ⟨c1, c2, c3⟩ := hc
        obtain rfl := Option.some.inj hs
        simp only [VRel] at hp
        obtain ⟨r, h1, rfl⟩ := hp
        obtain ⟨_, r', h2, hWr, hGr, cs, h3, h4⟩ := h.objs i _ hg
        rw [h1] at h2
        obtain rfl := Option.some.inj h2
        have hcl := hx.cells
        have hcs : (cellsOf xa).length = n := hcl.length.trans c1
        let H' := H.set r (.cells (putCells cs off (cellsOf xa)) false)
        have hget : ∀ q, H'.get q = if q = r then some (.cells (putCells cs off (cellsOf xa)) false) else H.get q := fun q => rfl
        refine ⟨H', ?_, ?_, ⟨Nat.le_refl _, BkLe.refl _, FzLe.refl _, fun q _ hq => ⟨by rw [hget, if_neg (fun e => hq (by rw [e]; exact hWr))], rfl, rfl⟩, fun q hq => .inl hq⟩⟩
        · simp only [storeA, h3]
          rw [if_pos ⟨trivial, hcs, by rw [h4.length]; exact c2, by rw [hcl.one]; exact c3⟩]
        have hGne : ∀ q pre, G q = some pre → q ≠ r := fun q pre hq e => by rw [e, hGr] at hq; cases hq
        have hcan : ∀ a, Can G H W a → Can G H' W a := fun a ha => by
          rcases ha with ha | ⟨q, o, sz, len, c, pre, rfl, k1, k2, k3, k4, k5⟩
          · exact .inl ha
          · have hne := hGne q pre k2
            exact .inr ⟨q, o, sz, len, c, pre, rfl, k1, k2, k3, fun e => ⟨(k4 e).1, by rw [hget, if_neg hne]; exact (k4 e).2⟩, fun d e => by
              obtain ⟨z1, l, z2, z3⟩ := k5 d e
              exact ⟨z1, l, by rw [hget, if_neg hne]; exact z2, z3⟩⟩
        have hownS : ∀ j o, ownAt (st.h.set i (.cells (putV l off (cellsV x)) ((if rt = true then [off] else []) ++ own.filter fun o => !(decide (off ≤ o) && decide (o < off + n))))) j o = true → (j = i ∧ o = off ∧ rt = true) ∨ (ownAt st.h j o = true ∧ (j = i → ¬ (off ≤ o ∧ o < off + n))) := fun j o ho => by
          unfold ownAt at ho ⊢
          simp only [VH.set] at ho
          by_cases e : j = i
          · subst e
            rw [if_pos rfl] at ho
            simp only [List.contains_iff_mem, List.mem_append, List.mem_filter, Bool.not_eq_true', Bool.and_eq_false_iff, decide_eq_false_iff_not] at ho
            rcases ho with ho | ho
            · split at ho
              · rename_i hr; simp only [List.mem_singleton] at ho; exact .inl ⟨rfl, ho, hr⟩
              · cases ho
            · right
              rw [hg]
              exact ⟨by simpa using ho.1, fun _ hh => by rcases ho.2 with q | q <;> omega⟩
          · rw [if_neg e] at ho
            exact .inr ⟨ho, fun e' => absurd e' e⟩
        -- a cell that is not written
        have hcell : ∀ j o y, ownAt st.h j o = true → (j = i → ¬ (off ≤ o ∧ o < off + n)) → At fr H φ (.cell j o) y → At fr H' φ (.cell j o) y := fun j o y ho hno hy => by
          obtain ⟨q, cq, ro, e1, e2, e3⟩ := hy
          by_cases e : j = i
          · subst e
            rw [h1] at e1; obtain rfl := Option.some.inj e1
            rw [h3] at e2
            simp only [Option.some.injEq, AObj.cells.injEq] at e2
            obtain ⟨rfl, rfl⟩ := e2
            refine ⟨_, _, _, h1, by rw [hget, if_pos rfl], ?_⟩
            have hno := hno rfl
            have hlt := (List.getElem?_eq_some_iff.1 e3).1
            have hl : cs.length = l.length := h4.length
            unfold putCells
            rw [hcs]
            by_cases hlo : o < off
            · rw [List.append_assoc, List.getElem?_append_left (by simp; omega), List.getElem?_take, if_pos hlo]; exact e3
            · rw [List.getElem?_append_right (by simp; omega), List.getElem?_drop]
              rw [← e3]; congr 1; simp; omega
          · obtain ⟨lj, oj, rj, cj, g1, _, g2, _, _, _, _⟩ := h.cellW ho
            rw [g2] at e1; obtain rfl := Option.some.inj e1
            have hne : rj ≠ r := fun e' => e (by subst e'; exact h.inj j i rj _ _ g1 hg g2 h1)
            exact ⟨_, cq, ro, g2, by rw [hget, if_neg hne]; exact e2, e3⟩
        let org : Rt → Option Rt := fun R => match R with
          | .cell j o => if j = i ∧ o = off ∧ rt = true then (match hk : (Classical.propDecidable (∃ k, (k, Tag.own) ∈ st.w ∧ (k, Tag.own) ∉ w' ∧ Fr.get fr k = some xa)) with | isTrue e => some (.slot (Classical.choose e)) | isFalse _ => none) else some (.cell j o)
          | R => some R
        have hall := rights_of h (st' := ⟨st.f, w', st.h.set i (.cells (putV l off (cellsV x)) ((if rt = true then [off] else []) ++ own.filter fun o => !(decide (off ≤ o) && decide (o < off + n))))⟩) (fr' := fr) (H' := H') (φ' := φ) (G' := G) (W' := W) org (fun R hR => ?_) (fun R R' hR hR' e => ?_)
        · refine ⟨h.slots, fun j o ho => ?_, fun j k q oj ok hj hk => ?_, h.dom, h.glob, h.n100, fun q pre hq => ?_, h.win, hall.1, hall.2, fun m j o hm _ => absurd hm (hnc m j o)⟩
          · simp only [VH.set] at ho
            split at ho
            · rename_i e; subst e
              obtain rfl := Option.some.inj ho
              have := h.objs j _ hg
              exact ⟨this.1, r, h1, hWr, hGr, _, by rw [hget, if_pos rfl], put_rel h4 hcl⟩
            · rename_i e
              obtain ⟨k1, q, k2, k3, k4, k5⟩ := h.objs j o ho
              have hne : q ≠ r := fun e' => e (by subst e'; exact h.inj j i q _ _ ho hg k2 h1)
              refine ⟨k1, q, k2, k3, k4, ?_⟩
              cases o with
              | cells lo oo => obtain ⟨cq, z1, z2⟩ := k5; exact ⟨cq, by rw [hget, if_neg hne]; exact z1, z2⟩
              | map lo => obtain ⟨cq, z1, z2⟩ := k5; exact ⟨cq, by rw [hget, if_neg hne]; exact z1, z2⟩
          · have old : ∀ j oj, (st.h.set i (.cells (putV l off (cellsV x)) ((if rt = true then [off] else []) ++ own.filter fun o => !(decide (off ≤ o) && decide (o < off + n))))).get j = some oj → ∃ o, st.h.get j = some o := fun j oj hj => by
              simp only [VH.set] at hj
              split at hj
              · rename_i e; subst e; exact ⟨_, hg⟩
              · exact ⟨_, hj⟩
            obtain ⟨_, z1⟩ := old j oj hj
            obtain ⟨_, z2⟩ := old k ok hk
            exact h.inj j k q _ _ z1 z2
          · obtain ⟨k1, lq, rq, k2, k3⟩ := h.fz q pre hq
            exact ⟨k1, lq, rq, by rw [hget, if_neg (hGne q pre hq)]; exact k2, k3⟩
        · -- where the rights come from
          cases R with
          | slot m =>
            obtain ⟨y, k1, k2⟩ := h.rt (.slot m) (hw _ _ hR)
            exact ⟨y, k1, hcan y k2, hw _ _ hR, y, k1, rfl⟩
          | part m j =>
            obtain ⟨y, k1, k2⟩ := h.rt (.part m j) (hw _ _ hR)
            exact ⟨y, k1, hcan y k2, hw _ _ hR, y, k1, rfl⟩
          | cell j o =>
            rcases hownS j o hR with ⟨rfl, rfl, hr⟩ | ⟨ho, hno⟩
            · obtain ⟨hn1, hcase⟩ := hrt hr
              have hnew : At fr H' φ (.cell j o) xa := by
                refine ⟨r, _, false, h1, by rw [hget, if_pos rfl], ?_⟩
                have hxa : cellsOf xa = [xa] := by
                  rcases hcase with ⟨s, c, rfl⟩ | ⟨k, k1, _, k2⟩
                  · rfl
                  · obtain ⟨y, k3, k4⟩ := h.rt (.slot k) k1
                    simp only [At] at k3
                    rw [k2] at k3
                    obtain rfl := Option.some.inj k3
                    rcases k4 with ⟨s, c, rfl⟩ | ⟨_, _, _, _, _, _, rfl, _⟩ <;> rfl
                have hl : cs.length = l.length := h4.length
                unfold putCells
                rw [hxa, List.append_assoc, List.getElem?_append_right (by simp; omega)]
                simp
                rw [Nat.min_eq_left (by omega), Nat.sub_self]; rfl
              refine ⟨xa, hnew, ?_, ?_⟩
              · rcases hcase with ⟨s, c, rfl⟩ | ⟨k, k1, _, k2⟩
                · exact .inl ⟨s, c, rfl⟩
                · obtain ⟨y, k3, k4⟩ := h.rt (.slot k) k1
                  simp only [At] at k3
                  rw [k2] at k3
                  obtain rfl := Option.some.inj k3
                  exact hcan _ k4
              · simp only [org]
                rw [if_pos ⟨trivial, trivial, hr⟩]
                split
                · rename_i e0
                  split at e0
                  · cases e0
                  · rename_i hne _
                    rcases hcase with ⟨s, c, rfl⟩ | hk
                    · intro q e; cases e
                    · exact absurd hk hne
                · rename_i R0 e0
                  split at e0
                  · rename_i e _
                    obtain rfl := Option.some.inj e0
                    have := Classical.choose_spec e
                    exact ⟨this.1, xa, this.2.2, rfl⟩
                  · cases e0
            · obtain ⟨y, k1, k2⟩ := h.rt (.cell j o) ho
              refine ⟨y, hcell j o y ho hno k1, hcan y k2, ?_⟩
              have : ¬ (j = i ∧ o = off ∧ rt = true) := fun ⟨e1, e2, e3⟩ => hno e1 (by have := (hrt e3).1; omega)
              simp only [org]
              rw [if_neg this]
              exact ⟨ho, y, k1, rfl⟩
        · -- two rights have two sources
          have slotne : ∀ m j o, (m, Tag.own) ∈ w' → org (.cell j o) ≠ some (.slot m) := fun m j o hm e => by
            simp only [org] at e
            split at e
            · split at e
              · rename_i e2 _
                have := Classical.choose_spec e2
                simp only [Option.some.injEq, Rt.slot.injEq] at e
                rw [e] at this
                exact this.2.1 hm
              · cases e
            · cases e
          have cellcase : ∀ j o, org (.cell j o) = none ∨ (∃ m, org (.cell j o) = some (.slot m)) → j = i ∧ o = off := fun j o e => by
            simp only [org] at e
            split at e
            · rename_i hc; exact ⟨hc.1, hc.2.1⟩
            · rcases e with e | ⟨m, e⟩ <;> cases e
          have cellother : ∀ j o j' o', org (.cell j o) = some (.cell j' o') → j = j' ∧ o = o' := fun j o j' o' e => by
            simp only [org] at e
            split at e
            · split at e <;> cases e
            · simp only [Option.some.injEq, Rt.cell.injEq] at e; exact e
          cases R with
          | slot m =>
            cases R' with
            | slot m' => exact Option.some.inj e
            | part m' j' => cases e
            | cell j o => exact absurd e.symm (slotne m j o hR)
          | part m j =>
            cases R' with
            | slot m' => cases e
            | part m' j' => exact Option.some.inj e
            | cell j' o =>
              exfalso
              have e' : org (.cell j' o) = some (.part m j) := e.symm
              simp only [org] at e'
              split at e'
              · split at e' <;> cases e'
              · cases e'
          | cell j o =>
            cases R' with
            | slot m' => exact absurd e (slotne m' j o hR')
            | part m' j' =>
              exfalso
              have e' : org (.cell j o) = some (.part m' j') := e
              simp only [org] at e'
              split at e'
              · split at e' <;> cases e'
              · cases e'
            | cell j' o' =>
              cases ho : org (.cell j o) with
              | none =>
                obtain ⟨rfl, rfl⟩ := cellcase j o (.inl ho)
                obtain ⟨rfl, rfl⟩ := cellcase j' o' (.inl (e.symm.trans ho))
                rfl
              | some R0 =>
                cases R0 with
                | slot m =>
                  obtain ⟨rfl, rfl⟩ := cellcase j o (.inr ⟨m, ho⟩)
                  obtain ⟨rfl, rfl⟩ := cellcase j' o' (.inr ⟨m, e.symm.trans ho⟩)
                  rfl
                | part m k =>
                  exfalso
                  simp only [org] at ho
                  split at ho
                  · split at ho <;> cases ho
                  · cases ho
                | cell a b =>
                  obtain ⟨rfl, rfl⟩ := cellother j o a b ho
                  obtain ⟨rfl, rfl⟩ := cellother j' o' j o (e.symm.trans ho)
                  rfl
      · cases hs
    · cases hs
  · cases hs
end
end Go.Proofs.YtlecbjcloleiiaaDoor.Val

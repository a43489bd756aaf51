import Derived.Test.YtlecbjcloleiiaaDoorValK
/-! The second machine is sound: what a call comes to there it comes to here. -/
namespace Go.Proofs.YtlecbjcloleiiaaDoor.Val
open Go Go.Proofs.YtlecbjcloleiiaaDoor.Ram
section
variable {φ : Bk} {G : Fz} {W : Nat → Prop} {st : VS} {fr : Fr} {H : AH}

theorem mapSet_rel {l : List (List UInt8 × V)} {l' : List (List UInt8 × AV)} (h : MapV φ G l l') (s : List UInt8) {v : V} {a : AV} (hv : VRel φ G v a) : MapV φ G (mapSetV l s v) (mapSet l' s a) := by
  induction h with
  | nil => exact .cons hv .nil
  | cons hw hr ih =>
    rename_i k w b l l'
    simp only [mapSetV, mapSet]
    split
    · exact .cons hv hr
    · exact .cons hw ih
theorem mapDel_rel {l : List (List UInt8 × V)} {l' : List (List UInt8 × AV)} (h : MapV φ G l l') (s : List UInt8) : MapV φ G (mapDelV l s) (mapDel l' s) := by
  induction h with
  | nil => exact .nil
  | cons hw hr ih =>
    simp only [mapDelV, mapDel]
    split
    · exact hr
    · exact .cons hw ih
/-- A map is written. -/
theorem Rel.setMap (h : Rel φ G W st fr H) {i r : Nat} {l l2 : List (List UInt8 × V)} {l' l2' : List (List UInt8 × AV)} (hg : st.h.get i = some (.map l)) (hr : φ i = some r) (hH : H.get r = some (.map l' false)) (h2 : MapV φ G l2 l2') :
    Rel φ G W ⟨st.f, st.w, st.h.set i (.map l2)⟩ fr (H.set r (.map l2' false)) ∧ Frm φ G W H φ G W (H.set r (.map l2' false)) := by
  obtain ⟨hi, r', h1, hW, hG, _⟩ := h.objs i _ hg
  rw [hr] at h1; obtain rfl := Option.some.inj h1
  have hget : ∀ q, (H.set r (.map l2' false)).get q = if q = r then some (.map l2' false) else H.get q := fun q => rfl
  have hvget : ∀ q, (st.h.set i (.map l2)).get q = if q = i then some (.map l2) else st.h.get q := fun q => rfl
  have hown : ∀ j o, ownAt (st.h.set i (.map l2)) j o = true → j ≠ i ∧ ownAt st.h j o = true := fun j o ho => by
    unfold ownAt at ho ⊢
    rw [hvget] at ho
    by_cases e : j = i
    · rw [if_pos e] at ho; cases ho
    · rw [if_neg e] at ho; exact ⟨e, ho⟩
  have hhas : ∀ R, Has ⟨st.f, st.w, st.h.set i (.map l2)⟩ R → Has st R := fun R hR => by
    cases R with
    | slot n => exact hR
    | part n j => exact hR
    | cell j o => exact (hown j o hR).2
  have hne : ∀ q, G q ≠ none → q ≠ r := fun q hq e => hq (by rw [e]; exact hG)
  have hat : ∀ R x, Has st R → (At fr (H.set r (.map l2' false)) φ R x ↔ At fr H φ R x) := fun R x hR => by
    cases R with
    | slot n => exact Iff.rfl
    | part n j => exact Iff.rfl
    | cell j o =>
      obtain ⟨lj, own, q, cs, g1, g2, g3, g4, g5, g6, g7⟩ := h.cellW hR
      have hqr : q ≠ r := fun e => by subst e; rw [hH] at g6; cases g6
      constructor
      · rintro ⟨q', cs', ro, e1, e2, e3⟩
        rw [g3] at e1; obtain rfl := Option.some.inj e1
        rw [hget, if_neg hqr] at e2
        exact ⟨_, cs', ro, g3, e2, e3⟩
      · rintro ⟨q', cs', ro, e1, e2, e3⟩
        rw [g3] at e1; obtain rfl := Option.some.inj e1
        exact ⟨_, cs', ro, g3, by rw [hget, if_neg hqr]; exact e2, e3⟩
  refine ⟨⟨h.slots, fun j o ho => ?_, fun j k q oj ok hj hk => ?_, h.dom, h.glob, h.n100, fun q pre hq => ?_, h.win, fun R hR => ?_, fun R R' a a' q hR hR' ha ha' => ?_, fun n j o hm ho => ?_⟩, ⟨Nat.le_refl _, BkLe.refl _, FzLe.refl _, fun q _ hq => ⟨by rw [hget, if_neg (fun e => hq (by rw [e]; exact hW))], rfl, rfl⟩, fun q hq => .inl hq⟩⟩
  · rw [hvget] at ho
    split at ho
    · rename_i e; subst e
      obtain rfl := Option.some.inj ho
      exact ⟨hi, r, hr, hW, hG, l2', by rw [hget, if_pos rfl], h2⟩
    · rename_i e
      obtain ⟨k1, q, k2, k3, k4, k5⟩ := h.objs j o ho
      have hqr : q ≠ r := fun e' => e (by subst e'; exact h.inj j i q _ _ ho hg k2 hr)
      refine ⟨k1, q, k2, k3, k4, ?_⟩
      cases o with
      | cells lo oo => obtain ⟨cq, z1, z2⟩ := k5; exact ⟨cq, by rw [hget, if_neg hqr]; exact z1, z2⟩
      | map lo => obtain ⟨cq, z1, z2⟩ := k5; exact ⟨cq, by rw [hget, if_neg hqr]; exact z1, z2⟩
  · have old : ∀ j oj, (st.h.set i (.map l2)).get j = some oj → ∃ o, st.h.get j = some o := fun j oj hj => by
      rw [hvget] at hj
      split at hj
      · rename_i e; subst e; exact ⟨_, hg⟩
      · exact ⟨_, hj⟩
    obtain ⟨_, z1⟩ := old j oj hj
    obtain ⟨_, z2⟩ := old k ok hk
    exact h.inj j k q _ _ z1 z2
  · obtain ⟨k1, lq, rq, k2, k3⟩ := h.fz q pre hq
    exact ⟨k1, lq, rq, by rw [hget, if_neg (hne q (by rw [hq]; simp))]; exact k2, k3⟩
  · obtain ⟨a, h3, h4⟩ := h.rt R (hhas R hR)
    refine ⟨a, (hat R a (hhas R hR)).2 h3, ?_⟩
    rcases h4 with h4 | ⟨q, o, sz, len, c, pre, rfl, k1, k2, k3, k4, k5⟩
    · exact .inl h4
    · have hqr := hne q (by rw [k2]; simp)
      exact .inr ⟨q, o, sz, len, c, pre, rfl, k1, k2, k3, fun e => ⟨(k4 e).1, by rw [hget, if_neg hqr]; exact (k4 e).2⟩, fun d e => by
        obtain ⟨z1, l, z2, z3⟩ := k5 d e
        exact ⟨z1, l, by rw [hget, if_neg hqr]; exact z2, z3⟩⟩
  · exact h.rtx R R' a a' q (hhas R hR) (hhas R' hR') ((hat R a (hhas R hR)).1 ha) ((hat R' a' (hhas R' hR')).1 ha')
  · obtain ⟨a, h3, h4⟩ := h.alias n j o hm (hown j o ho).2
    exact ⟨a, h3, (hat (.cell j o) a (hown j o ho).2).2 h4⟩
theorem noCell_mem {w : Rts} {m i o : Nat} : (m, Tag.cell i o) ∉ w.noCell := fun h => by
  simp only [Rts.noCell, List.mem_filter] at h
  cases h.2
theorem noCell_sub {w : Rts} {p : Nat × Tag} (h : p ∈ w.noCell) : p ∈ w := by
  simp only [Rts.noCell, List.mem_filter] at h; exact h.1

/-- EVERY OPERATION. -/
theorem mem_noCellNew {n : Nat} {w : Rts} {p : Nat × Tag} (h : p ∈ noCellNew n w) : p ∈ w ∧ ∀ i off, p.2 = .cell i off → i < n := by
  obtain ⟨h1, h2⟩ := List.mem_filter.1 h
  refine ⟨h1, fun i off e => ?_⟩
  rw [e] at h2
  simpa using h2
theorem Rel.gainNew {f : VFr} {w : Rts} {S : VH} {H : AH} {l : List V} {own : List Nat} {cs : List AV} (h : Rel φ G W ⟨f, w, S.push (.cells l [])⟩ fr (H.push (.cells cs false))) (hφ : φ S.next = some H.next)
    (hnil : ∀ j ∈ own, ∃ s c, cs[j]? = some (.sl none s 0 c)) : Rel φ G W ⟨f, noCellNew S.next w, S.push (.cells l own)⟩ fr (H.push (.cells cs false)) := by
  have old : ∀ i off, i ≠ S.next → ownAt (S.push (.cells l own)) i off = ownAt (S.push (.cells l [])) i off := fun i off e => by
    simp [ownAt, VH.push, e]
  refine h.gain rfl rfl (fun i o hi => ?_) (fun R hR => ?_) fun n i off hm ho => ?_
  · by_cases e : i = S.next
    · subst e
      simp only [VH.push, if_true, Option.some.injEq] at hi ⊢
      subst hi
      exact ⟨_, rfl, rfl⟩
    · refine ⟨o, by simpa [VH.push, e] using hi, ?_⟩
      cases o <;> rfl
  · cases R with
    | slot n => exact .inl (mem_noCellNew hR).1
    | part n j => exact .inl (mem_noCellNew hR).1
    | cell i off =>
      by_cases e : i = S.next
      · subst e
        right
        simp only [Has, ownAt, VH.push, if_true] at hR
        obtain ⟨s, c, h1⟩ := hnil off (by simpa using hR)
        exact ⟨s, c, H.next, cs, false, hφ, by simp [AH.push], h1⟩
      · left
        simp only [Has] at hR ⊢
        rw [← old i off e]; exact hR
  · obtain ⟨h1, h2⟩ := mem_noCellNew hm
    have := h2 i off rfl
    refine ⟨h1, ?_⟩
    rw [← old i off (by omega)]; exact ho
theorem mem_compsOf {w : Rts} {x : Opd} {v : V} {j : Nat} (h : j ∈ compsOf w x v) : ∃ n l, x = .t n ∧ v = .agg l ∧ (n, Tag.comp j) ∈ w := by
  unfold compsOf at h
  split at h
  · rename_i n l
    obtain ⟨⟨m, t⟩, h1, h2⟩ := List.mem_filterMap.1 h
    refine ⟨n, l, rfl, rfl, ?_⟩
    cases t with
    | own => cases h2
    | cell i o => cases h2
    | comp j' =>
      simp only at h2
      split at h2
      · rename_i e; obtain rfl := Option.some.inj h2; subst e; exact h1
      · cases h2
  · cases h
theorem op_rel {E : Env} {Fl : Flags} {O : VOracle} {A : Oracle} (hO : VOSound O A) (h : Rel φ G W st fr H) {dst : Option Nat} {op : AOp} {st' : VS} (hs : opV E Fl O st dst op = some st') :
    ∃ r φ' G' W', opA E A fr H op = some r ∧ Rel φ' G' W' st' (putD fr dst r.1) r.2 ∧ Frm φ G W H φ' G' W' r.2 := by
  unfold opV at hs
  split at hs
  · rename_i hp
    simp only [Option.map_eq_some_iff] at hs
    obtain ⟨v, h1, rfl⟩ := hs
    obtain ⟨a, h2, h3⟩ := pure_rel h hp h1
    exact ⟨(some a, H), φ, G, W, by simp [opA, hp, h2], setS_rel (E := E) h (.inl hp) h3 (by rw [if_pos hp]; exact ⟨h1, h2⟩) dst, Frm.refl _ _ _ _⟩
  · rename_i hp
    split at hs
    · rename_i hq
      simp only [Option.map_eq_some_iff] at hs
      obtain ⟨v, h1, rfl⟩ := hs
      obtain ⟨a, h2, h3⟩ := read_rel h hq h1
      exact ⟨(some a, H), φ, G, W, by simp [opA, hp, hq, h2], setS_rel (E := E) h (.inr hq) h3 (by rw [if_neg hp]; exact ⟨h1, h2⟩) dst, Frm.refl _ _ _ _⟩
    · rename_i hq
      cases op <;> first | (exact absurd rfl hp) | (exact absurd rfl hq) | skip
      case alloc zero =>
        simp only [actV, Option.bind_eq_some_iff, Option.map_eq_some_iff] at hs
        obtain ⟨z, h1, d, rfl, rfl⟩ := hs
        obtain ⟨h2, h3⟩ := h.block (o := .cells z []) (bo := .cells zero false) (fun φ' _ => ⟨rfl, zero, rfl, ofAVs_rel h1⟩)
        exact ⟨(some (.ptr (some (H.next, 0))), H.push (.cells zero false)), _, _, _, rfl, (h2.put_del (v := .ptr (some (st.h.next, 0))) (a := .ptr (some (H.next, 0))) (by simp only [VRel]; exact ⟨H.next, by simp [Bk.put], rfl⟩)).gainNew (by simp [Bk.put]) (fun j hj => by obtain ⟨_, s, c, h4⟩ := mem_nilsFrom hj; exact ⟨s, c, h4⟩), h3⟩
      case box x =>
        simp only [actV, Option.bind_eq_some_iff] at hs
        obtain ⟨v, h1, hs⟩ := hs
        split at hs
        · rename_i hc
          simp only [Option.map_eq_some_iff] at hs
          obtain ⟨d, rfl, rfl⟩ := hs
          obtain ⟨a, k1, k2⟩ := h.ev h1
          obtain ⟨h2, h3⟩ := h.block (o := .cells (cellsV v) []) (bo := .cells (cellsOf a) false) (fun φ' hle => ⟨rfl, _, rfl, (k2.mono hle (FzLe.refl _)).cells⟩)
          refine ⟨(some (.ptr (some (H.next, 0))), H.push (.cells (cellsOf a) false)), _, _, _, ?_, (h2.put_del (v := .ptr (some (st.h.next, 0))) (a := .ptr (some (H.next, 0))) (by simp only [VRel]; exact ⟨H.next, by simp [Bk.put], rfl⟩)).gainNew (by simp [Bk.put]) (fun j hj => ?_), h3⟩
          rotate_left
          · obtain ⟨n, l, rfl, rfl, hm⟩ := mem_compsOf hj
            obtain ⟨y, ⟨cs, k3 | ⟨k3, s, c, rfl⟩, k4⟩, _⟩ := h.rt (.part n j) hm
            · simp only [VRel] at k2
              obtain ⟨cs', rfl, _⟩ := k2
              simp only [Opd.ev] at k1
              rw [k3] at k1; cases k1
            · simp only [Opd.ev] at k1
              rw [k3] at k1
              obtain rfl := Option.some.inj k1
              exact ⟨s, c, k4⟩
          simp only [opA, AOp.isPure, AOp.isRead, AOp.isMake, Bool.false_eq_true, if_false, if_true, makeA, k1, Option.bind_some]
          rw [if_pos (by rw [k2.cells.one]; exact hc)]; rfl
        · cases hs
      case mkMap =>
        simp only [actV, Option.map_eq_some_iff] at hs
        obtain ⟨d, rfl, rfl⟩ := hs
        obtain ⟨h2, h3⟩ := h.block (o := .map []) (bo := .map [] false) (fun φ' _ => ⟨[], rfl, .nil⟩)
        exact ⟨(some (.map (some H.next)), H.push (.map [] false)), _, _, _, rfl, h2.put_del (v := .map (some st.h.next)) (a := .map (some H.next)) (by simp only [VRel]; exact ⟨H.next, by simp [Bk.put], rfl⟩), h3⟩
      case bslice sz len zero parts =>
        simp only [actV, Option.bind_eq_some_iff] at hs
        obtain ⟨z, h1, ps, h2, l, h3, hs⟩ := hs
        split at hs
        · rename_i hc
          simp only [Option.map_eq_some_iff] at hs
          obtain ⟨d, rfl, rfl⟩ := hs
          obtain ⟨qs, k1, k2⟩ := h.parts h2
          obtain ⟨s, k3, k4⟩ := fill_rel k2 (ofAVs_rel h1) h3
          have hl := k4.length
          obtain ⟨h5, h6⟩ := h.newList (d := d) (sz := sz) (rows := rowsOf sz len l) (cs := s) (cap := len) (pre := s) (RowsRel.of_rowsOf k4 hc.1) (by rw [rowsOf_len]; omega) (List.prefix_refl _) (by rw [rowsOf_len]; exact Nat.le_refl _) (by omega)
          rw [rowsOf_len] at h5
          refine ⟨(some (.sl (some (H.next, 0)) sz len (some len)), H.push (.cells s false)), _, _, _, ?_, h5, h6⟩
          simp only [opA, AOp.isPure, AOp.isRead, AOp.isMake, Bool.false_eq_true, if_false, if_true, makeA, k1, k3, Option.bind_some, Option.map_some]
        · cases hs
      case store n a v =>
        cases dst with
        | some d => simp [actV] at hs
        | none =>
          simp only [actV, Option.isSome_none, Bool.false_eq_true, if_false, Option.bind_eq_some_iff, Option.map_eq_some_iff] at hs
          obtain ⟨p, h1, x, h2, S, h3, rfl⟩ := hs
          obtain ⟨pa, k1, k2⟩ := h.ev h1
          obtain ⟨xa, k3, k4⟩ := h.ev h2
          have g1 : ∀ m t, (m, t) ∈ storeW st.w v (storeRt st.w n v) → (m, t) ∈ st.w := fun m t hm => by
            unfold storeW at hm
            split at hm
            · split at hm
              · exact (mem_ne.1 (noCell_sub hm)).1
              · exact noCell_sub hm
            · exact noCell_sub hm
          have g2 : ∀ m i o, (m, Tag.cell i o) ∉ storeW st.w v (storeRt st.w n v) := fun m i o hm => by
            unfold storeW at hm
            split at hm
            · split at hm <;> exact noCell_mem hm
            · exact noCell_mem hm
          have g3 : storeRt st.w n v = true → n = 1 ∧ ((∃ s c, xa = .sl none s 0 c) ∨ ∃ k, (k, Tag.own) ∈ st.w ∧ (k, Tag.own) ∉ storeW st.w v (storeRt st.w n v) ∧ Fr.get fr k = some xa) := fun hr => by
            have hr0 := hr
            unfold storeRt at hr
            split at hr
            · rename_i k
              simp only [Bool.and_eq_true, decide_eq_true_eq, List.contains_iff_mem] at hr
              refine ⟨hr.1, .inr ⟨k, hr.2, fun hm => ?_, k3⟩⟩
              rw [hr0] at hm
              simp only [storeW, if_true] at hm
              exact (mem_ne.1 (noCell_sub hm)).2 rfl
            · rename_i q sz' nn cc
              simp only [decide_eq_true_eq] at hr
              refine ⟨hr, .inl ?_⟩
              exact VRel.nilc (st := st) (x := .c (.sl none sz' nn cc)) rfl h2 k3
            · cases hr
          obtain ⟨H', k5, k6, k7⟩ := h.store k2 k4 h3 g1 g2 g3
          exact ⟨(none, H'), φ, G, W, by simp [opA, AOp.isPure, AOp.isRead, AOp.isMake, actA, k1, k3, k5], k6, k7⟩
      case mkSlice sz bytes zero len cap =>
        simp only [actV, Option.bind_eq_some_iff] at hs
        obtain ⟨l, h1, c, h2, hs⟩ := hs
        split at hs
        · rename_i k l k' c
          split at hs
          · rename_i hc
            obtain ⟨rfl, c0, c1, c2, c3, c4⟩ := hc
            simp only [Option.map_eq_some_iff] at hs
            obtain ⟨d, rfl, rfl⟩ := hs
            obtain ⟨a, k1, k2⟩ := h.ev h1
            obtain ⟨b, k3, k4⟩ := h.ev h2
            simp only [VRel] at k2 k4
            subst k2; subst k4
            have hfl : (List.replicate c.toNat zero).flatten.length = c.toNat * sz := by
              rw [List.length_flatten, List.map_replicate, List.sum_replicate_nat, c4]
            obtain ⟨h5, h6⟩ := h.newList (d := d) (sz := sz) (rows := []) (cs := (List.replicate c.toNat zero).flatten) (cap := c.toNat) (pre := []) (by simp [RowsRel]) (by simp) (List.nil_prefix) (Nat.zero_le _) (by omega)
            refine ⟨(some (.sl (some (H.next, 0)) sz 0 (some c.toNat)), H.push (.cells (List.replicate c.toNat zero).flatten false)), _, _, _, ?_, h5, h6⟩
            simp only [opA, AOp.isPure, AOp.isRead, AOp.isMake, Bool.false_eq_true, if_false, actA, k1, k3]
            rw [if_pos ⟨by omega, by omega, c1, c2⟩]; rfl
          · cases hs
        · cases hs
      case slc3 sz x hi mx => simp [actV] at hs
      case mset m k v =>
        simp only [actV, Option.bind_eq_some_iff] at hs
        obtain ⟨mv, h1, kv, h2, x, h3, hs⟩ := hs
        split at hs
        · rename_i i s
          split at hs
          · rename_i l hg
            split at hs
            · rename_i hc
              obtain rfl := Option.some.inj hs
              simp only [Bool.and_eq_true, Option.isNone_iff_eq_none] at hc
              obtain ⟨hc1, rfl⟩ := hc
              obtain ⟨a, k1, k2⟩ := h.ev h1
              obtain ⟨b, k3, k4⟩ := h.ev h2
              obtain ⟨xa, k5, k6⟩ := h.ev h3
              simp only [VRel] at k2 k4
              subst k4
              obtain ⟨r, k7, rfl⟩ := k2
              obtain ⟨_, r', e1, _, _, l', e2, e3⟩ := h.objs i _ hg
              rw [k7] at e1; obtain rfl := Option.some.inj e1
              obtain ⟨h5, h6⟩ := h.setMap hg k7 e2 (mapSet_rel e3 s k6)
              refine ⟨(none, H.set r (.map (mapSet l' s xa) false)), φ, G, W, ?_, h5, h6⟩
              simp only [opA, AOp.isPure, AOp.isRead, AOp.isMake, Bool.false_eq_true, if_false, actA, k1, k3, k5, e2]
              rw [if_pos (by rw [k6.one]; exact hc1)]
            · cases hs
          · cases hs
        · cases hs
      case mdel m k =>
        simp only [actV, Option.bind_eq_some_iff] at hs
        obtain ⟨mv, h1, kv, h2, hs⟩ := hs
        split at hs
        · rename_i i s
          split at hs
          · rename_i l hg
            obtain rfl := Option.some.inj hs
            obtain ⟨a, k1, k2⟩ := h.ev h1
            obtain ⟨b, k3, k4⟩ := h.ev h2
            simp only [VRel] at k2 k4
            subst k4
            obtain ⟨r, k7, rfl⟩ := k2
            obtain ⟨_, r', e1, _, _, l', e2, e3⟩ := h.objs i _ hg
            rw [k7] at e1; obtain rfl := Option.some.inj e1
            obtain ⟨h5, h6⟩ := h.setMap hg k7 e2 (mapDel_rel e3 s)
            refine ⟨(some (.tup []), H.set r (.map (mapDel l' s) false)), φ, G, W, by simp only [opA, AOp.isPure, AOp.isRead, AOp.isMake, Bool.false_eq_true, if_false, actA, k1, k3, e2], ?_, h6⟩
            cases dst with
            | none => exact h5
            | some d => exact h5.put_del (v := .tup []) (a := .tup []) (by simp [VRel, VRels])
          · cases hs
        · cases hs
      case callF f args =>
        simp only [actV, Option.bind_eq_some_iff, callR, Option.map_eq_some_iff] at hs
        obtain ⟨vs, h1, ⟨v, rs, S'⟩, h2, rfl⟩ := hs
        obtain ⟨as', k1, k2⟩ := h.evs h1
        have hc := h.callee (l := Fl.lin f) (caps := []) (caps' := []) h1 k1 (by simpa using k2) (.inl rfl)
        simp only [List.append_nil] at hc
        obtain ⟨a, H', φ', G', W', k3, k4, k5⟩ := hO f vs _ _ v rs S' h2 _ _ _ _ as' hc k2.length
        obtain ⟨W2, k6, k7⟩ := h.back k4 k5 dst
        refine ⟨(some a, H'), φ', G', W2, by simp [opA, AOp.isPure, AOp.isRead, AOp.isMake, actA, k1, k3], ?_, k7⟩
        cases dst <;> exact k6
      case callV x args =>
        simp only [actV, Option.bind_eq_some_iff] at hs
        obtain ⟨c, h0, hs⟩ := hs
        split at hs
        · rename_i f caps
          split at hs
          · rename_i hl
            simp only [Option.bind_eq_some_iff, callR, Option.map_eq_some_iff] at hs
            obtain ⟨vs, h1, ⟨v, rs, S'⟩, h2, rfl⟩ := hs
            obtain ⟨as', k1, k2⟩ := h.evs h1
            obtain ⟨ca, k8, k9⟩ := h.ev h0
            simp only [VRel] at k9
            obtain ⟨cs, rfl, k9⟩ := k9
            have hc := h.callee (l := Fl.lin f) (caps := caps) (caps' := cs) h1 k1 (k2.append k9) (.inr hl)
            obtain ⟨a, H', φ', G', W', k3, k4, k5⟩ := hO f (vs ++ caps) _ _ v rs S' h2 _ _ _ _ (as' ++ cs) hc (by simp [k2.length, k9.length])
            obtain ⟨W2, k6, k7⟩ := h.back k4 k5 dst
            refine ⟨(some a, H'), φ', G', W2, by simp [opA, AOp.isPure, AOp.isRead, AOp.isMake, actA, k1, k8, k3], ?_, k7⟩
            cases dst <;> exact k6
          · cases hs
        · cases hs
      case append fz sz bytes x y =>
        simp only [actV] at hs
        split at hs
        · rename_i hf
          subst hf
          simp only [Option.bind_eq_some_iff] at hs
          obtain ⟨d, rfl, hs⟩ := hs
          obtain ⟨a, b, r, H', G', W', k1, k2, k3, k4, k5⟩ := h.append hs
          exact ⟨(some r, H'), φ, G', W', by simp [opA, AOp.isPure, AOp.isRead, AOp.isMake, actA, k1, k2, appendX, k3], k4, k5⟩
        · cases hs
      case copy sz d s => simp [actV] at hs
      case clear sz zero x => simp [actV] at hs
theorem wanted_rel (h : Rel φ G W st fr H) {g : Option (Nat × Bool)} {b : Bool} (hw : wantedV st.f g = some b) : wantedA fr g = some b := by
  cases g with
  | none => exact hw
  | some q =>
    obtain ⟨t, want⟩ := q
    simp only [wantedV] at hw
    split at hw
    · rename_i e
      obtain ⟨a, h1, h2⟩ := h.slots _ _ e
      simp only [VRel] at h2; subst h2
      simpa only [wantedA, h1] using hw
    · rename_i e
      obtain ⟨a, h1, h2⟩ := h.slots _ _ e
      simp only [VRel] at h2; subst h2
      simpa only [wantedA, h1] using hw
    · cases hw
theorem step_rel {E : Env} {Fl : Flags} {O : VOracle} {A : Oracle} (hO : VOSound O A) (h : Rel φ G W st fr H) {o : AOper} {st' : VS} (hs : stepV E Fl O o st = some st') :
    ∃ fr' H' φ' G' W', stepA E A o (fr, H) = some (fr', H') ∧ Rel φ' G' W' st' fr' H' ∧ Frm φ G W H φ' G' W' H' := by
  unfold stepV at hs
  split at hs
  · cases hs
  · rename_i e
    have e' := wanted_rel h e
    obtain rfl := Option.some.inj hs
    refine ⟨putD fr o.dst (some .und), H, φ, G, W, by unfold stepA; simp only [e'], ?_, Frm.refl _ _ _ _⟩
    cases o.dst with
    | none => exact h
    | some d => exact h.put_del (v := .und) (a := .und) (by simp [VRel])
  · rename_i e
    have e' := wanted_rel h e
    obtain ⟨r, φ', G', W', h1, h2, h3⟩ := op_rel hO h hs
    exact ⟨_, _, φ', G', W', by unfold stepA; simp only [e', h1]; rfl, h2, h3⟩
theorem ops_rel {E : Env} {Fl : Flags} {O : VOracle} {A : Oracle} (hO : VOSound O A) {l : List AOper} : ∀ {φ : Bk} {G : Fz} {W : Nat → Prop} {st : VS} {fr : Fr} {H : AH}, Rel φ G W st fr H → ∀ {st' : VS}, opsV E Fl O l st = some st' →
    ∃ fr' H' φ' G' W', opsA E A l (fr, H) = some (fr', H') ∧ Rel φ' G' W' st' fr' H' ∧ Frm φ G W H φ' G' W' H' := by
  induction l with
  | nil =>
    intro φ G W st fr H h st' hs
    obtain rfl := Option.some.inj hs
    exact ⟨fr, H, φ, G, W, rfl, h, Frm.refl _ _ _ _⟩
  | cons o l ih =>
    intro φ G W st fr H h st' hs
    simp only [opsV, Option.bind_eq_some_iff] at hs
    obtain ⟨s1, h1, h2⟩ := hs
    obtain ⟨fr1, H1, φ1, G1, W1, k1, k2, k3⟩ := step_rel hO h h1
    obtain ⟨fr2, H2, φ2, G2, W2, k4, k5, k6⟩ := ih k2 h2
    exact ⟨fr2, H2, φ2, G2, W2, by simp only [opsA, k1, Option.bind_some]; exact k4, k5, k3.trans k6⟩
/-- The older frame over the newer memory. -/
theorem Rel.mixed (h : Rel φ G W st fr H) {φ' : Bk} {G' : Fz} {W' : Nat → Prop} {st' : VS} {fr' : Fr} {H' : AH} (h' : Rel φ' G' W' st' fr' H') (hf : Frm φ G W H φ' G' W' H') : Rel φ' G' W' ⟨st.f, [], st'.h⟩ fr H' where
  slots := fun n v hv => by obtain ⟨a, h1, h2⟩ := h.slots n v hv; exact ⟨a, h1, h2.mono hf.phi hf.fz⟩
  objs := h'.objs
  inj := h'.inj
  dom := h'.dom
  glob := h'.glob
  n100 := h'.n100
  fz := h'.fz
  win := h'.win
  rt := fun R hR => by
    cases R with
    | slot n => cases hR
    | part n j => cases hR
    | cell i off => exact h'.rt (.cell i off) hR
  rtx := fun R R' a a' r hR hR' ha ha' => by
    cases R with
    | slot n => cases hR
    | part n j => cases hR
    | cell i off =>
      cases R' with
      | slot n => cases hR'
      | part n j => cases hR'
      | cell i' off' => exact h'.rtx (.cell i off) (.cell i' off') a a' r hR hR' ha ha'
  alias := fun n i off hm => by cases hm
theorem dreg_rel {E : Env} {Fl : Flags} {O : VOracle} {A : Oracle} (hO : VOSound O A) {all l : List DOp} : ∀ {φ : Bk} {G : Fz} {W : Nat → Prop} {st : VS} {fr : Fr} {H : AH}, Rel φ G W st fr H → ∀ {st' : VS}, dregV E Fl O all l st = some st' →
    ∃ fr' H' φ' G' W', dregA E A all l (fr, H) = some (fr', H') ∧ Rel φ' G' W' st' fr' H' ∧ Frm φ G W H φ' G' W' H' := by
  induction l with
  | nil =>
    intro φ G W st fr H h st' hs
    obtain rfl := Option.some.inj hs
    exact ⟨fr, H, φ, G, W, rfl, h, Frm.refl _ _ _ _⟩
  | cons o l ih =>
    intro φ G W st fr H h st' hs
    simp only [dregV, Option.bind_eq_some_iff] at hs
    obtain ⟨s1, h1, h2⟩ := hs
    split at h2
    · rename_i hc
      obtain ⟨fr1, H1, φ1, G1, W1, k1, k2, k3⟩ := step_rel hO h h1
      obtain ⟨fr2, H2, φ2, G2, W2, k4, k5, k6⟩ := ih k2 h2
      refine ⟨fr2, H2, φ2, G2, W2, ?_, k5, k3.trans k6⟩
      simp only [dregA, k1, Option.bind_some]
      rw [if_pos (fun j hj r hr => ?_)]
      · exact k4
      · rcases hc j hj r hr with e | ⟨e, v, e1, e2, e3⟩
        · exact .inl (wanted_rel h e)
        · refine .inr ⟨wanted_rel h e, ?_⟩
          have hrd : r.op.isRead = true := by
            generalize r.op = op at e1
            cases op <;> first | rfl | (simp [readV] at e1)
          obtain ⟨a, q1, q2⟩ := read_rel h hrd e2
          obtain ⟨b, q3, q4⟩ := read_rel (h.mixed k2 k3) (st := ⟨st.f, [], s1.h⟩) hrd e1
          rw [q1, q3, VRel.rigid e3 q2 q4 k3.phi]
    · cases h2
/-- What is not live any more is struck. -/
theorem vget_keep {f : VFr} {l : List Nat} {n : Nat} {v : V} (h : VFr.get (VFr.keep f l) n = some v) : n ∈ l ∧ VFr.get f n = some v := by
  induction l with
  | nil => cases h
  | cons m l ih =>
    unfold VFr.keep at h ih
    rw [List.filterMap_cons] at h
    cases e : VFr.get f m with
    | none =>
      rw [e] at h
      obtain ⟨h1, h2⟩ := ih h
      exact ⟨List.mem_cons_of_mem _ h1, h2⟩
    | some w =>
      rw [e] at h
      simp only [Option.map_some, VFr.get] at h
      split at h
      · rename_i e2; subst e2; obtain rfl := Option.some.inj h; exact ⟨List.mem_cons_self, e⟩
      · obtain ⟨h1, h2⟩ := ih h
        exact ⟨List.mem_cons_of_mem _ h1, h2⟩
theorem get_keep' {f : Fr} {l : List Nat} {n : Nat} (h : n ∈ l) : Fr.get (Fr.keep f l) n = Fr.get f n := by
  induction l with
  | nil => cases h
  | cons m l ih =>
    unfold Fr.keep at ih ⊢
    rw [List.filterMap_cons]
    cases e : Fr.get f m with
    | none =>
      simp only [Option.map_none]
      rcases List.mem_cons.1 h with rfl | h
      · by_cases hm : n ∈ l
        · exact ih hm
        · rw [e]
          clear ih h
          induction l with
          | nil => rfl
          | cons k l ih2 =>
            rw [List.filterMap_cons]
            cases e3 : Fr.get f k with
            | none => simp only [Option.map_none]; exact ih2 (fun h => hm (List.mem_cons_of_mem _ h))
            | some w => simp only [Option.map_some, Fr.get]; rw [if_neg (fun e4 => hm (by rw [e4]; exact List.mem_cons_self))]; exact ih2 (fun h => hm (List.mem_cons_of_mem _ h))
      · exact ih h
    | some w =>
      simp only [Option.map_some, Fr.get]
      split
      · rename_i e2; subst e2; exact e.symm
      · rename_i e2
        rcases List.mem_cons.1 h with rfl | h
        · exact absurd rfl e2
        · exact ih h
theorem Rel.keep (h : Rel φ G W st fr H) (l : List Nat) : Rel φ G W ⟨VFr.keep st.f l, Rts.keep st.w l, st.h⟩ (Fr.keep fr l) H := by
  have hm : ∀ n t, (n, t) ∈ Rts.keep st.w l → (n, t) ∈ st.w ∧ n ∈ l := fun n t h => by
    simp only [Rts.keep, List.mem_filter, List.contains_iff_mem] at h; exact h
  have hhas : ∀ R, Has ⟨VFr.keep st.f l, Rts.keep st.w l, st.h⟩ R → Has st R ∧ ∀ x, At (Fr.keep fr l) H φ R x ↔ At fr H φ R x := fun R hR => by
    cases R with
    | slot n => obtain ⟨h1, h2⟩ := hm _ _ hR; exact ⟨h1, fun x => by simp only [At]; rw [get_keep' h2]⟩
    | part n j => obtain ⟨h1, h2⟩ := hm _ _ hR; exact ⟨h1, fun x => by simp only [At]; rw [get_keep' h2]⟩
    | cell i off => exact ⟨hR, fun x => Iff.rfl⟩
  refine ⟨fun n v hv => ?_, h.objs, h.inj, h.dom, h.glob, h.n100, h.fz, h.win, fun R hR => ?_, fun R R' a a' r hR hR' ha ha' => ?_, fun n i off hq ho => ?_⟩
  · obtain ⟨h1, h2⟩ := vget_keep hv
    obtain ⟨a, h3, h4⟩ := h.slots n v h2
    exact ⟨a, by rw [get_keep' h1]; exact h3, h4⟩
  · obtain ⟨h1, h2⟩ := hhas R hR
    obtain ⟨a, h3, h4⟩ := h.rt R h1
    exact ⟨a, (h2 a).2 h3, h4⟩
  · obtain ⟨h1, h2⟩ := hhas R hR
    obtain ⟨h1', h2'⟩ := hhas R' hR'
    exact h.rtx R R' a a' r h1 h1' ((h2 a).1 ha) ((h2' a').1 ha')
  · obtain ⟨h1, h2⟩ := hm _ _ hq
    obtain ⟨a, h3, h4⟩ := h.alias n i off h1 ho
    exact ⟨a, by rw [get_keep' h2]; exact h3, h4⟩
/-- New blocks are dropped: nothing that stays names them. -/
theorem Rel.trim (h : Rel φ G W st fr H) {φ1 : Bk} {G1 : Fz} {W1 : Nat → Prop} {st1 : VS} {fr1 : Fr} {H1 : AH} (h1 : Rel φ1 G1 W1 st1 fr1 H1) (hf : Frm φ G W H φ1 G1 W1 H1) (hc : cloH st.h st1.h) (hcf : cloF st.h.next st1.f = true) (w' : Rts) (hw : ∀ n t, (n, t) ∈ w' → (n, t) ∈ st1.w) (hw2 : ∀ n i off, (n, Tag.cell i off) ∈ w' → i < st.h.next) :
    Rel (fun i => if i < st.h.next then φ1 i else none) G1 W1 ⟨st1.f, w', VH.trim st.h st1.h⟩ fr1 H1 ∧ Frm φ G W H (fun i => if i < st.h.next then φ1 i else none) G1 W1 H1 := by
  have hag : ∀ i r, i < 100 ∨ i < st.h.next → φ1 i = some r → (if i < st.h.next then φ1 i else none) = some r := fun i r hi hr => by
    have := h.n100.1
    rw [if_pos (by omega)]; exact hr
  have hget : ∀ i o, (VH.trim st.h st1.h).get i = some o → i < st.h.next ∧ st1.h.get i = some o := fun i o ho => by
    simp only [VH.trim] at ho
    split at ho
    · rename_i e; exact ⟨e, ho⟩
    · rename_i e; exact absurd (h.objs i o ho).1 e
  have hown : ∀ i off, ownAt (VH.trim st.h st1.h) i off = true → i < st.h.next ∧ ownAt st1.h i off = true := fun i off ho => by
    unfold ownAt at ho
    split at ho
    · rename_i l own hg
      obtain ⟨k1, k2⟩ := hget i _ hg
      exact ⟨k1, by unfold ownAt; rw [k2]; exact ho⟩
    · cases ho
  have hhas : ∀ R, Has ⟨st1.f, w', VH.trim st.h st1.h⟩ R → Has st1 R ∧ ∀ x, At fr1 H1 (fun i => if i < st.h.next then φ1 i else none) R x ↔ At fr1 H1 φ1 R x := fun R hR => by
    cases R with
    | slot n => exact ⟨hw _ _ hR, fun x => Iff.rfl⟩
    | part n j => exact ⟨hw _ _ hR, fun x => Iff.rfl⟩
    | cell i off =>
      obtain ⟨k1, k2⟩ := hown i off hR
      refine ⟨k2, fun x => ?_⟩
      simp only [At]; rw [if_pos k1]
  refine ⟨⟨fun n v hv => ?_, fun i o ho => ?_, fun i j r oi oj hi hj hri hrj => ?_, fun i r hi => ?_, fun g hg => ?_, ⟨h.n100.1, h1.n100.2⟩, h1.fz, h1.win, fun R hR => ?_, fun R R' a a' r hR hR' ha ha' => ?_, fun n i off hm ho => ?_⟩, ⟨hf.next, fun i r hi => ?_, hf.fz, hf.out, hf.win⟩⟩
  · obtain ⟨a, k1, k2⟩ := h1.slots n v hv
    refine ⟨a, k1, k2.clo hag ?_⟩
    have : ∀ (f : VFr), cloF st.h.next f = true → VFr.get f n = some v → V.clo st.h.next v = true := by
      intro f
      induction f with
      | nil => intro _ h; cases h
      | cons p f ih =>
        intro hq hv
        obtain ⟨k, u⟩ := p
        simp only [cloF, List.all_cons, Bool.and_eq_true] at hq
        simp only [VFr.get] at hv
        split at hv
        · obtain rfl := Option.some.inj hv; exact hq.1
        · exact ih hq.2 hv
    exact this st1.f hcf hv
  · obtain ⟨k1, k2⟩ := hget i o ho
    obtain ⟨_, r, k3, k4, k5, k6⟩ := h1.objs i o k2
    refine ⟨k1, r, by rw [if_pos k1]; exact k3, k4, k5, ?_⟩
    have hclo : o.clo st.h.next = true := by
      rcases hc i k1 with e | e
      · rw [k2] at e
        obtain ⟨_, r0, _, _, _, q⟩ := h.objs i o e.symm
        cases o with
        | cells l own =>
          obtain ⟨cs, _, q⟩ := q
          exact VRels.clo_of (fun i r => h.dom i r) q
        | map l =>
          obtain ⟨cs, _, q⟩ := q
          simp only [VObj.clo, List.all_eq_true]
          exact q.clo_of (fun i r => h.dom i r)
      · exact e o k2
    cases o with
    | cells l own =>
      obtain ⟨cs, q1, q2⟩ := k6
      exact ⟨cs, q1, q2.clo hag hclo⟩
    | map l =>
      obtain ⟨cs, q1, q2⟩ := k6
      simp only [VObj.clo, List.all_eq_true] at hclo
      exact ⟨cs, q1, q2.clo hag hclo⟩
  · obtain ⟨k1, k2⟩ := hget i oi hi
    obtain ⟨k3, k4⟩ := hget j oj hj
    rw [if_pos k1] at hri
    rw [if_pos k3] at hrj
    exact h1.inj i j r oi oj k2 k4 hri hrj
  · split at hi
    · assumption
    · cases hi
  · have := h.n100.1
    rw [if_pos (by omega)]; exact h1.glob g hg
  · obtain ⟨k1, k2⟩ := hhas R hR
    obtain ⟨a, k3, k4⟩ := h1.rt R k1
    exact ⟨a, (k2 a).2 k3, k4⟩
  · obtain ⟨k1, k2⟩ := hhas R hR
    obtain ⟨k1', k2'⟩ := hhas R' hR'
    exact h1.rtx R R' a a' r k1 k1' ((k2 a).1 ha) ((k2' a').1 ha')
  · obtain ⟨k1, k2⟩ := hown i off ho
    obtain ⟨a, k3, k4⟩ := h1.alias n i off (hw _ _ hm) k2
    refine ⟨a, k3, ?_⟩
    obtain ⟨r, cs, ro, e1, e2⟩ := k4
    exact ⟨r, cs, ro, by show (if i < st.h.next then φ1 i else none) = some r; rw [if_pos k1]; exact e1, e2⟩
  · have := h.dom i r hi
    rw [if_pos this]; exact hf.phi i r hi
theorem exec_rel {E : Env} {Fl : Flags} {O : VOracle} {A : Oracle} (hO : VOSound O A) {n : Nat} {c : ACode} : ∀ {φ : Bk} {G : Fz} {W : Nat → Prop} {st : VS} {fr : Fr} {H : AH}, Rel φ G W st fr H → ∀ {e : AEx} {st' : VS}, vexec E Fl O n c st = some (e, st') →
    ∃ fr' H' φ' G' W', execL E A c (fr, H) = some (e, (fr', H')) ∧ Rel φ' G' W' st' fr' H' ∧ Frm φ G W H φ' G' W' H' := by
  induction c with
  | skip => intro φ G W st fr H h e st' hs; obtain ⟨rfl, rfl⟩ := Prod.mk.inj (Option.some.inj hs); exact ⟨fr, H, φ, G, W, rfl, h, Frm.refl _ _ _ _⟩
  | reg ops =>
    intro φ G W st fr H h e st' hs
    simp only [vexec, Option.map_eq_some_iff] at hs
    obtain ⟨s, h1, h2⟩ := hs
    obtain ⟨rfl, rfl⟩ := Prod.mk.inj h2
    obtain ⟨fr', H', φ', G', W', k1, k2, k3⟩ := ops_rel hO h h1
    exact ⟨fr', H', φ', G', W', by simp [execL, k1], k2, k3⟩
  | dreg ops =>
    intro φ G W st fr H h e st' hs
    simp only [vexec, Option.map_eq_some_iff] at hs
    obtain ⟨s, h1, h2⟩ := hs
    obtain ⟨rfl, rfl⟩ := Prod.mk.inj h2
    obtain ⟨fr', H', φ', G', W', k1, k2, k3⟩ := dreg_rel hO h h1
    exact ⟨fr', H', φ', G', W', by simp [execL, k1], k2, k3⟩
  | keep l c ih =>
    intro φ G W st fr H h e st' hs
    simp only [vexec] at hs
    exact ih (h.keep l) hs
  | seq a b iha ihb =>
    intro φ G W st fr H h e st' hs
    simp only [vexec] at hs
    rw [seqV_some] at hs
    rcases hs with ⟨s, h1, h2⟩ | ⟨h1, h2⟩
    · obtain ⟨fr1, H1, φ1, G1, W1, k1, k2, k3⟩ := iha h h1
      obtain ⟨fr2, H2, φ2, G2, W2, k4, k5, k6⟩ := ihb k2 h2
      exact ⟨fr2, H2, φ2, G2, W2, by simp only [execL, k1]; exact k4, k5, k3.trans k6⟩
    · obtain ⟨fr1, H1, φ1, G1, W1, k1, k2, k3⟩ := iha h h1
      refine ⟨fr1, H1, φ1, G1, W1, ?_, k2, k3⟩
      simp only [execL, k1]
      cases e with
      | norm => exact absurd rfl (h2 st')
      | exit i => rfl
      | ret => rfl
  | cond c a b iha ihb =>
    intro φ G W st fr H h e st' hs
    simp only [vexec, condV] at hs
    split at hs
    · rename_i hc
      obtain ⟨x, h1, h2⟩ := h.ev hc
      simp only [VRel] at h2; subst h2
      obtain ⟨fr1, H1, φ1, G1, W1, k1, k2, k3⟩ := iha h hs
      exact ⟨fr1, H1, φ1, G1, W1, by simp only [execL, condR, h1]; exact k1, k2, k3⟩
    · rename_i hc
      obtain ⟨x, h1, h2⟩ := h.ev hc
      simp only [VRel] at h2; subst h2
      obtain ⟨fr1, H1, φ1, G1, W1, k1, k2, k3⟩ := ihb h hs
      exact ⟨fr1, H1, φ1, G1, W1, by simp only [execL, condR, h1]; exact k1, k2, k3⟩
    · cases hs
  | block id b ih =>
    intro φ G W st fr H h e st' hs
    simp only [vexec] at hs
    cases hb : vexec E Fl O n b st with
    | none => rw [hb] at hs; cases hs
    | some p =>
      obtain ⟨e0, s0⟩ := p
      rw [hb] at hs
      obtain ⟨fr1, H1, φ1, G1, W1, k1, k2, k3⟩ := ih h hb
      cases e0 with
      | norm =>
        obtain ⟨rfl, rfl⟩ := Prod.mk.inj (Option.some.inj hs)
        exact ⟨fr1, H1, φ1, G1, W1, by simp only [execL, k1]; rfl, k2, k3⟩
      | ret =>
        obtain ⟨rfl, rfl⟩ := Prod.mk.inj (Option.some.inj hs)
        exact ⟨fr1, H1, φ1, G1, W1, by simp only [execL, k1]; rfl, k2, k3⟩
      | exit j =>
        simp only [blockV] at hs
        split at hs
        · rename_i hj
          obtain ⟨rfl, rfl⟩ := Prod.mk.inj (Option.some.inj hs)
          exact ⟨fr1, H1, φ1, G1, W1, by simp only [execL, k1, blockR]; rw [if_pos hj], k2, k3⟩
        · rename_i hj
          obtain ⟨rfl, rfl⟩ := Prod.mk.inj (Option.some.inj hs)
          exact ⟨fr1, H1, φ1, G1, W1, by simp only [execL, k1, blockR]; rw [if_neg hj], k2, k3⟩
  | loop b ih =>
    intro φ G W st fr H h e st' hs
    simp only [vexec] at hs
    have key : ∀ k {φ : Bk} {G : Fz} {W : Nat → Prop} {st : VS} {fr : Fr} {H : AH}, Rel φ G W st fr H → loopNV (fun s => roundV s.h (vexec E Fl O n b s.top)) k st = some (e, st') →
        ∃ fr' H' φ' G' W', loopL (execL E A b) (fr, H) = some (e, (fr', H')) ∧ Rel φ' G' W' st' fr' H' ∧ Frm φ G W H φ' G' W' H' := by
      intro k
      induction k with
      | zero => intro φ G W st fr H h hs; cases hs
      | succ k ihk =>
        intro φ G W st fr H h hs
        simp only [loopNV] at hs
        have h := h.fewer st.top rfl (fun n t hm => noCell_sub hm) (.inl rfl) W (fun r hr => hr) (fun r h1 h2 => absurd h1 h2)
        cases hb : vexec E Fl O n b st.top with
        | none => rw [hb] at hs; cases hs
        | some p =>
          obtain ⟨e0, s0⟩ := p
          rw [hb] at hs
          obtain ⟨fr1, H1, φ1, G1, W1, k1, k2, k3⟩ := ih h hb
          cases e0 with
          | norm =>
            have hr : ∃ s1 φ2 W2, roundV st.h (some (.norm, s0)) = some (.norm, s1) ∧ Rel φ2 G1 W2 s1 fr1 H1 ∧ Frm φ G W H φ2 G1 W2 H1 := by
              simp only [roundV]
              split
              · rename_i hc
                obtain ⟨q1, q2⟩ := h.trim k2 k3 hc.1 hc.2 (noCellNew st.h.next s0.w) (fun n t hm => by simp only [noCellNew, List.mem_filter] at hm; exact hm.1) (fun n i off hm => by simp only [noCellNew, List.mem_filter, decide_eq_true_eq] at hm; exact hm.2)
                exact ⟨_, _, _, rfl, q1, q2⟩
              · exact ⟨_, _, _, rfl, k2, k3⟩
            obtain ⟨s1, φ2, W2, e1, e2, e3⟩ := hr
            rw [e1] at hs
            obtain ⟨fr3, H3, φ3, G3, W3, k4, k5, k6⟩ := ihk e2 hs
            exact ⟨fr3, H3, φ3, G3, W3, by rw [loopL_eq, k1]; exact k4, k5, e3.trans k6⟩
          | ret =>
            have e1 : roundV st.h (some (.ret, s0)) = some (.ret, s0) := rfl
            rw [e1] at hs
            obtain ⟨rfl, rfl⟩ := Prod.mk.inj (Option.some.inj hs)
            exact ⟨fr1, H1, φ1, G1, W1, by rw [loopL_eq, k1]; rfl, k2, k3⟩
          | exit i =>
            have e1 : roundV st.h (some (.exit i, s0)) = some (.exit i, s0) := rfl
            rw [e1] at hs
            obtain ⟨rfl, rfl⟩ := Prod.mk.inj (Option.some.inj hs)
            exact ⟨fr1, H1, φ1, G1, W1, by rw [loopL_eq, k1]; rfl, k2, k3⟩
    exact key n h hs
  | exit id => intro φ G W st fr H h e st' hs; obtain ⟨rfl, rfl⟩ := Prod.mk.inj (Option.some.inj hs); exact ⟨fr, H, φ, G, W, rfl, h, Frm.refl _ _ _ _⟩
  | ret => intro φ G W st fr H h e st' hs; obtain ⟨rfl, rfl⟩ := Prod.mk.inj (Option.some.inj hs); exact ⟨fr, H, φ, G, W, rfl, h, Frm.refl _ _ _ _⟩
  | bad => intro φ G W st fr H h e st' hs; cases hs
theorem res_rel (h : Rel φ G W st fr H) : ∀ {res : List ARes} {l : List V}, resV st res = some l → ∃ l', resA (fr, H) res = some l' ∧ VRels φ G l l' ∧ ∀ (j t : Nat), (res[j]?).bind tmpOf = some t → ∃ x, l'[j]? = some x ∧ Fr.get fr t = some x
  | [], _, hl => by simp only [resV, Option.some.injEq] at hl; subst hl; exact ⟨[], rfl, by simp [VRels], fun j t h => by simp at h⟩
  | .tmp t :: res, _, hl => by
    simp only [resV, Option.bind_eq_some_iff, Option.map_eq_some_iff] at hl
    obtain ⟨v, h1, l, h2, rfl⟩ := hl
    obtain ⟨a, k1, k2⟩ := h.slots t v h1
    obtain ⟨l', k3, k4, k5⟩ := res_rel h h2
    refine ⟨a :: l', by simp [resA, k1, k3], by simp only [VRels]; exact ⟨a, l', rfl, k2, k4⟩, fun j t' hj => ?_⟩
    cases j with
    | zero => simp [tmpOf] at hj; subst hj; exact ⟨a, rfl, k1⟩
    | succ j => simp at hj; obtain ⟨x, q1, q2⟩ := k5 j t' (by simpa using hj); exact ⟨x, by simpa using q1, q2⟩
  | .cell t n ag :: res, _, hl => by
    simp only [resV, Option.bind_eq_some_iff, Option.map_eq_some_iff] at hl
    obtain ⟨p, h1, v, h0, l, h2, rfl⟩ := hl
    obtain ⟨a, k1, k2⟩ := h.slots t p h1
    obtain ⟨b, q3, q4⟩ := h.load k2 h0
    obtain ⟨l', k3, k4, k5⟩ := res_rel h h2
    refine ⟨b :: l', by simp [resA, k1, q3, k3], by simp only [VRels]; exact ⟨b, l', rfl, q4, k4⟩, fun j t' hj => ?_⟩
    cases j with
    | zero => simp [tmpOf] at hj
    | succ j => simp at hj; obtain ⟨x, q1, q2⟩ := k5 j t' (by simpa using hj); exact ⟨x, by simpa using q1, q2⟩
theorem tmps_inj : ∀ {res : List ARes} {j j' t : Nat}, (res.filterMap tmpOf).Nodup → (res[j]?).bind tmpOf = some t → (res[j']?).bind tmpOf = some t → j = j'
  | [], _, _, _, _, h, _ => by simp at h
  | x :: res, j, j', t, hn, h, h' => by
    have hin : ∀ k, (res[k]?).bind tmpOf = some t → t ∈ res.filterMap tmpOf := fun k hk => by
      simp only [Option.bind_eq_some_iff] at hk
      obtain ⟨y, h1, h2⟩ := hk
      exact List.mem_filterMap.2 ⟨y, List.mem_of_getElem? h1, h2⟩
    rw [List.filterMap_cons] at hn
    cases j with
    | zero =>
      cases j' with
      | zero => rfl
      | succ j' =>
        exfalso
        simp at h h'
        rw [h] at hn
        exact (List.nodup_cons.1 hn).1 (hin j' (by simpa using h'))
    | succ j =>
      cases j' with
      | zero =>
        exfalso
        simp at h h'
        rw [h'] at hn
        exact (List.nodup_cons.1 hn).1 (hin j (by simpa using h))
      | succ j' =>
        simp at h h'
        have hn' : (res.filterMap tmpOf).Nodup := by
          split at hn
          · exact hn
          · exact (List.nodup_cons.1 hn).2
        exact congrArg (· + 1) (tmps_inj (j := j) (j' := j') (t := t) hn' (by simpa using h) (by simpa using h'))
theorem tup_rel {l : List V} {l' : List AV} (h : VRels φ G l l') : VRel φ G (tupV l) (tupOf l') := by
  cases l with
  | nil => simp only [VRels] at h; subst h; simp [tupV, tupOf, VRel, VRels]
  | cons v l =>
    cases l with
    | nil => simp only [VRels] at h; obtain ⟨a, r, rfl, h1, rfl⟩ := h; exact h1
    | cons w l =>
      have h0 := h
      simp only [VRels] at h
      obtain ⟨a, r, rfl, h1, b, r', rfl, h2, h3⟩ := h
      simp only [tupV, tupOf, VRel]
      exact ⟨_, rfl, h0⟩
def AnsOk (F : AFun) (l : List V) : Rt → Rt → Prop
  | .cell i off, R0 => R0 = .cell i off
  | .slot m, R0 => m = 0 ∧ l.length = 1 ∧ ∃ s, R0 = .slot s
  | .part m j, R0 => m = 0 ∧ l.length ≠ 1 ∧ ∃ s, R0 = .slot s ∧ (F.res[j]?).bind tmpOf = some s ∧ (F.res.filterMap tmpOf).Nodup
/-- A call's answer, as a state of one slot. -/
theorem Rel.answer (h : Rel φ G W st fr H) {Fl : Flags} {f : Nat} {F : AFun} {l : List V} (hl : resV st F.res = some l) : ∃ l', resA (fr, H) F.res = some l' ∧ Rel φ G W ⟨[(0, tupV l)], gives 0 (tupV l) (rtsR Fl f F st.w l), st.h⟩ [(0, tupOf l')] H := by
  obtain ⟨l', h1, h2, h3⟩ := res_rel h hl
  have h4 := tup_rel h2
  refine ⟨l', h1, ?_⟩
  -- a right of the answer comes from a slot
  have src : ∀ m t, (m, t) ∈ gives 0 (tupV l) (rtsR Fl f F st.w l) → m = 0 ∧ ∃ j s, (F.res[j]?).bind tmpOf = some s ∧ (s, Tag.own) ∈ st.w ∧ (F.res.filterMap tmpOf).Nodup ∧ ((t = .own ∧ l.length = 1 ∧ j = 0) ∨ (t = .comp j ∧ l.length ≠ 1)) := fun m t hm => by
    have hres : ∀ j, j ∈ resR st.w F.res → ∃ s, (F.res[j]?).bind tmpOf = some s ∧ (s, Tag.own) ∈ st.w ∧ (F.res.filterMap tmpOf).Nodup := fun j hj => by
      unfold resR at hj
      split at hj
      · rename_i hn
        simp only [List.mem_filter] at hj
        have := hj.2
        split at this
        · rename_i s e; exact ⟨s, e, by simpa using this, hn⟩
        · cases this
      · cases hj
    have hr : ∀ j, j ∈ rtsR Fl f F st.w l → j ∈ resR st.w F.res ∧ ∀ v, l = [v] → ∃ sz rows, v = .lst sz rows := fun j hj => by
      unfold rtsR at hj
      split at hj
      · split at hj
        · exact ⟨hj, fun v e => by cases e; exact ⟨_, _, rfl⟩⟩
        · cases hj
        · rename_i hn1 hn2; exact ⟨hj, fun v e => absurd e (hn2 v)⟩
      · cases hj
    unfold gives at hm
    split at hm
    · rename_i tl htl
      simp only [List.mem_map, List.mem_eraseDups, Prod.mk.injEq] at hm
      obtain ⟨j, hj, rfl, rfl⟩ := hm
      obtain ⟨q1, q2⟩ := hr j hj
      obtain ⟨s, q3, q4, q5⟩ := hres j q1
      refine ⟨rfl, j, s, q3, q4, q5, .inr ⟨rfl, fun e => ?_⟩⟩
      match l, e with
      | [v], _ =>
        obtain ⟨sz, rows, rfl⟩ := q2 v rfl
        simp [tupV] at htl
    · rename_i sz rows htl
      split at hm
      · rename_i hc
        simp only [List.mem_singleton, Prod.mk.injEq] at hm
        obtain ⟨rfl, rfl⟩ := hm
        have hc : 0 ∈ rtsR Fl f F st.w l := by simpa using hc
        obtain ⟨q1, q2⟩ := hr 0 hc
        obtain ⟨s, q3, q4, q5⟩ := hres 0 q1
        refine ⟨rfl, 0, s, q3, q4, q5, .inl ⟨rfl, ?_, rfl⟩⟩
        match l with
        | [] => simp [tupV] at htl
        | [v] => rfl
        | _ :: _ :: _ => simp [tupV] at htl
      · cases hm
    · cases hm
  have hlen : l'.length = l.length := h2.length
  have hcell : ∀ i off x, At [(0, tupOf l')] H φ (.cell i off) x ↔ At fr H φ (.cell i off) x := fun i off x => Iff.rfl
  have hP : ∀ R, Has ⟨[(0, tupV l)], gives 0 (tupV l) (rtsR Fl f F st.w l), st.h⟩ R → ∃ R0, Has st R0 ∧ (∀ x, At fr H φ R0 x → At [(0, tupOf l')] H φ R x) ∧ AnsOk F l R R0 := fun R hR => by
    cases R with
    | slot m =>
      obtain ⟨rfl, j, s, q1, q2, q3, q4⟩ := src m .own hR
      rcases q4 with ⟨_, q5, rfl⟩ | ⟨q5, _⟩
      · refine ⟨.slot s, q2, fun x hx => ?_, rfl, q5, s, rfl⟩
        obtain ⟨y, q6, q7⟩ := h3 0 s q1
        simp only [At] at hx ⊢
        rw [hx] at q7
        obtain rfl := Option.some.inj q7
        match l', hlen.trans q5 with
        | [z], _ => simp at q6; subst q6; simp [Fr.get, tupOf]
      · cases q5
    | part m j =>
      obtain ⟨rfl, j', s, q1, q2, q3, q4⟩ := src m (.comp j) hR
      rcases q4 with ⟨q5, _⟩ | ⟨q5, q6⟩
      · cases q5
      · cases q5
        refine ⟨.slot s, q2, fun x hx => ?_, rfl, q6, s, rfl, q1, q3⟩
        obtain ⟨y, q7, q8⟩ := h3 j s q1
        simp only [At] at hx ⊢
        rw [hx] at q8
        obtain rfl := Option.some.inj q8
        refine ⟨l', .inl ?_, q7⟩
        match l', (fun e => q6 (hlen.symm.trans e) : l'.length ≠ 1) with
        | [], _ => rfl
        | [_], hne => exact absurd rfl hne
        | _ :: _ :: _, _ => rfl
    | cell i off => exact ⟨.cell i off, hR, fun x hx => hx, rfl⟩
  let org : Rt → Option Rt := fun R => @dite _ (∃ R0, Has st R0 ∧ (∀ x, At fr H φ R0 x → At [(0, tupOf l')] H φ R x) ∧ AnsOk F l R R0) (Classical.propDecidable _) (fun e => some (Classical.choose e)) (fun _ => none)
  have horg : ∀ R, Has ⟨[(0, tupV l)], gives 0 (tupV l) (rtsR Fl f F st.w l), st.h⟩ R → ∃ R0, org R = some R0 ∧ Has st R0 ∧ (∀ x, At fr H φ R0 x → At [(0, tupOf l')] H φ R x) ∧ AnsOk F l R R0 := fun R hR =>
    ⟨Classical.choose (hP R hR), dif_pos (hP R hR), Classical.choose_spec (hP R hR)⟩
  have hall := rights_of h (st' := ⟨[(0, tupV l)], gives 0 (tupV l) (rtsR Fl f F st.w l), st.h⟩) (fr' := [(0, tupOf l')]) (H' := H) (φ' := φ) (G' := G) (W' := W) org (fun R hR => ?_) (fun R R' hR hR' e => ?_)
  · refine ⟨fun n v hv => ?_, h.objs, h.inj, h.dom, h.glob, h.n100, h.fz, h.win, hall.1, hall.2, fun n i off hm _ => ?_⟩
    · simp only [VFr.get] at hv
      split at hv
      · rename_i e; subst e; obtain rfl := Option.some.inj hv; exact ⟨_, by simp [Fr.get], h4⟩
      · cases hv
    · exfalso
      obtain ⟨_, j, s, _, _, _, q | q⟩ := src n _ hm
      · cases q.1
      · cases q.1
  · obtain ⟨R0, e, h5, h6, _⟩ := horg R hR
    obtain ⟨x, q1, q2⟩ := h.rt R0 h5
    refine ⟨x, h6 x q1, q2, ?_⟩
    rw [e]
    exact ⟨h5, x, q1, rfl⟩
  · obtain ⟨R0, e1, _, _, hs⟩ := horg R hR
    obtain ⟨R0', e2, _, _, hs'⟩ := horg R' hR'
    rw [e1, e2] at e
    obtain rfl := Option.some.inj e
    cases R with
    | slot m =>
      cases R' with
      | slot m' => rw [hs.1, hs'.1]
      | part m' j' => exact absurd hs.2.1 hs'.2.1
      | cell i off => obtain ⟨_, _, s, e⟩ := hs; rw [e] at hs'; cases hs'
    | part m j =>
      cases R' with
      | slot m' => exact absurd hs'.2.1 hs.2.1
      | part m' j' =>
        obtain ⟨q1, _, s, q2, q3, q4⟩ := hs
        obtain ⟨q1', _, s', q2', q3', _⟩ := hs'
        rw [q2] at q2'
        simp only [Rt.slot.injEq] at q2'
        subst q2'
        rw [q1, q1', tmps_inj q4 q3 q3']
      | cell i off => obtain ⟨_, _, s, e, _⟩ := hs; rw [e] at hs'; cases hs'
    | cell i off =>
      cases R' with
      | slot m' => obtain ⟨_, _, s, e⟩ := hs'; rw [e] at hs; cases hs
      | part m' j' => obtain ⟨_, _, s, e, _⟩ := hs'; rw [e] at hs; cases hs
      | cell i' off' =>
        have e : (Rt.cell i off) = .cell i' off' := hs.symm.trans hs'
        exact e
end
/-- A table of the second machine over one of the first's. -/
structure VTabOk (TV : VTab) (TR : Tab) : Prop where
  env : TV.E = TR.E
  code : ∀ f F, TV.fn f = some (.code F) → TR.fn f = some (.code F)
  prim : ∀ f p, TV.fn f = some (.prim p) → ∀ (vs : List V) (rs : List Nat) (S : VH) (v : V) (S' : VH), p vs S = some (v, S') → ∀ (φ : Bk) (G : Fz) (W : Nat → Prop) (H : AH) (as' : List AV), Rel φ G W ⟨frV vs, rs.map fun k => (k, .own), S⟩ (frOf as') H → as'.length = vs.length →
    ∃ a H' φ' G' W', Ram.Call TR f as' H = some (a, H') ∧ Rel φ' G' W' ⟨[(0, v)], [], S'⟩ [(0, a)] H' ∧ Frm φ G W H φ' G' W' H'
theorem gives_nil {d : Nat} {v : V} : gives d v [] = [] := by
  unfold gives
  split <;> simp
theorem vcallN_sound {TV : VTab} {TR : Tab} (hT : VTabOk TV TR) : ∀ n, VOSound (vcallN TV n) (Ram.Call TR) := by
  intro n
  induction n with
  | zero => intro f vs rs S v rs' S' h; cases h
  | succ n ih =>
    intro f vs rs S v rs' S' hs φ G W H as' h hl
    unfold vcallN at hs
    cases hd : TV.fn f with
    | none => rw [hd] at hs; cases hs
    | some d =>
      rw [hd] at hs
      cases d with
      | prim p =>
        simp only [Option.map_eq_some_iff] at hs
        obtain ⟨⟨v1, S1⟩, h1, h2⟩ := hs
        simp only [Prod.mk.injEq] at h2
        obtain ⟨rfl, rfl, rfl⟩ := h2
        obtain ⟨a, H', φ', G', W', k1, k2, k3⟩ := hT.prim f p hd vs rs S _ _ h1 φ G W H as' h hl
        exact ⟨a, H', φ', G', W', k1, by rw [gives_nil]; exact k2, k3⟩
      | code F =>
        simp only [vfun] at hs
        split at hs
        · rename_i hnp
          cases hx : vexec TV.E TV.Fl (vcallN TV n) n F.body ⟨frV vs, rs.map fun k => (k, .own), S⟩ with
          | none => rw [hx] at hs; cases hs
          | some p =>
            obtain ⟨e, s1⟩ := p
            rw [hx] at hs
            obtain ⟨fr1, H1, φ1, G1, W1, k1, k2, k3⟩ := exec_rel ih h hx
            rw [hT.env] at k1
            have fin : ∀ r, endV TV.Fl f F S (some (.ret, s1)) = some (v, rs', S') →
                (∀ l', resA (fr1, H1) F.res = some l' → finA F (execL TR.E (Ram.Call TR) F.body (frOf as', H)) = some (tupOf l', H1)) → r = () → ∃ a H' φ' G' W', Ram.Call TR f as' H = some (a, H') ∧ Rel φ' G' W' ⟨[(0, v)], gives 0 v rs', S'⟩ [(0, a)] H' ∧ Frm φ G W H φ' G' W' H' := fun _ hr hfin _ => by
              simp only [endV, Option.bind_eq_some_iff] at hr
              obtain ⟨l, h1, h2⟩ := hr
              obtain ⟨l', q1, q2⟩ := k2.answer (Fl := TV.Fl) (f := f) (F := F) h1
              have hcall : Ram.Call TR f as' H = some (tupOf l', H1) := by
                rw [Call_code (hT.code f F hd)]
                unfold afunL
                rw [if_pos (hl.trans hnp)]
                exact hfin l' q1
              split at h2
              · simp only [Option.some.injEq, Prod.mk.injEq] at h2
                obtain ⟨rfl, rfl, rfl⟩ := h2
                exact ⟨_, H1, φ1, G1, W1, hcall, q2, k3⟩
              · split at h2
                · rename_i hc
                  simp only [Option.some.injEq, Prod.mk.injEq] at h2
                  obtain ⟨rfl, rfl, rfl⟩ := h2
                  obtain ⟨q3, q4⟩ := h.trim q2 k3 hc.1 (by simp [cloF, hc.2]) (gives 0 (tupV l) (rtsR TV.Fl f F s1.w l)) (fun _ _ h => h) (fun n i off hm => by
                    obtain ⟨_, q | ⟨j, q, _⟩⟩ := mem_gives hm
                    · cases q.1
                    · cases q)
                  exact ⟨_, H1, _, G1, W1, hcall, q3, q4⟩
                · cases h2
            cases e with
            | norm => exact fin () hs (fun l' hl' => by rw [k1]; simp [finA, hl']) rfl
            | ret => exact fin () hs (fun l' hl' => by rw [k1]; simp [finA, hl']) rfl
            | exit i => cases hs
        · cases hs
/-- THE SECOND MACHINE IS SOUND. -/
theorem VCall_sound {TV : VTab} {TR : Tab} (hT : VTabOk TV TR) : VOSound (VCall TV) (Ram.Call TR) := fun f vs rs S v rs' S' h => by
  obtain ⟨n, hn⟩ := VCall_iff.1 h
  exact vcallN_sound hT n f vs rs S v rs' S' hn
end Go.Proofs.YtlecbjcloleiiaaDoor.Val

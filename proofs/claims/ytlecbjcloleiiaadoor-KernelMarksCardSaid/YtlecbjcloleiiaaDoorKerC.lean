import Derived.Test.YtlecbjcloleiiaaDoorKerB
/-! What traces are asked: copies, comparisons. -/
namespace Go.Proofs.YtlecbjcloleiiaaDoor.Ram
open Go

/-- New events in memory of their own. -/
structure Own (n : Nat) (H : AH) (v : AV) (rows : List (List AV)) (es : List Ev) : Prop where
  tip : Tip H 5 v rows
  ev : EvRows H rows es
  id : ∀ i, tipId v = some i → n ≤ i
  apart : Apart v rows
  news : News n H rows
theorem c_copied {H : AH} {v : AV} {rows : List (List AV)} {es : List Ev} (hl : ∀ e ∈ es, e.l.length < 1000000) (hn : es.length < 1000000) (hv : Rows H 5 v rows) (he : EvRows H rows es) :
    ∃ v' H' rows', Call U 48 [v] H = some (v', H') ∧ Own H.next H' v' rows' es ∧ Keep H H' := by
  obtain ⟨fr', H', out', rows'', h1, h2, h3, h4, h5, h6, h7, h8⟩ := copied_loop hl hn hv he es.length 0 H (.sl none 1 0 (some 0)) [] (by omega) (Keep.refl H) (.inl ⟨_, _, rfl, rfl⟩) ⟨by simp, fun j e hj => by simp at hj⟩ (fun i hi => by cases hi) (fun r hr => by cases hr) (fun r hr => by cases hr)
  refine ⟨out', H', rows'', ?_, ⟨h3, h4, h5, h6, h7⟩, h8⟩
  rw [Call_of (F := a48) rfl rfl]
  have hlen := hv.len
  rw [he.len] at hlen
  simp at h1
  simp -implicitDefEqProofs [a48, c48, frOf, hlen, h1, h2]
theorem c_trace {H : AH} {k : Nat} {tv : AV} {rest : List AV} {rows : List (List AV)} {es : List Ev} (hk : H.get k = some (.cells (tv :: rest) false)) (hl : ∀ e ∈ es, e.l.length < 1000000) (hn : es.length < 1000000) (hv : Rows H 5 tv rows) (he : EvRows H rows es) :
    ∃ v' H' rows', Call U 16 [.ptr (some (k, 0))] H = some (v', H') ∧ Own H.next H' v' rows' es ∧ Keep H H' := by
  obtain ⟨v', H', rows', h1, h2⟩ := c_copied hl hn hv he
  refine ⟨v', H', rows', ?_, h2⟩
  rw [Call_of (F := a16) rfl rfl]
  simp -implicitDefEqProofs [a16, c16, frOf, load_one hk, h1]
theorem Own.rows {n : Nat} {H : AH} {v : AV} {rows : List (List AV)} {es : List Ev} (h : Own n H v rows es) : Rows H 5 v rows := h.tip.rows h.ev.row

theorem drop_eq_iff {α : Type} {la lb : List α} {j : Nat} (ha : j < la.length) (hb : j < lb.length) : la.drop j = lb.drop j ↔ la[j] = lb[j] ∧ la.drop (j + 1) = lb.drop (j + 1) := by
  rw [List.drop_eq_getElem_cons ha, List.drop_eq_getElem_cons hb, List.cons.injEq]
theorem texts_loop {H : AH} {a b : AV} {la lb : List Str} (ha : Strs H a la) (hb : Strs H b lb) (hl : la.length = lb.length) (hn : la.length < 1000000) : ∀ (d j : Nat), j + d = la.length →
    ∃ fr', (la.drop j = lb.drop j → loopL (execL U.E (Call U) c18l0) ([(0, a), (1, b), (5, .int .i64 j)], H) = some (.exit 0, (fr', H))) ∧
      (la.drop j ≠ lb.drop j → loopL (execL U.E (Call U) c18l0) ([(0, a), (1, b), (5, .int .i64 j)], H) = some (.ret, (fr', H)) ∧ Fr.get fr' 4 = some (.bool false)) := by
  intro d
  have hlen := ha.len
  rw [strRows_len] at hlen
  induction d with
  | zero =>
    intro j hj
    obtain rfl : j = la.length := by omega
    refine ⟨[(0, a), (1, b), (5, .int .i64 la.length), (15, .bool false)], fun _ => ?_, fun h => absurd (by rw [List.drop_length, hl, List.drop_length]) h⟩
    rw [loopL_eq]
    simp -implicitDefEqProofs [c18l0, binA, hlen]
  | succ d ih =>
    intro j hj
    have hja : j < la.length := by omega
    have hjb : j < lb.length := by omega
    obtain ⟨ia, oa, a1, a2⟩ := Strs.at ha (List.getElem?_eq_getElem hja)
    obtain ⟨ib, ob, b1, b2⟩ := Strs.at hb (List.getElem?_eq_getElem hjb)
    have hjc : (j : Int) < (la.length : Int) := by omega
    have hw : IntKind.i64.wrap ((j : Int) + 1) = ((j + 1 : Nat) : Int) := by rw [wrap64 (by omega) (by omega)]; omega
    by_cases he : la[j] = lb[j]
    · obtain ⟨fr', h1, h2⟩ := ih (j + 1) (by omega)
      have hstep : execL U.E (Call U) c18l0 ([(0, a), (1, b), (5, .int .i64 j)], H) = some (.norm, ([(5, .int .i64 (j + 1 : Nat)), (17, .int .i64 (j + 1 : Nat)), (16, .int .i64 j), (0, a), (1, b), (5, .int .i64 j)], H)) := by
        simp -implicitDefEqProofs [c18l0, binA, hlen, hjc, a1, a2, b1, b2, he, hw]
      have hk : loopL (execL U.E (Call U) c18l0) ([(0, a), (1, b), (5, .int .i64 j)], H) = loopL (execL U.E (Call U) c18l0) ([(0, a), (1, b), (5, .int .i64 (j + 1 : Nat))], H) := by
        rw [loopL_eq, hstep, seqR_norm, show c18l0 = ACode.keep [0, 1, 5] _ from rfl, loop_keep]
        simp
      rw [hk]
      exact ⟨fr', fun h => h1 ((drop_eq_iff hja hjb).1 h).2, fun h => h2 fun e => h ((drop_eq_iff hja hjb).2 ⟨he, e⟩)⟩
    · refine ⟨[(4, .bool false), (0, a), (1, b), (5, .int .i64 j), (28, .bool true)], fun h => absurd ((drop_eq_iff hja hjb).1 h).1 he, fun _ => ⟨?_, by simp⟩⟩
      have hstep : execL U.E (Call U) c18l0 ([(0, a), (1, b), (5, .int .i64 j)], H) = some (.ret, ([(4, .bool false), (0, a), (1, b), (5, .int .i64 j), (28, .bool true)], H)) := by
        simp -implicitDefEqProofs [c18l0, binA, hlen, hjc, a1, a2, b1, b2, he, hw]
      rw [loopL_eq, hstep, seqR_ret]
theorem c_sameTexts {H : AH} {a b : AV} {la lb : List Str} (ha : Strs H a la) (hb : Strs H b lb) (hn : la.length < 1000000) : Call U 18 [a, b] H = some (.bool (decide (la = lb)), H) := by
  rw [Call_of (F := a18) rfl rfl]
  have h1 := ha.len
  have h2 := hb.len
  rw [strRows_len] at h1 h2
  by_cases hl : la.length = lb.length
  · obtain ⟨fr', h3, h4⟩ := texts_loop ha hb hl hn la.length 0 (by omega)
    simp at h3 h4
    by_cases he : la = lb
    · have h5 := h3 he
      simp only [he, decide_true]
      subst he
      simp -implicitDefEqProofs [a18, c18, frOf, h1, h2, binA, h5]
    · obtain ⟨h5, h6⟩ := h4 he
      simp -implicitDefEqProofs [a18, c18, frOf, h1, h2, binA, hl, h5, h6, he]
  · have he : la ≠ lb := fun e => hl (by rw [e])
    have hl' : (la.length : Int) ≠ (lb.length : Int) := by omega
    simp -implicitDefEqProofs [a18, c18, frOf, h1, h2, binA, hl', hl, he]

def sameEv (e f : Ev) : Bool := decide (e.kind = f.kind ∧ e.n = f.n ∧ e.a = f.a ∧ e.b = f.b ∧ e.l = f.l)
theorem sameEv_eq {e f : Ev} : sameEv e f = true ↔ e = f := by
  cases e; cases f
  simp [sameEv]
theorem c_sameEvent {H : AH} {ra rb : List AV} {e f : Ev} (ha : EvR H ra e) (hb : EvR H rb f) (hn : e.l.length < 1000000) : ∃ H', Call U 49 [.agg ra, .agg rb] H = some (.bool (sameEv e f), H') ∧ Keep H H' := by
  obtain ⟨k1, n1, a1, b1, l1⟩ := e
  obtain ⟨k2, n2, a2, b2, l2⟩ := f
  obtain ⟨la, rfl, ha⟩ := ha
  obtain ⟨lb, rfl, hb⟩ := hb
  dsimp only at ha hb hn ⊢
  have k : Keep H ((H.push (.cells (evRow k1 n1 a1 b1 la) false)).push (.cells (evRow k2 n2 a2 b2 lb) false)) := (Keep.push _ _).trans (Keep.push _ _)
  have ht := c_sameTexts (ha.keep k) (hb.keep k) hn
  obtain ⟨H1, hH1⟩ : ∃ H1, H1 = (H.push (.cells (evRow k1 n1 a1 b1 la) false)).push (.cells (evRow k2 n2 a2 b2 lb) false) := ⟨_, rfl⟩
  have hp : H.next ≠ H.next + 1 := by omega
  have x : ∀ q, loadA H1 1 false (.ptr (some (H.next, q))) = (evRow k1 n1 a1 b1 la)[q]? := fun q => by
    rw [hH1, load_one (l := evRow k1 n1 a1 b1 la) (ro := false) (by simp [hp])]
  have y : ∀ q, loadA H1 1 false (.ptr (some (H.next + 1, q))) = (evRow k2 n2 a2 b2 lb)[q]? := fun q => by
    rw [hH1, load_one (l := evRow k2 n2 a2 b2 lb) (ro := false) (by simp)]
  have x0 : loadA H1 1 false (.ptr (some (H.next, 0 + 0))) = some (.int .i64 k1) := x 0
  have x1 : loadA H1 1 false (.ptr (some (H.next, 0 + 1))) = some (.int .i64 n1) := x 1
  have x2 : loadA H1 1 false (.ptr (some (H.next, 0 + 2))) = some (.str a1) := x 2
  have x3 : loadA H1 1 false (.ptr (some (H.next, 0 + 3))) = some (.str b1) := x 3
  have x4 : loadA H1 1 false (.ptr (some (H.next, 0 + 4))) = some la := x 4
  have y0 : loadA H1 1 false (.ptr (some (H.next + 1, 0 + 0))) = some (.int .i64 k2) := y 0
  have y1 : loadA H1 1 false (.ptr (some (H.next + 1, 0 + 1))) = some (.int .i64 n2) := y 1
  have y2 : loadA H1 1 false (.ptr (some (H.next + 1, 0 + 2))) = some (.str a2) := y 2
  have y3 : loadA H1 1 false (.ptr (some (H.next + 1, 0 + 3))) = some (.str b2) := y 3
  have y4 : loadA H1 1 false (.ptr (some (H.next + 1, 0 + 4))) = some lb := y 4
  have h1 := evRow_all (k := k1) (n := n1) (a := a1) (b := b1) ha.one
  have h2 := evRow_all (k := k2) (n := n2) (a := a2) (b := b2) hb.one
  rw [← List.all_eq_true] at h1 h2
  rw [← hH1] at k ht
  refine ⟨H1, ?_, k⟩
  rw [Call_of (F := a49) rfl rfl]
  have hfirst : execL U.E (Call U) (.reg [⟨(some 2), .box (.t 0), none⟩, ⟨(some 3), .box (.t 1), none⟩, ⟨(some 4), .mov (.c (.bool false)), none⟩]) (frOf [.agg (evRow k1 n1 a1 b1 la), .agg (evRow k2 n2 a2 b2 lb)], H) = some (.norm, ([(4, .bool false), (3, .ptr (some (H.next + 1, 0))), (2, .ptr (some (H.next, 0))), (0, .agg (evRow k1 n1 a1 b1 la)), (1, .agg (evRow k2 n2 a2 b2 lb))], H1)) := by
    simp -implicitDefEqProofs [-List.all_eq_true, frOf, h1, h2, hH1]
  show finR a49.res (execL U.E (Call U) c49 _) = _
  unfold c49
  rw [x_seq, hfirst, seqR_norm]
  clear hfirst h1 h2 x y hH1 k ha hb hp
  by_cases e1 : k1 = k2
  · subst e1
    by_cases e2 : n1 = n2
    · subst e2
      by_cases e3 : a1 = a2
      · subst e3
        by_cases e4 : b1 = b2
        · subst e4
          simp -implicitDefEqProofs [a49, binA, ht, x0, x1, x2, x3, x4, y0, y1, y2, y3, y4, sameEv]
        · simp -implicitDefEqProofs [a49, binA, ht, x0, x1, x2, x3, x4, y0, y1, y2, y3, y4, sameEv, e4]
      · simp -implicitDefEqProofs [a49, binA, ht, x0, x1, x2, x3, x4, y0, y1, y2, y3, y4, sameEv, e3]
    · simp -implicitDefEqProofs [a49, binA, ht, x0, x1, x2, x3, x4, y0, y1, y2, y3, y4, sameEv, e2]
  · simp -implicitDefEqProofs [a49, binA, ht, x0, x1, x2, x3, x4, y0, y1, y2, y3, y4, sameEv, e1]

theorem events_loop {H0 : AH} {a b : AV} {ra rb : List (List AV)} {la lb : List Ev} (ha : Rows H0 5 a ra) (hb : Rows H0 5 b rb) (hea : EvRows H0 ra la) (heb : EvRows H0 rb lb) (hl : la.length = lb.length) (hn : la.length < 1000000) (hs : ∀ e ∈ la, e.l.length < 1000000) : ∀ (d j : Nat) (H : AH), j + d = la.length → Keep H0 H →
    ∃ fr' H', Keep H0 H' ∧ (la.drop j = lb.drop j → loopL (execL U.E (Call U) c21l0) ([(0, a), (1, b), (5, .int .i64 j)], H) = some (.exit 0, (fr', H'))) ∧
      (la.drop j ≠ lb.drop j → loopL (execL U.E (Call U) c21l0) ([(0, a), (1, b), (5, .int .i64 j)], H) = some (.ret, (fr', H')) ∧ Fr.get fr' 4 = some (.bool false)) := by
  intro d
  have hlen := ha.len
  rw [hea.len] at hlen
  induction d with
  | zero =>
    intro j H hj hk
    obtain rfl : j = la.length := by omega
    refine ⟨[(0, a), (1, b), (5, .int .i64 la.length), (15, .bool false)], H, hk, fun _ => ?_, fun h => absurd (by rw [List.drop_length, hl, List.drop_length]) h⟩
    rw [loopL_eq]
    simp -implicitDefEqProofs [c21l0, binA, hlen]
  | succ d ih =>
    intro j H hj hk
    have hja : j < la.length := by omega
    have hjb : j < lb.length := by omega
    obtain ⟨xa, xa1, xa2⟩ := hea.ev j _ (List.getElem?_eq_getElem hja)
    obtain ⟨xb, xb1, xb2⟩ := heb.ev j _ (List.getElem?_eq_getElem hjb)
    obtain ⟨ia, oa, a1, a2, _⟩ := (ha.keep hk).at xa1
    obtain ⟨ib, ob, b1, b2, _⟩ := (hb.keep hk).at xb1
    obtain ⟨H1, c1, c2⟩ := c_sameEvent (xa2.keep hk) (xb2.keep hk) (hs _ (List.getElem_mem hja))
    have hjc : (j : Int) < (la.length : Int) := by omega
    have hw : IntKind.i64.wrap ((j : Int) + 1) = ((j + 1 : Nat) : Int) := by rw [wrap64 (by omega) (by omega)]; omega
    by_cases he : la[j] = lb[j]
    · rw [sameEv_eq.2 he] at c1
      obtain ⟨fr', H', k', h1, h2⟩ := ih (j + 1) H1 (by omega) (hk.trans c2)
      have hstep : execL U.E (Call U) c21l0 ([(0, a), (1, b), (5, .int .i64 j)], H) = some (.norm, ([(5, .int .i64 (j + 1 : Nat)), (17, .int .i64 (j + 1 : Nat)), (16, .int .i64 j), (0, a), (1, b), (5, .int .i64 j)], H1)) := by
        simp -implicitDefEqProofs [c21l0, binA, hlen, hjc, a1, a2, b1, b2, c1, hw]
      have hk2 : loopL (execL U.E (Call U) c21l0) ([(0, a), (1, b), (5, .int .i64 j)], H) = loopL (execL U.E (Call U) c21l0) ([(0, a), (1, b), (5, .int .i64 (j + 1 : Nat))], H1) := by
        rw [loopL_eq, hstep, seqR_norm, show c21l0 = ACode.keep [0, 1, 5] _ from rfl, loop_keep]
        simp
      rw [hk2]
      exact ⟨fr', H', k', fun h => h1 ((drop_eq_iff hja hjb).1 h).2, fun h => h2 fun e => h ((drop_eq_iff hja hjb).2 ⟨he, e⟩)⟩
    · have hf : sameEv la[j] lb[j] = false := by
        cases hq : sameEv la[j] lb[j] with
        | false => rfl
        | true => exact absurd (sameEv_eq.1 hq) he
      rw [hf] at c1
      refine ⟨[(4, .bool false), (0, a), (1, b), (5, .int .i64 j), (28, .bool true)], H1, hk.trans c2, fun h => absurd ((drop_eq_iff hja hjb).1 h).1 he, fun _ => ⟨?_, by simp⟩⟩
      have hstep : execL U.E (Call U) c21l0 ([(0, a), (1, b), (5, .int .i64 j)], H) = some (.ret, ([(4, .bool false), (0, a), (1, b), (5, .int .i64 j), (28, .bool true)], H1)) := by
        simp -implicitDefEqProofs [c21l0, binA, hlen, hjc, a1, a2, b1, b2, c1]
      rw [loopL_eq, hstep, seqR_ret]
theorem c_sameEvents {H : AH} {a b : AV} {ra rb : List (List AV)} {la lb : List Ev} (ha : Rows H 5 a ra) (hb : Rows H 5 b rb) (hea : EvRows H ra la) (heb : EvRows H rb lb) (hn : la.length < 1000000) (hs : ∀ e ∈ la, e.l.length < 1000000) : ∃ v H', Call U 21 [a, b] H = some (.bool v, H') ∧ (v = true ↔ la = lb) ∧ Keep H H' := by
  rw [Call_of (F := a21) rfl rfl]
  have h1 := ha.len
  have h2 := hb.len
  rw [hea.len] at h1
  rw [heb.len] at h2
  by_cases hl : la.length = lb.length
  · obtain ⟨fr', H', k', h3, h4⟩ := events_loop ha hb hea heb hl hn hs la.length 0 H (by omega) (Keep.refl _)
    simp at h3 h4
    by_cases he : la = lb
    · refine ⟨true, H', ?_, by simp [he], k'⟩
      have h5 := h3 he
      subst he
      simp -implicitDefEqProofs [a21, c21, frOf, h1, h2, binA, h5]
    · obtain ⟨h5, h6⟩ := h4 he
      refine ⟨false, H', ?_, by simp [he], k'⟩
      simp -implicitDefEqProofs [a21, c21, frOf, h1, h2, binA, hl, h5, h6]
  · have he : la ≠ lb := fun e => hl (by rw [e])
    have hl' : (la.length : Int) ≠ (lb.length : Int) := by omega
    refine ⟨false, H, ?_, by simp [he], Keep.refl _⟩
    simp -implicitDefEqProofs [a21, c21, frOf, h1, h2, binA, hl']
end Go.Proofs.YtlecbjcloleiiaaDoor.Ram

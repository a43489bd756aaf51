import Derived.Test.YtlecbjcloleiiaaDoorRamF
/-! Append whose rows are never written again. -/
namespace Go.Proofs.YtlecbjcloleiiaaDoor.Ram
open Go Go.RowKit
section
variable {P : Program} {m : LMap} {H : AH} {w : World}

theorem AH.get_tipOn (H : AH) (i j : Nat) : (H.tipOn i).get j = H.get j := rfl
theorem AH.get_grow (H : AH) (l : List AV) (j : Nat) : (H.grow l).get j = if j = H.next then some (.cells l true) else H.get j := rfl
theorem AH.get_stop (H : AH) (i j : Nat) : (H.stop i).get j = H.get j := rfl

/-- A row whose block no other number shares may be appended to. -/
theorem HR.tipOn (hh : HR m H w) {j : Nat} {lj : Loc} {l : List AV} (hm : m j = some lj) (hg : H.get j = some (.cells l true)) (h100 : 100 ≤ j) (hb : ∃ c e, w.heap[lj.b]? = some (.cells c e (0, 0)))
    (hx : ∀ i li oi, m i = some li → H.get i = some oi → li.b = lj.b → i = j) : HR m (H.tipOn j) w := by
  refine ⟨hh.wf, hh.dom, hh.ok, hh.sep, fun i ht => ?_, fun i li l' ht hi hl => ?_⟩
  · simp only [AH.tipOn] at ht
    split at ht
    · rename_i e; subst e; exact ⟨(hh.dom _ _ hm).1, h100, l, hg⟩
    · exact hh.tipo i ht
  · simp only [AH.tipOn] at ht
    split at ht
    · rename_i e; subst e
      rw [hm] at hi
      obtain rfl := Option.some.inj hi
      exact ⟨hb, fun q lq oq hq hoq h1 h2 => absurd (hx q lq oq hq hoq h1) h2⟩
    · rename_i e
      obtain ⟨h1, h2⟩ := hh.tip i li l' ht hi hl
      refine ⟨h1, fun q lq oq hq hoq h3 h4 => ?_⟩
      obtain ⟨h5, h6⟩ := h2 q lq oq hq hoq h3 h4
      refine ⟨?_, h6⟩
      simp only [AH.tipOn]
      split
      · rename_i e2; subst e2
        rw [hm] at hq
        obtain rfl := Option.some.inj hq
        exact absurd (hx i li _ hi hl h3.symm) e
      · exact h5
theorem HR.stop (hh : HR m H w) (j : Nat) : HR m (H.stop j) w := by
  have key : ∀ i, (H.stop j).tip i = true → H.tip i = true := fun i ht => by
    simp only [AH.stop] at ht
    split at ht
    · cases ht
    · exact ht
  refine ⟨hh.wf, hh.dom, hh.ok, hh.sep, fun i ht => hh.tipo i (key i ht), fun i li l' ht hi hl => ?_⟩
  obtain ⟨h1, h2⟩ := hh.tip i li l' (key i ht) hi hl
  refine ⟨h1, fun q lq oq hq hoq h3 h4 => ?_⟩
  obtain ⟨h5, h6⟩ := h2 q lq oq hq hoq h3 h4
  refine ⟨?_, h6⟩
  simp only [AH.stop]
  split
  · rfl
  · exact h5
theorem Ext.stop {m' : LMap} {H' : AH} {w' : World} (h : Ext m H w m' H' w') (j : Nat) : Ext m H w m' (H'.stop j) w' :=
  { h with
    unm := h.unm, ro := h.ro, rok := h.rok
    tip := fun i hi ht => by
      simp only [AH.stop] at ht
      split at ht
      · cases ht
      · exact h.tip i hi ht }
theorem Ext.tipOn {m' : LMap} {H' : AH} {w' : World} (h : Ext m H w m' H' w') {j : Nat} (hj : H.next ≤ j) : Ext m H w m' (H'.tipOn j) w' :=
  { h with
    unm := h.unm, ro := h.ro, rok := h.rok
    tip := fun i hi ht => by
      simp only [AH.tipOn] at ht
      split at ht
      · omega
      · exact h.tip i hi ht }
/-- A row of the run's own, grown into a new block, never written again. -/
theorem grown_blockF (hh : HR m H w) {all : List AV} {old news : List Value} {rest : Array Value} {e : TypeId} (h : VRs m all (old ++ news)) (h1 : all.all oneCell = true) (h100 : 100 ≤ H.next) :
    ∃ m', HR m' (H.grow all) (w.drew.alloc (.cells (old.toArray ++ news.toArray ++ rest) e)) ∧ Ext m H w m' (H.grow all) (w.drew.alloc (.cells (old.toArray ++ news.toArray ++ rest) e)) ∧
      m' H.next = some ⟨w.heap.size, 0, old.length + news.length + rest.size⟩ := by
  have hh' := hh.drew'
  have hp := hh'.push (.cells (old.toArray ++ news.toArray ++ rest) e) (.cells all true) (old.length + news.length + rest.size) fun m' hs => by
    refine ⟨_, e, _, heap_alloc_self _ _, fun _ => rfl, by simp, by rw [← h.length]; simp, fun j x hx => ?_⟩
    obtain ⟨v, hv, hr⟩ := h.get hx
    refine ⟨v, ?_, hr.mono hs, List.all_eq_true.1 h1 x (List.mem_of_getElem? hx)⟩
    have hj : j < (old ++ news).length := (List.getElem?_eq_some_iff.1 hv).1
    rw [Nat.zero_add, ← Array.getElem?_toList]
    simp only [Array.toList_append]
    rw [List.getElem?_append_left hj]
    exact hv
  refine ⟨m.put H.next ⟨w.heap.size, 0, old.length + news.length + rest.size⟩, ?_, (Ext.drew_left (Ext.push hh' _ _ _)).tipOn (Nat.le_refl _), LMap.put_self _ _ _⟩
  refine hp.tipOn (LMap.put_self _ _ _) (by rw [AH.get_push, if_pos rfl]) h100 ⟨_, _, heap_alloc_self _ _⟩ fun i li oi hi _ hb => ?_
  unfold LMap.put at hi
  split at hi
  · assumption
  · have := (hh.dom i li hi).2; simp only at hb; exfalso; have hw : w.drew.heap.size = w.heap.size := rfl; omega

theorem appendF_sound (hh : HR m H w) {t t2 ty e : TypeId} {i : TypeInfo} {z : Value} {sz bytes : Nat} (T : AppT P t t2 e i z sz bytes) {s x : AV} {sv xv : Value} (hs : VR m s sv) (hx : VR m x xv) {r : AV} {H' : AH} (h : appendF H sz bytes s x = some (r, H')) :
    ∃ cv m' w', (Builtin.append_ #[t, t2] ty #[sv, xv]).run P w = .ok cv w' ∧ VR m' r cv ∧ HR m' H' w' ∧ Ext m H w m' H' w' := by
  unfold appendF at h
  simp only [Option.bind_eq_some_iff] at h
  obtain ⟨n, hn, news, hnews, h⟩ := h
  have hl := lenA_sound (P := P) hx hn
  have hzsz := T.hzs
  split at h
  · -- nil
    rename_i sz0 len0 cap0
    simp only [VR] at hs; obtain ⟨rfl, rfl⟩ := hs
    split at h
    · rename_i h0; subst h0
      simp only [Option.some.injEq, Prod.mk.injEq] at h; obtain ⟨rfl, rfl⟩ := h
      obtain ⟨vs, hv1, _⟩ := sliceCells_sound (P := P) hh hx hnews
      refine ⟨.slice none 0 0, m, w, ?_, by simp [VR], hh, Ext.refl _ _ _⟩
      rw [run_append_gen T hl (.inl (Nat.le_refl _))]
      rw [if_pos (Nat.le_refl _), hv1]
      rfl
    · rename_i h0
      split at h
      · rename_i hc
        obtain ⟨hc1, hc2, hc3, hc4⟩ := hc
        simp only [Option.some.injEq, Prod.mk.injEq] at h; obtain ⟨rfl, rfl⟩ := h
        have hh' := hh.drew'
        obtain ⟨vs, hv1, hv2, hv3, hv4, hv5⟩ := sliceCells_sound (P := P) hh' hx hnews
        have hg := grownCap_ge w (0 + n) 0 e
        have hgm := grownCap_le_maxLen w (0 + n) 0 e (by have : n ≤ n * bytes := Nat.le_mul_of_pos_right _ hc2; unfold maxLen; omega)
        obtain ⟨m', h1, h2, h3⟩ := grown_blockF (old := []) (rest := Builtin.zeroCells z.cells (grownCap w (0 + n) 0 e - (0 + n))) (e := e) hh (by simpa using hv2) hv3 hc4
        refine ⟨.slice (some ⟨w.heap.size, 0, none⟩) n (grownCap w (0 + n) 0 e), m', _, ?_, ?_, h1, h2⟩
        · rw [run_append_gen T hl (.inr ⟨by omega, by simpa using hc1, hc2⟩), if_neg (by omega)]
          have : (Builtin.firstCells sz 0 (.slice none 0 0)).run P w.drew = .ok #[] w.drew := by simp [Builtin.firstCells]
          rw [this]
          simp only [Result.andThen_ok, hv1, Nat.zero_add]
          rfl
        · simp only [VR]
          refine ⟨_, _, _, h3, rfl, fun _ => rfl, by omega, ?_, hgm, fun d hd => by cases hd⟩
          simp only [List.length_nil, size_zeroCells, hzsz, hv5, Nat.zero_add]
          rw [← Nat.add_mul]
          exact Nat.mul_le_mul_right _ (by omega)
      · cases h
  · rename_i id off sz' len cap
    split at h
    · rename_i hc
      obtain ⟨rfl, hc1, hc2, hc3⟩ := hc
      simp only [VR] at hs
      obtain ⟨loc, c, ad, hm, rfl, had, hs1, hs2, hs3, hs4⟩ := hs
      split at h
      · rename_i l ro hg
        obtain ⟨cells, et, f0, hcc, hf0, hcc2, hcc3, hcc4⟩ := hh.ok _ _ _ hm hg
        -- growing
        have grow : c < len + n → off + len * sz' ≤ l.length → 100 ≤ H.next → ∃ m' w', (Builtin.append_ #[t, t2] ty #[.slice (some ad) len c, xv]).run P w = .ok (.slice (some ⟨w.heap.size, 0, none⟩) (len + n) (grownCap w (len + n) c e)) w' ∧
            VR m' (.sl (some (H.next, 0)) sz' (len + n) none) (.slice (some ⟨w.heap.size, 0, none⟩) (len + n) (grownCap w (len + n) c e)) ∧
            HR m' (H.grow ((l.drop off).take (len * sz') ++ news)) w' ∧ Ext m H w m' (H.grow ((l.drop off).take (len * sz') ++ news)) w' := fun hgr hle h100 => by
          have hh' := hh.drew'
          obtain ⟨vs, hv1, hv2, hv3, hv4, hv5⟩ := sliceCells_sound (P := P) hh' hx hnews
          have hself : sliceCells H sz' len (.sl (some (id, off)) sz' len cap) = some ((l.drop off).take (len * sz')) := by
            simp only [sliceCells, hg]
            rw [if_pos ⟨trivial, Nat.le_refl _, hle⟩]
          obtain ⟨us, hu1, hu2, hu3, hu4, hu5⟩ := sliceCells_sound (P := P) (xv := .slice (some ad) len c) hh' (by simp only [VR]; exact ⟨loc, c, ad, hm, rfl, had, hs1, hs2, hs3, hs4⟩) hself
          have hg := grownCap_ge w (len + n) c e
          have hgm := grownCap_le_maxLen w (len + n) c e (by have : len + n ≤ (len + n) * bytes := Nat.le_mul_of_pos_right _ hc2; unfold maxLen; omega)
          obtain ⟨m', h1, h2, h3⟩ := grown_blockF (rest := Builtin.zeroCells z.cells (grownCap w (len + n) c e - (len + n))) (e := e) hh (hu2.append hv2) (by rw [List.all_append, hu3, hv3]; rfl) h100
          refine ⟨m', _, ?_, ?_, h1, h2⟩
          · rw [run_append_gen T hl (.inr ⟨hgr, hc3, hc2⟩), if_neg (by omega), hu1]
            simp only [Result.andThen_ok, hv1]
            rfl
          · simp only [VR]
            refine ⟨_, _, _, h3, rfl, fun _ => rfl, by omega, ?_, hgm, fun d hd => by cases hd⟩
            simp only [size_zeroCells, hzsz, hv5, hu5, Nat.zero_add]
            rw [← Nat.add_mul, ← Nat.add_mul]
            exact Nat.mul_le_mul_right _ (by omega)
        split at h
        · -- capacity known
          rename_i cap0
          have hcap : c = cap0 := hs4 cap0 rfl
          subst hcap
          split at h
          · rename_i hroom
            split at h
            · rename_i h0; subst h0
              simp only [Option.some.injEq, Prod.mk.injEq] at h; obtain ⟨rfl, rfl⟩ := h
              obtain ⟨vs, hv1, _, _, _, hv5⟩ := sliceCells_sound (P := P) hh hx hnews
              refine ⟨.slice (some ad) len c, m, w, ?_, by simp only [VR]; exact ⟨loc, c, ad, hm, rfl, had, hs1, hs2, hs3, hs4⟩, hh, Ext.refl _ _ _⟩
              rw [run_append_gen T hl (.inl hroom), if_pos hroom, hv1]
              have : vs = [] := by rw [← List.length_eq_zero_iff, hv5]; simp
              subst this
              rfl
            · rename_i h0
              split at h
              · rename_i hc4
                obtain ⟨rfl, hc4⟩ := hc4
                simp only [Option.some.injEq, Prod.mk.injEq] at h; obtain ⟨rfl, rfl⟩ := h
                obtain ⟨vs, hv1, hv2, hv3, hv4, hv5⟩ := sliceCells_sound (P := P) hh hx hnews
                have hnl : news.length = n * sz' := by rw [← hv2.length]; exact hv5
                have hmul : (len + n) * sz' = len * sz' + n * sz' := Nat.add_mul _ _ _
                obtain ⟨w', h1, h2, h3, _⟩ := storeCells_sound (P := P) (off := off + len * sz') hh hm hg hv2 hv3 hv4 (by omega)
                refine ⟨.slice (some ad) (len + n) c, m, w', ?_, ?_, h2, h3⟩
                · rw [run_append_gen T hl (.inl hroom), if_pos hroom, hv1]
                  simp only [Result.andThen_ok]
                  rw [had (by omega), add_at', Nat.add_assoc]
                  simp only [h1, Result.andThen_ok]
                · simp only [VR]
                  exact ⟨loc, c, ad, hm, rfl, had, hroom, hs2, hs3, fun d hd => by simpa using hd⟩
              · cases h
          · rename_i hroom
            split at h
            · rename_i hle
              simp only [Option.some.injEq, Prod.mk.injEq] at h; obtain ⟨rfl, rfl⟩ := h
              obtain ⟨m', w', h1, h2, h3, h4⟩ := grow (by omega) hle.1 hle.2
              exact ⟨_, m', w', h1, h2, h3, h4⟩
            · cases h
        · -- capacity not known
          split at h
          · rename_i hc4
            obtain ⟨htip, rfl, hc4, h100⟩ := hc4
            obtain ⟨⟨c0, e0, hc0⟩, htx⟩ := hh.tip id loc l htip hm hg
            rw [hcc] at hc0
            simp only [Option.some.injEq, Obj.cells.injEq] at hc0
            obtain ⟨rfl, rfl, rfl⟩ := hc0
            obtain ⟨hidlt, hid100, _⟩ := hh.tipo id htip
            simp only [Option.some.injEq, Prod.mk.injEq] at h; obtain ⟨rfl, rfl⟩ := h
            by_cases hroom : len + n ≤ c
            · -- in place
              obtain ⟨vs, hv1, hv2, hv3, hv4, hv5⟩ := sliceCells_sound (P := P) hh hx hnews
              have hnl : news.length = n * sz' := by rw [← hv2.length]; exact hv5
              have hmul : (len + n) * sz' = len * sz' + n * sz' := Nat.add_mul _ _ _
              have hcm : (len + n) * sz' ≤ c * sz' := Nat.mul_le_mul_right _ hroom
              have hrun := run_storeCells_at P loc.b (loc.o + (off + len * sz')) et vs 0 cells w hcc (by omega) hv4
              simp only [Nat.add_zero] at hrun
              have hdrop : (l.drop off).length = len * sz' := by simp; omega
              let cs' := (cells.toList.take (loc.o + (off + len * sz')) ++ vs ++ cells.toList.drop (loc.o + (off + len * sz') + vs.length)).toArray
              have hcs : cs'.size = cells.size := by simp [cs']; omega
              have hob := onlyBlock_setRow w loc.b cs'
              let locj : Loc := ⟨loc.b, loc.o + off, loc.n - off⟩
              have hsub := LMap.put_sub (loc := locj) hh.fresh
              have hidn : id ≠ H.next := by omega
              -- what stands ahead of the row's end stays
              have hstay : ∀ j v, j < loc.o + l.length → cells[j]? = some v → cs'[j]? = some v := fun j v hj hv => by
                simp only [cs', List.getElem?_toArray]
                rw [List.append_assoc, List.getElem?_append_left (by simp; have := (Array.getElem?_eq_some_iff.1 hv).1; omega), List.getElem?_take, if_pos (by omega)]
                simpa using hv
              have hjobj : ObjR (m.put H.next locj) (w.setRow loc.b cs') locj (.cells (l.drop off ++ news) true) := by
                refine ⟨cs', et, _, setRow_heap w loc.b cells _ et (0, 0) hcc, fun _ => rfl, by rw [hcs]; simp only [locj]; omega, ?_, fun k y hy => ?_⟩
                · simp only [locj, List.length_append, hdrop, hnl]; omega
                · by_cases hk : k < len * sz'
                  · rw [List.getElem?_append_left (by omega), List.getElem?_drop] at hy
                    obtain ⟨v, h5, h6, h7⟩ := hcc4 _ _ hy
                    refine ⟨v, ?_, h6.mono hsub, h7⟩
                    rw [show locj.o + k = loc.o + (off + k) by simp only [locj]; omega]
                    exact hstay _ v (by omega) h5
                  · rw [List.getElem?_append_right (by omega)] at hy
                    obtain ⟨v, h5, h6⟩ := hv2.get hy
                    refine ⟨v, ?_, h6.mono hsub, List.all_eq_true.1 hv3 y (List.mem_of_getElem? hy)⟩
                    have hkv : k - (l.drop off).length < vs.length := (List.getElem?_eq_some_iff.1 h5).1
                    simp only [cs', locj, List.getElem?_toArray]
                    rw [List.getElem?_append_left (by simp; omega), List.getElem?_append_right (by simp; omega)]
                    rw [← h5]
                    congr 1
                    simp
                    omega
              -- who shares the block
              have hshare : ∀ q lq oq, m q = some lq → H.get q = some oq → lq.b = loc.b → ∀ l' r, oq = .cells l' r → lq.o + l'.length ≤ loc.o + l.length := fun q lq oq h1 h2 h3 l' r h4 => by
                by_cases hq : q = id
                · subst hq
                  rw [hm] at h1; obtain rfl := Option.some.inj h1
                  rw [hg] at h2; obtain rfl := Option.some.inj h2
                  cases h4; exact Nat.le_refl _
                · exact (htx q lq oq h1 h2 h3 hq).2 l' r h4
              refine ⟨.slice (some ad) (len + n) c, m.put H.next locj, w.setRow loc.b cs', ?_, ?_, ?_, ?_⟩
              · rw [run_append_gen T hl (.inl hroom), if_pos hroom, hv1]
                simp only [Result.andThen_ok]
                by_cases hc0 : 0 < c
                · rw [had hc0, add_at', Nat.add_assoc]
                  simp only [hrun, Result.andThen_ok]
                  rfl
                · have hn0 : n = 0 := by omega
                  have hv0 : vs = [] := by rw [← List.length_eq_zero_iff, hv5, hn0]; simp
                  have hcs0 : w.setRow loc.b cs' = w := by
                    have : cs' = cells := by
                      simp only [cs', hv0, List.append_nil, List.length_nil, Nat.add_zero, List.take_append_drop, Array.toArray_toList]
                    rw [this]; exact setRow_self w loc.b cells et (0, 0) hcc
                  rw [hcs0, hv0]
                  rfl
              · simp only [VR]
                exact ⟨locj, c, ad, LMap.put_self _ _ _, rfl, fun h0 => by simp only [locj]; rw [had h0]; rfl, hroom, by simp only [locj]; omega, hs3, fun d hd => by cases hd⟩
              · refine ⟨fun q hq => ?_, fun q lq hq => ?_, fun q lq oq hq hoq => ?_, fun q q' lq lq' oq oq' hq hq' hoq hoq' hqq hsh => ?_, fun q ht => ?_, fun q lq lx ht hq hlx => ?_⟩
                · simp only [AH.stop, AH.grow, AH.tipOn, AH.push] at hq
                  rw [AH.get_stop, AH.get_grow, if_neg (by omega)]
                  exact hh.wf q (by omega)
                · unfold LMap.put at hq
                  simp only [AH.stop, AH.grow, AH.tipOn, AH.push]
                  split at hq
                  · rename_i e; subst e; obtain rfl := Option.some.inj hq; exact ⟨by omega, by rw [hob.size]; exact (hh.dom _ _ hm).2⟩
                  · have := hh.dom q lq hq; exact ⟨by omega, by rw [hob.size]; exact this.2⟩
                · rw [AH.get_stop, AH.get_grow] at hoq
                  unfold LMap.put at hq
                  split at hq
                  · rename_i e; subst e
                    rw [if_pos rfl] at hoq
                    obtain rfl := Option.some.inj hq
                    obtain rfl := Option.some.inj hoq
                    exact hjobj
                  · rename_i e
                    rw [if_neg e] at hoq
                    by_cases hb : lq.b = loc.b
                    · have hok := hh.ok q lq oq hq hoq
                      cases oq with
                      | map l' r =>
                        obtain ⟨es, ck, h1, _⟩ := hok
                        rw [hb, hcc] at h1; cases h1
                      | cells l' r =>
                        obtain ⟨c1, e1, f1, h1, h2, h3, h4, h5⟩ := hok
                        rw [hb, hcc] at h1
                        simp only [Option.some.injEq, Obj.cells.injEq] at h1
                        obtain ⟨rfl, rfl, rfl⟩ := h1
                        have hle := hshare q lq _ hq hoq hb l' r rfl
                        refine ⟨cs', et, _, by rw [hb]; exact setRow_heap w loc.b cells _ et (0, 0) hcc, fun _ => rfl, by rw [hcs]; exact h3, h4, fun k y hy => ?_⟩
                        obtain ⟨v, h6, h7, h8⟩ := h5 k y hy
                        have := (List.getElem?_eq_some_iff.1 hy).1
                        exact ⟨v, hstay _ v (by omega) h6, h7.mono hsub, h8⟩
                    · exact (hh.ok q lq oq hq hoq).mono hsub (hob.other _ hb)
                · rw [AH.get_stop, AH.get_grow] at hoq hoq'
                  unfold LMap.put at hq hq'
                  have hnew : shar H.next (AObj.cells (l.drop off ++ news) true).ro = true := by simp [shar, AObj.ro, h100]
                  have hidsh : shar id (AObj.cells l true).ro = true := by simp [shar, AObj.ro, hid100]
                  have hother : ∀ p lp op, m p = some lp → H.get p = some op → shar p op.ro = false → lp.b ≠ loc.b := fun p lp op h1 h2 h3 => by
                    have hpid : p ≠ id := fun e => by subst e; rw [hg] at h2; obtain rfl := Option.some.inj h2; rw [hidsh] at h3; cases h3
                    exact hh.sep p id lp loc op _ h1 hm h2 hg hpid (by rw [h3]; rfl)
                  split at hq <;> split at hq'
                  · rename_i e e'; exact absurd (e.trans e'.symm) hqq
                  · rename_i e e'
                    obtain rfl := Option.some.inj hq
                    rw [if_pos e] at hoq
                    rw [if_neg e'] at hoq'
                    obtain rfl := Option.some.inj hoq
                    subst e
                    rw [hnew, Bool.true_and] at hsh
                    exact (hother q' lq' oq' hq' hoq' hsh).symm
                  · rename_i e e'
                    obtain rfl := Option.some.inj hq'
                    rw [if_pos e'] at hoq'
                    rw [if_neg e] at hoq
                    obtain rfl := Option.some.inj hoq'
                    subst e'
                    rw [hnew, Bool.and_true] at hsh
                    exact hother q lq oq hq hoq hsh
                  · rename_i e e'
                    rw [if_neg e] at hoq
                    rw [if_neg e'] at hoq'
                    exact hh.sep q q' lq lq' oq oq' hq hq' hoq hoq' hqq hsh
                · simp only [AH.stop, AH.grow, AH.tipOn, AH.push] at ht
                  split at ht
                  · cases ht
                  · split at ht
                    · rename_i e; subst e
                      exact ⟨Nat.lt_succ_self _, h100, _, by rw [AH.get_stop, AH.get_grow, if_pos rfl]⟩
                    · obtain ⟨h6, h7, lx, h8⟩ := hh.tipo q ht
                      exact ⟨Nat.lt_succ_of_lt h6, h7, lx, by rw [AH.get_stop, AH.get_grow, if_neg (by omega)]; exact h8⟩
                · simp only [AH.stop, AH.grow, AH.tipOn, AH.push] at ht
                  rw [AH.get_stop, AH.get_grow] at hlx
                  unfold LMap.put at hq
                  split at ht
                  · cases ht
                  · rename_i hqid
                    split at ht
                    · rename_i e; subst e
                      rw [if_pos rfl] at hq hlx
                      obtain rfl := Option.some.inj hq
                      simp only [Option.some.injEq, AObj.cells.injEq, and_true] at hlx
                      subst hlx
                      refine ⟨⟨cs', et, setRow_heap w loc.b cells _ et (0, 0) hcc⟩, fun p lp op hp hop hb hne => ?_⟩
                      unfold LMap.put at hp
                      rw [if_neg hne] at hp
                      rw [AH.get_stop, AH.get_grow, if_neg hne] at hop
                      refine ⟨?_, fun l' r h9 => ?_⟩
                      · simp only [AH.stop, AH.grow, AH.tipOn, AH.push]
                        split
                        · rfl
                        · rename_i hpid
                          try rw [if_neg hne]
                          exact (htx p lp op hp hop hb hpid).1
                      · have := hshare p lp op hp hop hb l' r h9
                        simp only [locj, List.length_append, hdrop]; omega
                    · rename_i e
                      rw [if_neg e] at hq hlx
                      have hqb : lq.b ≠ loc.b := fun hb => by
                        have := (htx q lq _ hq hlx hb hqid).1
                        rw [ht] at this; cases this
                      obtain ⟨⟨c1, e1, h9⟩, h10⟩ := hh.tip q lq lx ht hq hlx
                      refine ⟨⟨c1, e1, (hob.other _ hqb).trans h9⟩, fun p lp op hp hop hb hne => ?_⟩
                      unfold LMap.put at hp
                      rw [AH.get_stop, AH.get_grow] at hop
                      split at hp
                      · obtain rfl := Option.some.inj hp; exact absurd hb.symm hqb
                      · rename_i h13
                        rw [if_neg h13] at hop
                        obtain ⟨h14, h15⟩ := h10 p lp op hp hop hb hne
                        refine ⟨?_, h15⟩
                        simp only [AH.stop, AH.grow, AH.tipOn, AH.push]
                        split
                        · rfl
                        · try rw [if_neg h13]
                          exact h14
              · have hmine : Mine m H loc.b := ⟨id, loc, _, hm, hg, .inr htip, rfl⟩
                exact {
                  next := by simp [AH.stop, AH.grow, AH.tipOn, AH.push]
                  sub := hsub
                  new := fun q lq hq hn => by
                    unfold LMap.put at hq
                    split at hq
                    · rename_i e; subst e; obtain rfl := Option.some.inj hq; exact ⟨Nat.le_refl _, .inr hmine⟩
                    · rw [hn] at hq; cases hq
                  unm := fun q hq _ => by rw [AH.get_stop, AH.get_grow, if_neg (by omega)]
                  ro := fun q hq o' ho => by rw [AH.get_stop, AH.get_grow, if_neg (by omega)] at ho; exact ⟨o', ho, rfl⟩
                  rok := fun q o' ho _ => by
                    rw [AH.get_stop, AH.get_grow]
                    split
                    · rename_i e; subst e; rw [hh.wf _ (Nat.le_refl _)] at ho; cases ho
                    · exact ho
                  tip := fun q hq ht => by
                    simp only [AH.stop, AH.grow, AH.tipOn, AH.push] at ht
                    split at ht
                    · cases ht
                    · rw [if_neg (by omega)] at ht; exact ht
                  frame := fun b _ hb => hob.other b (fun e => hb (by rw [e]; exact hmine))
                  size := Nat.le_of_eq hob.size.symm
                  os := rfl
                  tape := rfl
                  output := rfl }
            · obtain ⟨m', w', h1, h2, h3, h4⟩ := grow (by omega) (by omega) h100
              have htake : (l.drop off).take (len * sz') = l.drop off := List.take_of_length_le (by simp; omega)
              rw [htake] at h3 h4
              exact ⟨_, m', w', h1, h2, h3.stop id, h4.stop id⟩
          · cases h
      · cases h
    · cases h
  · cases h
theorem appendX_sound (hh : HR m H w) {t t2 ty e : TypeId} {i : TypeInfo} {z : Value} {fz : Bool} {sz bytes : Nat} (T : AppT P t t2 e i z sz bytes) {s x : AV} {sv xv : Value} (hs : VR m s sv) (hx : VR m x xv) {r : AV} {H' : AH} (h : appendX H fz sz bytes s x = some (r, H')) :
    ∃ cv m' w', (Builtin.append_ #[t, t2] ty #[sv, xv]).run P w = .ok cv w' ∧ VR m' r cv ∧ HR m' H' w' ∧ Ext m H w m' H' w' := by
  unfold appendX at h
  split at h
  · exact appendF_sound hh T hs hx h
  · exact append_sound hh T hs hx h
end
end Go.Proofs.YtlecbjcloleiiaaDoor.Ram

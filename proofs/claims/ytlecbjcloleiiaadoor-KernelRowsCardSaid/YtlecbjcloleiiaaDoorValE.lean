import Derived.Test.YtlecbjcloleiiaaDoorValD
/-! What reads memory; a slot is set; a block is made. -/
namespace Go.Proofs.YtlecbjcloleiiaaDoor.Val
open Go Go.Proofs.YtlecbjcloleiiaaDoor.Ram
section
variable {φ : Bk} {G : Fz} {W : Nat → Prop} {st : VS} {fr : Fr} {H : AH}

theorem Rel.load (h : Rel φ G W st fr H) {n : Nat} {ag : Bool} {p v : V} {a : AV} (hp : VRel φ G p a) (hv : loadV st.h n ag p = some v) : ∃ b, loadA H n ag a = some b ∧ VRel φ G v b := by
  unfold loadV at hv
  split at hv
  · rename_i i off
    split at hv
    · rename_i l own hg
      simp only [VRel] at hp
      obtain ⟨r, h1, rfl⟩ := hp
      obtain ⟨_, r', h2, _, _, cs, h3, h4⟩ := h.objs i _ hg
      rw [h1] at h2
      obtain rfl := Option.some.inj h2
      split at hv
      · rename_i hag
        split at hv
        · rename_i hle
          obtain rfl := Option.some.inj hv
          refine ⟨.agg ((cs.drop off).take n), by simp only [loadA, h3]; rw [if_pos hag, if_pos (by rw [h4.length]; exact hle)], by simp only [VRel]; exact ⟨_, rfl, (h4.drop off).take n⟩⟩
        · cases hv
      · rename_i hag
        obtain ⟨b, h5, h6⟩ := h4.get hv
        exact ⟨b, by simp only [loadA, h3]; rw [if_neg hag]; exact h5, h6⟩
    · cases hv
  · rename_i row off
    simp only [VRel] at hp
    obtain ⟨r, o, pre, h1, rfl, h2⟩ := hp
    obtain ⟨_, l, ro, h3, h4⟩ := h.fz r pre h1
    have hlen := h2.length
    simp only [List.length_take, List.length_drop] at hlen
    split at hv
    · rename_i hag
      split at hv
      · rename_i hle
        obtain rfl := Option.some.inj hv
        have hn : o + row.length ≤ pre.length := by omega
        have e : (l.drop (o + off)).take n = (((pre.drop o).take row.length).drop off).take n := by
          rw [List.drop_take, List.drop_drop, List.take_take, Nat.min_eq_left (by omega)]
          exact take_prefix h4 (by omega)
        have hll := h4.length_le
        refine ⟨.agg ((l.drop (o + off)).take n), ?_, by simp only [VRel]; rw [e]; exact ⟨_, rfl, (h2.drop off).take n⟩⟩
        simp only [loadA, h3]
        rw [if_pos hag, if_pos (by omega)]
      · cases hv
    · rename_i hag
      have hlt := (List.getElem?_eq_some_iff.1 hv).1
      obtain ⟨b, h5, h6⟩ := h2.get hv
      refine ⟨b, ?_, h6⟩
      simp only [loadA, h3]
      rw [if_neg hag]
      rw [List.getElem?_take, if_pos hlt, List.getElem?_drop] at h5
      obtain ⟨t, rfl⟩ := h4
      rw [List.getElem?_append_left (by omega)]
      exact h5
  · cases hv
theorem flatEq_rel : ∀ {ks : List Nat} {l l' : List V} {cs cs' : List AV} {b : Bool}, VRels φ G l cs → VRels φ G l' cs' → flatEqV ks l l' = some b → flatEq ks cs cs' = some b
  | [], [], [], _, _, _, h, h', e => by simp only [VRels] at h h'; subst h; subst h'; exact e
  | k :: ks, x :: l, y :: l', _, _, _, h, h', e => by
    simp only [VRels] at h h'
    obtain ⟨a, r, rfl, h1, h2⟩ := h
    obtain ⟨a', r', rfl, h3, h4⟩ := h'
    simp only [flatEqV, Option.bind_eq_some_iff, Option.map_eq_some_iff] at e
    obtain ⟨b1, e1, b2, e2, rfl⟩ := e
    simp only [flatEq, Option.bind_eq_some_iff, Option.map_eq_some_iff]
    refine ⟨b1, ?_, b2, flatEq_rel h2 h4 e2, rfl⟩
    unfold flatEq1V at e1
    split at e1
    · simp only [VRel] at h1 h3; subst h1; subst h3; exact e1
    · simp only [VRel] at h1 h3; subst h1; subst h3; exact e1
    · simp only [VRel] at h1 h3; subst h1; subst h3; exact e1
    · cases e1
  | [], _ :: _, _, _, _, _, _, _, e => by simp [flatEqV] at e
  | [], [], _ :: _, _, _, _, _, _, e => by simp [flatEqV] at e
  | _ :: _, [], _, _, _, _, _, _, e => by simp [flatEqV] at e
  | _ :: _, _ :: _, [], _, _, _, _, _, e => by simp [flatEqV] at e
theorem Rel.live (h : Rel φ G W st fr H) {i r : Nat} (hi : φ i = some r) (hl : liveV st.h i = true) : H.live r = true ∧ ∃ o, st.h.get i = some o := by
  unfold liveV at hl
  split at hl
  · rename_i l own hg
    obtain ⟨_, r', h2, _, _, cs, h3, _⟩ := h.objs i _ hg
    rw [hi] at h2
    obtain rfl := Option.some.inj h2
    exact ⟨by simp [AH.live, h3], _, hg⟩
  · cases hl
theorem Rel.ptrEq (h : Rel φ G W st fr H) {p q : Option (Nat × Nat)} {a b : AV} (hp : VRel φ G (.ptr p) a) (hq : VRel φ G (.ptr q) b) {r : Bool} (hr : ptrEqV st.h p q = some r) : ∃ p' q', a = .ptr p' ∧ b = .ptr q' ∧ Ram.ptrEq H p' q' = some r := by
  cases p with
  | none =>
    simp only [VRel] at hp
    cases q with
    | none => simp only [VRel] at hq; exact ⟨_, _, hp, hq, by simpa [ptrEqV, Ram.ptrEq] using hr⟩
    | some q =>
      obtain ⟨j, o⟩ := q
      simp only [VRel] at hq
      obtain ⟨r', _, hq⟩ := hq
      exact ⟨_, _, hp, hq, by simpa [ptrEqV, Ram.ptrEq] using hr⟩
  | some p =>
    obtain ⟨i, o⟩ := p
    simp only [VRel] at hp
    obtain ⟨r1, h1, hp⟩ := hp
    cases q with
    | none => simp only [VRel] at hq; exact ⟨_, _, hp, hq, by simpa [ptrEqV, Ram.ptrEq] using hr⟩
    | some q =>
      obtain ⟨j, o'⟩ := q
      simp only [VRel] at hq
      obtain ⟨r2, h2, hq⟩ := hq
      refine ⟨_, _, hp, hq, ?_⟩
      simp only [ptrEqV] at hr
      split at hr
      · rename_i hl
        simp only [Bool.and_eq_true] at hl
        obtain ⟨l1, oi, g1⟩ := h.live h1 hl.1
        obtain ⟨l2, oj, g2⟩ := h.live h2 hl.2
        simp only [Ram.ptrEq, l1, l2, Bool.and_self, if_true]
        rw [← hr]
        congr 2
        by_cases e : i = j
        · subst e
          rw [h1] at h2
          obtain rfl := Option.some.inj h2
          simp
        · have hne : r1 ≠ r2 := fun e' => e (by subst e'; exact h.inj i j r1 oi oj g1 g2 h1 h2)
          rw [beq_eq_false_iff_ne.2 e, beq_eq_false_iff_ne.2 hne]
      · cases hr
theorem Rel.eq (h : Rel φ G W st fr H) {E : Env} {cst : Bool} {k : EqK} {x y : V} {a b : AV} (hx : VRel φ G x a) (hy : VRel φ G y b) {r : Bool} (hr : eqV E st.h cst k x y = some r) : eqA E H cst k a b = some r := by
  unfold eqV at hr
  split at hr
  · simp only [VRel] at hx hy; subst hx; subst hy; exact hr
  · obtain ⟨p', q', rfl, rfl, h1⟩ := h.ptrEq hx hy hr; exact h1
  · simp only [VRel] at hx hy; subst hx; subst hy; exact hr
  · simp only [VRel] at hx hy; subst hx; obtain ⟨_, rfl, _⟩ := hy; exact hr
  · simp only [VRel] at hx hy; subst hy; obtain ⟨_, rfl, _⟩ := hx; exact hr
  · rename_i t p t' q
    simp only [VRel] at hx hy
    obtain ⟨a1, rfl, hx⟩ := hx
    obtain ⟨b1, rfl, hy⟩ := hy
    by_cases ht : t = t'
    · rw [if_pos ht] at hr
      split at hr
      · rename_i hc
        obtain ⟨p', q', rfl, rfl, h1⟩ := h.ptrEq hx hy hr
        simp only [eqA]
        rw [if_pos ht, if_pos hc]; exact h1
      · cases hr
    · rw [if_neg ht] at hr
      have : ∀ {p : Option (Nat × Nat)} {a : AV}, VRel φ G (.ptr p) a → ∃ p', a = .ptr p' := fun {p a} h => by
        cases p with
        | none => simp only [VRel] at h; exact ⟨_, h⟩
        | some p => obtain ⟨i, o⟩ := p; simp only [VRel] at h; obtain ⟨_, _, h⟩ := h; exact ⟨_, h⟩
      obtain ⟨p', rfl⟩ := this hx
      obtain ⟨q', rfl⟩ := this hy
      simp only [eqA]
      rw [if_neg ht]; exact hr
  · simp only [VRel] at hx hy
    obtain ⟨_, rfl, hx⟩ := hx
    obtain ⟨_, rfl, hy⟩ := hy
    exact flatEq_rel hx hy hr
  · rename_i m
    simp only [VRel] at hx; subst hx
    cases m with
    | none => simp only [VRel] at hy; subst hy; exact hr
    | some m => simp only [VRel] at hy; obtain ⟨_, _, rfl⟩ := hy; exact hr
  · rename_i m _
    simp only [VRel] at hy; subst hy
    cases m with
    | none => simp only [VRel] at hx; subst hx; exact hr
    | some m => simp only [VRel] at hx; obtain ⟨_, _, rfl⟩ := hx; exact hr
  · simp only [VRel] at hx hy; subst hx; subst hy; exact hr
  · simp only [VRel] at hx hy; subst hx; obtain ⟨_, rfl, _⟩ := hy; exact hr
  · simp only [VRel] at hx hy; subst hy; obtain ⟨_, rfl, _⟩ := hx; exact hr
  · cases hr
theorem mapGet_rel {l : List (List UInt8 × V)} {l' : List (List UInt8 × AV)} (h : MapV φ G l l') (s : List UInt8) : (mapGetV l s = none ∧ mapGet l' s = none) ∨ ∃ v a, mapGetV l s = some v ∧ mapGet l' s = some a ∧ VRel φ G v a := by
  induction h with
  | nil => exact .inl ⟨rfl, rfl⟩
  | cons hv _ ih =>
    rename_i k _ _ _ _ _
    by_cases e : k = s
    · subst e; exact .inr ⟨_, _, by simp [mapGetV], by simp [mapGet], hv⟩
    · have e' : (k == s) = false := by simpa using e
      simp only [mapGetV, mapGet, List.find?_cons, e'] at ih ⊢
      exact ih
theorem read_rel (h : Rel φ G W st fr H) {E : Env} {op : AOp} (hp : op.isRead = true) {v : V} (hv : readV E st.f st.h op = some v) : ∃ a, readA E fr H op = some a ∧ VRel φ G v a := by
  cases op <;> first | (cases hp; done) | skip
  case load n ag x =>
    simp only [readV, Option.bind_eq_some_iff] at hv
    obtain ⟨p, h1, h2⟩ := hv
    obtain ⟨a, h3, h4⟩ := h.ev h1
    obtain ⟨b, h5, h6⟩ := h.load h4 h2
    exact ⟨b, by simp [readA, h3, h5], h6⟩
  case eq neg k x y =>
    simp only [readV, Option.bind_eq_some_iff, Option.map_eq_some_iff] at hv
    obtain ⟨u, h1, w, h2, r, h3, rfl⟩ := hv
    obtain ⟨a, k1, k2⟩ := h.ev h1
    obtain ⟨b, k3, k4⟩ := h.ev h2
    exact ⟨.bool (if neg = true then !r else r), by simp [readA, k1, k3, h.eq k2 k4 h3], by simp only [VRel]⟩
  case lookup d ok m k =>
    simp only [readV, Option.bind_eq_some_iff] at hv
    obtain ⟨d', h0, u, h1, w, h2, h3⟩ := hv
    obtain ⟨a, k1, k2⟩ := h.ev h1
    obtain ⟨b, k3, k4⟩ := h.ev h2
    have hd : VRel φ G d' d := ofAV_rel h0
    have tup : ∀ {v : V} {a : AV} (b : Bool), VRel φ G v a → VRel φ G (.tup [v, .bool b]) (.tup [a, .bool b]) := fun b h => by
      simp only [VRel, VRels]; exact ⟨_, rfl, _, _, rfl, h, _, _, rfl, rfl, rfl⟩
    have pick : ∀ {v : V} {a : AV} (b : Bool), VRel φ G v a → VRel φ G (if ok = true then .tup [v, .bool b] else v) (if ok = true then .tup [a, .bool b] else a) := fun b h => by
      split
      · exact tup b h
      · exact h
    unfold lookupV at h3
    split at h3
    · simp only [VRel] at k2 k4
      subst k2; subst k4
      obtain rfl := Option.some.inj h3
      refine ⟨_, ?_, pick false hd⟩
      simp only [readA, k1, k3, Option.bind_some]
    · rename_i i s
      split at h3
      · rename_i l hg
        simp only [VRel] at k2 k4
        subst k4
        obtain ⟨r, e1, rfl⟩ := k2
        obtain ⟨_, r', e2, _, _, l', e3, e4⟩ := h.objs i _ hg
        rw [e1] at e2
        obtain rfl := Option.some.inj e2
        obtain rfl := Option.some.inj h3
        rcases mapGet_rel e4 s with ⟨g1, g2⟩ | ⟨x, y, g1, g2, g3⟩
        · rw [g1]
          refine ⟨_, ?_, pick false hd⟩
          simp only [readA, k1, k3, Option.bind_some, e3, g2]
        · rw [g1]
          refine ⟨_, ?_, pick true g3⟩
          simp only [readA, k1, k3, Option.bind_some, e3, g2]
      · cases h3
    · cases h3

/-! ### a slot is set -/
theorem at_uniq {R : Rt} {x y : AV} (h4 : At fr H φ R x) (h7 : At fr H φ R y) : x = y := by
  cases R with
  | slot n => simp only [At] at h4 h7; rw [h4] at h7; exact Option.some.inj h7
  | part n j =>
    obtain ⟨l, e1, e2⟩ := h4
    obtain ⟨l', e3, e4⟩ := h7
    obtain rfl := e1.uniq e3
    rw [e2] at e4; exact Option.some.inj e4
  | cell i off =>
    obtain ⟨r, cs, ro, e1, e2, e3⟩ := h4
    obtain ⟨r', cs', ro', e4, e5, e6⟩ := h7
    rw [e1] at e4
    obtain rfl := Option.some.inj e4
    rw [e2] at e5
    simp only [Option.some.injEq, AObj.cells.injEq] at e5
    obtain ⟨rfl, rfl⟩ := e5
    rw [e3] at e6; exact Option.some.inj e6
theorem vget_set {f : VFr} {d n : Nat} {v : V} : VFr.get (VFr.set f d v) n = if d = n then some v else VFr.get f n := rfl
theorem get_set' {f : Fr} {d n : Nat} {v : AV} : Fr.get (Fr.set f d v) n = if d = n then some v else Fr.get f n := rfl
theorem mem_del {w : Rts} {d n : Nat} {t : Tag} : (n, t) ∈ w.del d ↔ (n, t) ∈ w ∧ n ≠ d := by simp [Rts.del]
theorem Rel.put (h : Rel φ G W st fr H) {d : Nat} {v : V} {a : AV} (hv : VRel φ G v a) (w' : Rts) (org : Rt → Option Rt)
    (ha : ∀ R, Has ⟨VFr.set st.f d v, w', st.h⟩ R → ∃ x, At (Fr.set fr d a) H φ R x ∧ match org R with
      | none => (∀ R0 x0 r, Has st R0 → At fr H φ R0 x0 → headId x = some r → headId x0 ≠ some r) ∧ Can G H W x
      | some R0 => Has st R0 ∧ ∃ x0, At fr H φ R0 x0 ∧ headId x = headId x0 ∧ (Can G H W x0 → Can G H W x))
    (hb : ∀ R R', Has ⟨VFr.set st.f d v, w', st.h⟩ R → Has ⟨VFr.set st.f d v, w', st.h⟩ R' → org R = org R' → R = R')
    (hc : ∀ n i off, (n, Tag.cell i off) ∈ w' → ownAt st.h i off = true → ∃ x, Fr.get (Fr.set fr d a) n = some x ∧ At fr H φ (.cell i off) x) :
    Rel φ G W ⟨VFr.set st.f d v, w', st.h⟩ (Fr.set fr d a) H where
  slots := fun n u hu => by
    rw [vget_set] at hu
    rw [get_set']
    split at hu
    · rename_i e; obtain rfl := Option.some.inj hu; rw [if_pos e]; exact ⟨a, rfl, hv⟩
    · rename_i e; rw [if_neg e]; exact h.slots n u hu
  objs := h.objs
  inj := h.inj
  dom := h.dom
  glob := h.glob
  n100 := h.n100
  fz := h.fz
  win := h.win
  rt := fun R hR => by
    obtain ⟨x, h1, h2⟩ := ha R hR
    refine ⟨x, h1, ?_⟩
    split at h2
    · exact h2.2
    · rename_i R0 _
      obtain ⟨h3, x0, h4, _, h6⟩ := h2
      obtain ⟨y, h7, h8⟩ := h.rt R0 h3
      have : x0 = y := by
        cases R0 with
        | slot n => simp only [At] at h4 h7; rw [h4] at h7; exact Option.some.inj h7
        | part n j =>
          obtain ⟨l, e1, e2⟩ := h4
          obtain ⟨l', e3, e4⟩ := h7
          obtain rfl := e1.uniq e3
          rw [e2] at e4; exact Option.some.inj e4
        | cell i off =>
          obtain ⟨r, cs, ro, e1, e2, e3⟩ := h4
          obtain ⟨r', cs', ro', e4, e5, e6⟩ := h7
          rw [e1] at e4
          obtain rfl := Option.some.inj e4
          rw [e2] at e5
          simp only [Option.some.injEq, AObj.cells.injEq] at e5
          obtain ⟨rfl, rfl⟩ := e5
          rw [e3] at e6; exact Option.some.inj e6
      subst this
      exact h6 h8
  rtx := fun R R' x x' r hR hR' hx hx' hr hr' => by
    have uniq : ∀ {R : Rt} {x y : AV}, At (Fr.set fr d a) H φ R x → At (Fr.set fr d a) H φ R y → x = y := fun {R x y} h4 h7 => by
      cases R with
      | slot n => simp only [At] at h4 h7; rw [h4] at h7; exact Option.some.inj h7
      | part n j =>
        obtain ⟨l, e1, e2⟩ := h4
        obtain ⟨l', e3, e4⟩ := h7
        obtain rfl := e1.uniq e3
        rw [e2] at e4; exact Option.some.inj e4
      | cell i off =>
        obtain ⟨r, cs, ro, e1, e2, e3⟩ := h4
        obtain ⟨r', cs', ro', e4, e5, e6⟩ := h7
        rw [e1] at e4
        obtain rfl := Option.some.inj e4
        rw [e2] at e5
        simp only [Option.some.injEq, AObj.cells.injEq] at e5
        obtain ⟨rfl, rfl⟩ := e5
        rw [e3] at e6; exact Option.some.inj e6
    obtain ⟨y, h1, h2⟩ := ha R hR
    obtain ⟨y', h1', h2'⟩ := ha R' hR'
    obtain rfl := uniq hx h1
    obtain rfl := uniq hx' h1'
    cases ho : org R with
    | none =>
      rw [ho] at h2
      cases ho' : org R' with
      | none => exact hb R R' hR hR' (ho.trans ho'.symm)
      | some R0' =>
        rw [ho'] at h2'
        obtain ⟨g1', x0', g2', g3', _⟩ := h2'
        exact absurd (by rw [← g3']; exact hr') (h2.1 R0' x0' r g1' g2' hr)
    | some R0 =>
      rw [ho] at h2
      obtain ⟨g1, x0, g2, g3, _⟩ := h2
      cases ho' : org R' with
      | none =>
        rw [ho'] at h2'
        exact absurd (by rw [← g3]; exact hr) (h2'.1 R0 x0 r g1 g2 hr')
      | some R0' =>
        rw [ho'] at h2'
        obtain ⟨g1', x0', g2', g3', _⟩ := h2'
        have := h.rtx R0 R0' x0 x0' r g1 g1' g2 g2' (by rw [← g3]; exact hr) (by rw [← g3']; exact hr')
        subst this
        exact hb R R' hR hR' (ho.trans ho'.symm)
  alias := fun n i off hm ho => by
    obtain ⟨x, h1, h2⟩ := hc n i off hm ho
    exact ⟨x, h1, h2⟩
/-- A right that another slot's setting leaves alone. -/
theorem at_set {d : Nat} {a x : AV} {R : Rt} (h : At fr H φ R x) (hn : R.off d) : At (Fr.set fr d a) H φ R x := by
  cases R with
  | slot n => simp only [At] at h ⊢; rw [get_set', if_neg (fun e => hn e.symm)]; exact h
  | part n j =>
    obtain ⟨l, h1, h2⟩ := h
    exact ⟨l, by rw [get_set', if_neg (fun e => hn e.symm)]; exact h1, h2⟩
  | cell i off => exact h
/-- No right comes with what is set. -/
theorem Rel.put_del (h : Rel φ G W st fr H) {d : Nat} {v : V} {a : AV} (hv : VRel φ G v a) : Rel φ G W ⟨VFr.set st.f d v, st.w.del d, st.h⟩ (Fr.set fr d a) H := by
  refine h.put hv _ some (fun R hR => ?_) (fun R R' _ _ h1 => Option.some.inj h1) fun n i off hm ho => ?_
  · have : Has st R ∧ R.off d := by
      cases R with
      | slot n => exact mem_del.1 hR
      | part n j => exact mem_del.1 hR
      | cell i off => exact ⟨hR, trivial⟩
    obtain ⟨x, h1, h2⟩ := h.rt R this.1
    exact ⟨x, at_set h1 this.2, this.1, x, h1, rfl, fun h => h⟩
  · obtain ⟨h1, h2⟩ := mem_del.1 hm
    obtain ⟨x, h3, h4⟩ := h.alias n i off h1 ho
    exact ⟨x, by rw [get_set', if_neg (fun e => h2 e.symm)]; exact h3, h4⟩
/-- What is set may be appended to, and comes from nowhere (it names no object), or from a right that is given up. -/
theorem Rel.put_own (h : Rel φ G W st fr H) {d : Nat} {v : V} {a : AV} (hv : VRel φ G v a) {w' : Rts} (hw : ∀ n t, (n, t) ∈ w' → (n, t) ∈ st.w) (R0 : Option Rt)
    (hr : match R0 with | none => (∀ R0 x0 r, Has st R0 → At fr H φ R0 x0 → headId a = some r → headId x0 ≠ some r) ∧ Can G H W a | some R0 => Has st R0 ∧ (∀ st' : VS, st'.w = (d, .own) :: w'.del d → st'.h = st.h → ¬ (Has st' R0 ∧ R0.off d)) ∧ ∃ x0, At fr H φ R0 x0 ∧ headId a = headId x0 ∧ (Can G H W x0 → Can G H W a)) :
    Rel φ G W ⟨VFr.set st.f d v, (d, .own) :: w'.del d, st.h⟩ (Fr.set fr d a) H := by
  have split : ∀ R, Has ⟨VFr.set st.f d v, (d, .own) :: w'.del d, st.h⟩ R → R = .slot d ∨ (Has st R ∧ R.off d) := fun R hR => by
    cases R with
    | slot n =>
      simp only [Has, List.mem_cons, Prod.mk.injEq, and_true] at hR
      rcases hR with rfl | hR
      · exact .inl rfl
      · obtain ⟨h1, h2⟩ := mem_del.1 hR; exact .inr ⟨hw _ _ h1, h2⟩
    | part n j =>
      simp only [Has, List.mem_cons, Prod.mk.injEq, reduceCtorEq, and_false, false_or] at hR
      obtain ⟨h1, h2⟩ := mem_del.1 hR; exact .inr ⟨hw _ _ h1, h2⟩
    | cell i off => exact .inr ⟨hR, trivial⟩
  let org : Rt → Option Rt := fun R => match R with | .slot n => if n = d then R0 else some (.slot n) | R => some R
  have horg : ∀ R, R.off d → org R = some R := fun R hR => by
    cases R with
    | slot n => simp only [org]; rw [if_neg hR]
    | part n j => rfl
    | cell i off => rfl
  have hd : org (.slot d) = R0 := by simp [org]
  refine h.put hv _ org (fun R hR => ?_) (fun R R' hR hR' h12 => ?_) fun n i off hm ho => ?_
  · rcases split R hR with rfl | ⟨h1, h2⟩
    · refine ⟨a, by simp only [At]; rw [get_set', if_pos rfl], ?_⟩
      rw [hd]
      cases R0 with
      | none => exact hr
      | some R0 => exact ⟨hr.1, hr.2.2⟩
    · obtain ⟨x, h3, h4⟩ := h.rt R h1
      refine ⟨x, at_set h3 h2, ?_⟩
      rw [horg R h2]
      exact ⟨h1, x, h3, rfl, fun h => h⟩
  · rcases split R hR with rfl | ⟨h3, h4⟩
    · rcases split R' hR' with rfl | ⟨h3', h4'⟩
      · rfl
      · exfalso
        rw [hd, horg R' h4'] at h12
        subst h12
        exact hr.2.1 ⟨VFr.set st.f d v, (d, .own) :: w'.del d, st.h⟩ rfl rfl ⟨hR', h4'⟩
    · rcases split R' hR' with rfl | ⟨h3', h4'⟩
      · exfalso
        rw [hd, horg R h4] at h12
        subst h12
        exact hr.2.1 ⟨VFr.set st.f d v, (d, .own) :: w'.del d, st.h⟩ rfl rfl ⟨hR, h4⟩
      · rw [horg R h4, horg R' h4'] at h12
        exact Option.some.inj h12
  · simp only [List.mem_cons, Prod.mk.injEq, reduceCtorEq, and_false, false_or] at hm
    obtain ⟨h1, h2⟩ := mem_del.1 hm
    obtain ⟨x, h3, h4⟩ := h.alias n i off (hw _ _ h1) ho
    exact ⟨x, by rw [get_set', if_neg (fun e => h2 e.symm)]; exact h3, h4⟩
end
end Go.Proofs.YtlecbjcloleiiaaDoor.Val

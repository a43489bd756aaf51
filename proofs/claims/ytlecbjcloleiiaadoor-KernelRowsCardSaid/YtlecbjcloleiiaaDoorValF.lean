import Derived.Test.YtlecbjcloleiiaaDoorValE
/-! Pure and reading operations with their rights; new blocks. -/
namespace Go.Proofs.YtlecbjcloleiiaaDoor.Val
open Go Go.Proofs.YtlecbjcloleiiaaDoor.Ram
section
variable {φ : Bk} {G : Fz} {W : Nat → Prop} {st : VS} {fr : Fr} {H : AH}

theorem VRel.nilc {x : Opd} {v : V} {a : AV} (hx : isNilC x = true) (hv : evV st.f x = some v) (ha : x.ev fr = some a) : ∃ s c, a = .sl none s 0 c := by
  cases x with
  | c y =>
    cases y with
    | sl p sz n c =>
      cases p with
      | none =>
        simp only [evV] at hv
        cases n with
        | zero => simp only [Opd.ev, Option.some.injEq] at ha; exact ⟨sz, c, ha.symm⟩
        | succ n => simp only [ofAV] at hv; cases hv
      | some q => cases hx
    | _ => cases hx
  | _ => cases hx
theorem mem_move {w : Rts} {n d m : Nat} {t : Tag} (hne : n ≠ d) : (m, t) ∈ w.move n d ↔ ((m, t) ∈ w ∧ m ≠ d ∧ m ≠ n) ∨ (m = d ∧ (n, t) ∈ w) := by
  simp only [Rts.move, if_neg hne, List.mem_map, List.mem_filter, bne_iff_ne, Prod.exists]
  constructor
  · rintro ⟨k, t', ⟨h1, h2⟩, h3⟩
    split at h3
    · rename_i e; subst e
      obtain ⟨rfl, rfl⟩ := Prod.mk.inj h3
      exact .inr ⟨rfl, h1⟩
    · rename_i e
      obtain ⟨rfl, rfl⟩ := Prod.mk.inj h3
      exact .inl ⟨h1, h2, e⟩
  · rintro (⟨h1, h2, h3⟩ | ⟨rfl, h1⟩)
    · exact ⟨m, t, ⟨h1, h2⟩, by rw [if_neg h3]⟩
    · exact ⟨n, t, ⟨h1, hne⟩, by rw [if_pos rfl]⟩
/-- A slot's value goes to another slot, with its rights. -/
theorem Rel.put_move (h : Rel φ G W st fr H) {n d : Nat} {v : V} {a : AV} (hn : VFr.get st.f n = some v) (ha : Fr.get fr n = some a) (hv : VRel φ G v a) : Rel φ G W ⟨VFr.set st.f d v, st.w.move n d, st.h⟩ (Fr.set fr d a) H := by
  by_cases hne : n = d
  · subst hne
    have hmv : st.w.move n n = st.w := by simp [Rts.move]
    rw [hmv]
    have same : ∀ R x, At fr H φ R x → At (Fr.set fr n a) H φ R x := fun R x hx => by
      cases R with
      | slot m =>
        simp only [At] at hx ⊢
        rw [get_set']
        split
        · rename_i e; subst e; rw [← ha]; exact hx
        · exact hx
      | part m j =>
        obtain ⟨l, h1, h2⟩ := hx
        refine ⟨l, ?_, h2⟩
        rw [get_set']
        split
        · rename_i e; subst e; rw [← ha]; exact h1
        · exact h1
      | cell i off => exact hx
    refine h.put hv _ some (fun R hR => ?_) (fun R R' _ _ h1 => Option.some.inj h1) fun m i off hm ho => ?_
    · have hR' : Has st R := by cases R <;> exact hR
      obtain ⟨x, h1, h2⟩ := h.rt R hR'
      exact ⟨x, same R x h1, hR', x, h1, rfl, fun h => h⟩
    · obtain ⟨x, h3, h4⟩ := h.alias m i off hm ho
      refine ⟨x, ?_, h4⟩
      rw [get_set']
      split
      · rename_i e; subst e; rw [← ha]; exact h3
      · exact h3
  let org : Rt → Option Rt := fun R => match R with | .slot m => if m = d then some (.slot n) else some (.slot m) | .part m j => if m = d then some (.part n j) else some (.part m j) | R => some R
  have at0 : ∀ R R0, org R = some R0 → ∀ x, At fr H φ R0 x → R.off n → At (Fr.set fr d a) H φ R x := fun R R0 ho x hx hR => by
    cases R with
    | slot m =>
      simp only [org] at ho
      split at ho
      · rename_i e; subst e
        obtain rfl := Option.some.inj ho
        simp only [At] at hx ⊢
        rw [get_set', if_pos rfl, ← ha]; exact hx
      · rename_i e
        obtain rfl := Option.some.inj ho
        simp only [At] at hx ⊢
        rw [get_set', if_neg (fun e' => e e'.symm)]; exact hx
    | part m j =>
      simp only [org] at ho
      split at ho
      · rename_i e; subst e
        obtain rfl := Option.some.inj ho
        obtain ⟨l, h1, h2⟩ := hx
        exact ⟨l, by rw [get_set', if_pos rfl, ← ha]; exact h1, h2⟩
      · rename_i e
        obtain rfl := Option.some.inj ho
        obtain ⟨l, h1, h2⟩ := hx
        exact ⟨l, by rw [get_set', if_neg (fun e' => e e'.symm)]; exact h1, h2⟩
    | cell i off => simp only [org, Option.some.injEq] at ho; subst ho; exact hx
  have has0 : ∀ R, Has ⟨VFr.set st.f d v, st.w.move n d, st.h⟩ R → ∃ R0, org R = some R0 ∧ Has st R0 ∧ R.off n := fun R hR => by
    cases R with
    | slot m =>
      rcases (mem_move hne).1 hR with ⟨h1, h2, h3⟩ | ⟨rfl, h1⟩
      · exact ⟨.slot m, by simp only [org]; rw [if_neg h2], h1, h3⟩
      · exact ⟨.slot n, by simp [org], h1, fun e => hne e.symm⟩
    | part m j =>
      rcases (mem_move hne).1 hR with ⟨h1, h2, h3⟩ | ⟨rfl, h1⟩
      · exact ⟨.part m j, by simp only [org]; rw [if_neg h2], h1, h3⟩
      · exact ⟨.part n j, by simp [org], h1, fun e => hne e.symm⟩
    | cell i off => exact ⟨.cell i off, rfl, hR, trivial⟩
  refine h.put hv _ org (fun R hR => ?_) (fun R R' hR hR' h12 => ?_) fun m i off hm ho => ?_
  · obtain ⟨R0, h1, h2, h3⟩ := has0 R hR
    obtain ⟨x, h4, h5⟩ := h.rt R0 h2
    refine ⟨x, at0 R R0 h1 x h4 h3, ?_⟩
    rw [h1]
    exact ⟨h2, x, h4, rfl, fun h => h⟩
  · obtain ⟨R0, h1, _, h3⟩ := has0 R hR
    obtain ⟨_, e2, _, h4⟩ := has0 R' hR'
    have h2 : org R' = some R0 := h12.symm.trans h1
    cases R <;> cases R' <;> simp only [org] at h1 h2
    · rename_i m m'
      split at h1 <;> split at h2
      · rename_i e e'; rw [e, e']
      · obtain rfl := Option.some.inj h1; simp only [Option.some.injEq, Rt.slot.injEq] at h2; exact absurd h2 h4
      · obtain rfl := Option.some.inj h2; simp only [Option.some.injEq, Rt.slot.injEq] at h1; exact absurd h1 h3
      · rw [Option.some.inj h1, Option.some.inj h2]
    · split at h1 <;> split at h2 <;> (rw [← Option.some.inj h1] at h2; cases h2)
    · split at h1 <;> (rw [← Option.some.inj h1] at h2; cases h2)
    · split at h1 <;> split at h2 <;> (rw [← Option.some.inj h1] at h2; cases h2)
    · rename_i m j m' j'
      split at h1 <;> split at h2
      · rename_i e e'; obtain rfl := Option.some.inj h1; simp only [Option.some.injEq, Rt.part.injEq] at h2; rw [e, e', h2.2]
      · obtain rfl := Option.some.inj h1; simp only [Option.some.injEq, Rt.part.injEq] at h2; exact absurd h2.1 h4
      · obtain rfl := Option.some.inj h2; simp only [Option.some.injEq, Rt.part.injEq] at h1; exact absurd h1.1 h3
      · rw [Option.some.inj h1, Option.some.inj h2]
    · split at h1 <;> (rw [← Option.some.inj h1] at h2; cases h2)
    · split at h2 <;> (rw [← Option.some.inj h1] at h2; cases h2)
    · split at h2 <;> (rw [← Option.some.inj h1] at h2; cases h2)
    · rw [Option.some.inj h1, Option.some.inj h2]
  · rcases (mem_move hne).1 hm with ⟨h1, h2, _⟩ | ⟨rfl, h1⟩
    · obtain ⟨x, h3, h4⟩ := h.alias m i off h1 ho
      exact ⟨x, by rw [get_set', if_neg (fun e => h2 e.symm)]; exact h3, h4⟩
    · obtain ⟨x, h3, h4⟩ := h.alias n i off h1 ho
      exact ⟨x, by rw [get_set', if_pos rfl, ← ha]; exact h3, h4⟩
theorem mem_ne {w : Rts} {p q : Nat × Tag} : q ∈ w.filter (fun x => x != p) ↔ q ∈ w ∧ q ≠ p := by simp
def sameObj : VObj → VObj → Prop
  | .cells l _, .cells l' _ => l = l'
  | .map l, .map l' => l = l'
  | _, _ => False
/-- Nil parts and cells may be appended to. -/
theorem Rel.gain (h : Rel φ G W st fr H) {st' : VS} (hf : st'.f = st.f) (hn : st'.h.next = st.h.next) (ho : ∀ i o, st'.h.get i = some o → ∃ o', st.h.get i = some o' ∧ sameObj o o')
    (hR : ∀ R, Has st' R → Has st R ∨ ∃ s c, At fr H φ R (.sl none s 0 c)) (ha : ∀ n i off, (n, Tag.cell i off) ∈ st'.w → ownAt st'.h i off = true → (n, Tag.cell i off) ∈ st.w ∧ ownAt st.h i off = true) : Rel φ G W st' fr H where
  slots := by rw [hf]; exact h.slots
  objs := fun i o hi => by
    obtain ⟨o', h1, h2⟩ := ho i o hi
    obtain ⟨h3, r, h4, h5, h6, h7⟩ := h.objs i o' h1
    refine ⟨by rw [hn]; exact h3, r, h4, h5, h6, ?_⟩
    cases o <;> cases o' <;> first | exact h2.elim | (simp only [sameObj] at h2; subst h2; exact h7)
  inj := fun i j r oi oj hi hj => by
    obtain ⟨o', h1, _⟩ := ho i oi hi
    obtain ⟨o'', h2, _⟩ := ho j oj hj
    exact h.inj i j r o' o'' h1 h2
  dom := by rw [hn]; exact h.dom
  glob := h.glob
  n100 := by rw [hn]; exact h.n100
  fz := h.fz
  win := h.win
  rt := fun R hr => by
    rcases hR R hr with h1 | ⟨s, c, h1⟩
    · exact h.rt R h1
    · exact ⟨_, h1, .inl ⟨s, c, rfl⟩⟩
  rtx := fun R R' x x' r h1 h1' h2 h2' h3 h3' => by
    rcases hR R h1 with k | ⟨s, c, k⟩
    · rcases hR R' h1' with k' | ⟨s', c', k'⟩
      · exact h.rtx R R' x x' r k k' h2 h2' h3 h3'
      · rw [at_uniq h2' k'] at h3'; cases h3'
    · rw [at_uniq h2 k] at h3; cases h3
  alias := fun n i off hm hw => by
    obtain ⟨h1, h2⟩ := ha n i off hm hw
    exact h.alias n i off h1 h2
theorem fill_free : ∀ {qs : List (Nat × Nat × AV)} {z s : List AV} {j : Nat}, fillA z qs = some s → (∀ q ∈ qs, j < q.1 ∨ q.1 + q.2.1 ≤ j) → s[j]? = z[j]?
  | [], _, _, _, h, _ => by simp only [fillA, Option.some.injEq] at h; rw [h]
  | (a, b, x) :: qs, z, s, j, h, hq => by
    simp only [fillA] at h
    split at h
    · rename_i hc
      obtain ⟨c1, c2, _⟩ := hc
      rw [fill_free h fun q hm => hq q (List.mem_cons_of_mem _ hm)]
      have := hq _ List.mem_cons_self
      simp only at this
      rcases this with h1 | h1
      · rw [List.append_assoc, List.getElem?_append_left (by rw [List.length_take]; omega), List.getElem?_take, if_pos h1]
      · rw [List.getElem?_append_right (by rw [List.length_append, List.length_take]; omega), List.length_append, List.length_take, List.getElem?_drop]
        congr 1; omega
    · cases h
theorem evParts_dim {fr : Fr} : ∀ {l : List (Nat × Nat × Opd)} {qs : List (Nat × Nat × AV)}, evParts fr l = some qs → ∀ q ∈ qs, ∃ p ∈ l, p.1 = q.1 ∧ p.2.1 = q.2.1
  | [], _, h, q, hq => by simp only [evParts, Option.some.injEq] at h; subst h; cases hq
  | (a, b, x) :: l, qs, h, q, hq => by
    simp only [evParts, Option.bind_eq_some_iff, Option.map_eq_some_iff] at h
    obtain ⟨v, _, rs, h2, rfl⟩ := h
    rcases List.mem_cons.1 hq with rfl | hq
    · exact ⟨_, List.mem_cons_self, rfl, rfl⟩
    · obtain ⟨p, h3, h4⟩ := evParts_dim h2 q hq
      exact ⟨p, List.mem_cons_of_mem _ h3, h4⟩
theorem mem_nilsFrom : ∀ {l : List AV} {k j : Nat}, j ∈ nilsFrom k l → k ≤ j ∧ ∃ s c, l[j - k]? = some (.sl none s 0 c)
  | [], _, _, h => by cases h
  | x :: l, k, j, h => by
    have tail : j ∈ nilsFrom (k + 1) l → k ≤ j ∧ ∃ s c, (x :: l)[j - k]? = some (.sl none s 0 c) := fun h => by
      obtain ⟨h1, h2⟩ := mem_nilsFrom h
      refine ⟨by omega, ?_⟩
      rw [show j - k = (j - (k + 1)) + 1 by omega]
      exact h2
    simp only [nilsFrom] at h
    split at h
    · rename_i e
      rcases List.mem_cons.1 h with rfl | h
      · refine ⟨Nat.le_refl _, ?_⟩
        rw [Nat.sub_self]
        unfold isNilA at e
        split at e
        · exact ⟨_, _, rfl⟩
        · cases e
      · exact tail h
    · exact tail h
/-- Pure operations with their rights. -/
theorem setS_rel (h : Rel φ G W st fr H) {E : Env} {op : AOp} (hp : op.isPure = true ∨ op.isRead = true) {v : V} {a : AV} (hv : VRel φ G v a)
    (hop : if op.isPure = true then pureV st.f op = some v ∧ pureA fr op = some a else readV E st.f st.h op = some v ∧ readA E fr H op = some a) (dst : Option Nat) :
    Rel φ G W (setS st dst op v) (putD fr dst (some a)) H := by
  cases dst with
  | none => exact h
  | some d =>
    simp only [setS, putD]
    cases op
    case mov x =>
      simp only [AOp.isPure, if_true] at hop
      obtain ⟨h1, h2⟩ := hop
      simp only [pureV, pureA] at h1 h2
      simp only [rtsV, movR]
      cases x with
      | t n => exact h.put_move h1 h2 hv
      | c y =>
        simp only
        split
        · rename_i hc
          obtain ⟨s, c, rfl⟩ := VRel.nilc (st := st) hc h1 h2
          exact h.put_own hv (w' := st.w) (fun _ _ h => h) none ⟨fun _ _ _ _ _ h => (by cases h), .inl ⟨s, c, rfl⟩⟩
        · exact h.put_del hv
      | g n => exact h.put_del hv
      | f n => exact h.put_del hv
    case build zero parts =>
      simp only [AOp.isPure, if_true] at hop
      obtain ⟨_, h2⟩ := hop
      simp only [pureA, Option.bind_eq_some_iff, Option.map_eq_some_iff] at h2
      obtain ⟨qs, k1, cs, k2, rfl⟩ := h2
      simp only [rtsV, bldR]
      have mem : ∀ n t, (n, t) ∈ ((nilsFrom 0 zero).filter (free parts)).map (fun j => (d, Tag.comp j)) ++ st.w.del d → (n, t) ∈ st.w.del d ∨ (n = d ∧ ∃ j, t = .comp j ∧ ∃ s c, cs[j]? = some (.sl none s 0 c)) := fun n t hm => by
        rcases List.mem_append.1 hm with hm | hm
        · right
          obtain ⟨j, h3, h4⟩ := List.mem_map.1 hm
          obtain ⟨h5, h6⟩ := List.mem_filter.1 h3
          obtain ⟨rfl, rfl⟩ := Prod.mk.inj h4
          obtain ⟨_, s, c, h7⟩ := mem_nilsFrom h5
          refine ⟨rfl, j, rfl, s, c, ?_⟩
          rw [fill_free k2 fun q hq => ?_]
          · exact h7
          · obtain ⟨p, g1, g2, g3⟩ := evParts_dim k1 q hq
            have := List.all_eq_true.1 h6 p g1
            simp only [Bool.or_eq_true, decide_eq_true_eq] at this
            rw [← g2, ← g3]; exact this
        · exact .inl hm
      refine (h.put_del (d := d) hv).gain rfl rfl (fun i o hi => ⟨o, hi, by cases o <;> rfl⟩) (fun R hR => ?_) fun n i off hm ho => ?_
      · cases R with
        | slot n =>
          rcases mem n _ hR with h3 | ⟨_, j, h4, _⟩
          · exact .inl h3
          · cases h4
        | part n j =>
          rcases mem n _ hR with h3 | ⟨rfl, j', h4, s, c, h5⟩
          · exact .inl h3
          · cases h4
            exact .inr ⟨s, c, cs, .inr ⟨by rw [get_set', if_pos rfl], s, c, rfl⟩, h5⟩
        | cell i off => exact .inl hR
      · rcases mem n _ hm with h3 | ⟨_, j, h4, _⟩
        · exact ⟨h3, ho⟩
        · cases h4
    case slc sz x lo hi =>
      simp only [AOp.isPure, if_true] at hop
      obtain ⟨h1, h2⟩ := hop
      simp only [rtsV, slcR]
      split
      · rename_i n
        split
        · rename_i hc
          simp only [Bool.and_eq_true, List.contains_iff_mem, bne_iff_ne] at hc
          refine h.put_own hv (w' := st.w.filter fun p => p != (n, .own)) (fun _ _ h => (mem_ne.1 h).1) (some (.slot n)) ⟨hc.1, fun st' hw _ hh => ?_, ?_⟩
          · have := hh.1
            simp only [Has, hw, List.mem_cons, Prod.mk.injEq, and_true] at this
            rcases this with e | this
            · exact hc.2 e
            · exact (mem_ne.1 (mem_del.1 this).1).2 rfl
          · simp only [pureV, pureA, Option.bind_eq_some_iff, evV, Opd.ev, oev, Option.some.injEq] at h1 h2
            obtain ⟨u, k1, l, k2, hi', rfl, k3⟩ := h1
            obtain ⟨x0, k4, k5⟩ := h2
            obtain ⟨x1, k6, k7⟩ := h.slots n u k1
            rw [k4] at k6
            obtain rfl := Option.some.inj k6
            refine ⟨x0, k4, ?_⟩
            obtain ⟨y, k8, k9⟩ := h.rt (.slot n) hc.1
            simp only [At] at k8
            rw [k4] at k8
            obtain rfl := Option.some.inj k8
            rcases k9 with ⟨s, c, rfl⟩ | ⟨r, o, sz', len, c, pre, rfl, hw, hg, hl, hn, hs⟩
            · have : ∃ q, a = .sl none q 0 (some 0) := by
                cases lo with
                | none =>
                  simp only [slcA, bndA, Option.bind_some] at k5
                  split at k5
                  · obtain rfl := Option.some.inj k5; exact ⟨_, rfl⟩
                  · cases k5
                | some z =>
                  simp only [Option.bind_eq_some_iff] at k5
                  obtain ⟨e, _, k5⟩ := k5
                  simp only [slcA, bndA, Option.bind_some, Option.bind_eq_some_iff] at k5
                  obtain ⟨_, _, k5⟩ := k5
                  split at k5
                  · obtain rfl := Option.some.inj k5; exact ⟨_, rfl⟩
                  · cases k5
              obtain ⟨q, rfl⟩ := this
              exact ⟨rfl, fun _ => .inl ⟨_, _, rfl⟩⟩
            · have : ∃ k, k ≤ len ∧ 0 < sz ∧ sz' = sz ∧ a = .sl (some (r, o + k * sz)) sz (len - k) (c.map (· - k)) := by
                cases lo with
                | none =>
                  simp only [slcA, bndA, Option.bind_some] at k5
                  split at k5
                  · rename_i q; obtain rfl := Option.some.inj k5; exact ⟨0, by omega, q.1, q.2.1, by simp⟩
                  · cases k5
                | some z =>
                  simp only [Option.bind_eq_some_iff] at k5
                  obtain ⟨e, _, k5⟩ := k5
                  simp only [slcA, bndA, Option.bind_some, Option.bind_eq_some_iff] at k5
                  obtain ⟨k, _, k5⟩ := k5
                  split at k5
                  · rename_i q; obtain rfl := Option.some.inj k5; exact ⟨k, q.2.2.1, q.1, q.2.1, rfl⟩
                  · cases k5
              obtain ⟨k, q1, q2, rfl, rfl⟩ := this
              refine ⟨rfl, fun _ => .inr ⟨r, o + k * sz', sz', len - k, _, pre, rfl, hw, hg, ?_, fun hcn => ?_, fun d' hd => ?_⟩⟩
              · rw [Nat.sub_mul]
                have := Nat.mul_le_mul_right sz' q1
                omega
              · cases c with
                | none => exact hn rfl
                | some c => cases hcn
              · cases c with
                | none => cases hd
                | some c =>
                  simp only [Option.map_some, Option.some.injEq] at hd
                  obtain ⟨g1, l2, g2, g3, g4⟩ := hs c rfl
                  subst hd
                  refine ⟨by omega, l2, g2, g3, ?_⟩
                  rw [Nat.sub_mul]
                  have := Nat.mul_le_mul_right sz' (Nat.le_trans q1 g1)
                  omega
        · exact h.put_del hv
      · exact h.put_del hv
    case extract x j =>
      simp only [AOp.isPure, if_true] at hop
      obtain ⟨h1, h2⟩ := hop
      simp only [rtsV, extR]
      split
      · rename_i n
        split
        · rename_i hc
          simp only [Bool.and_eq_true, List.contains_iff_mem, bne_iff_ne] at hc
          refine h.put_own hv (w' := st.w.filter fun p => p != (n, .comp j)) (fun _ _ h => (mem_ne.1 h).1) (some (.part n j)) ⟨hc.1, fun st' hw _ hh => ?_, ?_⟩
          · have := hh.1
            simp only [Has, hw, List.mem_cons, Prod.mk.injEq, reduceCtorEq, and_false, false_or] at this
            exact (mem_ne.1 (mem_del.1 this).1).2 rfl
          · obtain ⟨x0, k1, k2⟩ := h.rt (.part n j) hc.1
            obtain ⟨l, k3 | ⟨k3, _⟩, k4⟩ := k1
            rotate_left
            · simp only [pureA, Opd.ev, k3] at h2; cases h2
            simp only [pureA, Opd.ev, k3] at h2
            rw [k4] at h2
            obtain rfl := Option.some.inj h2
            exact ⟨x0, ⟨l, .inl k3, k4⟩, rfl, fun h => h⟩
        · exact h.put_del hv
      · exact h.put_del hv
    case load n ag x =>
      simp only [AOp.isPure, Bool.false_eq_true, if_false] at hop
      obtain ⟨h1, h2⟩ := hop
      simp only [rtsV, loadR]
      split
      · rename_i i off hx
        split
        · rename_i ho
          refine h.put hv _ some (fun R hR => ?_) (fun R R' _ _ h1 => Option.some.inj h1) fun m i' off' hm ho' => ?_
          · have : Has st R ∧ R.off d := by
              cases R with
              | slot n =>
                simp only [Has, List.mem_cons, Prod.mk.injEq, reduceCtorEq, and_false, false_or] at hR
                exact mem_del.1 hR
              | part n j =>
                simp only [Has, List.mem_cons, Prod.mk.injEq, reduceCtorEq, and_false, false_or] at hR
                exact mem_del.1 hR
              | cell i off => exact ⟨hR, trivial⟩
            obtain ⟨x, h1, h2⟩ := h.rt R this.1
            exact ⟨x, at_set h1 this.2, this.1, x, h1, rfl, fun h => h⟩
          · simp only [List.mem_cons, Prod.mk.injEq, Tag.cell.injEq] at hm
            rcases hm with ⟨rfl, rfl, rfl⟩ | hm
            · obtain ⟨y, k1, k2⟩ := h.rt (.cell i' off') ho'
              have k3 := k1
              obtain ⟨r, cs, ro, e1, e2, e3⟩ := k1
              obtain ⟨p, g1, g2⟩ := h.ev hx
              simp only [VRel] at g2
              obtain ⟨r', g3, rfl⟩ := g2
              rw [e1] at g3
              obtain rfl := Option.some.inj g3
              simp only [readA, g1, Option.bind_some, loadA, e2, Bool.false_eq_true, if_false] at h2
              refine ⟨a, by rw [get_set', if_pos rfl], r, cs, ro, e1, e2, h2⟩
            · obtain ⟨h5, h6⟩ := mem_del.1 hm
              obtain ⟨x, h3, h4⟩ := h.alias m i' off' h5 ho'
              exact ⟨x, by rw [get_set', if_neg (fun e => h6 e.symm)]; exact h3, h4⟩
        · exact h.put_del hv
      · exact h.put_del hv
    all_goals exact h.put_del hv
end
end Go.Proofs.YtlecbjcloleiiaaDoor.Val

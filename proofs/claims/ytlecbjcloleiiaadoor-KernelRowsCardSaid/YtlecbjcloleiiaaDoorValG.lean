import Derived.Test.YtlecbjcloleiiaaDoorValF
/-! Memory that changes: rights given up; new blocks; stores; appending. -/
namespace Go.Proofs.YtlecbjcloleiiaaDoor.Val
open Go Go.Proofs.YtlecbjcloleiiaaDoor.Ram
section
variable {φ : Bk} {G : Fz} {W : Nat → Prop} {st : VS} {fr : Fr} {H : AH}

/-- The object of a cell that has a right. -/
theorem Rel.cellW (h : Rel φ G W st fr H) {i off : Nat} (ho : ownAt st.h i off = true) : ∃ l own r cs, st.h.get i = some (.cells l own) ∧ off ∈ own ∧ φ i = some r ∧ W r ∧ G r = none ∧ H.get r = some (.cells cs false) ∧ VRels φ G l cs := by
  unfold ownAt at ho
  split at ho
  · rename_i l own hg
    obtain ⟨_, r, h1, h2, h3, cs, h4, h5⟩ := h.objs i _ hg
    exact ⟨l, own, r, cs, hg, by simpa using ho, h1, h2, h3, h4, h5⟩
  · cases ho
theorem Can.id {a : AV} (h : Can G H W a) {r : Nat} (hr : headId a = some r) : W r ∧ ∃ pre, G r = some pre := by
  rcases h with ⟨s, c, rfl⟩ | ⟨r', o, sz, len, c, pre, rfl, hw, hg, _⟩
  · cases hr
  · obtain rfl := Option.some.inj hr; exact ⟨hw, pre, hg⟩
/-- What is ours stays as it was; what is new comes to it. -/
theorem Rel.heap (h : Rel φ G W st fr H) {H' : AH} {G' : Fz} {W' : Nat → Prop} (hG : FzLe G G') (hW : ∀ r, W r → W' r) (hn : H.next ≤ H'.next) (hk : ∀ r, W r → H'.get r = H.get r ∧ H'.tip r = H.tip r ∧ G' r = G r)
    (hfz : ∀ r pre, G' r = some pre → r < H'.next ∧ ∃ l ro, H'.get r = some (.cells l ro) ∧ pre <+: l) (hwin : ∀ r, W' r → r < H'.next) : Rel φ G' W' st fr H' := by
  have hat : ∀ R x, Has st R → (At fr H' φ R x ↔ At fr H φ R x) := fun R x hR => by
    cases R with
    | slot n => exact Iff.rfl
    | part n j => exact Iff.rfl
    | cell i off =>
      obtain ⟨l, own, r, cs, h1, h2, h3, h4, h5, h6, h7⟩ := h.cellW hR
      constructor
      · rintro ⟨r', cs', ro, e1, e2, e3⟩
        rw [h3] at e1; obtain rfl := Option.some.inj e1
        exact ⟨_, cs', ro, h3, by rw [← (hk _ h4).1]; exact e2, e3⟩
      · rintro ⟨r', cs', ro, e1, e2, e3⟩
        rw [h3] at e1; obtain rfl := Option.some.inj e1
        exact ⟨_, cs', ro, h3, by rw [(hk _ h4).1]; exact e2, e3⟩
  have hcan : ∀ a, Can G H W a → Can G' H' W' a := fun a ha => by
    rcases ha with ⟨s, c, rfl⟩ | ⟨r, o, sz, len, c, pre, rfl, h1, h2, h3, h4, h5⟩
    · exact .inl ⟨s, c, rfl⟩
    · obtain ⟨k1, k2, k3⟩ := hk r h1
      refine .inr ⟨r, o, sz, len, c, pre, rfl, hW r h1, by rw [k3]; exact h2, h3, fun e => ?_, fun d e => ?_⟩
      · obtain ⟨q1, q2⟩ := h4 e; exact ⟨k2.trans q1, k1.trans q2⟩
      · obtain ⟨q1, l, q2, q3, q4⟩ := h5 d e; exact ⟨q1, l, k1.trans q2, q3, q4⟩
  refine ⟨fun n v hv => ?_, fun i o ho => ?_, h.inj, h.dom, h.glob, ⟨h.n100.1, Nat.le_trans h.n100.2 hn⟩, hfz, hwin, fun R hR => ?_, fun R R' a a' r hR hR' ha ha' hr hr' => ?_, fun n i off hm ho => ?_⟩
  · obtain ⟨a, h1, h2⟩ := h.slots n v hv
    exact ⟨a, h1, h2.mono (BkLe.refl _) hG⟩
  · obtain ⟨h1, r, h2, h3, h4, h5⟩ := h.objs i o ho
    obtain ⟨k1, _, k3⟩ := hk r h3
    refine ⟨h1, r, h2, hW r h3, by rw [k3]; exact h4, ?_⟩
    cases o with
    | cells l own => obtain ⟨cs, h6, h7⟩ := h5; exact ⟨cs, k1.trans h6, h7.mono (BkLe.refl _) hG⟩
    | map l =>
      obtain ⟨l', h6, h7⟩ := h5
      exact ⟨l', k1.trans h6, h7.mono (BkLe.refl _) hG⟩
  · obtain ⟨a, h1, h2⟩ := h.rt R hR
    exact ⟨a, (hat R a hR).2 h1, hcan a h2⟩
  · exact h.rtx R R' a a' r hR hR' ((hat R a hR).1 ha) ((hat R' a' hR').1 ha') hr hr'
  · obtain ⟨a, h1, h2⟩ := h.alias n i off hm ho
    exact ⟨a, h1, (hat (.cell i off) a ho).2 h2⟩
theorem drop_get {S : VH} {i off j : Nat} : ∀ o, (dropOwn S i off).get j = some o → ∃ o', S.get j = some o' ∧ (∀ l own, o = .cells l own → ∃ own', o' = .cells l own' ∧ ∀ k, k ∈ own → k ∈ own' ∧ ((j = i ∧ k = off) → False)) ∧ (∀ l, o = .map l → o' = .map l) := fun o ho => by
  unfold dropOwn at ho
  split at ho
  · rename_i l own hg
    simp only [VH.set] at ho
    split at ho
    · rename_i e; subst e
      obtain rfl := Option.some.inj ho
      refine ⟨_, hg, fun l' own' e => ?_, fun l' e => by cases e⟩
      cases e
      refine ⟨own, rfl, fun k hk => ?_⟩
      simp only [List.mem_filter, bne_iff_ne] at hk
      exact ⟨hk.1, fun e => hk.2 e.2⟩
    · rename_i e
      refine ⟨o, ho, fun l' own' e' => ⟨own', e', fun k hk => ⟨hk, fun e2 => e e2.1⟩⟩, fun l' e' => e'⟩
  · rename_i hg
    refine ⟨o, ho, fun l' own' e' => ⟨own', e', fun k hk => ⟨hk, fun e2 => ?_⟩⟩, fun l' e' => e'⟩
    obtain ⟨rfl, _⟩ := e2
    subst e'
    exact hg l' own' ho
theorem drop_next {S : VH} {i off : Nat} : (dropOwn S i off).next = S.next := by
  unfold dropOwn
  split <;> rfl
/-- Fewer rights. -/
theorem Rel.fewer (h : Rel φ G W st fr H) (st' : VS) (hf : st'.f = st.f) (hw : ∀ n t, (n, t) ∈ st'.w → (n, t) ∈ st.w) (hh : st'.h = st.h ∨ ∃ i off, st'.h = dropOwn st.h i off) (W' : Nat → Prop) (hW : ∀ r, W' r → W r)
    (hW2 : ∀ r, W r → ¬ W' r → (∃ pre, G r = some pre) ∧ ∀ R a, Has st' R → At fr H φ R a → headId a ≠ some r) : Rel φ G W' st' fr H := by
  have hown : ∀ i off, ownAt st'.h i off = true → ownAt st.h i off = true := fun i off ho => by
    rcases hh with e | ⟨i', off', e⟩
    · rw [← e]; exact ho
    · rw [e] at ho
      unfold ownAt at ho
      split at ho
      · rename_i l own hg
        obtain ⟨o', h1, h2, _⟩ := drop_get _ hg
        obtain ⟨own', rfl, h3⟩ := h2 l own rfl
        unfold ownAt
        rw [h1]
        simp only [List.contains_iff_mem] at ho ⊢
        exact (h3 off ho).1
      · cases ho
  have hhas : ∀ R, Has st' R → Has st R := fun R hR => by
    cases R with
    | slot n => exact hw _ _ hR
    | part n j => exact hw _ _ hR
    | cell i off => exact hown i off hR
  have hget : ∀ i o, st'.h.get i = some o → ∃ o', st.h.get i = some o' ∧ (∀ r, ObjV φ G H r o' → ObjV φ G H r o) := fun i o ho => by
    rcases hh with e | ⟨i', off', e⟩
    · rw [e] at ho; exact ⟨o, ho, fun _ h => h⟩
    · rw [e] at ho
      obtain ⟨o', h1, h2, h3⟩ := drop_get _ ho
      refine ⟨o', h1, fun r hr => ?_⟩
      cases o with
      | cells l own => obtain ⟨own', rfl, _⟩ := h2 l own rfl; exact hr
      | map l => obtain rfl := h3 l rfl; exact hr
  have hnext : st'.h.next = st.h.next := by
    rcases hh with e | ⟨i', off', e⟩
    · rw [e]
    · rw [e, drop_next]
  refine ⟨fun n v hv => h.slots n v (by rw [← hf]; exact hv), fun i o ho => ?_, fun i j r oi oj hi hj => ?_, fun i r hi => by rw [hnext]; exact h.dom i r hi, h.glob, by rw [hnext]; exact h.n100, h.fz, fun r hr => h.win r (hW r hr), fun R hR => ?_, fun R R' a a' r hR hR' => h.rtx R R' a a' r (hhas R hR) (hhas R' hR'), fun n i off hm ho => h.alias n i off (hw _ _ hm) (hown i off ho)⟩
  · obtain ⟨o', h1, h2⟩ := hget i o ho
    obtain ⟨h3, r, h4, h5, h6, h7⟩ := h.objs i o' h1
    refine ⟨by rw [hnext]; exact h3, r, h4, ?_, h6, h2 r h7⟩
    refine Classical.byContradiction fun hn => ?_
    obtain ⟨pre, hp⟩ := (hW2 r h5 hn).1
    rw [h6] at hp; cases hp
  · obtain ⟨oi', h1, _⟩ := hget i oi hi
    obtain ⟨oj', h2, _⟩ := hget j oj hj
    exact h.inj i j r oi' oj' h1 h2
  · obtain ⟨a, h1, h2⟩ := h.rt R (hhas R hR)
    refine ⟨a, h1, ?_⟩
    rcases h2 with h2 | ⟨r, o, sz, len, c, pre, e, h3, h4⟩
    · exact .inl h2
    · refine .inr ⟨r, o, sz, len, c, pre, e, ?_, h4⟩
      refine Classical.byContradiction fun hn => ?_
      exact (hW2 r h3 hn).2 R a hR h1 (by rw [e]; rfl)

/-! ### new blocks -/
def Bk.put (φ : Bk) (i r : Nat) : Bk := fun j => if j = i then some r else φ j
def Fz.put (G : Fz) (r : Nat) (pre : List AV) : Fz := fun j => if j = r then some pre else G j
theorem Fz.put_le {r : Nat} {pre : List AV} (h : ∀ p, G r = some p → p <+: pre) : FzLe G (Fz.put G r pre) := fun j p hj => by
  unfold Fz.put
  split
  · rename_i e; subst e; exact ⟨pre, rfl, h p hj⟩
  · exact ⟨p, hj, List.prefix_refl _⟩
theorem Bk.put_le {i r : Nat} (h : φ i = none) : BkLe φ (Bk.put φ i r) := fun j q hj => by
  unfold Bk.put
  split
  · rename_i e; subst e; rw [h] at hj; cases hj
  · exact hj
theorem push_get' (H : AH) (o : AObj) (j : Nat) : (H.push o).get j = if j = H.next then some o else H.get j := rfl
/-- A block that the second machine sees as one. -/
theorem Rel.block (h : Rel φ G W st fr H) {o : VObj} {bo : AObj} (ho : ∀ φ', BkLe φ φ' → match o with | .cells l own => own = [] ∧ ∃ cs, bo = .cells cs false ∧ VRels φ' G l cs | .map l => ∃ l', bo = .map l' false ∧ MapV φ' G l l') :
    Rel (Bk.put φ st.h.next H.next) G (fun r => W r ∨ r = H.next) ⟨st.f, st.w, st.h.push o⟩ fr (H.push bo) ∧ Frm φ G W H (Bk.put φ st.h.next H.next) G (fun r => W r ∨ r = H.next) (H.push bo) := by
  have hφ : φ st.h.next = none := by
    cases e : φ st.h.next with
    | none => rfl
    | some r => have := h.dom _ _ e; omega
  have hle := Bk.put_le (r := H.next) hφ
  have hGn : G H.next = none := by
    cases e : G H.next with
    | none => rfl
    | some pre => have := (h.fz _ _ e).1; omega
  have hWn : ¬ W H.next := fun hw => by have := h.win _ hw; omega
  have h1 : Rel φ G (fun r => W r ∨ r = H.next) st fr (H.push bo) := h.heap (FzLe.refl _) (fun r hr => .inl hr) (by simp [AH.push]) (fun r hr => ⟨by rw [push_get', if_neg (by have := h.win r hr; omega)], rfl, rfl⟩)
    (fun r pre hp => by
      obtain ⟨k1, k2⟩ := h.fz r pre hp
      exact ⟨by simp only [AH.push]; omega, by rw [push_get', if_neg (by omega)]; exact k2⟩)
    (fun r hr => by rcases hr with hr | rfl; have := h.win r hr; simp only [AH.push]; omega; simp [AH.push])
  have hold : ∀ i o', (st.h.push o).get i = some o' → i ≠ st.h.next → st.h.get i = some o' := fun i o' h2 h3 => by simpa [VH.push, h3] using h2
  refine ⟨⟨fun n v hv => ?_, fun i o' hi => ?_, fun i j r oi oj hi hj hri hrj => ?_, fun i r hi => ?_, fun g hg => ?_, ⟨by simp only [VH.push]; have := h.n100.1; omega, h1.n100.2⟩, h1.fz, h1.win, fun R hR => ?_, fun R R' a a' r hR hR' ha ha' => ?_, fun n i off hm ho1 => ?_⟩, ⟨by simp [AH.push], hle, FzLe.refl _, fun r hr hw => ⟨by rw [push_get', if_neg (by omega)], rfl, rfl⟩, fun r hr => hr.imp id fun e => by omega⟩⟩
  · obtain ⟨a, h2, h3⟩ := h1.slots n v hv
    exact ⟨a, h2, h3.mono hle (FzLe.refl _)⟩
  · by_cases e : i = st.h.next
    · subst e
      simp only [VH.push, if_true, Option.some.injEq] at hi
      subst hi
      refine ⟨by simp [VH.push], H.next, by simp [Bk.put], .inr rfl, hGn, ?_⟩
      have := ho _ hle
      cases o with
      | cells l own => obtain ⟨_, cs, rfl, h2⟩ := this; exact ⟨cs, by rw [push_get', if_pos rfl], h2⟩
      | map l => obtain ⟨l', rfl, h2⟩ := this; exact ⟨l', by rw [push_get', if_pos rfl], h2⟩
    · obtain ⟨h2, r, h3, h4, h5, h6⟩ := h1.objs i o' (hold i o' hi e)
      refine ⟨by simp only [VH.push]; omega, r, hle _ _ h3, h4, h5, ?_⟩
      cases o' with
      | cells l own => obtain ⟨cs, h7, h8⟩ := h6; exact ⟨cs, h7, h8.mono hle (FzLe.refl _)⟩
      | map l =>
        obtain ⟨l', h7, h8⟩ := h6
        exact ⟨l', h7, h8.mono hle (FzLe.refl _)⟩
  · have old : ∀ k ok, (st.h.push o).get k = some ok → Bk.put φ st.h.next H.next k = some r → k ≠ st.h.next → W r := fun k ok h2 h3 h4 => by
      obtain ⟨_, r', h5, h6, _⟩ := h.objs k ok (hold k ok h2 h4)
      simp only [Bk.put, if_neg h4] at h3
      rw [h3] at h5; obtain rfl := Option.some.inj h5; exact h6
    by_cases e : i = st.h.next
    · by_cases e' : j = st.h.next
      · rw [e, e']
      · have := old j oj hj hrj e'
        subst e
        simp only [Bk.put, if_true, Option.some.injEq] at hri
        subst hri; exact absurd this hWn
    · by_cases e' : j = st.h.next
      · have := old i oi hi hri e
        subst e'
        simp only [Bk.put, if_true, Option.some.injEq] at hrj
        subst hrj; exact absurd this hWn
      · simp only [Bk.put, if_neg e, if_neg e'] at hri hrj
        exact h.inj i j r oi oj (hold i oi hi e) (hold j oj hj e') hri hrj
  · simp only [Bk.put] at hi
    simp only [VH.push]
    split at hi
    · omega
    · have := h.dom i r hi; omega
  · simp only [Bk.put]
    rw [if_neg (by have := h.n100.1; omega)]
    exact h.glob g hg
  all_goals
    have hown : ∀ i off, ownAt (st.h.push o) i off = true → ownAt st.h i off = true := fun i off ho' => by
      unfold ownAt at ho' ⊢
      by_cases e : i = st.h.next
      · subst e
        simp only [VH.push, if_true] at ho'
        cases o with
        | cells l own => obtain ⟨rfl, _⟩ := ho _ hle; cases ho'
        | map l => cases ho'
      · simpa [VH.push, e] using ho'
    have hhas : ∀ R, Has ⟨st.f, st.w, st.h.push o⟩ R → Has st R := fun R hR => by
      cases R with
      | slot n => exact hR
      | part n j => exact hR
      | cell i off => exact hown i off hR
    have hat : ∀ R a, Has st R → (At fr (H.push bo) (Bk.put φ st.h.next H.next) R a ↔ At fr (H.push bo) φ R a) := fun R a hR => by
      cases R with
      | slot n => exact Iff.rfl
      | part n j => exact Iff.rfl
      | cell i off =>
        obtain ⟨l, own, r, cs, _, _, h3, _⟩ := h.cellW hR
        constructor
        · rintro ⟨r', cs', ro, e1, e2⟩
          rw [hle _ _ h3] at e1; obtain rfl := Option.some.inj e1
          exact ⟨_, cs', ro, h3, e2⟩
        · rintro ⟨r', cs', ro, e1, e2⟩
          exact ⟨r', cs', ro, hle _ _ e1, e2⟩
  · obtain ⟨a, h2, h3⟩ := h1.rt R (hhas R hR)
    exact ⟨a, (hat R a (hhas R hR)).2 h2, h3⟩
  · exact h1.rtx R R' a a' r (hhas R hR) (hhas R' hR') ((hat R a (hhas R hR)).1 ha) ((hat R' a' (hhas R' hR')).1 ha')
  · obtain ⟨a, h2, h3⟩ := h1.alias n i off hm (hown i off ho1)
    exact ⟨a, h2, (hat (.cell i off) a (hown i off ho1)).2 h3⟩
end
end Go.Proofs.YtlecbjcloleiiaaDoor.Val

import Derived.Test.YtlecbjcloleiiaaDoorRamI
/-! Regions whose order is open: whatever order comes, our order's end. -/
namespace Go.Proofs.YtlecbjcloleiiaaDoor.Ram
open Go Go.RowKit

/-- An oracle takes no number back. -/
def ONext (O : Oracle) : Prop := ∀ f vs H r, O f vs H = some r → H.next ≤ r.2.next

theorem makeA_push {E : Env} {O : Oracle} {fr : Fr} {H : AH} {op : AOp} (hp : op.isPure = false) (hr : op.isRead = false) (hm : op.isMake = true) {r : Option AV × AH} (h : opA E O fr H op = some r) : ∃ val obj, makeA fr op = some (val, obj) ∧ r = (some (val H.next), H.push obj) := by
  unfold opA at h
  rw [hp, hr, hm] at h
  simp only [Bool.false_eq_true, if_false, if_true, Option.map_eq_some_iff] at h
  obtain ⟨⟨val, obj⟩, h1, rfl⟩ := h
  exact ⟨val, obj, h1, rfl⟩
theorem opA_still {E : Env} {O : Oracle} {fr : Fr} {H : AH} {op : AOp} (h0 : op.isPure = true ∨ op.isRead = true) {r : Option AV × AH} (h : opA E O fr H op = some r) : r.2 = H := by
  unfold opA at h
  by_cases hp : op.isPure = true
  · rw [if_pos hp] at h
    simp only [Option.map_eq_some_iff] at h
    obtain ⟨v, _, rfl⟩ := h; rfl
  · rw [if_neg hp] at h
    rcases h0 with h0 | h0
    · exact absurd h0 hp
    · rw [if_pos h0] at h
      simp only [Option.map_eq_some_iff] at h
      obtain ⟨v, _, rfl⟩ := h; rfl
theorem appendA_next {H : AH} {sz bytes : Nat} {s x : AV} {r : AV × AH} (h : appendA H sz bytes s x = some r) : H.next ≤ r.2.next := by
  unfold appendA at h
  simp only [Option.bind_eq_some_iff] at h
  obtain ⟨n, _, news, _, h⟩ := h
  split at h
  · split at h
    · obtain rfl := Option.some.inj h; exact Nat.le_refl _
    · split at h
      · obtain rfl := Option.some.inj h; simp [AH.push]
      · cases h
  · split at h
    · split at h
      · split at h
        · split at h
          · split at h
            · obtain rfl := Option.some.inj h; exact Nat.le_refl _
            · split at h
              · obtain rfl := Option.some.inj h; exact Nat.le_refl _
              · cases h
          · split at h
            · obtain rfl := Option.some.inj h; simp [AH.push]
            · cases h
        · split at h
          · obtain rfl := Option.some.inj h; simp [AH.push, AH.kill]
          · cases h
      · cases h
    · cases h
  · cases h
theorem appendF_next {H : AH} {sz bytes : Nat} {s x : AV} {r : AV × AH} (h : appendF H sz bytes s x = some r) : H.next ≤ r.2.next := by
  unfold appendF at h
  simp only [Option.bind_eq_some_iff] at h
  obtain ⟨n, _, news, _, h⟩ := h
  split at h
  · split at h
    · obtain rfl := Option.some.inj h; exact Nat.le_refl _
    · split at h
      · obtain rfl := Option.some.inj h; simp [AH.grow, AH.tipOn, AH.push]
      · cases h
  · split at h
    · split at h
      · split at h
        · split at h
          · split at h
            · obtain rfl := Option.some.inj h; exact Nat.le_refl _
            · split at h
              · obtain rfl := Option.some.inj h; exact Nat.le_refl _
              · cases h
          · split at h
            · obtain rfl := Option.some.inj h; simp [AH.grow, AH.tipOn, AH.push]
            · cases h
        · split at h
          · obtain rfl := Option.some.inj h; simp [AH.grow, AH.tipOn, AH.push, AH.stop]
          · cases h
      · cases h
    · cases h
  · cases h
theorem appendX_next {H : AH} {fz : Bool} {sz bytes : Nat} {s x : AV} {r : AV × AH} (h : appendX H fz sz bytes s x = some r) : H.next ≤ r.2.next := by
  unfold appendX at h
  split at h
  · exact appendF_next h
  · exact appendA_next h
theorem opA_next {E : Env} {O : Oracle} (hO : ONext O) {fr : Fr} {H : AH} {op : AOp} {r : Option AV × AH} (h : opA E O fr H op = some r) : H.next ≤ r.2.next := by
  by_cases h0 : op.isPure = true ∨ op.isRead = true
  · rw [opA_still h0 h]; exact Nat.le_refl _
  · have h1 : op.isPure = false := by cases hp : op.isPure <;> simp_all
    have h2 : op.isRead = false := by cases hp : op.isRead <;> simp_all
    by_cases h3 : op.isMake = true
    · obtain ⟨val, obj, _, rfl⟩ := makeA_push h1 h2 h3 h; simp [AH.push]
    · unfold opA at h
      rw [h1, h2, show op.isMake = false by cases hm : op.isMake <;> simp_all] at h
      simp only [Bool.false_eq_true, if_false] at h
      cases op <;> simp only [actA] at h <;> first | (cases h; done) | skip
      · simp only [Option.bind_eq_some_iff, Option.map_eq_some_iff] at h
        obtain ⟨p, _, v, _, H', h, rfl⟩ := h
        unfold storeA at h
        split at h
        · split at h
          · split at h
            · obtain rfl := Option.some.inj h; exact Nat.le_refl _
            · cases h
          · cases h
        · cases h
      · split at h
        · split at h
          · obtain rfl := Option.some.inj h; simp [AH.push]
          · cases h
        · cases h
      · split at h
        · split at h
          · obtain rfl := Option.some.inj h; exact Nat.le_refl _
          · cases h
        · split at h
          · obtain rfl := Option.some.inj h; exact Nat.le_refl _
          · cases h
        · cases h
      · split at h
        · split at h
          · split at h
            · obtain rfl := Option.some.inj h; exact Nat.le_refl _
            · cases h
          · cases h
        · cases h
      · split at h
        · split at h
          · obtain rfl := Option.some.inj h; exact Nat.le_refl _
          · cases h
        · cases h
      · simp only [Option.bind_eq_some_iff, Option.map_eq_some_iff] at h
        obtain ⟨vs, _, r', h, rfl⟩ := h
        exact hO _ _ _ _ h
      · split at h
        · simp only [Option.bind_eq_some_iff, Option.map_eq_some_iff] at h
          obtain ⟨vs, _, r', h, rfl⟩ := h
          exact hO _ _ _ _ h
        · cases h
      · simp only [Option.bind_eq_some_iff, Option.map_eq_some_iff] at h
        obtain ⟨u, _, v, _, r', h, rfl⟩ := h
        exact appendX_next h
      · simp only [Option.bind_eq_some_iff, Option.map_eq_some_iff] at h
        obtain ⟨u, _, v, _, r', h, rfl⟩ := h
        unfold copyA at h
        split at h
        · simp only [Option.bind_eq_some_iff] at h
          obtain ⟨_, _, h⟩ := h
          obtain rfl := Option.some.inj h; exact Nat.le_refl _
        · simp only [Option.bind_eq_some_iff] at h
          obtain ⟨_, _, _, _, h⟩ := h
          split at h
          · split at h
            · obtain rfl := Option.some.inj h; exact Nat.le_refl _
            · cases h
          · cases h
        · cases h
      · simp only [Option.bind_eq_some_iff, Option.map_eq_some_iff] at h
        obtain ⟨u, _, r', h, rfl⟩ := h
        unfold clearA at h
        split at h
        · obtain rfl := Option.some.inj h; exact Nat.le_refl _
        · split at h
          · split at h
            · obtain rfl := Option.some.inj h; exact Nat.le_refl _
            · cases h
          · cases h
        · cases h
theorem stepA_next {E : Env} {O : Oracle} (hO : ONext O) {o : AOper} {s s' : St} (h : stepA E O o s = some s') : s.2.next ≤ s'.2.next := by
  unfold stepA at h
  split at h
  · cases h
  · obtain rfl := Option.some.inj h; exact Nat.le_refl _
  · simp only [Option.map_eq_some_iff] at h
    obtain ⟨r, h, rfl⟩ := h
    exact opA_next hO h
theorem stepA_frame {E : Env} {O : Oracle} {o : AOper} {s s' : St} (h : stepA E O o s = some s') {t : Nat} (ht : o.dst ≠ some t) : Fr.get s'.1 t = Fr.get s.1 t := by
  have hp : ∀ r, Fr.get (putD s.1 o.dst r) t = Fr.get s.1 t := fun r => by
    cases hd : o.dst with
    | none => rfl
    | some d =>
      have hne : t ≠ d := fun e => ht (by rw [hd, e])
      cases r with
      | none => simp only [putD, Fr.get_del]; rw [if_neg hne]
      | some v => simp only [putD, Fr.get_set]; rw [if_neg hne]
  unfold stepA at h
  split at h
  · cases h
  · obtain rfl := Option.some.inj h; exact hp _
  · simp only [Option.map_eq_some_iff] at h
    obtain ⟨r, h, rfl⟩ := h
    exact hp _

theorem makeA_ro {fr : Fr} {op : AOp} {val : Nat → AV} {obj : AObj} (h : makeA fr op = some (val, obj)) : obj.ro = false := by
  cases op <;> simp only [makeA, Option.some.injEq, Prod.mk.injEq, Option.bind_eq_some_iff, Option.map_eq_some_iff, reduceCtorEq] at h
  · rw [← h.2]; rfl
  · obtain ⟨v, _, h⟩ := h
    split at h
    · obtain ⟨_, rfl⟩ := Prod.mk.inj (Option.some.inj h); rfl
    · cases h
  · obtain ⟨ps, _, l, _, _, rfl⟩ := h; rfl
  · rw [← h.2]; rfl
/-- A new block for a number whose object the abstract run has already. -/
theorem HR.map_new {m : LMap} {H : AH} {w : World} (h : HR m H w) {i : Nat} {obj : AObj} (hm : m i = none) (hg : H.get i = some obj) (bo : Obj) (n : Nat) (hr : ∀ m', LSub m m' → ObjR m' (w.alloc bo) ⟨w.heap.size, 0, n⟩ obj) (hro : obj.ro = false) :
    HR (m.put i ⟨w.heap.size, 0, n⟩) H (w.alloc bo) := by
  have hsub := LMap.put_sub (loc := ⟨w.heap.size, 0, n⟩) hm
  have hsz : (w.alloc bo).heap.size = w.heap.size + 1 := by simp
  have hi : i < H.next := by
    rcases Nat.lt_or_ge i H.next with h1 | h1
    · exact h1
    · rw [h.wf i h1] at hg; cases hg
  refine ⟨h.wf, fun j loc hj => ?_, fun j loc o' hj ho => ?_, fun j k lj lk oj ok hj hk hoj hok hne hsh => ?_, h.tipo, fun j lj l ht hj hl => ?_⟩
  rotate_left 3
  · have hji : j ≠ i := fun e => by subst e; rw [hg] at hl; obtain rfl := Option.some.inj hl; cases hro
    unfold LMap.put at hj
    rw [if_neg hji] at hj
    obtain ⟨⟨c, e, hc⟩, h2⟩ := h.tip j lj l ht hj hl
    refine ⟨⟨c, e, (Below.heap_alloc _ _ _ (h.dom j lj hj).2).trans hc⟩, fun q lq oq hq hoq hb hne => ?_⟩
    unfold LMap.put at hq
    split at hq
    · obtain rfl := Option.some.inj hq; have := (h.dom j lj hj).2; simp only at hb; omega
    · exact h2 q lq oq hq hoq hb hne
  · unfold LMap.put at hj
    split at hj
    · rename_i e; subst e; obtain rfl := Option.some.inj hj; exact ⟨hi, by rw [hsz]; exact Nat.lt_succ_self _⟩
    · have := h.dom j loc hj; exact ⟨this.1, by omega⟩
  · unfold LMap.put at hj
    split at hj
    · rename_i e; subst e
      obtain rfl := Option.some.inj hj
      rw [hg] at ho
      obtain rfl := Option.some.inj ho
      exact hr _ hsub
    · exact (h.ok j loc o' hj ho).mono hsub (Below.heap_alloc _ _ _ (h.dom j loc hj).2)
  · unfold LMap.put at hj hk
    split at hj <;> split at hk
    · rename_i e e'; exact absurd (e.trans e'.symm) hne
    · obtain rfl := Option.some.inj hj; have := (h.dom k lk hk).2; simp only; omega
    · obtain rfl := Option.some.inj hk; have := (h.dom j lj hj).2; simp only; omega
    · exact h.sep j k lj lk oj ok hj hk hoj hok hne hsh
theorem Ext.map_new {m0 m : LMap} {H0 H : AH} {w0 w : World} (h : Ext m0 H0 w0 m H w) {i : Nat} (hm : m i = none) (hi : H0.next ≤ i) (bo : Obj) (n : Nat) : Ext m0 H0 w0 (m.put i ⟨w.heap.size, 0, n⟩) H (w.alloc bo) :=
  { next := h.next
    sub := fun j loc hj => LMap.put_sub hm j loc (h.sub j loc hj)
    new := fun j loc hj hn => by
      unfold LMap.put at hj
      split at hj
      · rename_i e; subst e; obtain rfl := Option.some.inj hj; exact ⟨hi, .inl h.size⟩
      · exact h.new j loc hj hn
    unm := h.unm
    ro := h.ro
    rok := h.rok
    tip := h.tip
    frame := fun b hb hm' => by rw [Below.heap_alloc _ _ _ (Nat.lt_of_lt_of_le hb h.size)]; exact h.frame b hb hm'
    size := by have := h.size; simp; omega
    os := h.os
    tape := h.tape
    output := h.output }
theorem Ext.push_right {m0 m : LMap} {H0 H : AH} {w0 w : World} (h : Ext m0 H0 w0 m H w) (hf : H.get H.next = none) (o : AObj) : Ext m0 H0 w0 m (H.push o) w :=
  { h with
    next := by have := h.next; simp [AH.push]; omega
    unm := fun i hi hn => by rw [AH.get_push, if_neg (by have := h.next; omega)]; exact h.unm i hi hn
    ro := fun i hi o' ho => by
      rw [AH.get_push, if_neg (by have := h.next; omega)] at ho; exact h.ro i hi o' ho
    rok := fun i o' ho hr => by
      have := h.rok i o' ho hr
      rw [AH.get_push, if_neg (by intro e; rw [e, hf] at this; cases this)]; exact this
    tip := h.tip }
end Go.Proofs.YtlecbjcloleiiaaDoor.Ram

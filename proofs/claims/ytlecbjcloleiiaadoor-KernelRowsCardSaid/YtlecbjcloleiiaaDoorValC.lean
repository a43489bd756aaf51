import Derived.Test.YtlecbjcloleiiaaDoorValB
/-! How the second machine's values and states stand to the first one's. -/
namespace Go.Proofs.YtlecbjcloleiiaaDoor.Val
open Go Go.Proofs.YtlecbjcloleiiaaDoor.Ram

/-- What is never written again: the beginnings of objects. -/
abbrev Fz := Nat → Option (List AV)
/-- The first machine's number of a block. -/
abbrev Bk := Nat → Option Nat

mutual
def VRel (φ : Bk) (G : Fz) : V → AV → Prop
  | .int k n, a => a = .int k n
  | .bool b, a => a = .bool b
  | .str s, a => a = .str s
  | .ptr none, a => a = .ptr none
  | .ptr (some (i, o)), a => ∃ r, φ i = some r ∧ a = .ptr (some (r, o))
  | .rptr row off, a => ∃ r o pre, G r = some pre ∧ a = .ptr (some (r, o + off)) ∧ VRels φ G row ((pre.drop o).take row.length)
  | .lst sz rows, a => (rows = [] ∧ ∃ s c, a = .sl none s 0 c) ∨ ∃ r o c pre, a = .sl (some (r, o)) sz rows.length c ∧ G r = some pre ∧ o + rows.length * sz ≤ pre.length ∧ RowsRel φ G sz rows (pre.drop o)
  | .map none, a => a = .map none
  | .map (some i), a => ∃ r, φ i = some r ∧ a = .map (some r)
  | .fn f caps, a => ∃ cs, a = .fn f cs ∧ VRels φ G caps cs
  | .nilFn, a => a = .nilFn
  | .nilI, a => a = .nilI
  | .und, a => a = .und
  | .ifc t v, a => ∃ b, a = .ifc t b ∧ VRel φ G v b
  | .agg l, a => ∃ cs, a = .agg cs ∧ VRels φ G l cs
  | .tup l, a => ∃ cs, a = .tup cs ∧ VRels φ G l cs
def VRels (φ : Bk) (G : Fz) : List V → List AV → Prop
  | [], cs => cs = []
  | v :: l, cs => ∃ a r, cs = a :: r ∧ VRel φ G v a ∧ VRels φ G l r
def RowsRel (φ : Bk) (G : Fz) (sz : Nat) : List (List V) → List AV → Prop
  | [], _ => True
  | r :: rows, cs => r.length = sz ∧ VRels φ G r (cs.take sz) ∧ RowsRel φ G sz rows (cs.drop sz)
end
def FzLe (G G' : Fz) : Prop := ∀ r pre, G r = some pre → ∃ pre', G' r = some pre' ∧ pre <+: pre'
def BkLe (φ φ' : Bk) : Prop := ∀ i r, φ i = some r → φ' i = some r
theorem FzLe.refl (G : Fz) : FzLe G G := fun _ pre h => ⟨pre, h, List.prefix_refl _⟩
theorem FzLe.trans {G G1 G2 : Fz} (h : FzLe G G1) (k : FzLe G1 G2) : FzLe G G2 := fun r pre hp => by
  obtain ⟨p1, h1, h2⟩ := h r pre hp
  obtain ⟨p2, h3, h4⟩ := k r p1 h1
  exact ⟨p2, h3, h2.trans h4⟩
theorem BkLe.refl (φ : Bk) : BkLe φ φ := fun _ _ h => h
theorem BkLe.trans {φ φ1 φ2 : Bk} (h : BkLe φ φ1) (k : BkLe φ1 φ2) : BkLe φ φ2 := fun i r hi => k i r (h i r hi)
section
variable {φ φ' : Bk} {G G' : Fz}

theorem VRels.length : ∀ {l : List V} {cs : List AV}, VRels φ G l cs → cs.length = l.length
  | [], _, h => by simp only [VRels] at h; subst h; rfl
  | _ :: l, _, h => by
    simp only [VRels] at h
    obtain ⟨a, r, rfl, _, h3⟩ := h
    simp [VRels.length h3]
theorem take_prefix {pre pre' : List AV} (h : pre <+: pre') {o n : Nat} (hl : o + n ≤ pre.length) : (pre'.drop o).take n = (pre.drop o).take n := by
  obtain ⟨t, rfl⟩ := h
  rw [List.drop_append_of_le_length (by omega), List.take_append_of_le_length (by simp; omega)]
theorem take_prefix0 {cs cs' : List AV} (h : cs <+: cs') {n : Nat} (hl : n ≤ cs.length) : cs'.take n = cs.take n := by
  have := take_prefix h (o := 0) (n := n) (by omega)
  simpa using this
theorem drop_prefix {cs cs' : List AV} (h : cs <+: cs') (n : Nat) (hl : n ≤ cs.length) : cs.drop n <+: cs'.drop n := by
  obtain ⟨t, rfl⟩ := h
  exact ⟨t, by rw [List.drop_append_of_le_length hl]⟩
mutual
theorem VRel.mono (h1 : BkLe φ φ') (h2 : FzLe G G') : ∀ {v : V} {a : AV}, VRel φ G v a → VRel φ' G' v a
  | .int _ _, _, h => h
  | .bool _, _, h => h
  | .str _, _, h => h
  | .ptr none, _, h => h
  | .ptr (some (_, _)), _, h => by
    obtain ⟨r, h3, h4⟩ := (by simpa only [VRel] using h)
    simp only [VRel]; exact ⟨r, h1 _ _ h3, h4⟩
  | .rptr row off, _, h => by
    obtain ⟨r, o, pre, h3, h4, h5⟩ := (by simpa only [VRel] using h)
    obtain ⟨pre', h6, h7⟩ := h2 r pre h3
    simp only [VRel]
    refine ⟨r, o, pre', h6, h4, ?_⟩
    have hl := h5.length
    simp only [List.length_take, List.length_drop] at hl
    by_cases h0 : row.length = 0
    · rw [h0, List.take_zero]; rw [h0, List.take_zero] at h5; exact VRels.mono h1 h2 h5
    · rw [take_prefix h7 (by omega)]; exact VRels.mono h1 h2 h5
  | .lst sz rows, _, h => by
    simp only [VRel] at h ⊢
    rcases h with h | ⟨r, o, c, pre, h3, h4, h5, h6⟩
    · exact .inl h
    · obtain ⟨pre', h7, h8⟩ := h2 r pre h4
      refine .inr ⟨r, o, c, pre', h3, h7, by have := h8.length_le; omega, RowsRel.mono h1 h2 (drop_prefix h8 o (by omega)) ?_ h6⟩
      simp only [List.length_drop]; omega
  | .map none, _, h => h
  | .map (some _), _, h => by
    obtain ⟨r, h3, h4⟩ := (by simpa only [VRel] using h)
    simp only [VRel]; exact ⟨r, h1 _ _ h3, h4⟩
  | .fn _ _, _, h => by
    obtain ⟨cs, h3, h4⟩ := (by simpa only [VRel] using h)
    simp only [VRel]; exact ⟨cs, h3, VRels.mono h1 h2 h4⟩
  | .nilFn, _, h => h
  | .nilI, _, h => h
  | .und, _, h => h
  | .ifc _ _, _, h => by
    obtain ⟨b, h3, h4⟩ := (by simpa only [VRel] using h)
    simp only [VRel]; exact ⟨b, h3, VRel.mono h1 h2 h4⟩
  | .agg _, _, h => by
    obtain ⟨cs, h3, h4⟩ := (by simpa only [VRel] using h)
    simp only [VRel]; exact ⟨cs, h3, VRels.mono h1 h2 h4⟩
  | .tup _, _, h => by
    obtain ⟨cs, h3, h4⟩ := (by simpa only [VRel] using h)
    simp only [VRel]; exact ⟨cs, h3, VRels.mono h1 h2 h4⟩
theorem VRels.mono (h1 : BkLe φ φ') (h2 : FzLe G G') : ∀ {l : List V} {cs : List AV}, VRels φ G l cs → VRels φ' G' l cs
  | [], _, h => h
  | _ :: _, _, h => by
    obtain ⟨a, r, h3, h4, h5⟩ := (by simpa only [VRels] using h)
    simp only [VRels]; exact ⟨a, r, h3, VRel.mono h1 h2 h4, VRels.mono h1 h2 h5⟩
theorem RowsRel.mono (h1 : BkLe φ φ') (h2 : FzLe G G') {sz : Nat} : ∀ {rows : List (List V)} {cs cs' : List AV}, cs <+: cs' → rows.length * sz ≤ cs.length → RowsRel φ G sz rows cs → RowsRel φ' G' sz rows cs'
  | [], _, _, _, _, _ => by simp only [RowsRel]
  | r :: rows, cs, cs', hp, hl, h => by
    simp only [RowsRel] at h ⊢
    obtain ⟨h3, h4, h5⟩ := h
    rw [List.length_cons, Nat.succ_mul] at hl
    exact ⟨h3, by rw [take_prefix0 hp (by omega)]; exact VRels.mono h1 h2 h4, RowsRel.mono h1 h2 (drop_prefix hp sz (by omega)) (by simp only [List.length_drop]; omega) h5⟩
end
-- Only the blocks that a value names matter.
mutual
theorem VRel.clo {n : Nat} (h1 : ∀ i r, i < 100 ∨ i < n → φ i = some r → φ' i = some r) : ∀ {v : V} {a : AV}, V.clo n v = true → VRel φ G v a → VRel φ' G v a
  | .int _ _, _, _, h => h
  | .bool _, _, _, h => h
  | .str _, _, _, h => h
  | .ptr none, _, _, h => h
  | .ptr (some (_, _)), _, hc, h => by
    obtain ⟨r, h3, h4⟩ := (by simpa only [VRel] using h)
    simp only [V.clo, Bool.or_eq_true, decide_eq_true_eq] at hc
    simp only [VRel]; exact ⟨r, h1 _ _ hc h3, h4⟩
  | .rptr row off, _, hc, h => by
    obtain ⟨r, o, pre, h3, h4, h5⟩ := (by simpa only [VRel] using h)
    simp only [V.clo] at hc
    simp only [VRel]
    exact ⟨r, o, pre, h3, h4, VRels.clo h1 hc h5⟩
  | .lst sz rows, _, hc, h => by
    simp only [VRel] at h ⊢
    simp only [V.clo] at hc
    rcases h with h | ⟨r, o, c, pre, h3, h4, h5, h6⟩
    · exact .inl h
    · exact .inr ⟨r, o, c, pre, h3, h4, h5, RowsRel.clo h1 hc h6⟩
  | .map none, _, _, h => h
  | .map (some _), _, hc, h => by
    obtain ⟨r, h3, h4⟩ := (by simpa only [VRel] using h)
    simp only [V.clo, decide_eq_true_eq] at hc
    simp only [VRel]; exact ⟨r, h1 _ _ (.inr hc) h3, h4⟩
  | .fn _ _, _, hc, h => by
    obtain ⟨cs, h3, h4⟩ := (by simpa only [VRel] using h)
    simp only [V.clo] at hc
    simp only [VRel]; exact ⟨cs, h3, VRels.clo h1 hc h4⟩
  | .nilFn, _, _, h => h
  | .nilI, _, _, h => h
  | .und, _, _, h => h
  | .ifc _ _, _, hc, h => by
    obtain ⟨b, h3, h4⟩ := (by simpa only [VRel] using h)
    simp only [V.clo] at hc
    simp only [VRel]; exact ⟨b, h3, VRel.clo h1 hc h4⟩
  | .agg _, _, hc, h => by
    obtain ⟨cs, h3, h4⟩ := (by simpa only [VRel] using h)
    simp only [V.clo] at hc
    simp only [VRel]; exact ⟨cs, h3, VRels.clo h1 hc h4⟩
  | .tup _, _, hc, h => by
    obtain ⟨cs, h3, h4⟩ := (by simpa only [VRel] using h)
    simp only [V.clo] at hc
    simp only [VRel]; exact ⟨cs, h3, VRels.clo h1 hc h4⟩
theorem VRels.clo {n : Nat} (h1 : ∀ i r, i < 100 ∨ i < n → φ i = some r → φ' i = some r) : ∀ {l : List V} {cs : List AV}, V.clos n l = true → VRels φ G l cs → VRels φ' G l cs
  | [], _, _, h => h
  | _ :: _, _, hc, h => by
    obtain ⟨a, r, h3, h4, h5⟩ := (by simpa only [VRels] using h)
    simp only [V.clos, Bool.and_eq_true] at hc
    simp only [VRels]; exact ⟨a, r, h3, VRel.clo h1 hc.1 h4, VRels.clo h1 hc.2 h5⟩
theorem RowsRel.clo {n : Nat} (h1 : ∀ i r, i < 100 ∨ i < n → φ i = some r → φ' i = some r) {sz : Nat} : ∀ {rows : List (List V)} {cs : List AV}, V.closs n rows = true → RowsRel φ G sz rows cs → RowsRel φ' G sz rows cs
  | [], _, _, _ => by simp only [RowsRel]
  | r :: rows, cs, hc, h => by
    simp only [RowsRel] at h ⊢
    simp only [V.closs, Bool.and_eq_true] at hc
    obtain ⟨h3, h4, h5⟩ := h
    exact ⟨h3, VRels.clo h1 hc.1 h4, RowsRel.clo h1 hc.2 h5⟩
end
-- What is known of the blocks holds of the blocks that values name.
mutual
theorem VRel.clo_of {n : Nat} (h1 : ∀ i r, φ i = some r → i < n) : ∀ {v : V} {a : AV}, VRel φ G v a → V.clo n v = true
  | .int _ _, _, _ => rfl
  | .bool _, _, _ => rfl
  | .str _, _, _ => rfl
  | .ptr none, _, _ => rfl
  | .ptr (some (_, _)), _, h => by
    obtain ⟨r, h3, h4⟩ := (by simpa only [VRel] using h)
    simp only [V.clo, Bool.or_eq_true, decide_eq_true_eq]; exact .inr (h1 _ _ h3)
  | .rptr row off, _, h => by
    obtain ⟨r, o, pre, h3, h4, h5⟩ := (by simpa only [VRel] using h)
    simp only [V.clo]; exact VRels.clo_of h1 h5
  | .lst sz rows, _, h => by
    simp only [VRel] at h
    simp only [V.clo]
    rcases h with ⟨rfl, _⟩ | ⟨r, o, c, pre, h3, h4, h5, h6⟩
    · rfl
    · exact RowsRel.clo_of h1 h6
  | .map none, _, _ => rfl
  | .map (some _), _, h => by
    obtain ⟨r, h3, h4⟩ := (by simpa only [VRel] using h)
    simp only [V.clo, decide_eq_true_eq]; exact h1 _ _ h3
  | .fn _ _, _, h => by
    obtain ⟨cs, h3, h4⟩ := (by simpa only [VRel] using h)
    simp only [V.clo]; exact VRels.clo_of h1 h4
  | .nilFn, _, _ => rfl
  | .nilI, _, _ => rfl
  | .und, _, _ => rfl
  | .ifc _ _, _, h => by
    obtain ⟨b, h3, h4⟩ := (by simpa only [VRel] using h)
    simp only [V.clo]; exact VRel.clo_of h1 h4
  | .agg _, _, h => by
    obtain ⟨cs, h3, h4⟩ := (by simpa only [VRel] using h)
    simp only [V.clo]; exact VRels.clo_of h1 h4
  | .tup _, _, h => by
    obtain ⟨cs, h3, h4⟩ := (by simpa only [VRel] using h)
    simp only [V.clo]; exact VRels.clo_of h1 h4
theorem VRels.clo_of {n : Nat} (h1 : ∀ i r, φ i = some r → i < n) : ∀ {l : List V} {cs : List AV}, VRels φ G l cs → V.clos n l = true
  | [], _, _ => rfl
  | _ :: _, _, h => by
    obtain ⟨a, r, h3, h4, h5⟩ := (by simpa only [VRels] using h)
    simp only [V.clos, Bool.and_eq_true]; exact ⟨VRel.clo_of h1 h4, VRels.clo_of h1 h5⟩
theorem RowsRel.clo_of {n : Nat} (h1 : ∀ i r, φ i = some r → i < n) {sz : Nat} : ∀ {rows : List (List V)} {cs : List AV}, RowsRel φ G sz rows cs → V.closs n rows = true
  | [], _, _ => rfl
  | r :: rows, cs, h => by
    simp only [RowsRel] at h
    simp only [V.closs, Bool.and_eq_true]
    exact ⟨VRels.clo_of h1 h.2.1, RowsRel.clo_of h1 h.2.2⟩
end
theorem VRels.get : ∀ {l : List V} {cs : List AV} {j : Nat} {v : V}, VRels φ G l cs → l[j]? = some v → ∃ a, cs[j]? = some a ∧ VRel φ G v a
  | [], _, _, _, _, h => by simp at h
  | x :: l, _, 0, v, h, hv => by
    simp only [VRels] at h
    obtain ⟨a, r, rfl, h2, _⟩ := h
    simp at hv; subst hv
    exact ⟨a, rfl, h2⟩
  | x :: l, _, j + 1, v, h, hv => by
    simp only [VRels] at h
    obtain ⟨a, r, rfl, _, h3⟩ := h
    simp at hv
    obtain ⟨b, h4, h5⟩ := VRels.get h3 hv
    exact ⟨b, by simpa using h4, h5⟩
theorem VRels.append : ∀ {l l' : List V} {cs cs' : List AV}, VRels φ G l cs → VRels φ G l' cs' → VRels φ G (l ++ l') (cs ++ cs')
  | [], _, _, _, h, h' => by simp only [VRels] at h; subst h; exact h'
  | _ :: _, _, _, _, h, h' => by
    simp only [VRels] at h
    obtain ⟨a, r, rfl, h2, h3⟩ := h
    simp only [List.cons_append, VRels]
    exact ⟨a, _, rfl, h2, VRels.append h3 h'⟩
theorem VRels.drop : ∀ {l : List V} {cs : List AV} (k : Nat), VRels φ G l cs → VRels φ G (l.drop k) (cs.drop k)
  | [], _, k, h => by simp only [VRels] at h; subst h; simp [VRels]
  | _ :: _, _, 0, h => h
  | _ :: _, _, k + 1, h => by
    simp only [VRels] at h
    obtain ⟨a, r, rfl, _, h3⟩ := h
    exact VRels.drop k h3
theorem VRels.take : ∀ {l : List V} {cs : List AV} (k : Nat), VRels φ G l cs → VRels φ G (l.take k) (cs.take k)
  | [], _, k, h => by simp only [VRels] at h; subst h; simp [VRels]
  | _ :: _, _, 0, h => by simp [VRels]
  | _ :: _, _, k + 1, h => by
    simp only [VRels] at h
    obtain ⟨a, r, rfl, h2, h3⟩ := h
    simp only [List.take_succ_cons, VRels]
    exact ⟨a, _, rfl, h2, VRels.take k h3⟩
theorem RowsRel.get {sz : Nat} : ∀ {rows : List (List V)} {cs : List AV} {j : Nat} {r : List V}, RowsRel φ G sz rows cs → rows[j]? = some r → r.length = sz ∧ VRels φ G r ((cs.drop (j * sz)).take sz)
  | [], _, _, _, _, h => by simp at h
  | x :: rows, cs, 0, r, h, hr => by
    simp only [RowsRel] at h
    simp at hr; subst hr
    exact ⟨h.1, by simpa using h.2.1⟩
  | x :: rows, cs, j + 1, r, h, hr => by
    simp only [RowsRel] at h
    simp at hr
    obtain ⟨h1, h2⟩ := RowsRel.get h.2.2 hr
    refine ⟨h1, ?_⟩
    rw [List.drop_drop] at h2
    rw [show (j + 1) * sz = sz + j * sz by rw [Nat.succ_mul]; omega]
    exact h2
theorem RowsRel.drop {sz : Nat} : ∀ {rows : List (List V)} {cs : List AV} (k : Nat), RowsRel φ G sz rows cs → RowsRel φ G sz (rows.drop k) (cs.drop (k * sz))
  | rows, cs, 0, h => by simpa using h
  | [], cs, k + 1, h => by simp [RowsRel]
  | x :: rows, cs, k + 1, h => by
    simp only [RowsRel] at h
    have := RowsRel.drop k h.2.2
    rw [List.drop_drop] at this
    rw [List.drop_succ_cons, show (k + 1) * sz = sz + k * sz by rw [Nat.succ_mul]; omega]
    exact this
theorem RowsRel.take {sz : Nat} : ∀ {rows : List (List V)} {cs : List AV} (k : Nat), RowsRel φ G sz rows cs → RowsRel φ G sz (rows.take k) cs
  | rows, cs, 0, h => by simp [RowsRel]
  | [], cs, k + 1, h => by simp [RowsRel]
  | x :: rows, cs, k + 1, h => by
    simp only [RowsRel] at h
    simp only [List.take_succ_cons, RowsRel]
    exact ⟨h.1, h.2.1, RowsRel.take k h.2.2⟩
theorem RowsRel.append {sz : Nat} : ∀ {rows rows' : List (List V)} {cs cs' : List AV}, RowsRel φ G sz rows cs → cs.length = rows.length * sz → RowsRel φ G sz rows' cs' → RowsRel φ G sz (rows ++ rows') (cs ++ cs')
  | [], _, cs, _, h, hl, h' => by
    simp at hl; subst hl; exact h'
  | x :: rows, _, cs, cs', h, hl, h' => by
    simp only [RowsRel] at h
    rw [List.length_cons, Nat.succ_mul] at hl
    simp only [List.cons_append, RowsRel]
    refine ⟨h.1, ?_, ?_⟩
    · rw [List.take_append_of_le_length (by omega)]; exact h.2.1
    · rw [List.drop_append_of_le_length (by omega)]
      exact RowsRel.append h.2.2 (by simp only [List.length_drop]; omega) h'
/-- The cells of rows. -/
theorem RowsRel.cells {sz : Nat} : ∀ {rows : List (List V)} {cs : List AV}, RowsRel φ G sz rows cs → rows.length * sz ≤ cs.length → VRels φ G rows.flatten (cs.take (rows.length * sz))
  | [], cs, h, hl => by simp [VRels]
  | x :: rows, cs, h, hl => by
    simp only [RowsRel] at h
    rw [List.length_cons, Nat.succ_mul] at hl ⊢
    have h3 := RowsRel.cells h.2.2 (by simp only [List.length_drop]; omega)
    rw [List.flatten_cons, show rows.length * sz + sz = sz + rows.length * sz by omega, List.take_add]
    exact h.2.1.append h3
theorem VRel.one {v : V} {a : AV} (h : VRel φ G v a) : oneCell a = oneV v := by
  cases v with
  | ptr p => cases p with
    | none => simp only [VRel] at h; subst h; rfl
    | some q => obtain ⟨i, o⟩ := q; simp only [VRel] at h; obtain ⟨r, _, rfl⟩ := h; rfl
  | map p => cases p with
    | none => simp only [VRel] at h; subst h; rfl
    | some q => simp only [VRel] at h; obtain ⟨r, _, rfl⟩ := h; rfl
  | rptr r o => simp only [VRel] at h; obtain ⟨_, _, _, _, rfl, _⟩ := h; rfl
  | lst sz rows => simp only [VRel] at h; rcases h with ⟨_, _, _, rfl⟩ | ⟨_, _, _, _, rfl, _⟩ <;> rfl
  | fn f l => simp only [VRel] at h; obtain ⟨_, rfl, _⟩ := h; rfl
  | ifc t v => simp only [VRel] at h; obtain ⟨_, rfl, _⟩ := h; rfl
  | agg l => simp only [VRel] at h; obtain ⟨_, rfl, _⟩ := h; rfl
  | tup l => simp only [VRel] at h; obtain ⟨_, rfl, _⟩ := h; rfl
  | int k n => simp only [VRel] at h; subst h; rfl
  | bool b => simp only [VRel] at h; subst h; rfl
  | str s => simp only [VRel] at h; subst h; rfl
  | nilFn => simp only [VRel] at h; subst h; rfl
  | nilI => simp only [VRel] at h; subst h; rfl
  | und => simp only [VRel] at h; subst h; rfl
theorem VRels.one : ∀ {l : List V} {cs : List AV}, VRels φ G l cs → cs.all oneCell = l.all oneV
  | [], _, h => by simp only [VRels] at h; subst h; rfl
  | _ :: _, _, h => by
    simp only [VRels] at h
    obtain ⟨a, r, rfl, h2, h3⟩ := h
    simp only [List.all_cons, h2.one, VRels.one h3]
theorem VRel.cells {v : V} {a : AV} (h : VRel φ G v a) : VRels φ G (cellsV v) (cellsOf a) := by
  have base : ∀ {v : V} {a : AV}, VRel φ G v a → VRels φ G [v] [a] := fun h => by simp only [VRels]; exact ⟨_, _, rfl, h, rfl⟩
  cases v with
  | agg l => simp only [VRel] at h; obtain ⟨_, rfl, h⟩ := h; exact h
  | ptr p =>
    have := base h
    cases p with
    | none => simp only [VRel] at h; subst h; exact this
    | some q => obtain ⟨i, o⟩ := q; simp only [VRel] at h; obtain ⟨r, _, rfl⟩ := h; exact this
  | map p =>
    have := base h
    cases p with
    | none => simp only [VRel] at h; subst h; exact this
    | some q => simp only [VRel] at h; obtain ⟨r, _, rfl⟩ := h; exact this
  | rptr r o => have := base h; simp only [VRel] at h; obtain ⟨_, _, _, _, rfl, _⟩ := h; exact this
  | lst sz rows => have := base h; simp only [VRel] at h; rcases h with ⟨_, _, _, rfl⟩ | ⟨_, _, _, _, rfl, _⟩ <;> exact this
  | fn f l => have := base h; simp only [VRel] at h; obtain ⟨_, rfl, _⟩ := h; exact this
  | ifc t v => have := base h; simp only [VRel] at h; obtain ⟨_, rfl, _⟩ := h; exact this
  | tup l => have := base h; simp only [VRel] at h; obtain ⟨_, rfl, _⟩ := h; exact this
  | int k n => have := base h; simp only [VRel] at h; subst h; exact this
  | bool b => have := base h; simp only [VRel] at h; subst h; exact this
  | str s => have := base h; simp only [VRel] at h; subst h; exact this
  | nilFn => have := base h; simp only [VRel] at h; subst h; exact this
  | nilI => have := base h; simp only [VRel] at h; subst h; exact this
  | und => have := base h; simp only [VRel] at h; subst h; exact this
/-- Values that are alike in both machines. -/
theorem VRel.rigid : ∀ {v : V} {a b : AV}, rigid v = true → VRel φ G v a → VRel φ' G' v b → BkLe φ φ' → a = b
  | .int _ _, _, _, _, h, k, _ => by simp only [VRel] at h k; rw [h, k]
  | .bool _, _, _, _, h, k, _ => by simp only [VRel] at h k; rw [h, k]
  | .str _, _, _, _, h, k, _ => by simp only [VRel] at h k; rw [h, k]
  | .ptr none, _, _, _, h, k, _ => by simp only [VRel] at h k; rw [h, k]
  | .ptr (some (_, _)), _, _, _, h, k, hb => by
    simp only [VRel] at h k
    obtain ⟨r, h1, rfl⟩ := h
    obtain ⟨r', h2, rfl⟩ := k
    rw [hb _ _ h1] at h2
    obtain rfl := Option.some.inj h2
    rfl
  | .map none, _, _, _, h, k, _ => by simp only [VRel] at h k; rw [h, k]
  | .map (some _), _, _, _, h, k, hb => by
    simp only [VRel] at h k
    obtain ⟨r, h1, rfl⟩ := h
    obtain ⟨r', h2, rfl⟩ := k
    rw [hb _ _ h1] at h2
    obtain rfl := Option.some.inj h2
    rfl
  | .nilI, _, _, _, h, k, _ => by simp only [VRel] at h k; rw [h, k]
  | .nilFn, _, _, _, h, k, _ => by simp only [VRel] at h k; rw [h, k]
  | .ifc _ v, _, _, hr, h, k, hb => by
    simp only [VRel] at h k
    obtain ⟨a, rfl, h1⟩ := h
    obtain ⟨b, rfl, h2⟩ := k
    rw [VRel.rigid (by simpa only [Val.rigid] using hr) h1 h2 hb]
  | .rptr _ _, _, _, hr, _, _, _ => by cases hr
  | .lst _ _, _, _, hr, _, _, _ => by cases hr
  | .fn _ _, _, _, hr, _, _, _ => by cases hr
  | .und, _, _, hr, _, _, _ => by cases hr
  | .agg _, _, _, hr, _, _, _ => by cases hr
  | .tup _, _, _, hr, _, _, _ => by cases hr
mutual
theorem ofAV_rel : ∀ {a : AV} {v : V}, ofAV a = some v → VRel φ G v a
  | .int _ _, _, h => by simp only [ofAV, Option.some.injEq] at h; subst h; simp [VRel]
  | .bool _, _, h => by simp only [ofAV, Option.some.injEq] at h; subst h; simp [VRel]
  | .str _, _, h => by simp only [ofAV, Option.some.injEq] at h; subst h; simp [VRel]
  | .ptr none, _, h => by simp only [ofAV, Option.some.injEq] at h; subst h; simp [VRel]
  | .ptr (some _), _, h => by simp only [ofAV] at h; cases h
  | .sl none sz 0 c, _, h => by simp only [ofAV, Option.some.injEq] at h; subst h; simp [VRel]
  | .sl none _ (_ + 1) _, _, h => by simp only [ofAV] at h; cases h
  | .sl (some _) _ _ _, _, h => by simp only [ofAV] at h; cases h
  | .map none, _, h => by simp only [ofAV, Option.some.injEq] at h; subst h; simp [VRel]
  | .map (some _), _, h => by simp only [ofAV] at h; cases h
  | .fn _ _, _, h => by simp only [ofAV] at h; cases h
  | .nilFn, _, h => by simp only [ofAV, Option.some.injEq] at h; subst h; simp [VRel]
  | .nilI, _, h => by simp only [ofAV, Option.some.injEq] at h; subst h; simp [VRel]
  | .und, _, h => by simp only [ofAV] at h; cases h
  | .ifc _ a, _, h => by
    simp only [ofAV, Option.map_eq_some_iff] at h
    obtain ⟨v, h1, rfl⟩ := h
    simp only [VRel]; exact ⟨_, rfl, ofAV_rel h1⟩
  | .agg l, _, h => by
    simp only [ofAV, Option.map_eq_some_iff] at h
    obtain ⟨v, h1, rfl⟩ := h
    simp only [VRel]; exact ⟨_, rfl, ofAVs_rel h1⟩
  | .tup _, _, h => by simp only [ofAV] at h; cases h
theorem ofAVs_rel : ∀ {l : List AV} {vs : List V}, ofAVs l = some vs → VRels φ G vs l
  | [], _, h => by simp only [ofAVs, Option.some.injEq] at h; subst h; simp [VRels]
  | a :: l, _, h => by
    simp only [ofAVs, Option.bind_eq_some_iff, Option.map_eq_some_iff] at h
    obtain ⟨v, h1, vs, h2, rfl⟩ := h
    simp only [VRels]; exact ⟨_, _, rfl, ofAV_rel h1, ofAVs_rel h2⟩
end
end
end Go.Proofs.YtlecbjcloleiiaaDoor.Val

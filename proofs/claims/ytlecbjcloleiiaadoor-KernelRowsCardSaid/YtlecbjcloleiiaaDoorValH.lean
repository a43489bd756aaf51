import Derived.Test.YtlecbjcloleiiaaDoorValG
/-! Stores; lists made; appending. -/
namespace Go.Proofs.YtlecbjcloleiiaaDoor.Val
open Go Go.Proofs.YtlecbjcloleiiaaDoor.Ram
section
variable {φ : Bk} {G : Fz} {W : Nat → Prop} {st : VS} {fr : Fr} {H : AH}

/-- An object that only we see from now on, and that holds what is never written again. -/
theorem Rel.frozen (h : Rel φ G W st fr H) {H' : AH} {r : Nat} {pre l : List AV} {ro : Bool} (hw : ¬ W r) (hr : r < H'.next) (hn : H.next ≤ H'.next) (hG : ∀ p, G r = some p → p <+: pre) (hk : ∀ q, q < H.next → q ≠ r → H'.get q = H.get q ∧ (W q → H'.tip q = H.tip q))
    (hg : H'.get r = some (.cells l ro)) (hp : pre <+: l) : Rel φ (Fz.put G r pre) (fun q => W q ∨ q = r) st fr H' := by
  refine h.heap (Fz.put_le hG) (fun q hq => .inl hq) hn (fun q hq => ?_) (fun q p hqp => ?_) (fun q hq => ?_)
  · have hne : q ≠ r := fun e => hw (by rw [← e]; exact hq)
    have hlt := h.win q hq
    exact ⟨(hk q hlt hne).1, (hk q hlt hne).2 hq, by simp [Fz.put, hne]⟩
  · unfold Fz.put at hqp
    split at hqp
    · rename_i e; subst e; obtain rfl := Option.some.inj hqp; exact ⟨hr, l, ro, hg, hp⟩
    · rename_i e
      obtain ⟨k1, k2⟩ := h.fz q p hqp
      exact ⟨by omega, by rw [(hk q k1 e).1]; exact k2⟩
  · rcases hq with hq | rfl
    · have := h.win q hq; omega
    · exact hr
theorem Rel.fresh_id (h : Rel φ G W st fr H) {r : Nat} (hw : ¬ W r) : ∀ R0 x0 q, Has st R0 → At fr H φ R0 x0 → some r = some q → headId x0 ≠ some q := fun R0 x0 q hR hx e e2 => by
  obtain rfl := Option.some.inj e
  obtain ⟨y, h1, h2⟩ := h.rt R0 hR
  obtain rfl := at_uniq hx h1
  exact hw (h2.id e2).1
theorem RowsRel.of_rowsOf {sz : Nat} : ∀ {n : Nat} {l : List V} {cs : List AV}, VRels φ G l cs → l.length = n * sz → RowsRel φ G sz (rowsOf sz n l) cs
  | 0, _, _, _, _ => by simp [rowsOf, RowsRel]
  | n + 1, l, cs, h, hl => by
    rw [Nat.succ_mul] at hl
    simp only [rowsOf, RowsRel]
    exact ⟨by simp; omega, h.take sz, RowsRel.of_rowsOf (h.drop sz) (by simp; omega)⟩
theorem rowsOf_len {sz : Nat} : ∀ {n : Nat} {l : List V}, (rowsOf sz n l).length = n
  | 0, _ => rfl
  | n + 1, l => by simp [rowsOf, rowsOf_len]
/-- A list that the run has made: its cells in a new object (of the first machine's, by a push). -/
theorem Rel.newList (h : Rel φ G W st fr H) {d sz : Nat} {rows : List (List V)} {cs : List AV} {cap : Nat} {pre : List AV} (hr : RowsRel φ G sz rows pre) (hl : pre.length = rows.length * sz) (hp : pre <+: cs) (hc : rows.length ≤ cap) (hcap : cap * sz ≤ cs.length) :
    Rel φ (Fz.put G H.next pre) (fun q => W q ∨ q = H.next) ⟨VFr.set st.f d (.lst sz rows), (d, .own) :: st.w.del d, st.h⟩ (Fr.set fr d (.sl (some (H.next, 0)) sz rows.length (some cap))) (H.push (.cells cs false)) ∧ Frm φ G W H φ (Fz.put G H.next pre) (fun q => W q ∨ q = H.next) (H.push (.cells cs false)) := by
  have hWn : ¬ W H.next := fun hw => by have := h.win _ hw; omega
  have hGn : G H.next = none := by
    cases e : G H.next with
    | none => rfl
    | some pre => have := (h.fz _ _ e).1; omega
  have hle : FzLe G (Fz.put G H.next pre) := Fz.put_le fun p e => by rw [hGn] at e; cases e
  have hg : (H.push (.cells cs false)).get H.next = some (.cells cs false) := by rw [push_get', if_pos rfl]
  have h1 := h.frozen (H' := H.push (.cells cs false)) hWn (by simp [AH.push]) (by simp [AH.push]) (fun p e => by rw [hGn] at e; cases e) (fun q hq hne => ⟨by rw [push_get', if_neg hne], fun _ => rfl⟩) hg hp
  refine ⟨?_, by simp [AH.push], BkLe.refl _, hle, fun r hr hw => ⟨by rw [push_get', if_neg (by omega)], rfl, by simp only [Fz.put]; rw [if_neg (by omega)]⟩, fun r hr => hr.imp id fun e => by omega⟩
  refine h1.put_own (v := .lst sz rows) ?_ (w' := st.w) (fun _ _ h => h) none ⟨fun R0 x0 q hR hx e e2 => ?_, ?_⟩
  · simp only [VRel]
    exact .inr ⟨H.next, 0, some cap, pre, rfl, by simp [Fz.put], by omega, by rw [List.drop_zero]; exact hr.mono (BkLe.refl _) hle (List.prefix_refl _) (by omega)⟩
  · obtain ⟨y, k1, k2⟩ := h.rt R0 hR
    obtain ⟨y', k3, k4⟩ := h1.rt R0 hR
    obtain rfl := at_uniq hx k3
    obtain rfl := Option.some.inj e
    -- the right's object is an older one
    have hsame : x0 = y := by
      cases R0 with
      | slot n => exact at_uniq (R := .slot n) (H := H) (φ := φ) hx k1
      | part n j => exact at_uniq (R := .part n j) (H := H) (φ := φ) hx k1
      | cell i off =>
        obtain ⟨l, own, r, cs', _, _, q3, q4, _, q6, _⟩ := h.cellW hR
        obtain ⟨r', cs2, ro, e1, e2, e3⟩ := k3
        rw [q3] at e1; obtain rfl := Option.some.inj e1
        have hlt := h.win _ q4
        rw [push_get', if_neg (by omega)] at e2
        exact at_uniq (R := .cell i off) (fr := fr) (H := H) (φ := φ) ⟨_, cs2, ro, q3, e2, e3⟩ k1
    subst hsame
    exact hWn (k2.id e2).1
  · exact .inr ⟨H.next, 0, sz, rows.length, some cap, pre, rfl, .inr rfl, by simp [Fz.put], by omega, fun e => (by cases e), fun c e => by obtain rfl := Option.some.inj e; exact ⟨hc, cs, hg, hp, by omega⟩⟩
theorem put_rel {l news : List V} {cs ns : List AV} {off : Nat} (h : VRels φ G l cs) (hn : VRels φ G news ns) : VRels φ G (putV l off news) (putCells cs off ns) := by
  unfold putV putCells
  rw [hn.length]
  exact ((h.take _).append hn).append (h.drop _)
end
end Go.Proofs.YtlecbjcloleiiaaDoor.Val

import Derived.Test.YtlecbjcloleiiaaDoorValL
import Derived.Test.YtlecbjcloleiiaaDoorValU
import Derived.Test.YtlecbjcloleiiaaDoorRamS
/-! Prims of the second machine: copies of slices; closed calls. -/
namespace Go.Proofs.YtlecbjcloleiiaaDoor.Val
open Go Go.Proofs.YtlecbjcloleiiaaDoor.Ram

/-- What is asked of a prim. -/
def PrimOk (TR : Tab) (f : Nat) (p : List V → VH → Option (V × VH)) : Prop := ∀ (vs : List V) (rs : List Nat) (S : VH) (v : V) (S' : VH), p vs S = some (v, S') → ∀ (φ : Bk) (G : Fz) (W : Nat → Prop) (H : AH) (as' : List AV), Rel φ G W ⟨frV vs, rs.map fun k => (k, .own), S⟩ (frOf as') H → as'.length = vs.length →
    ∃ a H' φ' G' W', Ram.Call TR f as' H = some (a, H') ∧ Rel φ' G' W' ⟨[(0, v)], [], S'⟩ [(0, a)] H' ∧ Frm φ G W H φ' G' W' H'
theorem Rel.only {φ : Bk} {G : Fz} {W : Nat → Prop} {st : VS} {fr : Fr} {H : AH} (h : Rel φ G W st fr H) {v : V} {a : AV} (hv : VRel φ G v a) : Rel φ G W ⟨[(0, v)], [], st.h⟩ [(0, a)] H := by
  have h1 := h.mixed h (Frm.refl _ _ _ _)
  exact { h1 with
    slots := fun n u hu => by
      simp only [VFr.get] at hu
      split at hu
      · rename_i e; subst e; obtain rfl := Option.some.inj hu; exact ⟨a, by simp [Fr.get], hv⟩
      · cases hu
    rt := fun R hR => by
      cases R with
      | slot n => cases hR
      | part n j => cases hR
      | cell i off => exact h1.rt (.cell i off) hR
    rtx := fun R R' x x' r hR hR' hx hx' => by
      cases R with
      | slot n => cases hR
      | part n j => cases hR
      | cell i off =>
        cases R' with
        | slot n => cases hR'
        | part n j => cases hR'
        | cell i' off' => exact h1.rtx (.cell i off) (.cell i' off') x x' r hR hR' hx hx'
    alias := fun n i off hm => by cases hm }
def cloneC (fz : Bool) (sz bytes : Nat) : ACode :=
 .seq (.reg [.o 2 (.mov (.c (.sl none sz 0 (some 0))))])
 (.keep [0] (.seq (.seq (.reg [.o 3 (.mov (.t 0)),
 .o 4 (.eq false .nilS (.t 3) (.c (.sl none 1 0 (some 0))))])
 (.keep [0, 4] (.cond (.t 4)
 (.seq (.reg [.o 2 (.mov (.c (.sl none sz 0 (some 0))))])
 (.ret))
 (.skip))))
 (.keep [0] (.seq (.reg [.o 5 (.bslice sz 0 [] []),
 .o 6 (.mov (.t 0)),
 .o 7 (.append fz sz bytes (.t 5) (.t 6)),
 .o 2 (.mov (.t 7))])
 (.ret)))))
def cloneA (fz : Bool) (sz bytes : Nat) : AFun := ⟨1, cloneC fz sz bytes, [.tmp 2]⟩
def cloneP (fz : Bool) (sz bytes : Nat) : List V → VH → Option (V × VH)
  | [.lst sz' rows], S => if sz' = sz ∧ rows.length * bytes ≤ 140737488355328 ∧ (fz = true ∨ rows = []) then some (.lst sz rows, S) else none
  | _, _ => none
theorem cloneP_ok {TR : Tab} {f sz bytes : Nat} {fz : Bool} (hf : TR.fn f = some (.code (cloneA fz sz bytes))) (hs : 0 < sz) (hb : 0 < bytes) : PrimOk TR f (cloneP fz sz bytes) := by
  intro vs rs S v S' hp φ G W H as' h hl
  unfold cloneP at hp
  split at hp
  · rename_i S0 sz' rows
    split at hp
    · rename_i hc
      obtain ⟨rfl, hc, hfz⟩ := hc
      obtain ⟨rfl, rfl⟩ := Prod.mk.inj (Option.some.inj hp)
      obtain ⟨a, h1, h2⟩ := h.slots 0 (.lst sz' rows) (by simp)
      rw [get_frOf'] at h1
      match as', hl, h1 with
      | [x], _, h1 =>
        simp at h1; subst h1
        have h3 := h2
        simp only [VRel] at h2
        rw [Call_code hf]
        have hn := h.n100.2
        rcases h2 with ⟨rfl, s, c, rfl⟩ | ⟨r, o, c, pre, rfl, g1, g2, g3⟩
        · refine ⟨.sl none sz' 0 (some 0), H, φ, G, W, ?_, h.only (by simp [VRel]), Frm.refl _ _ _ _⟩
          simp -implicitDefEqProofs [afunL, cloneA, cloneC, frOf, eqA, finA, resA, tupOf]
        · obtain ⟨cs, k1, k2, k3, k4⟩ := h.rows (sz := sz') (rows := rows) h3 (by simp [rowsOfV])
          have hWn : ¬ W H.next := fun hw => by have := h.win _ hw; omega
          have hGn : ∀ q, H.next ≤ q → G q = none := fun q hq => by
            cases e : G q with
            | none => rfl
            | some pre => have := (h.fz _ _ e).1; omega
          have k5 : sliceCells (H.push (.cells [] false)) sz' rows.length (.sl (some (r, o)) sz' rows.length c) = some cs := by
            have e : (H.push (.cells [] false)).get r = H.get r := by rw [Val.push_get', if_neg (by have := (h.fz r pre g1).1; omega)]
            unfold sliceCells at k2 ⊢
            dsimp only at k2 ⊢
            rw [e]; exact k2
          by_cases h0 : rows.length = 0
          · have hr : rows = [] := List.length_eq_zero_iff.1 h0
            subst hr
            have hcs : cs = [] := by simpa using k3
            subst hcs
            have h4 := h.frozen (H' := H.push (.cells [] false)) (r := H.next) (pre := []) (l := []) (ro := false) hWn (by simp [AH.push]) (by simp [AH.push]) (fun p e => by rw [hGn _ (Nat.le_refl _)] at e; cases e) (fun q hq hne => ⟨by rw [Val.push_get', if_neg hne], fun _ => rfl⟩) (by rw [Val.push_get', if_pos rfl]) (List.prefix_refl _)
            refine ⟨.sl (some (H.next, 0)) sz' 0 (some 0), H.push (.cells [] false), φ, _, _, ?_, h4.only (v := .lst sz' []) (by simp only [VRel]; exact .inr ⟨H.next, 0, some 0, [], rfl, by simp [Fz.put], by simp, by simp [RowsRel]⟩), ?_⟩
            · simp only [List.length_nil] at k5
              cases fz <;> simp -implicitDefEqProofs [afunL, cloneA, cloneC, frOf, eqA, finA, resA, tupOf, appendX, appendF, appendA, lenA, k5, hs, hb]
            · exact ⟨by simp [AH.push], BkLe.refl _, Fz.put_le fun p e => (by rw [hGn _ (Nat.le_refl _)] at e; cases e), fun q hq _ => ⟨by rw [Val.push_get', if_neg (by omega)], rfl, by simp only [Fz.put]; rw [if_neg (by omega)]⟩, fun q hq => hq.imp id fun e => by omega⟩
          · have h4 := h.frozen (H' := (H.push (.cells [] false)).grow cs) (r := H.next + 1) (pre := cs) (l := cs) (ro := true) (fun hw => by have := h.win _ hw; omega) (by simp [AH.grow, AH.tipOn, AH.push]) (by simp [AH.grow, AH.tipOn, AH.push]; omega) (fun p e => by rw [hGn _ (by omega)] at e; cases e)
              (fun q hq hne => ⟨by show (if q = H.next + 1 then some (AObj.cells cs true) else if q = H.next then some (AObj.cells [] false) else H.get q) = H.get q; rw [if_neg (by omega), if_neg (by omega)], fun _ => by show (if q = H.next + 1 then true else H.tip q) = H.tip q; rw [if_neg (by omega)]⟩) (by show (if H.next + 1 = H.next + 1 then some (AObj.cells cs true) else _) = some (AObj.cells cs true); rw [if_pos rfl]) (List.prefix_refl _)
            have hle : FzLe G (Fz.put G (H.next + 1) cs) := Fz.put_le fun p e => (by rw [hGn _ (by omega)] at e; cases e)
            refine ⟨.sl (some (H.next + 1, 0)) sz' rows.length none, (H.push (.cells [] false)).grow cs, φ, _, _, ?_, h4.only (v := .lst sz' rows) (by simp only [VRel]; exact .inr ⟨H.next + 1, 0, none, cs, rfl, by simp [Fz.put], by omega, by rw [List.drop_zero]; exact k4.mono (BkLe.refl _) hle (List.prefix_refl _) (by omega)⟩), ?_⟩
            · have hb' : 100 ≤ H.next + 1 := by omega
              obtain rfl : fz = true := hfz.resolve_right fun e => h0 (by rw [e]; rfl)
              simp -implicitDefEqProofs [afunL, cloneA, cloneC, frOf, eqA, finA, resA, tupOf, appendX, appendF, lenA, k5, hs, hb, h0, hc, hb']
            · exact ⟨by simp [AH.grow, AH.tipOn, AH.push]; omega, BkLe.refl _, hle, fun q hq _ => ⟨by show (if q = H.next + 1 then some (AObj.cells cs true) else if q = H.next then some (AObj.cells [] false) else H.get q) = H.get q; rw [if_neg (by omega), if_neg (by omega)], by show (if q = H.next + 1 then true else H.tip q) = H.tip q; rw [if_neg (by omega)], by simp only [Fz.put]; rw [if_neg (by omega)]⟩, fun q hq => hq.imp id fun e => by omega⟩
    · cases hp
  · cases hp
end Go.Proofs.YtlecbjcloleiiaaDoor.Val

import Derived.Test.YtlecbjcloleiiaaDoorRamR
/-! An argument that is a slice of one-cell elements. -/
namespace Go.Proofs.YtlecbjcloleiiaaDoor.Ram
open Go Go.RowKit

/-- A slice argument: what it is in the machine, with its object. -/
theorem slice_arg {W : World} {m : LMap} {g : Loc} (hg : ObjR m W g (.cells [] true)) {a : Addr} {len cap : Nat} {xs : List AV} {vs : List Value} (hx : VRs m xs vs) (h1 : xs.all oneCell = true) (hcap : xs.length = cap) (hl : len ≤ cap) (hm : cap ≤ maxLen)
    (hc : ∀ i v, vs[i]? = some v → W.cell? (a.add i) = some v) :
    ∃ (loc : Loc) (l : List AV), ObjR m W loc (.cells l true) ∧ (len ≤ l.length ∧ l.take len = xs.take len) ∧ ∀ m' i, m' i = some loc → VR m' (.sl (some (i, 0)) 1 len none) (.slice (some a) len cap) := by
  have hv := hx.length
  by_cases h0 : cap = 0
  · refine ⟨g, [], hg, ⟨by simp; omega, by rw [show len = 0 by omega]; simp⟩, fun m' i hi => ?_⟩
    simp only [VR]
    exact ⟨g, cap, a, hi, rfl, fun h => absurd h (by omega), hl, by omega, hm, fun d hd => by cases hd⟩
  · obtain ⟨b, off, spot⟩ := a
    have hc0 := hc 0 (vs[0]'(by omega)) (List.getElem?_eq_getElem (by omega))
    have hspot : spot = none := by simpa [Addr.add] using World.cell?_spot hc0
    subst hspot
    have hcell : ∀ i v, vs[i]? = some v → W.cell? ⟨b, off + i, none⟩ = some v := fun i v hi => by rw [← Go.WideShapes.add_plain]; exact hc i v hi
    have hc1 := hcell 0 _ (List.getElem?_eq_getElem (show 0 < vs.length by omega))
    obtain ⟨c, e, f, hb⟩ : ∃ c e f, W.heap[b]? = some (.cells c e f) := by
      simp only [World.cell?] at hc1
      split at hc1
      · rename_i c e f hb; exact ⟨c, e, f, hb⟩
      all_goals cases hc1
    have hgetc : ∀ i v, vs[i]? = some v → c[off + i]? = some v := fun i v hi => by
      have := hcell i v hi
      simpa [World.cell?, hb] using this
    have hlast := hgetc (cap - 1) _ (List.getElem?_eq_getElem (show cap - 1 < vs.length by omega))
    have hlt : off + (cap - 1) < c.size := (Array.getElem?_eq_some_iff.1 hlast).1
    refine ⟨⟨b, off, c.size - off⟩, xs, ⟨c, e, f, hb, fun h => (by cases h), (by dsimp only; omega), (by dsimp only; omega), fun j x hj => ?_⟩, ⟨by omega, rfl⟩, fun m' i hi => ?_⟩
    · obtain ⟨v, h2, h3⟩ := hx.get hj
      exact ⟨v, hgetc j v h2, h3, List.all_eq_true.1 h1 x (List.mem_of_getElem? hj)⟩
    · simp only [VR]
      exact ⟨_, cap, _, hi, rfl, fun _ => by simp, hl, (by dsimp only; omega), hm, fun d hd => by cases hd⟩
end Go.Proofs.YtlecbjcloleiiaaDoor.Ram

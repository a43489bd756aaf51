import Derived.Test.YtlecbjcloleiiaaDoorRamW
/-! The table in which the chapter's examples are told by their answer. -/
namespace Go.Proofs.YtlecbjcloleiiaaDoor.Ram
open Go Go.RowKit

def firstP : List AV → AH → Option (AV × AH)
  | [], H => some (.bool true, H)
  | _, _ => none
theorem firstPOk : OSound Tryd.prog gl (fun g vs H => if g = F_patoislaw4_first then firstP vs H else none) ∧ ∀ vs H r, firstP vs H = some r → H.next ≤ r.2.next := by
  have key : ∀ vs H r, firstP vs H = some r → vs = [] ∧ r = (.bool true, H) := by
    intro vs H r h
    unfold firstP at h
    split at h
    · exact ⟨rfl, (Option.some.inj h).symm⟩
    · cases h
  refine ⟨fun f vs H r h m w cargs hG hh hv => ?_, fun vs H r h => ?_⟩
  · by_cases hf : f = F_patoislaw4_first
    · subst hf
      dsimp only at h; rw [if_pos rfl] at h
      obtain ⟨rfl, rfl⟩ := key _ _ _ h
      simp only [VRs] at hv
      obtain rfl : cargs = #[] := by rw [← Array.toArray_toList (xs := cargs), hv]
      have h1 : ∃ H1, callC T 60 F_patoislaw4_first [] (H00 100) = some (.bool true, H1) := by
        have h0 := first_run
        unfold isTrue at h0
        split at h0
        · rename_i H1 e; exact ⟨H1, e⟩
        · cases h0
      obtain ⟨H1, h1⟩ := h1
      exact closed_sound tabOk (k := 100) (by decide) (fun m m' c h => by simpa only [VR] using h) (Call_of_callC h1) hG hh
    · dsimp only at h; rw [if_neg hf] at h; cases h
  · obtain ⟨rfl, rfl⟩ := key _ _ _ h
    exact Nat.le_refl _
def U : Tab := ⟨T.E, fun f => if f = F_patoislaw4_first then some (.prim firstP) else T.fn f⟩
theorem tabOkU : TabOk Tryd.prog gl U where
  env := tabOk.env
  code := fun f F h => by
    simp only [U] at h
    split at h
    · cases h
    · exact tabOk.code f F h
  prim := fun f p h => by
    simp only [U] at h
    split at h
    · rename_i e; subst e; cases h; exact firstPOk
    · exact tabOk.prim f p h
theorem U_first : U.fn F_patoislaw4_first = some (.prim firstP) := rfl
end Go.Proofs.YtlecbjcloleiiaaDoor.Ram

import Derived.Test.YtlecbjcloleiiaaDoorValP
import Derived.Test.YtlecbjcloleiiaaDoorRamX
/-! The second machine's table for the Kernel laws. -/
namespace Go.Proofs.YtlecbjcloleiiaaDoor.Val
open Go Go.Proofs.YtlecbjcloleiiaaDoor.Ram

def FlT : Flags := ⟨fun _ => none, fun _ => false, fun f => f == F_world_New⟩
def firstV : List V → VH → Option (V × VH)
  | [], S => some (.bool true, S)
  | _, _ => none
def vprims : List (Nat × (List V → VH → Option (V × VH))) := [(F_patoislaw4_first, firstV), (F_slices_Clone_string_string, cloneP true 1 16), (F_slices_Clone_api_File_api_File, cloneP false 2 32)]
def VT : VTab := ⟨U.E, FlT, fun f => match vprims.find? fun p => p.1 == f with
  | some p => some (.prim p.2)
  | none => match U.fn f with | some (.code F) => some (.code F) | _ => none⟩
theorem firstV_ok : PrimOk U F_patoislaw4_first firstV := by
  intro vs rs S v S' hp φ G W H as' h hl
  unfold firstV at hp
  split at hp
  · obtain ⟨rfl, rfl⟩ := Prod.mk.inj (Option.some.inj hp)
    match as', hl with
    | [], _ => exact ⟨.bool true, H, φ, G, W, by rw [Call_prim U_first]; rfl, h.only (by simp [VRel]), Frm.refl _ _ _ _⟩
  · cases hp
theorem vprims_ok : ∀ p ∈ vprims, PrimOk U p.1 p.2 := by
  unfold vprims
  simp only [List.forall_mem_cons]
  exact ⟨firstV_ok, cloneP_ok (f := F_slices_Clone_string_string) rfl (by decide) (by decide), cloneP_ok (f := F_slices_Clone_api_File_api_File) rfl (by decide) (by decide), fun p hp => absurd hp (by simp)⟩
theorem vtOk : VTabOk VT U where
  env := rfl
  code := fun f F h => by
    simp only [VT] at h
    split at h
    · cases h
    · split at h
      · rename_i e; rw [e]; simpa using h
      · cases h
  prim := fun f p h => by
    simp only [VT] at h
    split at h
    · rename_i q e
      have h1 := vprims_ok q (List.mem_of_find?_eq_some e)
      have h2 := List.find?_some e
      obtain rfl : q.1 = f := by simpa using h2
      obtain rfl : q.2 = p := by simpa using h
      exact h1
    · split at h <;> cases h
@[simp] theorem lin_T {f : Nat} : VT.Fl.lin f = none := nd rfl
/-- A copy. -/
theorem v_Clone_string {l : List (List V)} {S : VH} (h : l.length < 1000000) : VCall VT F_slices_Clone_string_string [.lst 1 l] [] S = some (.lst 1 l, [], S) := by
  rw [VCall_prim (p := cloneP true 1 16) rfl]
  simp [cloneP]; omega
theorem v_first {S : VH} : VCall VT F_patoislaw4_first [] [] S = some (.bool true, [], S) := by
  rw [VCall_prim (p := firstV) rfl]; rfl
theorem v_Clone_File {S : VH} : VCall VT F_slices_Clone_api_File_api_File [.lst 2 []] [] S = some (.lst 2 [], [], S) := by
  rw [VCall_prim (p := cloneP false 2 32) rfl]; rfl
end Go.Proofs.YtlecbjcloleiiaaDoor.Val

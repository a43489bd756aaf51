/-
  Parts of the proof: RamP.
-/
import Derived.Test.YtbpgbhmibmcbnaaGreatDoorMgg
import Derived.Lib.Strings
import Derived.Lib.Slices
import Derived.Lib.Walk
import Derived.Lib.Bytealg
/-! The functions of Go's library that are told by what they answer. -/
namespace Go.Proofs.YtbpgbhmibmcbnaaGreatDoor.Ram
open Go Go.RowKit

set_option maxHeartbeats 1000000 in
set_option maxRecDepth 100000 in
theorem cmp_calls (a b : ByteArray) (w : World) :
    Calls Tryz.prog 156 #[.string a, .string b] w fun e w' => e = .returned (.int .i64 (Lib.compareBytes a.data.toList b.data.toList)) ∧ w' = w := by
  go_enter Tryz.func156, Tryz.ntmps156
  go_wp2
  rw [run_callFunc_extern Tryz.func204 (by kernel_rfl) (by kernel_rfl) (by kernel_rfl) (e := Extern.BytealgCompare.compare) (by kernel_rfl), Lib.run_compareString]
  simp only [Result.andThen]
  rw [Oper.upon_value]
  go_wp2
  go_ret
  exact ⟨rfl, rfl⟩

def cmpL (a b : List UInt8) : Int := Lib.compareBytes a b
def cmpP : List AV → AH → Option (AV × AH)
  | [.str a, .str b], H => some (.int .i64 (cmpL a b), H)
  | _, _ => none
theorem cmpPOk : OSound Tryz.prog gl (fun g vs H => if g = 156 then cmpP vs H else none) ∧ ∀ vs H r, cmpP vs H = some r → H.next ≤ r.2.next := by
  have key : ∀ vs H r, cmpP vs H = some r → ∃ a b, vs = [.str a, .str b] ∧ r = (.int .i64 (cmpL a b), H) := by
    intro vs H r h
    unfold cmpP at h
    split at h
    · rename_i a b; exact ⟨a, b, rfl, (Option.some.inj h).symm⟩
    · cases h
  refine ⟨fun f vs H r h m w cargs hG hh hv => ?_, fun vs H r h => ?_⟩
  · by_cases hf : f = 156
    · subst hf
      dsimp only at h; rw [if_pos rfl] at h
      obtain ⟨a, b, rfl, rfl⟩ := key _ _ _ h
      simp only [VRs, VR] at hv
      obtain ⟨_, _, hv, rfl, _, _, rfl, rfl, rfl⟩ := hv
      obtain rfl : cargs = #[.string ⟨⟨a⟩⟩, .string ⟨⟨b⟩⟩] := by rw [← Array.toArray_toList (xs := cargs), hv]
      refine ⟨⟨_, Tryz.func156, by unfold Tryz.f156; simp, by unfold Tryz.f156; simp⟩, ?_⟩
      refine (cmp_calls _ _ w).mono ?_
      rintro e w' ⟨rfl, rfl⟩
      exact ⟨_, m, rfl, by simp only [VR]; rfl, hh, Ext.refl _ _ _⟩
    · dsimp only at h; rw [if_neg hf] at h; cases h
  · obtain ⟨a, b, rfl, rfl⟩ := key _ _ _ h
    exact Nat.le_refl _
end Go.Proofs.YtbpgbhmibmcbnaaGreatDoor.Ram

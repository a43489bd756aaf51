/-
  Parts of the proof: RamP, RunIx.
-/
import Derived.Test.YtbpgbhmibmcbnaaGreatDoorMgg
import Derived.Lib.Strings
import Derived.Lib.Slices
import Derived.Lib.Walk
import Derived.Lib.Bytealg
/-! The functions of Go's library that are told by what they answer. -/
namespace Go.Proofs.YtbpgbhmibmcbnaaGreatDoor.Ram
open Go Go.RowKit

set_option maxHeartbeats 1000000 in
set_option maxRecDepth 100000 in
theorem cmp_calls (a b : ByteArray) (w : World) :
    Calls Tryz.prog 156 #[.string a, .string b] w fun e w' => e = .returned (.int .i64 (Lib.compareBytes a.data.toList b.data.toList)) ∧ w' = w := by
  go_enter Tryz.func156, Tryz.ntmps156
  go_wp2
  rw [run_callFunc_extern Tryz.func204 (by kernel_rfl) (by kernel_rfl) (by kernel_rfl) (e := Extern.BytealgCompare.compare) (by kernel_rfl), Lib.run_compareString]
  simp only [Result.andThen]
  rw [Oper.upon_value]
  go_wp2
  go_ret
  exact ⟨rfl, rfl⟩

def cmpL (a b : List UInt8) : Int := Lib.compareBytes a b
def cmpP : List AV → AH → Option (AV × AH)
  | [.str a, .str b], H => some (.int .i64 (cmpL a b), H)
  | _, _ => none
theorem cmpPOk : OSound Tryz.prog gl (fun g vs H => if g = 156 then cmpP vs H else none) ∧ ∀ vs H r, cmpP vs H = some r → H.next ≤ r.2.next := by
  have key : ∀ vs H r, cmpP vs H = some r → ∃ a b, vs = [.str a, .str b] ∧ r = (.int .i64 (cmpL a b), H) := by
    intro vs H r h
    unfold cmpP at h
    split at h
    · rename_i a b; exact ⟨a, b, rfl, (Option.some.inj h).symm⟩
    · cases h
  refine ⟨fun f vs H r h m w cargs hG hh hv => ?_, fun vs H r h => ?_⟩
  · by_cases hf : f = 156
    · subst hf
      dsimp only at h; rw [if_pos rfl] at h
      obtain ⟨a, b, rfl, rfl⟩ := key _ _ _ h
      simp only [VRs, VR] at hv
      obtain ⟨_, _, hv, rfl, _, _, rfl, rfl, rfl⟩ := hv
      obtain rfl : cargs = #[.string ⟨⟨a⟩⟩, .string ⟨⟨b⟩⟩] := by rw [← Array.toArray_toList (xs := cargs), hv]
      refine ⟨⟨_, Tryz.func156, by unfold Tryz.f156; simp, by unfold Tryz.f156; simp⟩, ?_⟩
      refine (cmp_calls _ _ w).mono ?_
      rintro e w' ⟨rfl, rfl⟩
      exact ⟨_, m, rfl, by simp only [VR]; rfl, hh, Ext.refl _ _ _⟩
    · dsimp only at h; rw [if_neg hf] at h; cases h
  · obtain ⟨a, b, rfl, rfl⟩ := key _ _ _ h
    exact Nat.le_refl _
end Go.Proofs.YtbpgbhmibmcbnaaGreatDoor.Ram

/-! The place of a byte in a string (internal/stringslite.IndexByte). -/
namespace Go.Proofs.YtbpgbhmibmcbnaaGreatDoor.Ram
open Go Go.RowKit

set_option maxHeartbeats 1000000 in
set_option maxRecDepth 100000 in
theorem ix_calls (a : ByteArray) (c : Int) (w : World) :
    Calls Tryz.prog 197 #[.string a, .int .u8 c] w fun e w' => e = .returned (.int .i64 (Lib.indexByte a.data.toList c.toNat.toUInt8)) ∧ w' = w := by
  go_enter Tryz.func197, Tryz.ntmps197
  go_wp2
  rw [run_callFunc_extern Tryz.func229 (by kernel_rfl) (by kernel_rfl) (by kernel_rfl) (e := Extern.BytealgIndexByte.indexByte) (by kernel_rfl), Lib.run_indexByteString]
  simp only [Result.andThen]
  rw [Oper.upon_value]
  go_wp2
  go_ret
  exact ⟨rfl, rfl⟩

def ixL (a : List UInt8) (c : Int) : Int := Lib.indexByte a c.toNat.toUInt8
def ixP : List AV → AH → Option (AV × AH)
  | [.str a, .int .u8 c], H => some (.int .i64 (ixL a c), H)
  | _, _ => none
theorem ixPOk : OSound Tryz.prog gl (fun g vs H => if g = 197 then ixP vs H else none) ∧ ∀ vs H r, ixP vs H = some r → H.next ≤ r.2.next := by
  have key : ∀ vs H r, ixP vs H = some r → ∃ a c, vs = [.str a, .int .u8 c] ∧ r = (.int .i64 (ixL a c), H) := by
    intro vs H r h
    unfold ixP at h
    split at h
    · rename_i a c; exact ⟨a, c, rfl, (Option.some.inj h).symm⟩
    · cases h
  refine ⟨fun f vs H r h m w cargs hG hh hv => ?_, fun vs H r h => ?_⟩
  · by_cases hf : f = 197
    · subst hf
      dsimp only at h; rw [if_pos rfl] at h
      obtain ⟨a, c, rfl, rfl⟩ := key _ _ _ h
      simp only [VRs, VR] at hv
      obtain ⟨_, _, hv, rfl, _, _, rfl, rfl, rfl⟩ := hv
      obtain rfl : cargs = #[.string ⟨⟨a⟩⟩, .int .u8 c] := by rw [← Array.toArray_toList (xs := cargs), hv]
      refine ⟨⟨_, Tryz.func197, by unfold Tryz.f197; simp, by unfold Tryz.f197; simp⟩, ?_⟩
      refine (ix_calls _ _ w).mono ?_
      rintro e w' ⟨rfl, rfl⟩
      exact ⟨_, m, rfl, by simp only [VR]; rfl, hh, Ext.refl _ _ _⟩
    · dsimp only at h; rw [if_neg hf] at h; cases h
  · obtain ⟨a, c, rfl, rfl⟩ := key _ _ _ h
    exact Nat.le_refl _
end Go.Proofs.YtbpgbhmibmcbnaaGreatDoor.Ram

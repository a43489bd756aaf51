/-
  Parts of the proof: ArgD, ArgX, BigR.
-/
import Derived.Test.YtbpgbhmibmcbnaaGreatDoorMgm
import Derived.Lay
import Derived.Test.YtbpgbhmibmcbnaaGreatDoorMgl
/-
  How the laws of a run are entered: a world in which everything is laid.
-/
set_option linter.unusedSimpArgs false
set_option linter.unusedVariables false
namespace Go.Proofs.YtbpgbhmibmcbnaaGreatDoor.runs
open Go Go.ChangeShapes Go.WideShapes Go.ChangeAt Go.RowKit
open Go.Proofs.YtbpgbhmibmcbnaaGreatDoor.Ram Go.Proofs.YtbpgbhmibmcbnaaGreatDoor.Val

theorem laidMet_lay {P : Program} {w0 : World} {laid : List (String × DataW Unit)} (hf : w0.layFits P laid [] = true) (hi : w0.layIfaces P laid (w0.layVars P laid) = true) : laidMet P laid (w0.layVars P laid) := by
  have e1 : (laid.filter fun x => (laid.map (·.1)).contains x.1) = laid := List.filter_eq_self.2 fun x hx => List.contains_iff_mem.2 (List.mem_map.2 ⟨x, hx, rfl⟩)
  have e2 : (laid.filter fun x => !(laid.map (·.1)).contains x.1) = [] := List.filter_eq_nil_iff.2 fun x hx => by rw [List.contains_iff_mem.2 (List.mem_map.2 ⟨x, hx, rfl⟩)]; simp
  exact laidMet_layVars (w0 := w0) (laid.map (·.1)) [] (by rw [e1]) (by rw [e1]; exact hf) (by rw [e1]; exact hi) (by rw [e2]; exact LaidIn.none)
noncomputable def doorH (os : Os) : World :=
  let w0 := World.holding Tryz.prog os ⟨#[], #[], []⟩
  { w0 with heap := w0.heap.modify 4 fun
      | .cells _ t frozen => .cells #[.iface 185 (.agg #[.pointer (some ⟨16, 30, none⟩)])] t frozen
      | o => o }
noncomputable def doorW (os : Os) : World := (doorH os).layVars Tryz.prog (laidL.filter fun x => x.2.handleName?.isNone)
theorem door_os (os : Os) : (doorW os).os = os := World.layVars_os _ _ _
set_option maxRecDepth 100000 in
theorem door_met (os : Os) (args : Array Value) : laidMetH Tryz.prog laidL ((doorW os).forCall (fun _ _ => 0) ⟨#[], args, []⟩).memory :=
  laidMetH_of_parts ((laidMet_lay (w0 := doorH os) (by kernel_rfl) (by kernel_rfl)).of_heap (by simp [World.memory, World.forCall, Input.heap]; rfl)) (by kernel_rfl)
set_option maxRecDepth 100000 in
theorem door_shaped (os : Os) (args : Array Value) : ((doorW os).forCall (fun _ _ => 0) ⟨#[], args, []⟩).Shaped Tryz.prog := World.shaped_of_ZipB (by kernel_rfl) (by kernel_rfl)
end Go.Proofs.YtbpgbhmibmcbnaaGreatDoor.runs

/-
  How the laws of a run are entered: arguments.
-/
set_option linter.unusedSimpArgs false
set_option linter.unusedVariables false
namespace Go.Proofs.YtbpgbhmibmcbnaaGreatDoor.runs
open Go Go.ChangeShapes Go.WideShapes Go.ChangeAt Go.RowKit
open Go.Proofs.YtbpgbhmibmcbnaaGreatDoor.Ram Go.Proofs.YtbpgbhmibmcbnaaGreatDoor.Val

section
variable {H : Type} {enc : TypeId × Value → H} {W : World} {q : Nat → Option Ram.Loc} {base : Nat} {sp : Nat → Bool} {held : Bool}
end
end Go.Proofs.YtbpgbhmibmcbnaaGreatDoor.runs

/-
  The law RunBig: for every input the statement's function returns true and leaves its arguments as they were; the laid variables are a condition of the row.
-/
set_option linter.unusedSimpArgs false
set_option linter.unusedVariables false
namespace Go.Proofs.YtbpgbhmibmcbnaaGreatDoor.runs
open Go Go.ChangeShapes Go.WideShapes Go.ChangeAt Go.RowKit
open Go.Proofs.YtbpgbhmibmcbnaaGreatDoor.Ram Go.Proofs.YtbpgbhmibmcbnaaGreatDoor.Val

set_option maxRecDepth 100000 in
theorem runBig_lifted (os : Os) (started : os.Started) (H : Type) (enc : TypeId × Value → H) :
    ReturnsInHanded {} Tryz.checked os 7 .any (fun w args => (Rows.runBigSpec.pre enc Tryz.prog Tryz.f7 [] false w args ∧ laidMetH Tryz.prog laidL w) ∧ sizedMet enc Tryz.prog Tryz.f7 (OpenSpec.ofChange Rows.runBigSpec) false w args)
      (Rows.runBigSpec.post enc Tryz.prog Tryz.f7 false true false false) := by
  refine returnsInHanded_of_change_and (C := Tryz.checked) (X := fun w _ => laidMetH Tryz.prog laidL w) (fun _ _ _ hh h => h.of_heap hh) own started (by kernel_rfl) Tryz.func7
    (ChangeSpec.witness_shaped (enc := enc) (C := Tryz.checked) (os := os) (X := fun w _ => laidMetH Tryz.prog laidL w) false (doorW os) #[.int .i64 0] 8 (door_os _) (door_shaped os _) (by kernel_rfl) (by kernel_rfl) (by kernel_rfl) (door_met os _)) ?_
  intro W base args ds gs before hval0 hW _ _ hL _
  have hval : ∀ (j : Nat) t v, Tryz.f7.params[j]? = some t → args[j]? = some v → Value.okWide Tryz.prog W .any base t v := hval0
  have hW' := hW
  obtain ⟨p, q, hA0, hV, rfl, hfz, hnd⟩ := hW
  have hA : DataW.TrodAll enc Tryz.prog W 0 (fun _ => true) true Tryz.f7.params.toList args.toList ds p := hA0
  rw [Tryz.params7] at hA hval
  obtain ⟨v0, vs0, d0, ds0, p0, q0, hargs, rfl, rfl, h0, r0⟩ := trodAll_cons hA
  obtain ⟨rfl, rfl, rfl⟩ := trodAll_nil r0
  obtain rfl : args = #[v0] := by cases args; simp_all
  obtain ⟨rfl, rfl⟩ := trodVars_none hV
  obtain ⟨qq, hsz⟩ := placed hL
  have lt : ∀ {t v d} {p : List MemPlace}, DataW.Trod enc Tryz.prog W 0 (fun _ => true) true t v d p → ∀ x ∈ p, x.block < W.heap.size := fun h => by obtain ⟨m, hm⟩ := h; exact DataW.trod_lt m _ _ _ hm
  obtain ⟨z0, rfl⟩ := okWide_int Tryz.underlying3 (hval 0 3 v0 rfl rfl)
  clear hA0
  refine (walk hsz (.cons arg_int .nil) (v_RunBig (z := z0) up0)).mono fun e W' ⟨he, bel⟩ => ?_
  subst he
  exact ⟨_, rfl, _, _, _, [], _, [], hW', trodAll_mk1 (shut_bool Tryz.underlying4 _), (trodAll_cons_mk (Below.trod laidOut (by kernel_rfl) (of_decide_eq_true (by kernel_rfl)) h0 bel (lt h0)) trodAll_mk0), rfl, bel.frame _, fun h => by cases h⟩
theorem runBig_over : Rows.runBigRow.holds Tryz.pinned (OpenSpec.ofChange Rows.runBigSpec) :=
  OpenClaim.holds_of_wide 7 Tryz.f7 rfl rfl rfl rfl rfl rfl rfl ⟨rfl, rfl, rfl, rfl, rfl⟩ rfl rfl rfl rfl rfl (by kernel_rfl) Tryz.func7 (by kernel_rfl)
    (of_decide_eq_true (by kernel_rfl)) (by unfold Func.isWrapper; first | (rw [if_pos (by decide +kernel)]; kernel_rfl) | (rw [if_neg (by decide +kernel)]; exact ⟨rfl, rfl⟩))
    (fun os started H enc _ => runBig_lifted os started H enc)
end Go.Proofs.YtbpgbhmibmcbnaaGreatDoor.runs

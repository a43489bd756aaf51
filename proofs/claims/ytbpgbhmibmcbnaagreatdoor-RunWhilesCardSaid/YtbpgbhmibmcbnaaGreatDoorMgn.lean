/-
  Parts of the proof: ArgD, ArgX, WhilesR.
-/
import Derived.Test.YtbpgbhmibmcbnaaGreatDoorMgm
import Derived.Lay
import Derived.Test.YtbpgbhmibmcbnaaGreatDoorMgl
/-
  How the laws of a run are entered: a world in which everything is laid.
-/
set_option linter.unusedSimpArgs false
set_option linter.unusedVariables false
namespace Go.Proofs.YtbpgbhmibmcbnaaGreatDoor.runs
open Go Go.ChangeShapes Go.WideShapes Go.ChangeAt Go.RowKit
open Go.Proofs.YtbpgbhmibmcbnaaGreatDoor.Ram Go.Proofs.YtbpgbhmibmcbnaaGreatDoor.Val

theorem laidMet_lay {P : Program} {w0 : World} {laid : List (String × DataW Unit)} (hf : w0.layFits P laid [] = true) (hi : w0.layIfaces P laid (w0.layVars P laid) = true) : laidMet P laid (w0.layVars P laid) := by
  have e1 : (laid.filter fun x => (laid.map (·.1)).contains x.1) = laid := List.filter_eq_self.2 fun x hx => List.contains_iff_mem.2 (List.mem_map.2 ⟨x, hx, rfl⟩)
  have e2 : (laid.filter fun x => !(laid.map (·.1)).contains x.1) = [] := List.filter_eq_nil_iff.2 fun x hx => by rw [List.contains_iff_mem.2 (List.mem_map.2 ⟨x, hx, rfl⟩)]; simp
  exact laidMet_layVars (w0 := w0) (laid.map (·.1)) [] (by rw [e1]) (by rw [e1]; exact hf) (by rw [e1]; exact hi) (by rw [e2]; exact LaidIn.none)
noncomputable def doorH (os : Os) : World :=
  let w0 := World.holding Tryz.prog os ⟨#[], #[], []⟩
  { w0 with heap := w0.heap.modify 4 fun
      | .cells _ t frozen => .cells #[.iface 185 (.agg #[.pointer (some ⟨16, 30, none⟩)])] t frozen
      | o => o }
noncomputable def doorW (os : Os) : World := (doorH os).layVars Tryz.prog (laidL.filter fun x => x.2.handleName?.isNone)
theorem door_os (os : Os) : (doorW os).os = os := World.layVars_os _ _ _
set_option maxRecDepth 100000 in
theorem door_met (os : Os) (args : Array Value) : laidMetH Tryz.prog laidL ((doorW os).forCall (fun _ _ => 0) ⟨#[], args, []⟩).memory :=
  laidMetH_of_parts ((laidMet_lay (w0 := doorH os) (by kernel_rfl) (by kernel_rfl)).of_heap (by simp [World.memory, World.forCall, Input.heap]; rfl)) (by kernel_rfl)
set_option maxRecDepth 100000 in
theorem door_shaped (os : Os) (args : Array Value) : ((doorW os).forCall (fun _ _ => 0) ⟨#[], args, []⟩).Shaped Tryz.prog := World.shaped_of_ZipB (by kernel_rfl) (by kernel_rfl)
end Go.Proofs.YtbpgbhmibmcbnaaGreatDoor.runs

/-
  How the laws of a run are entered: arguments.
-/
set_option linter.unusedSimpArgs false
set_option linter.unusedVariables false
namespace Go.Proofs.YtbpgbhmibmcbnaaGreatDoor.runs
open Go Go.ChangeShapes Go.WideShapes Go.ChangeAt Go.RowKit
open Go.Proofs.YtbpgbhmibmcbnaaGreatDoor.Ram Go.Proofs.YtbpgbhmibmcbnaaGreatDoor.Val

theorem empty_obj {W : World} {q : Nat → Option Ram.Loc} (h : Placed W q) : ∃ g : Ram.Loc, ∀ m, ObjR m W g (.cells [] true) := by
  obtain ⟨loc, e, f, _, _, _, c, t, k4, _⟩ := h.er 0 rfl
  exact ⟨⟨loc.b, 0, c.size, false⟩, fun m => ⟨c, t, _, k4, fun hh => (by rcases hh with hh | hh <;> cases hh), by simp, by simp, fun j x hj => by simp at hj⟩⟩
section
variable {H : Type} {enc : TypeId × Value → H} {W : World} {q : Nat → Option Ram.Loc} {base : Nat} {sp : Nat → Bool} {held : Bool}
theorem arg_strs (hp : Placed W q) {t e : TypeId} (ht : Tryz.prog.underlying t = some (.slice e)) (he : Tryz.prog.underlying e = some .string) (hc : Tryz.prog.cellsOf e = 1)
    {a : Option Addr} {len cap : Nat} {d : DataW H} {p : List MemPlace} (h : DataW.Trod enc Tryz.prog W base (fun _ => true) held t (.slice a len cap) d p) : ∃ l : List (List UInt8), Arg (LW q) W (.slice a len cap) (.lst 1 (l.map fun z => [.str z])) := by
  obtain ⟨g, hg⟩ := empty_obj hp
  obtain ⟨fuel, hf⟩ := h
  rcases open_strings ht he hc hf with ⟨hcs, _⟩ | ⟨x, l, c, zs, hcs, _, hl, hm, hz, hxx, hcell, hwz⟩
  · simp [Value.cells] at hcs
    obtain ⟨rfl, rfl, rfl⟩ := hcs
    exact ⟨[], arg_nil⟩
  · simp [Value.cells] at hcs
    obtain ⟨rfl, rfl, rfl⟩ := hcs
    have hz' : zs.length = cap := by simpa using hz
    refine ⟨(zs.take len).map (·.data.toList), ?_⟩
    have := arg_list (L := LW q) hg (a := x) (len := len) (cap := cap) (us := (zs.take len).map fun z => .str z.data.toList) (xs := zs.map fun z => .str z.data.toList) (vs := zs.map fun z => .string z)
      (fun m => by clear hcell hwz hz' hz hxx; induction zs with | nil => rfl | cons z zs ih => simp only [List.map_cons, VRs]; exact ⟨_, _, rfl, by simp only [VR], ih⟩)
      (fun φ G => by
        rw [← List.map_take]
        generalize zs.take len = q
        induction q with | nil => rfl | cons z q ih => simp only [List.map_cons, VRels]; exact ⟨_, _, rfl, by simp only [VRel], ih⟩)
      (by simp [oneCell]) (by simpa using hz') hl hm (fun i v hi => by
        simp only [List.getElem?_map, Option.map_eq_some_iff] at hi
        obtain ⟨z, hz, rfl⟩ := hi
        obtain ⟨hlt, rfl⟩ := List.getElem?_eq_some_iff.1 hz
        rw [hcell i hlt]; simp [List.getD, hlt])
    simpa [List.map_map, Function.comp_def] using this
end
end Go.Proofs.YtbpgbhmibmcbnaaGreatDoor.runs

/-
  The law RunWhiles: for every input the statement's function returns true and leaves its arguments as they were; the laid variables are a condition of the row.
-/
set_option linter.unusedSimpArgs false
set_option linter.unusedVariables false
namespace Go.Proofs.YtbpgbhmibmcbnaaGreatDoor.runs
open Go Go.ChangeShapes Go.WideShapes Go.ChangeAt Go.RowKit
open Go.Proofs.YtbpgbhmibmcbnaaGreatDoor.Ram Go.Proofs.YtbpgbhmibmcbnaaGreatDoor.Val

set_option maxRecDepth 100000 in
theorem runWhiles_lifted (os : Os) (started : os.Started) (H : Type) (enc : TypeId × Value → H) :
    ReturnsInHanded {} Tryz.checked os 4 .any (fun w args => (Rows.runWhilesSpec.pre enc Tryz.prog Tryz.f4 [] false w args ∧ laidMetH Tryz.prog laidL w) ∧ sizedMet enc Tryz.prog Tryz.f4 (OpenSpec.ofChange Rows.runWhilesSpec) false w args)
      (Rows.runWhilesSpec.post enc Tryz.prog Tryz.f4 false true false false) := by
  refine returnsInHanded_of_change_and (C := Tryz.checked) (X := fun w _ => laidMetH Tryz.prog laidL w) (fun _ _ _ hh h => h.of_heap hh) own started (by kernel_rfl) Tryz.func4
    (ChangeSpec.witness_shaped (enc := enc) (C := Tryz.checked) (os := os) (X := fun w _ => laidMetH Tryz.prog laidL w) false (doorW os) #[.slice none 0 0] 8 (door_os _) (door_shaped os _) (by kernel_rfl) (by kernel_rfl) (by kernel_rfl) (door_met os _)) ?_
  intro W base args ds gs before hval0 hW _ _ hL _
  have hval : ∀ (j : Nat) t v, Tryz.f4.params[j]? = some t → args[j]? = some v → Value.okWide Tryz.prog W .any base t v := hval0
  have hW' := hW
  obtain ⟨p, q, hA0, hV, rfl, hfz, hnd⟩ := hW
  have hA : DataW.TrodAll enc Tryz.prog W 0 (fun _ => true) true Tryz.f4.params.toList args.toList ds p := hA0
  rw [Tryz.params4] at hA hval
  obtain ⟨v0, vs0, d0, ds0, p0, q0, hargs, rfl, rfl, h0, r0⟩ := trodAll_cons hA
  obtain ⟨rfl, rfl, rfl⟩ := trodAll_nil r0
  obtain rfl : args = #[v0] := by cases args; simp_all
  obtain ⟨rfl, rfl⟩ := trodVars_none hV
  obtain ⟨qq, hsz⟩ := placed hL
  have lt : ∀ {t v d} {p : List MemPlace}, DataW.Trod enc Tryz.prog W 0 (fun _ => true) true t v d p → ∀ x ∈ p, x.block < W.heap.size := fun h => by obtain ⟨m, hm⟩ := h; exact DataW.trod_lt m _ _ _ hm
  obtain ⟨a0, len0, cap0, rfl⟩ := okWide_slice Tryz.underlying22 (hval 0 22 v0 rfl rfl)
  obtain ⟨z0, w0⟩ := arg_strs hsz Tryz.underlying22 Tryz.underlying9 (by kernel_rfl) h0
  clear hA0
  refine (walk hsz (.cons w0 .nil) (v_RunWhiles (l := z0) up0)).mono fun e W' ⟨he, bel⟩ => ?_
  subst he
  exact ⟨_, rfl, _, _, _, [], _, [], hW', trodAll_mk1 (shut_bool Tryz.underlying4 _), (trodAll_cons_mk (Below.trod laidOut (by kernel_rfl) (of_decide_eq_true (by kernel_rfl)) h0 bel (lt h0)) trodAll_mk0), rfl, bel.frame _, fun h => by cases h⟩
theorem runWhiles_over : Rows.runWhilesRow.holds Tryz.pinned (OpenSpec.ofChange Rows.runWhilesSpec) :=
  OpenClaim.holds_of_wide 4 Tryz.f4 rfl rfl rfl rfl rfl rfl rfl ⟨rfl, rfl, rfl, rfl, rfl⟩ rfl rfl rfl rfl rfl (by kernel_rfl) Tryz.func4 (by kernel_rfl)
    (of_decide_eq_true (by kernel_rfl)) (by unfold Func.isWrapper; first | (rw [if_pos (by decide +kernel)]; kernel_rfl) | (rw [if_neg (by decide +kernel)]; exact ⟨rfl, rfl⟩))
    (fun os started H enc _ => runWhiles_lifted os started H enc)
end Go.Proofs.YtbpgbhmibmcbnaaGreatDoor.runs

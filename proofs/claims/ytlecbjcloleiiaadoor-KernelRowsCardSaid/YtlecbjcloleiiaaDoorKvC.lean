import Derived.Test.YtlecbjcloleiiaaDoorKvB
/-! May the kernel have these rows? -/
set_option linter.unusedSimpArgs false
set_option linter.unusedVariables false
namespace Go.Proofs.YtlecbjcloleiiaaDoor.Val
open Go Go.Proofs.YtlecbjcloleiiaaDoor.Ram

/-- A row that the kernel takes. -/
def Row.ok (r : Row) : Prop := r.name ≠ [] ∧ r.name.length ≤ 2000 ∧ r.args.length ≤ 100 ∧ (∀ a ∈ r.args, a.length ≤ 2000) ∧ r.out.length ≤ 2000 ∧ 0 ≤ r.status ∧ r.status ≤ 255

theorem v_May_loop0 {a : List Row} {b : V} {S : VH} (hb : V.clo S.next b = true) (ha : a.length < 1000000) (hok : ∀ r ∈ a, r.ok) : ∀ (d j : Nat), j + d = a.length →
    loopX VT.E VT.Fl (VCall VT) c_world_May_l0 ⟨[(1, b), (23, rowsV a), (24, .int .i64 a.length), (25, .int .i64 j)], [], S⟩ = some (.exit 0, ⟨[(1, b), (23, rowsV a), (24, .int .i64 a.length), (25, .int .i64 a.length), (26, .bool false)], [], S⟩) := by
  have hK : ∀ f w h, loopX VT.E VT.Fl (VCall VT) c_world_May_l0 ⟨f, w, h⟩ = loopX VT.E VT.Fl (VCall VT) c_world_May_l0 ⟨VFr.keep f [1, 23, 24, 25], Rts.keep w.noCell [1, 23, 24, 25], h⟩ := fun _ _ _ => loopX_keep
  intro d
  induction d with
  | zero =>
    intro j hj
    obtain rfl : j = a.length := by omega
    rw [loopX_eq]
    simp -implicitDefEqProofs [c_world_May_l0, binA]
  | succ d ih =>
    intro j hj
    have h1 : j < a.length := by omega
    have hlt : (j : Int) < (a.length : Int) := by omega
    obtain ⟨x, hx, dx⟩ := next_at h1
    have hxo := hok x (List.mem_of_getElem? hx)
    have e2 : ¬ (100 : Int) < (x.args.length : Int) := by have := hxo.2.2.1; omega
    rw [loopX_eq]
    have := ih (j + 1) (by omega)
    push_cast at this
    generalize loopX VT.E VT.Fl (VCall VT) c_world_May_l0 = L at *
    simp -implicitDefEqProofs [c_world_May_l0, binA, hlt, hx, hb, e2, wrap_succ h1 (by omega)]
    rw [hK]
    simpa using this
theorem v_May_loop2 {a : List Row} {S : VH} (ha : a.length < 1000000) (hok : ∀ r ∈ a, r.ok) : ∀ (d j : Nat), j + d = a.length →
    loopX VT.E VT.Fl (VCall VT) c_world_May_l2 ⟨[(71, rowsV a), (72, .int .i64 a.length), (73, .int .i64 j)], [], S⟩ = some (.exit 5, ⟨[(71, rowsV a), (72, .int .i64 a.length), (73, .int .i64 a.length), (74, .bool false)], [], S⟩) := by
  have hK : ∀ f w h, loopX VT.E VT.Fl (VCall VT) c_world_May_l2 ⟨f, w, h⟩ = loopX VT.E VT.Fl (VCall VT) c_world_May_l2 ⟨VFr.keep f [71, 72, 73], Rts.keep w.noCell [71, 72, 73], h⟩ := fun _ _ _ => loopX_keep
  intro d
  induction d with
  | zero =>
    intro j hj
    obtain rfl : j = a.length := by omega
    rw [loopX_eq]
    simp -implicitDefEqProofs [c_world_May_l2, binA]
  | succ d ih =>
    intro j hj
    have h1 : j < a.length := by omega
    have hlt : (j : Int) < (a.length : Int) := by omega
    obtain ⟨x, hx, dx⟩ := next_at h1
    obtain ⟨o1, o2, o3, o4, o5, o6, o7⟩ := hok x (List.mem_of_getElem? hx)
    have e2 : ¬ (2000 : Int) < (x.name.length : Int) := by omega
    have e3 : ¬ (2000 : Int) < (x.out.length : Int) := by omega
    have e4 : ¬ x.status < 0 := by omega
    have e5 : ¬ (255 : Int) < x.status := by omega
    have e6 : (x.args.any fun s => decide (2000 < s.length)) = false := by
      rw [List.any_eq_false]; intro s hs; simpa using o4 s hs
    have hC := fun (S : VH) => v_Contains (g := F_world_May_1) (S := S) (p := fun s => decide (2000 < s.length)) (fun s => v_May_1) (a := x.args) (by omega)
    rw [loopX_eq]
    have := ih (j + 1) (by omega)
    push_cast at this
    generalize loopX VT.E VT.Fl (VCall VT) c_world_May_l2 = L at *
    simp -implicitDefEqProofs [c_world_May_l2, binA, hlt, hx, hC, e6, o1, e2, e3, e4, e5, wrap_succ h1 (by omega)]
    rw [hK]
    simpa using this
end Go.Proofs.YtlecbjcloleiiaaDoor.Val

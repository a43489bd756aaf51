import Derived.Test.YtlecbjcloleiiaaDoorKvC
/-! A world of rows only; the kernel's row. -/
set_option linter.unusedSimpArgs false
set_option linter.unusedVariables false
namespace Go.Proofs.YtlecbjcloleiiaaDoor.Val
open Go Go.Proofs.YtlecbjcloleiiaaDoor.Ram

theorem v_May_loop1 {b : V} {i : Nat} {S : VH} : loopX VT.E VT.Fl (VCall VT) c_world_May_l1 ⟨[(1, b), (5, .map (some i)), (37, .lst 2 []), (38, .int .i64 0), (39, .int .i64 0)], [], S⟩ = some (.exit 2, ⟨[(1, b), (5, .map (some i)), (37, .lst 2 []), (38, .int .i64 0), (39, .int .i64 0), (40, .bool false)], [], S⟩) := by
  rw [loopX_eq]
  simp -implicitDefEqProofs [c_world_May_l1, binA]
theorem v_May_rows {a : List Row} {S : VH} (ha : a.length ≤ 50) (hok : ∀ r ∈ a, r.ok) : VCall VT F_world_May [.agg [.lst 2 [], rowsV a]] [] S = some (.nilI, [], S) := by
  rw [VCall_of (F := a_world_May) rfl rfl rfl rfl]
  have e1 : ¬ (50 : Int) < (a.length : Int) := by omega
  have h0 := fun (S : VH) (b : V) (hb : V.clo S.next b = true) => v_May_loop0 (S := S) hb (by omega) hok a.length 0 (by omega)
  have h2 := fun (S : VH) => v_May_loop2 (S := S) (by omega) hok a.length 0 (by omega)
  push_cast at h0 h2
  simp -implicitDefEqProofs [a_world_May, c_world_May, binA, e1, h0, v_May_loop1, h2]

/-- Does the row fit? -/
def Row.fits (r : Row) (n : Str) (l : List Str) : Bool := decide (r.name = n) && (r.any || decide (r.args = l))
def noRow : Row := ⟨[], [], false, false, false, [], 127⟩
def findRow (a : List Row) (n : Str) (l : List Str) : Row × Bool := match a.find? (·.fits n l) with
  | some r => (r, true)
  | none => (noRow, false)
theorem v_row_loop {a : List Row} {n : Str} {l : List Str} {S : VH} {k : Nat} (hk : k < S.next) (hg : S.get k = some (.cells [.str [], .lst 1 [], .bool false, .bool false, .bool false, .str [], .int .i64 0] [1])) (hl : l.length < 1000000) (ha : a.length < 1000000) (hok : ∀ r ∈ a, r.args.length < 1000000) : ∀ (d j : Nat), j + d = a.length →
    ((a.drop j).find? (·.fits n l) = none ∧ loopX VT.E VT.Fl (VCall VT) c_world_Kernel_row_l0 ⟨[(1, .str n), (2, strsV l), (6, .ptr (some (k, 0))), (13, rowsV a), (14, .int .i64 a.length), (15, .int .i64 j)], [], S⟩ = some (.exit 0, ⟨[(1, .str n), (2, strsV l), (6, .ptr (some (k, 0))), (13, rowsV a), (14, .int .i64 a.length), (15, .int .i64 a.length), (16, .bool false)], [], S⟩)) ∨
    (∃ r, (a.drop j).find? (·.fits n l) = some r ∧ ∃ (o : VObj) (f : VFr), loopX VT.E VT.Fl (VCall VT) c_world_Kernel_row_l0 ⟨[(1, .str n), (2, strsV l), (6, .ptr (some (k, 0))), (13, rowsV a), (14, .int .i64 a.length), (15, .int .i64 j)], [], S⟩ = some (.ret, ⟨(7, .bool true) :: f, [], (S.push o).set k (.cells (encRow r) [])⟩) ∧ VFr.get f 6 = some (.ptr (some (k, 0)))) := by
  have hK : ∀ f w h, loopX VT.E VT.Fl (VCall VT) c_world_Kernel_row_l0 ⟨f, w, h⟩ = loopX VT.E VT.Fl (VCall VT) c_world_Kernel_row_l0 ⟨VFr.keep f [1, 2, 6, 13, 14, 15], Rts.keep w.noCell [1, 2, 6, 13, 14, 15], h⟩ := fun _ _ _ => loopX_keep
  intro d
  induction d with
  | zero =>
    intro j hj
    obtain rfl : j = a.length := by omega
    left
    rw [loopX_eq]
    simp -implicitDefEqProofs [c_world_Kernel_row_l0, binA]
  | succ d ih =>
    intro j hj
    have h1 : j < a.length := by omega
    have hlt : (j : Int) < (a.length : Int) := by omega
    obtain ⟨x, hx, dx⟩ := next_at h1
    have hxo := hok x (List.mem_of_getElem? hx)
    have hE := fun (S : VH) => v_Equal (S := S) (a := x.args) (b := l) hxo
    have hkn : k ≠ S.next := by omega
    rw [loopX_eq, dx]
    have := ih (j + 1) (by omega)
    push_cast at this
    generalize loopX VT.E VT.Fl (VCall VT) c_world_Kernel_row_l0 = L at *
    have hf : (x :: a.drop (j + 1)).find? (fun r : Row => r.fits n l) = match x.fits n l with | true => some x | false => (a.drop (j + 1)).find? (fun r : Row => r.fits n l) := List.find?_cons
    by_cases e : x.name = n
    · cases ea : x.any with
      | true =>
        rw [hf, show x.fits n l = true by simp [Row.fits, e, ea]]
        right
        refine ⟨x, rfl, .cells (encRow x) [], ?_⟩
        simp -implicitDefEqProofs [c_world_Kernel_row_l0, binA, hlt, hx, e, ea, hk, hkn, hg, encRow]
        first | done | exact ⟨_, rfl, rfl⟩ | exact ⟨_, ⟨rfl, rfl⟩, rfl⟩
      | false =>
        by_cases e2 : x.args = l
        · rw [hf, show x.fits n l = true by simp [Row.fits, e, e2]]
          right
          refine ⟨x, rfl, .cells (encRow x) [], ?_⟩
          simp -implicitDefEqProofs [c_world_Kernel_row_l0, binA, hlt, hx, e, ea, (fun S => (hE S).trans (by rw [decide_eq_true e2]) : ∀ S, VCall VT F_slices_Equal_string_string [strsV x.args, strsV l] [] S = some (.bool true, [], S)), hk, hkn, hg, encRow]
          first | done | exact ⟨_, rfl, rfl⟩ | exact ⟨_, ⟨rfl, rfl⟩, rfl⟩
        · rw [hf, show x.fits n l = false by simp [Row.fits, e, e2, ea]]
          simp -implicitDefEqProofs [c_world_Kernel_row_l0, binA, hlt, hx, e, ea, e2, hE, hk, hkn, hg, wrap_succ h1 (by omega)]
          rw [hK]
          simpa using this
    · rw [hf, show x.fits n l = false by simp [Row.fits, e]]
      simp -implicitDefEqProofs [c_world_Kernel_row_l0, binA, hlt, hx, e, hE, hk, hkn, hg, wrap_succ h1 (by omega)]
      rw [hK]
      simpa using this
/-- A kernel in the heap. -/
structure Kern where
  trace : List Event
  files : V
  rows : List Row
abbrev encK (K : Kern) : List V := [evsV' K.trace, K.files, rowsV K.rows]
def IsK (S : VH) (i : Nat) (K : Kern) : Prop := i < S.next ∧ ∃ own, S.get i = some (.cells (encK K) own) ∧ 0 ∈ own ∧ V.clo S.next K.files = true
theorem v_row {K : Kern} {n : Str} {l : List Str} {S : VH} {i : Nat} (hi : IsK S i K) (hl : l.length < 1000000) (ha : K.rows.length < 1000000) (hok : ∀ r ∈ K.rows, r.args.length < 1000000) :
    VCall VT F_world_Kernel_row [.ptr (some (i, 0)), .str n, strsV l] [] S = some (.tup [.agg (encRow (findRow K.rows n l).1), .bool (findRow K.rows n l).2], [], S) := by
  rw [VCall_of (F := a_world_Kernel_row) rfl rfl rfl rfl]
  obtain ⟨h1, own, h2, _⟩ := hi
  have h3 : i ≠ S.next := by omega
  have key := fun (S : VH) (k : Nat) hk hg => v_row_loop (S := S) (k := k) (n := n) hk hg hl ha hok K.rows.length 0 (by omega)
  have := key (S.push (.cells [.str [], .lst 1 [], .bool false, .bool false, .bool false, .str [], .int .i64 0] [1])) S.next (by simp) (by simp)
  push_cast at this
  rw [List.drop_zero] at this
  unfold findRow
  rcases this with ⟨e, this⟩ | ⟨r, e, o, f, this, hf⟩
  · by_cases ho : 2 ∈ own <;> simp -implicitDefEqProofs [a_world_Kernel_row, c_world_Kernel_row, binA, h1, h2, h3, ho, this, e, noRow]
  · by_cases ho : 2 ∈ own <;> simp -implicitDefEqProofs [a_world_Kernel_row, c_world_Kernel_row, binA, h1, h2, h3, ho, this, e, hf]
end Go.Proofs.YtlecbjcloleiiaaDoor.Val

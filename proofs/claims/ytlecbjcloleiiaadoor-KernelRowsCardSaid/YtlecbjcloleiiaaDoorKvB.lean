import Derived.Test.YtlecbjcloleiiaaDoorKvA
/-! Small walks of the kernel: lists of strings. -/
set_option linter.unusedSimpArgs false
set_option linter.unusedVariables false
namespace Go.Proofs.YtlecbjcloleiiaaDoor.Val
open Go Go.Proofs.YtlecbjcloleiiaaDoor.Ram

theorem v_May_1 {s : Str} {S : VH} : VCall VT F_world_May_1 [.str s] [] S = some (.bool (decide (2000 < s.length)), [], S) := by
  rw [VCall_of (F := a_world_May_1) rfl rfl rfl rfl]
  simp -implicitDefEqProofs [a_world_May_1, c_world_May_1, binA]
  omega

theorem v_Index_loop {g : Nat} {p : Str → Bool} {S : VH} (hg : ∀ s, VCall VT g [.str s] [] S = some (.bool (p s), [], S)) {a : List Str} (ha : a.length < 1000000) : ∀ (d j : Nat), j + d = a.length →
    ((a.drop j).any p = false ∧ loopX VT.E VT.Fl (VCall VT) c_slices_IndexFunc_string_string_l0 ⟨[(0, strsV a), (1, .fn g []), (7, .int .i64 a.length), (8, .int .i64 j)], [], S⟩ = some (.exit 0, ⟨[(0, strsV a), (1, .fn g []), (7, .int .i64 a.length), (8, .int .i64 a.length), (9, .bool false)], [], S⟩)) ∨
    ((a.drop j).any p = true ∧ ∃ (i : Nat) (f : VFr), loopX VT.E VT.Fl (VCall VT) c_slices_IndexFunc_string_string_l0 ⟨[(0, strsV a), (1, .fn g []), (7, .int .i64 a.length), (8, .int .i64 j)], [], S⟩ = some (.ret, ⟨(4, .int .i64 i) :: f, [], S⟩)) := by
  have hK : ∀ f w h, loopX VT.E VT.Fl (VCall VT) c_slices_IndexFunc_string_string_l0 ⟨f, w, h⟩ = loopX VT.E VT.Fl (VCall VT) c_slices_IndexFunc_string_string_l0 ⟨VFr.keep f [0, 1, 7, 8], Rts.keep w.noCell [0, 1, 7, 8], h⟩ := fun _ _ _ => loopX_keep
  intro d
  induction d with
  | zero =>
    intro j hj
    obtain rfl : j = a.length := by omega
    left
    rw [loopX_eq]
    simp -implicitDefEqProofs [c_slices_IndexFunc_string_string_l0, binA]
  | succ d ih =>
    intro j hj
    have h1 : j < a.length := by omega
    have hlt : (j : Int) < (a.length : Int) := by omega
    obtain ⟨x, hx, dx⟩ := next_at h1
    rw [loopX_eq, dx]
    have := ih (j + 1) (by omega)
    push_cast at this
    generalize loopX VT.E VT.Fl (VCall VT) c_slices_IndexFunc_string_string_l0 = L at *
    by_cases e : p x = true
    · right
      simp -implicitDefEqProofs [c_slices_IndexFunc_string_string_l0, binA, hlt, hx, hg, e]
      exact ⟨j, rfl⟩
    · simp only [Bool.not_eq_true] at e
      simp -implicitDefEqProofs [c_slices_IndexFunc_string_string_l0, binA, hlt, hx, hg, e, wrap_succ h1 (by omega)]
      rw [hK]
      simpa using this
theorem v_Contains {g : Nat} {p : Str → Bool} {S : VH} (hg : ∀ s, VCall VT g [.str s] [] S = some (.bool (p s), [], S)) {a : List Str} (ha : a.length < 1000000) :
    VCall VT F_slices_ContainsFunc_string_string [strsV a, .fn g []] [] S = some (.bool (a.any p), [], S) := by
  rw [VCall_of (F := a_slices_ContainsFunc_string_string) rfl rfl rfl rfl]
  have key : ∃ i : Int, decide (0 ≤ i) = a.any p ∧ VCall VT F_slices_IndexFunc_string_string [strsV a, .fn g []] [] S = some (.int .i64 i, [], S) := by
    rw [VCall_of (F := a_slices_IndexFunc_string_string) rfl rfl rfl rfl]
    have := v_Index_loop hg ha a.length 0 (by omega)
    push_cast at this
    rw [List.drop_zero] at this
    rcases this with ⟨e, this⟩ | ⟨e, i, f, this⟩
    · refine ⟨-1, by rw [e]; rfl, ?_⟩
      simp -implicitDefEqProofs [a_slices_IndexFunc_string_string, c_slices_IndexFunc_string_string, binA, this]
    · refine ⟨i, by rw [e]; simp, ?_⟩
      simp -implicitDefEqProofs [a_slices_IndexFunc_string_string, c_slices_IndexFunc_string_string, binA, this]
  obtain ⟨i, hi, key⟩ := key
  simp -implicitDefEqProofs [a_slices_ContainsFunc_string_string, c_slices_ContainsFunc_string_string, binA, key]
  rw [← hi]

theorem v_Equal_loop {a b : List Str} {S : VH} (hl : a.length = b.length) (ha : a.length < 1000000) : ∀ (d j : Nat), j + d = a.length →
    (a.drop j = b.drop j ∧ loopX VT.E VT.Fl (VCall VT) c_slices_Equal_string_string_l0 ⟨[(0, strsV a), (1, strsV b), (12, .int .i64 a.length), (13, .int .i64 j)], [], S⟩ = some (.exit 0, ⟨[(0, strsV a), (1, strsV b), (12, .int .i64 a.length), (13, .int .i64 a.length), (14, .bool false)], [], S⟩)) ∨
    (a.drop j ≠ b.drop j ∧ ∃ f, loopX VT.E VT.Fl (VCall VT) c_slices_Equal_string_string_l0 ⟨[(0, strsV a), (1, strsV b), (12, .int .i64 a.length), (13, .int .i64 j)], [], S⟩ = some (.ret, ⟨(4, .bool false) :: f, [], S⟩)) := by
  have hK : ∀ f w h, loopX VT.E VT.Fl (VCall VT) c_slices_Equal_string_string_l0 ⟨f, w, h⟩ = loopX VT.E VT.Fl (VCall VT) c_slices_Equal_string_string_l0 ⟨VFr.keep f [0, 1, 12, 13], Rts.keep w.noCell [0, 1, 12, 13], h⟩ := fun _ _ _ => loopX_keep
  intro d
  induction d with
  | zero =>
    intro j hj
    obtain rfl : j = a.length := by omega
    left
    rw [loopX_eq]
    simp -implicitDefEqProofs [c_slices_Equal_string_string_l0, binA, hl]
  | succ d ih =>
    intro j hj
    have h1 : j < a.length := by omega
    have h2 : j < b.length := by omega
    have hlt : (j : Int) < (a.length : Int) := by omega
    obtain ⟨x, hx, dx⟩ := next_at h1
    obtain ⟨y, hy, dy⟩ := next_at h2
    rw [loopX_eq, dx, dy]
    have := ih (j + 1) (by omega)
    push_cast at this
    generalize loopX VT.E VT.Fl (VCall VT) c_slices_Equal_string_string_l0 = L at *
    by_cases e : x = y
    · simp -implicitDefEqProofs [c_slices_Equal_string_string_l0, binA, hlt, hx, hy, e, wrap_succ h1 (by omega)]
      rw [hK]
      simpa using this
    · simp -implicitDefEqProofs [c_slices_Equal_string_string_l0, binA, hlt, hx, hy, e]
theorem v_Equal {a b : List Str} {S : VH} (ha : a.length < 1000000) : VCall VT F_slices_Equal_string_string [strsV a, strsV b] [] S = some (.bool (decide (a = b)), [], S) := by
  rw [VCall_of (F := a_slices_Equal_string_string) rfl rfl rfl rfl]
  by_cases hl : a.length = b.length
  · have := v_Equal_loop (S := S) hl ha a.length 0 (by omega)
    push_cast at this
    rcases this with ⟨e, this⟩ | ⟨e, f, this⟩
    · simp -implicitDefEqProofs [a_slices_Equal_string_string, c_slices_Equal_string_string, binA, hl] at this ⊢
      simp -implicitDefEqProofs [this]
      simpa using e
    · simp -implicitDefEqProofs [a_slices_Equal_string_string, c_slices_Equal_string_string, binA, hl] at this ⊢
      simp -implicitDefEqProofs [this]
      simpa using e
  · have e : a ≠ b := fun h => hl (by rw [h])
    have hl' : ¬ ((a.length : Int) = (b.length : Int)) := by omega
    simp -implicitDefEqProofs [a_slices_Equal_string_string, c_slices_Equal_string_string, binA, e, hl']

/-- A row of the world. -/
structure Row where
  name : Str
  args : List Str
  any : Bool
  reads : Bool
  copy : Bool
  out : Str
  status : Int
abbrev encRow (r : Row) : List V := [.str r.name, strsV r.args, .bool r.any, .bool r.reads, .bool r.copy, .str r.out, .int .i64 r.status]
abbrev rowsV (l : List Row) : V := .lst 7 (l.map encRow)
@[simp] theorem clo_rows {n : Nat} {l : List Row} : V.closs n (l.map encRow) = true := closs_map fun _ => by simp
/-- An event. -/
structure Event where
  kind : Int
  n : Int
  a : Str
  b : Str
  l : List Str
  deriving DecidableEq
abbrev encEv (e : Event) : List V := [.int .i64 e.kind, .int .i64 e.n, .str e.a, .str e.b, strsV e.l]
abbrev evsV' (l : List Event) : V := .lst 5 (l.map encEv)
@[simp] theorem clo_evs {n : Nat} {l : List Event} : V.closs n (l.map encEv) = true := closs_map fun _ => by simp
end Go.Proofs.YtlecbjcloleiiaaDoor.Val

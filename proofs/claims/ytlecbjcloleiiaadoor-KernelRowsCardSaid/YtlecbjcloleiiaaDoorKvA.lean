import Derived.Test.YtlecbjcloleiiaaDoorValT
/-! Lists of strings. -/
set_option linter.unusedSimpArgs false
set_option linter.unusedVariables false
namespace Go.Proofs.YtlecbjcloleiiaaDoor.Val
open Go Go.Proofs.YtlecbjcloleiiaaDoor.Ram

abbrev Str := List UInt8
abbrev strRow (s : Str) : List V := [.str s]
abbrev strsV (l : List Str) : V := .lst 1 (l.map strRow)
@[simp] theorem clo_strs {n : Nat} {l : List Str} : V.closs n (l.map strRow) = true := closs_map fun _ => rfl

theorem i64_lt {n : Nat} (h : n < 9223372036854775808) : IntKind.i64.wrap (n : Int) = n := by
  have := Go.IntWalk.i64_in (n : Int) ⟨by omega, by omega⟩
  exact this
@[simp] theorem wrap_succ {j n : Nat} (h : j < n) (hn : n < 9223372036854775808) : IntKind.i64.wrap ((j : Int) + 1) = ((j + 1 : Nat) : Int) := by
  have := i64_lt (n := j + 1) (by omega)
  rw [← this]; congr 1

/-- The next item. -/
theorem next_at {α : Type} {a : List α} {j : Nat} (h : j < a.length) : ∃ x, a[j]? = some x ∧ a.drop j = x :: a.drop (j + 1) := ⟨a[j], by simp [h], List.drop_eq_getElem_cons h⟩
theorem v_SameTexts_loop {a b : List Str} {S : VH} (hl : a.length = b.length) (ha : a.length < 1000000) : ∀ (d j : Nat), j + d = a.length →
    (a.drop j = b.drop j ∧ loopX VT.E VT.Fl (VCall VT) c_patoisref_SameTexts_l0 ⟨[(0, strsV a), (1, strsV b), (5, .int .i64 j)], [], S⟩ = some (.exit 0, ⟨[(0, strsV a), (1, strsV b), (5, .int .i64 a.length), (15, .bool false)], [], S⟩)) ∨
    (a.drop j ≠ b.drop j ∧ ∃ f, loopX VT.E VT.Fl (VCall VT) c_patoisref_SameTexts_l0 ⟨[(0, strsV a), (1, strsV b), (5, .int .i64 j)], [], S⟩ = some (.ret, ⟨(4, .bool false) :: f, [], S⟩)) := by
  have hK : ∀ f w h, loopX VT.E VT.Fl (VCall VT) c_patoisref_SameTexts_l0 ⟨f, w, h⟩ = loopX VT.E VT.Fl (VCall VT) c_patoisref_SameTexts_l0 ⟨VFr.keep f [0, 1, 5], Rts.keep w.noCell [0, 1, 5], h⟩ := fun _ _ _ => loopX_keep
  intro d
  induction d with
  | zero =>
    intro j hj
    obtain rfl : j = a.length := by omega
    left
    rw [loopX_eq]
    simp -implicitDefEqProofs [c_patoisref_SameTexts_l0, binA, hl]
  | succ d ih =>
    intro j hj
    have h1 : j < a.length := by omega
    have h2 : j < b.length := by omega
    have hlt : (j : Int) < (a.length : Int) := by omega
    obtain ⟨x, hx, dx⟩ := next_at h1
    obtain ⟨y, hy, dy⟩ := next_at h2
    rw [loopX_eq, dx, dy]
    have := ih (j + 1) (by omega)
    push_cast at this
    generalize loopX VT.E VT.Fl (VCall VT) c_patoisref_SameTexts_l0 = L at *
    by_cases e : x = y
    · simp -implicitDefEqProofs [c_patoisref_SameTexts_l0, binA, hlt, hx, hy, e, wrap_succ h1 (by omega)]
      rw [hK]
      simpa using this
    · simp -implicitDefEqProofs [c_patoisref_SameTexts_l0, binA, hlt, hx, hy, e]
theorem v_SameTexts {a b : List Str} {S : VH} (ha : a.length < 1000000) : VCall VT F_patoisref_SameTexts [strsV a, strsV b] [] S = some (.bool (decide (a = b)), [], S) := by
  rw [VCall_of (F := a_patoisref_SameTexts) rfl rfl rfl rfl]
  by_cases hl : a.length = b.length
  · have := v_SameTexts_loop (S := S) hl ha a.length 0 (by omega)
    push_cast at this
    rcases this with ⟨e, this⟩ | ⟨e, f, this⟩
    · simp -implicitDefEqProofs [a_patoisref_SameTexts, c_patoisref_SameTexts, binA, hl, this]
      simpa using e
    · simp -implicitDefEqProofs [a_patoisref_SameTexts, c_patoisref_SameTexts, binA, hl, this]
      simpa using e
  · have e : a ≠ b := fun h => hl (by rw [h])
    have hl' : ¬ ((a.length : Int) = (b.length : Int)) := by omega
    simp -implicitDefEqProofs [a_patoisref_SameTexts, c_patoisref_SameTexts, binA, e, hl']

theorem v_Texts_loop {a : List Str} {S : VH} (ha : a.length < 1000000) : ∀ (d j : Nat) (out : List Str), j + d = a.length → out.length = j →
    loopX VT.E VT.Fl (VCall VT) c_patoisref_Texts_l0 ⟨[(0, strsV a), (3, strsV out), (4, .int .i64 j)], [(3, .own)], S⟩ =
      some (.exit 0, ⟨[(0, strsV a), (3, strsV (out ++ a.drop j)), (4, .int .i64 a.length), (11, .bool false)], [(3, .own)], S⟩) := by
  have hK : ∀ f w h, loopX VT.E VT.Fl (VCall VT) c_patoisref_Texts_l0 ⟨f, w, h⟩ = loopX VT.E VT.Fl (VCall VT) c_patoisref_Texts_l0 ⟨VFr.keep f [0, 3, 4], Rts.keep w.noCell [0, 3, 4], h⟩ := fun _ _ _ => loopX_keep
  intro d
  induction d with
  | zero =>
    intro j out hj ho
    obtain rfl : j = a.length := by omega
    rw [loopX_eq]
    simp -implicitDefEqProofs [c_patoisref_Texts_l0, binA]
  | succ d ih =>
    intro j out hj ho
    have h1 : j < a.length := by omega
    have hlt : (j : Int) < (a.length : Int) := by omega
    obtain ⟨x, hx, dx⟩ := next_at h1
    have := ih (j + 1) (out ++ [x]) (by omega) (by simp [ho])
    push_cast at this
    have e2 : (out.length + 1) * 16 ≤ 140737488355328 := by omega
    rw [loopX_eq, dx]
    generalize loopX VT.E VT.Fl (VCall VT) c_patoisref_Texts_l0 = L at *
    simp -implicitDefEqProofs [c_patoisref_Texts_l0, binA, hlt, hx, e2, wrap_succ h1 (by omega)]
    rw [hK]
    simpa [strsV] using this
theorem v_Texts {a : List Str} {S : VH} (ha : a.length < 1000000) : VCall VT F_patoisref_Texts [strsV a] [] S = some (strsV a, [], S) := by
  rw [VCall_of (F := a_patoisref_Texts) rfl rfl rfl rfl]
  have := v_Texts_loop (S := S) ha a.length 0 [] (by omega) rfl
  simp [strsV] at this
  have e2 : (16 : Int) * a.length ≤ 281474976710656 := by omega
  have e3 : (a.length : Int) ≤ 9223372036854775807 := by omega
  simp -implicitDefEqProofs [a_patoisref_Texts, c_patoisref_Texts, e2, e3, this]
end Go.Proofs.YtlecbjcloleiiaaDoor.Val

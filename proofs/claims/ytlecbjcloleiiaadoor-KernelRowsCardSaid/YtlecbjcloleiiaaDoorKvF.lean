import Derived.Test.YtlecbjcloleiiaaDoorKvE
/-! A new kernel of rows only. -/
set_option linter.unusedSimpArgs false
set_option linter.unusedVariables false
namespace Go.Proofs.YtlecbjcloleiiaaDoor.Val
open Go Go.Proofs.YtlecbjcloleiiaaDoor.Ram

def ownR (own : List Nat) : List Nat := 2 :: keepO (own.filter (· != 2)) 2 1
@[simp] theorem mem_ownR {own : List Nat} : 2 ∈ ownR own := List.mem_cons_self
@[simp] theorem mem_ownR0 {own : List Nat} (h : 0 ∈ own) : 0 ∈ ownR own := List.mem_cons_of_mem _ (by
  unfold keepO
  exact List.mem_filter.2 ⟨List.mem_filter.2 ⟨h, by simp⟩, by simp⟩)
theorem v_New_loop {a : List Row} {fl : V} {k : Nat} (ha : a.length < 1000000) (hok : ∀ r ∈ a, r.args.length < 1000000) : ∀ (d j : Nat) (out : List Row) (own : List Nat) (S : VH), j + d = a.length → out.length = j → k < S.next → V.clo S.next fl = true → 0 ∈ own → 2 ∈ own → S.get k = some (.cells [.lst 5 [], fl, rowsV out] own) →
    ∃ own', 0 ∈ own' ∧ 2 ∈ own' ∧ loopX VT.E VT.Fl (VCall VT) c_world_New_l0 ⟨[(5, .ptr (some (k, 0))), (24, rowsV a), (25, .int .i64 a.length), (26, .int .i64 j)], [], S⟩ =
      some (.exit 0, ⟨[(5, .ptr (some (k, 0))), (24, rowsV a), (25, .int .i64 a.length), (26, .int .i64 a.length), (27, .bool false)], [], S.set k (.cells [.lst 5 [], fl, rowsV (out ++ a.drop j)] own')⟩) := by
  have hK : ∀ f w h, loopX VT.E VT.Fl (VCall VT) c_world_New_l0 ⟨f, w, h⟩ = loopX VT.E VT.Fl (VCall VT) c_world_New_l0 ⟨VFr.keep f [5, 24, 25, 26], Rts.keep w.noCell [5, 24, 25, 26], h⟩ := fun _ _ _ => loopX_keep
  intro d
  induction d with
  | zero =>
    intro j out own S hj ho hk hf h0 h2 hg
    obtain rfl : j = a.length := by omega
    refine ⟨own, h0, h2, ?_⟩
    rw [loopX_eq]
    simp -implicitDefEqProofs [c_world_New_l0, binA]
    have : S.set k (.cells [.lst 5 [], fl, rowsV out] own) = S := by
      unfold VH.set; congr 1; funext j; by_cases e : j = k <;> simp [e, hg]
    simpa [rowsV] using this.symm
  | succ d ih =>
    intro j out own S hj ho hk hf h0 h2 hg
    have h1 : j < a.length := by omega
    have hlt : (j : Int) < (a.length : Int) := by omega
    obtain ⟨x, hx, dx⟩ := next_at h1
    have hxo := hok x (List.mem_of_getElem? hx)
    have hC := fun (S : VH) => v_Clone_string (l := x.args.map strRow) (S := S) (by simpa using hxo)
    have hkn : k ≠ S.next := by omega
    have hks : ¬ S.next = k := by omega
    have hk1 : k < S.next + 1 := by omega
    obtain ⟨own', g0, g2, this⟩ := ih (j + 1) (out ++ [x]) (ownR own) (S.set k (.cells [.lst 5 [], fl, rowsV (out ++ [x])] (ownR own))) (by omega) (by simp [ho]) hk hf (mem_ownR0 h0) mem_ownR (by simp)
    push_cast at this
    refine ⟨own', g0, g2, ?_⟩
    have e2 : (out.length + 1) * 72 ≤ 140737488355328 := by omega
    rw [loopX_eq, dx]
    generalize loopX VT.E VT.Fl (VCall VT) c_world_New_l0 = L at *
    simp -implicitDefEqProofs [c_world_New_l0, binA, hlt, hx, hC, hkn, hks, hk, hk1, hg, hf, h2, e2, trim_in hk, wrap_succ h1 (by omega)]
    rw [hK]
    simpa [rowsV, encRow, ownR] using this
set_option maxRecDepth 20000 in
theorem v_Len64_0 {S : VH} : VCall VT F_math_bits_Len64 [.int .u64 0] [] S = some (.int .i64 0, [], S) := by
  rw [VCall_of (F := a_math_bits_Len64) rfl rfl rfl rfl]
  simp -implicitDefEqProofs [a_math_bits_Len64, c_math_bits_Len64, binA, chrV, show IntKind.u8.wrap 0 = 0 from rfl, show IntKind.i64.wrap 0 = 0 from rfl]
theorem v_Len_0 {S : VH} : VCall VT F_math_bits_Len [.int .u64 0] [] S = some (.int .i64 0, [], S) := by
  rw [VCall_of (F := a_math_bits_Len) rfl rfl rfl rfl]
  simp -implicitDefEqProofs [a_math_bits_Len, c_math_bits_Len, binA, v_Len64_0]
theorem v_insertion_0 {g : Nat} {S : VH} : VCall VT F_slices_insertionSortCmpFunc_api_File [.lst 2 [], .int .i64 0, .int .i64 0, .fn g []] [] S = some (.tup [], [], S) := by
  rw [VCall_of (F := a_slices_insertionSortCmpFunc_api_File) rfl rfl rfl rfl]
  have : loopX VT.E VT.Fl (VCall VT) c_slices_insertionSortCmpFunc_api_File_l1 ⟨[(0, .lst 2 []), (1, .int .i64 0), (2, .int .i64 0), (3, .fn g []), (8, .int .i64 1)], [], S⟩ = some (.exit 0, ⟨[(0, .lst 2 []), (1, .int .i64 0), (2, .int .i64 0), (3, .fn g []), (8, .int .i64 1), (14, .bool false)], [], S⟩) := by
    rw [loopX_eq]
    simp -implicitDefEqProofs [c_slices_insertionSortCmpFunc_api_File_l1, binA]
  simp -implicitDefEqProofs [a_slices_insertionSortCmpFunc_api_File, c_slices_insertionSortCmpFunc_api_File, binA, this, show IntKind.i64.wrap 1 = 1 from rfl]
theorem v_pdq_0 {g : Nat} {S : VH} : VCall VT F_slices_pdqsortCmpFunc_api_File [.lst 2 [], .int .i64 0, .int .i64 0, .int .i64 0, .fn g []] [] S = some (.tup [], [], S) := by
  rw [VCall_of (F := a_slices_pdqsortCmpFunc_api_File) rfl rfl rfl rfl]
  have : ∃ f, loopX VT.E VT.Fl (VCall VT) c_slices_pdqsortCmpFunc_api_File_l0 ⟨[(0, .lst 2 []), (1, .int .i64 0), (2, .int .i64 0), (3, .int .i64 0), (4, .fn g []), (10, .bool true), (11, .bool true)], [], S⟩ = some (.ret, ⟨f, [], S⟩) := by
    rw [loopX_eq]
    generalize loopX VT.E VT.Fl (VCall VT) c_slices_pdqsortCmpFunc_api_File_l0 = L
    simp -implicitDefEqProofs [c_slices_pdqsortCmpFunc_api_File_l0, binA, v_insertion_0, show IntKind.i64.wrap 0 = 0 from rfl]
  obtain ⟨f, this⟩ := this
  simp -implicitDefEqProofs [a_slices_pdqsortCmpFunc_api_File, c_slices_pdqsortCmpFunc_api_File, binA, this]
theorem v_Sort_0 {g : Nat} {S : VH} : VCall VT F_slices_SortFunc_api_File_api_File [.lst 2 [], .fn g []] [] S = some (.tup [], [], S) := by
  rw [VCall_of (F := a_slices_SortFunc_api_File_api_File) rfl rfl rfl rfl]
  simp -implicitDefEqProofs [a_slices_SortFunc_api_File_api_File, c_slices_SortFunc_api_File_api_File, binA, v_Len_0, v_pdq_0, show IntKind.u64.wrap 0 = 0 from rfl]
theorem v_New_rows {a : List Row} {S : VH} (ha : a.length ≤ 50) (hok : ∀ r ∈ a, r.ok) : ∃ own own', 0 ∈ own' ∧ 2 ∈ own' ∧ VCall VT F_world_New [.agg [.lst 2 [], rowsV a]] [] S =
    some (.tup [.ptr (some (S.next + 1, 0)), .nilI], [], (S.push (.cells [.lst 2 [], rowsV a] own)).push (.cells (encK ⟨[], .lst 2 [], a⟩) own')) := by
  have hM := fun (S : VH) => v_May_rows (S := S) ha hok
  have hL := fun (S : VH) => v_New_loop (fl := .lst 2 []) (S := (S.push (.cells [.lst 2 [], rowsV a] [])).push (.cells [.lst 5 [], .lst 2 [], .lst 7 []] [0, 2])) (k := S.next + 1) (a := a) (by omega) (fun r hr => by have := (hok r hr).2.2.1; omega) a.length 0 [] [0, 2] (by omega) rfl (by simp) (by simp) (by simp) (by simp) (by simp)
  obtain ⟨own', g0, g2, this⟩ := hL S
  push_cast at this
  refine ⟨[], own', g0, g2, ?_⟩
  rw [VCall_made (F := a_world_New) rfl rfl rfl rfl]
  simp -implicitDefEqProofs [a_world_New, c_world_New, binA, hM, v_Clone_File, v_Sort_0, this]
  rfl
end Go.Proofs.YtlecbjcloleiiaaDoor.Val

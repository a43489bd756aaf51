import Derived.Test.YtlecbjcloleiiaaDoorKerD
import Derived.KernelRfl
/-! A kernel of an empty world. -/
namespace Go.Proofs.YtlecbjcloleiiaaDoor.Ram
open Go

abbrev noFiles : AV := .sl none 2 0 (some 0)
abbrev noRows : AV := .sl none 7 0 (some 0)
theorem c_bits0 (H : AH) : Call U 63 [.int .u64 0] H = some (.int .i64 0, H) := Call_of_callC (n := 9) (show callC U 9 63 [.int .u64 0] H = some (.int .i64 0, H) from rfl)
theorem c_clone0 {H : AH} {c : Option Nat} {s : Nat} : Call U 40 [.sl none s 0 c] H = some (.sl none 1 0 (some 0), H) := by
  rw [Call_of (F := a40) rfl rfl]
  simp -implicitDefEqProofs [a40, c40, frOf, eqA]
theorem may_l0 {H : AH} {p v : AV} : loopL (execL U.E (Call U) c27l0) ([(1, p), (23, v), (24, .int .i64 0), (25, .int .i64 0)], H) = some (.exit 0, ([(1, p), (23, v), (24, .int .i64 0), (25, .int .i64 0), (26, .bool false)], H)) := by
  rw [loopL_eq]
  simp -implicitDefEqProofs [c27l0, binA]
theorem may_l1 {H : AH} {p m v : AV} : loopL (execL U.E (Call U) c27l1) ([(1, p), (5, m), (37, v), (38, .int .i64 0), (39, .int .i64 0)], H) = some (.exit 2, ([(1, p), (5, m), (37, v), (38, .int .i64 0), (39, .int .i64 0), (40, .bool false)], H)) := by
  rw [loopL_eq]
  simp -implicitDefEqProofs [c27l1, binA]
theorem may_l2 {H : AH} {v : AV} : loopL (execL U.E (Call U) c27l2) ([(71, v), (72, .int .i64 0), (73, .int .i64 0)], H) = some (.exit 5, ([(71, v), (72, .int .i64 0), (73, .int .i64 0), (74, .bool false)], H)) := by
  rw [loopL_eq]
  simp -implicitDefEqProofs [c27l2, binA]
theorem c_may0 {H : AH} : ∃ H', Call U 27 [.agg [noFiles, noRows]] H = some (.nilI, H') ∧ Keep H H' := by
  refine ⟨(H.push (.cells [noFiles, noRows] false)).push (.map [] false), ?_, (Keep.push _ _).trans (Keep.push _ _)⟩
  rw [Call_of (F := a27) rfl rfl]
  simp -implicitDefEqProofs [a27, c27, frOf, loadA, binA, may_l0, may_l1, may_l2]
theorem ins_l {H : AH} {v f : AV} : loopL (execL U.E (Call U) c72l1) ([(0, v), (1, .int .i64 0), (2, .int .i64 0), (3, f), (8, .int .i64 1)], H) = some (.exit 0, ([(0, v), (1, .int .i64 0), (2, .int .i64 0), (3, f), (8, .int .i64 1), (14, .bool false)], H)) := by
  rw [loopL_eq]
  simp -implicitDefEqProofs [c72l1, binA]
theorem c_sort0 {H : AH} {f : AV} {c : Option Nat} {s : Nat} : Call U 41 [.sl none s 0 c, f] H = some (.tup [], H) := by
  have h72 : Call U 72 [.sl none s 0 c, .int .i64 0, .int .i64 0, f] H = some (.tup [], H) := by
    rw [Call_of (F := a72) rfl rfl]
    have h1 : IntKind.i64.wrap 1 = 1 := by rw [wrap64 (by omega) (by omega)]
    simp -implicitDefEqProofs [a72, c72, frOf, binA, h1, ins_l]
  have h62 : Call U 62 [.sl none s 0 c, .int .i64 0, .int .i64 0, .int .i64 0, f] H = some (.tup [], H) := by
    rw [Call_of (F := a62) rfl rfl]
    have h1 : IntKind.i64.wrap 0 = 0 := by rw [wrap64 (by omega) (by omega)]
    have hl : loopL (execL U.E (Call U) c62l0) ([(0, .sl none s 0 c), (1, .int .i64 0), (2, .int .i64 0), (3, .int .i64 0), (4, f), (10, .bool true), (11, .bool true)], H) = some (.ret, ([(30, .tup []), (29, f), (28, .int .i64 0), (27, .int .i64 0), (26, .sl none s 0 c), (0, .sl none s 0 c), (1, .int .i64 0), (2, .int .i64 0), (3, .int .i64 0), (4, f), (10, .bool true), (11, .bool true), (12, .int .i64 0), (25, .bool true)], H)) := by
      rw [loopL_eq]
      simp -implicitDefEqProofs [c62l0, binA, h1, h72]
    simp -implicitDefEqProofs [a62, c62, frOf, binA, hl]
  rw [Call_of (F := a41) rfl rfl]
  have h1 : IntKind.u64.wrap 0 = 0 := by decide
  simp -implicitDefEqProofs [a41, c41, frOf, h1, c_bits0, h62]
theorem new_l {H : AH} {k v : AV} : loopL (execL U.E (Call U) c10l0) ([(5, k), (24, v), (25, .int .i64 0), (26, .int .i64 0)], H) = some (.exit 0, ([(5, k), (24, v), (25, .int .i64 0), (26, .int .i64 0), (27, .bool false)], H)) := by
  rw [loopL_eq]
  simp -implicitDefEqProofs [c10l0, binA]
theorem c_new0 {H : AH} : ∃ k H' fv, Call U 10 [.agg [noFiles, noRows]] H = some (.tup [.ptr (some (k, 0)), .nilI], H') ∧ H'.get k = some (.cells [.sl none 5 0 (some 0), fv, noRows] false) ∧ H.next ≤ k ∧ k < H'.next ∧ Keep H H' := by
  obtain ⟨H1, h1, k1⟩ := c_may0 (H := H.push (.cells [noFiles, noRows] false))
  have k0 : Keep H H1 := (Keep.push _ _).trans k1
  have hb : H1.get H.next = some (.cells [noFiles, noRows] false) := by rw [k1.get _ (by simp)]; simp
  have l0 : loadA (H.push (.cells [noFiles, noRows] false)) 2 true (.ptr (some (H.next, 0))) = some (.agg [noFiles, noRows]) := by rw [load_agg (l := [noFiles, noRows]) (ro := false) (by simp)]; simp
  have l1 : loadA H1 1 false (.ptr (some (H.next, 0 + 0))) = some noFiles := by rw [load_one hb]; rfl
  obtain ⟨H2, hH2⟩ : ∃ H2, H2 = H1.push (.cells [.sl none 5 0 (some 0), .sl none 1 0 (some 0), noRows] false) := ⟨_, rfl⟩
  have k2 : Keep H1 H2 := hH2 ▸ Keep.push _ _
  have l2 : loadA H2 1 false (.ptr (some (H1.next, 0 + 1))) = some (.sl none 1 0 (some 0)) := by rw [hH2, load_one (l := [.sl none 5 0 (some 0), .sl none 1 0 (some 0), noRows]) (ro := false) (by simp)]; rfl
  have l3 : loadA H2 1 false (.ptr (some (H.next, 0 + 1))) = some noRows := by rw [load_one ((k2.get _ (by have := k1.next; simp at this; omega)).trans hb)]; rfl
  refine ⟨H1.next, H2, .sl none 1 0 (some 0), ?_, by rw [hH2]; simp, k0.next, by rw [hH2]; simp, k0.trans k2⟩
  rw [Call_of (F := a10) rfl rfl]
  simp -implicitDefEqProofs [a10, c10, frOf, l0, h1, eqA, l1, c_clone0, ← hH2, l2, c_sort0, l3, new_l]
end Go.Proofs.YtlecbjcloleiiaaDoor.Ram

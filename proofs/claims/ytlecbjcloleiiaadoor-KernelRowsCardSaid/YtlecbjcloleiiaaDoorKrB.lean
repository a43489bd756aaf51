import Derived.Test.YtlecbjcloleiiaaDoorKrA
/-! KernelRows answers true. -/
set_option linter.unusedSimpArgs false
set_option linter.unusedVariables false
namespace Go.Proofs.YtlecbjcloleiiaaDoor.Val
open Go Go.Proofs.YtlecbjcloleiiaaDoor.Ram

theorem rows_len {args : List Str} {any : Int} : ∀ {l : List Str} {j : Nat}, (rowsFrom args any j l).length = l.length
  | [], _ => rfl
  | _ :: l, j => by simp [rowsFrom, rows_len (l := l)]
theorem rows_ok {args : List Str} {any : Int} (ha : args.length ≤ 5) (has : ∀ s ∈ args, s.length ≤ 100) : ∀ {l : List Str} {j : Nat}, (∀ s ∈ l, s.length ≤ 300) → j + l.length ≤ 8 → ∀ r ∈ rowsFrom args any j l, r.ok
  | [], _, _, _, r, hr => by cases hr
  | o :: l, j, hl, hj, r, hr => by
    rcases List.mem_cons.1 hr with rfl | hr
    · refine ⟨by simp [mkRow, cName], by simp [mkRow, cName], ?_, ?_, ?_, ?_, ?_⟩
      · simp only [mkRow]; split; omega; decide
      · simp only [mkRow]; split
        · intro a h; have := has a h; omega
        · decide
      · have := hl o List.mem_cons_self; simp only [mkRow]; omega
      · simp only [mkRow]; omega
      · simp only [mkRow]; simp only [List.length_cons] at hj; omega
    · exact rows_ok ha has (fun s hs => hl s (List.mem_cons_of_mem _ hs)) (by simp only [List.length_cons] at hj; omega) r hr
set_option maxHeartbeats 4000000 in
theorem v_Rows {outs args : List Str} {any : Int} {inp : Str} {S : VH} : VCall VT F_patoislaw4_KernelRows [strsV outs, strsV args, .int .i64 any, .str inp] [] S = some (.bool true, [], S) := by
  rw [VCall_of (F := a_patoislaw4_KernelRows) rfl rfl rfl rfl]
  by_cases h1 : outs.length ≤ 8
  rotate_left
  · have h1' : (8 : Int) < (outs.length : Int) := by omega
    simp -implicitDefEqProofs [a_patoislaw4_KernelRows, c_patoislaw4_KernelRows, binA, v_first, h1']
  have h1' : ¬ (8 : Int) < (outs.length : Int) := by omega
  by_cases h2 : args.length ≤ 5
  rotate_left
  · have h2' : (5 : Int) < (args.length : Int) := by omega
    simp -implicitDefEqProofs [a_patoislaw4_KernelRows, c_patoislaw4_KernelRows, binA, v_first, h1', h2']
  have h2' : ¬ (5 : Int) < (args.length : Int) := by omega
  by_cases h3 : inp.length ≤ 300
  rotate_left
  · have h3' : (300 : Int) < (inp.length : Int) := by omega
    simp -implicitDefEqProofs [a_patoislaw4_KernelRows, c_patoislaw4_KernelRows, binA, v_first, h1', h2', h3']
  have h3' : ¬ (300 : Int) < (inp.length : Int) := by omega
  have hl0 := v_Rows_loop0 (outs := outs) (args := args) (any := any) (inp := inp) (S := S) (by omega) args.length 0 (by omega)
  push_cast at hl0
  rw [List.drop_zero] at hl0
  rcases hl0 with ⟨has, hl0⟩ | ⟨f, hl0⟩
  rotate_left
  · simp -implicitDefEqProofs [a_patoislaw4_KernelRows, c_patoislaw4_KernelRows, binA, v_first, h1', h2', h3', hl0]
  have hl1 := v_Rows_loop1 (outs := outs) (args := args) (any := any) (inp := inp) (k := S.next) h1 outs.length 0 (-1) [] [0, 1] (S.push (.cells [.lst 2 [], .lst 7 []] [0, 1])) (by omega) rfl (by simp) (by simp) (by simp)
  push_cast at hl1
  rw [List.drop_zero] at hl1
  rcases hl1 with ⟨hos, own1, hl1⟩ | ⟨o, f, hl1⟩
  rotate_left
  · simp -implicitDefEqProofs [a_patoislaw4_KernelRows, c_patoislaw4_KernelRows, binA, v_first, h1', h2', h3', hl0, hl1]
  have hrk := rows_ok (any := any) h2 has (j := 0) hos (by omega)
  have hrl := rows_len (args := args) (any := any) (l := outs) (j := 0)
  have hra : ∀ r ∈ rowsFrom args any 0 outs, r.args.length < 1000000 := fun r hr => by have := (hrk r hr).2.2.1; omega
  have hout : ((findRow (rowsFrom args any 0 outs) cName args).1.out.length : Int) < 1000000000 := by
    unfold findRow
    split
    · rename_i r hr; have := (hrk r (List.mem_of_find?_eq_some hr)).2.2.2.2.1; simp only; omega
    · simp [noRow]
  have hfind := find_rows (any := any) h2 (l := outs) (j := 0) (at' := -1) (by omega)
  have hfr : findRow (rowsFrom args any 0 outs) cName args = match (rowsFrom args any 0 outs).find? (·.fits cName args) with | some r => (r, true) | none => (noRow, false) := rfl
  generalize rowsFrom args any 0 outs = rows at *
  obtain ⟨o2, o3, m0, m2, hN⟩ := v_New_rows (S := S.push (.cells [.lst 2 [], rowsV rows] own1)) (a := rows) (by omega) hrk
  have hR := v_Reads (K := ⟨[], .lst 2 [], rows⟩) (n := cName) (l := args) (S := ((S.push (.cells [.lst 2 [], rowsV rows] own1)).push (.cells [.lst 2 [], rowsV rows] o2)).push (.cells (encK ⟨[], .lst 2 [], rows⟩) o3)) (i := S.next + 1 + 1) ⟨by simp, o3, by simp, m0, by simp⟩ (by omega) (by simp only; omega) hra
  have hE := v_Exec (K := ⟨[], .lst 2 [], rows⟩) (n := cName) (inp := inp) (l := args) (S := ((S.push (.cells [.lst 2 [], rowsV rows] own1)).push (.cells [.lst 2 [], rowsV rows] o2)).push (.cells (encK ⟨[], .lst 2 [], rows⟩) o3)) (i := S.next + 1 + 1) (own := o3) (by simp) (by simp) (by simp) m0 (by simp) (by omega) (by simp only; omega) hra (by omega) hout
  have hT := fun (e : Event) (he : e.l.length < 1000000) => v_Trace (K := ⟨[e], .lst 2 [], rows⟩) (S := ((S.push (.cells [.lst 2 [], rowsV rows] own1)).push (.cells [.lst 2 [], rowsV rows] o2)).push (.cells (encK ⟨[e], .lst 2 [], rows⟩) (ownN o3))) (i := S.next + 1 + 1) (own := ownN o3) (by simp) (by simpa using he) (by simp) (by simp) (by simp)
  have hS := fun (S : VH) => v_SameTexts (a := args) (b := args) (S := S) (by omega)
  rcases hfind with ⟨ha1, hf1⟩ | ⟨i, o, hi, ha1, hf1⟩
  · rw [hf1] at hfr
    simp only at hfr
    rw [hfr] at hR hE
    simp [noRow, cName] at hR hE
    have hT' := hT ⟨1, 127, cName, [], args⟩ (by simp only; omega)
    simp [cName] at hT'
    rw [ha1] at hl1
    simp -implicitDefEqProofs [a_patoislaw4_KernelRows, c_patoislaw4_KernelRows, binA, v_first, h1', h2', h3', hl0, hl1, hN, hR, hE, hT', hS, show S.next ≤ S.next + 1 + 1 by omega]
  · rw [hf1] at hfr
    simp only at hfr
    rw [hfr] at hR hE
    have hT' := hT ⟨1, i, cName, if (i : Int).tmod 2 == 0 then inp else [], args⟩ (by simp only; omega)
    simp [mkRow, cName] at hR hE hT'
    rw [ha1] at hl1
    simp only [Nat.zero_add] at hl1
    have hi0 : ¬ (i : Int) < 0 := by omega
    have hol := hos o (List.mem_of_getElem? hi)
    have hb : (o.length : Int) + (inp.length : Int) ≤ 9223372036854775807 := by omega
    have hb2 : ((i : Int) == (i : Int)) = true := by simp
    have e2 : ((i : Int).tmod 2 = 0 ∧ ((i : Int).tmod 2 == 0) = true) ∨ (¬ (i : Int).tmod 2 = 0 ∧ ((i : Int).tmod 2 == 0) = false) := by
      by_cases e : (i : Int).tmod 2 = 0 <;> simp [e]
    have e3 : ((i : Int).tmod 3 = 0 ∧ ((i : Int).tmod 3 == 0) = true) ∨ (¬ (i : Int).tmod 3 = 0 ∧ ((i : Int).tmod 3 == 0) = false) := by
      by_cases e : (i : Int).tmod 3 = 0 <;> simp [e]
    rcases e2 with ⟨e2, e2'⟩ | ⟨e2, e2'⟩ <;> rcases e3 with ⟨e3, e3'⟩ | ⟨e3, e3'⟩
    all_goals
      simp [e2, e2', e3, e3'] at hR hE hT'
      simp -implicitDefEqProofs [a_patoislaw4_KernelRows, c_patoislaw4_KernelRows, binA, v_first, h1', h2', h3', e2, e2', e3, e3', hl0, hl1, hN, hR, hE, hT', hS, show S.next ≤ S.next + 1 + 1 by omega, hi0, hi, hb, hb2]
end Go.Proofs.YtlecbjcloleiiaaDoor.Val

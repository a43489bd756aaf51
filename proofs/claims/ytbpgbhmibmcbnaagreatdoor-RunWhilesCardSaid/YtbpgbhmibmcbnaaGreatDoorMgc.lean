/-
  Parts of the proof: ValP, RamTa, RamTb, RamT.
-/
import Derived.Test.YtbpgbhmibmcbnaaGreatDoorMgb
import Derived.Test.YtbpgbhmibmcbnaaGreatDoorMga
/-! Prims of the second machine: copies of slices; closed calls. -/
namespace Go.Proofs.YtbpgbhmibmcbnaaGreatDoor.Val
open Go Go.Proofs.YtbpgbhmibmcbnaaGreatDoor.Ram

def PrimOk (TR : Tab) (f : Nat) (p : List V → VH → Option (V × VH)) : Prop := ∀ (vs : List V) (rs : List Nat) (S : VH) (v : V) (S' : VH), p vs S = some (v, S') → ∀ (φ : Bk) (G : Fz) (W : Nat → Prop) (H : AH) (as' : List AV), Rel φ G W ⟨frV vs, rs.map fun k => (k, .own), S⟩ (frOf as') H → as'.length = vs.length →
    ∃ a H' φ' G' W', Ram.Call TR f as' H = some (a, H') ∧ Rel φ' G' W' ⟨[(0, v)], [], S'⟩ [(0, a)] H' ∧ Frm φ G W H φ' G' W' H'
theorem Rel.only {φ : Bk} {G : Fz} {W : Nat → Prop} {st : VS} {fr : Fr} {H : AH} (h : Rel φ G W st fr H) {v : V} {a : AV} (hv : VRel φ G v a) : Rel φ G W ⟨[(0, v)], [], st.h⟩ [(0, a)] H := by
  have h1 := h.mixed h (Frm.refl _ _ _ _)
  exact { h1 with
    slots := fun n u hu => by
      simp only [VFr.get] at hu
      split at hu
      · rename_i e; subst e; obtain rfl := Option.some.inj hu; exact ⟨a, by simp [Fr.get], hv⟩
      · cases hu
    rt := fun R hR => by
      cases R with
      | slot n => cases hR
      | part n j => cases hR
      | cell i off => exact h1.rt (.cell i off) hR
    rtx := fun R R' x x' r hR hR' hx hx' => by
      cases R with
      | slot n => cases hR
      | part n j => cases hR
      | cell i off =>
        cases R' with
        | slot n => cases hR'
        | part n j => cases hR'
        | cell i' off' => exact h1.rtx (.cell i off) (.cell i' off') x x' r hR hR' hx hx'
    alias := fun n i off hm => by cases hm }
def cloneC (fz : Bool) (sz bytes : Nat) : ACode :=
 .seq (.reg [.o 2 (.mov (.c (.sl none sz 0 (some 0))))])
 (.keep [0] (.seq (.seq (.reg [.o 3 (.mov (.t 0)),
 .o 4 (.eq false .nilS (.t 3) (.c (.sl none 1 0 (some 0))))])
 (.keep [0, 4] (.cond (.t 4)
 (.seq (.reg [.o 2 (.mov (.c (.sl none sz 0 (some 0))))])
 (.ret))
 (.skip))))
 (.keep [0] (.seq (.reg [.o 5 (.bslice false sz 0 [] []),
 .o 6 (.mov (.t 0)),
 .o 7 (.append fz sz bytes (.t 5) (.t 6)),
 .o 2 (.mov (.t 7))])
 (.ret)))))
def cloneA (fz : Bool) (sz bytes : Nat) : AFun := ⟨1, cloneC fz sz bytes, [.tmp 2]⟩
def cloneP (fz : Bool) (sz bytes : Nat) : List V → VH → Option (V × VH)
  | [.lst sz' rows], S => if sz' = sz ∧ rows.length * bytes ≤ 140737488355328 ∧ (fz = true ∨ rows = []) then some (.lst sz rows, S) else none
  | _, _ => none
theorem cloneP_ok {TR : Tab} {f sz bytes : Nat} {fz : Bool} (hf : TR.fn f = some (.code (cloneA fz sz bytes))) (hs : 0 < sz) (hb : 0 < bytes) : PrimOk TR f (cloneP fz sz bytes) := by
  intro vs rs S v S' hp φ G W H as' h hl
  unfold cloneP at hp
  split at hp
  · rename_i S0 sz' rows
    split at hp
    · rename_i hc
      obtain ⟨rfl, hc, hfz⟩ := hc
      obtain ⟨rfl, rfl⟩ := Prod.mk.inj (Option.some.inj hp)
      obtain ⟨a, h1, h2⟩ := h.slots 0 (.lst sz' rows) (by simp)
      rw [get_frOf'] at h1
      match as', hl, h1 with
      | [x], _, h1 =>
        simp at h1; subst h1
        have h3 := h2
        simp only [VRel] at h2
        rw [Call_code hf]
        have hn := h.n100.2
        rcases h2 with ⟨rfl, s, c, rfl⟩ | ⟨r, o, c, pre, rfl, g1, g2, g3⟩
        · refine ⟨.sl none sz' 0 (some 0), H, φ, G, W, ?_, h.only (by simp [VRel]), Frm.refl _ _ _ _⟩
          simp -implicitDefEqProofs [afunL, cloneA, cloneC, frOf, eqA, finA, resA, tupOf]
        · obtain ⟨cs, k1, k2, k3, k4⟩ := h.rows (sz := sz') (rows := rows) h3 (by simp [rowsOfV])
          have hWn : ¬ W H.next := fun hw => by have := h.win _ hw; omega
          have hGn : ∀ q, H.next ≤ q → G q = none := fun q hq => by
            cases e : G q with
            | none => rfl
            | some pre => have := (h.fz _ _ e).1; omega
          have k5 : sliceCells (H.push (.cells [] false)) sz' rows.length (.sl (some (r, o)) sz' rows.length c) = some cs := by
            have e : (H.push (.cells [] false)).get r = H.get r := by rw [Val.push_get', if_neg (by have := (h.fz r pre g1).1; omega)]
            unfold sliceCells at k2 ⊢
            dsimp only at k2 ⊢
            rw [e]; exact k2
          by_cases h0 : rows.length = 0
          · have hr : rows = [] := List.length_eq_zero_iff.1 h0
            subst hr
            have hcs : cs = [] := by simpa using k3
            subst hcs
            have h4 := h.frozen (H' := H.push (.cells [] false)) (r := H.next) (pre := []) (l := []) (ro := false) hWn (by simp [AH.push]) (by simp [AH.push]) (fun p e => by rw [hGn _ (Nat.le_refl _)] at e; cases e) (fun q hq hne => ⟨by rw [Val.push_get', if_neg hne], fun _ => rfl⟩) (by rw [Val.push_get', if_pos rfl]) (List.prefix_refl _)
            refine ⟨.sl (some (H.next, 0)) sz' 0 (some 0), H.push (.cells [] false), φ, _, _, ?_, h4.only (v := .lst sz' []) (by simp only [VRel]; exact .inr ⟨H.next, 0, some 0, [], rfl, by simp [Fz.put], by simp, by simp [RowsRel]⟩), ?_⟩
            · simp only [List.length_nil] at k5
              cases fz <;> simp -implicitDefEqProofs [afunL, cloneA, cloneC, frOf, eqA, finA, resA, tupOf, appendX, appendF, appendA, lenA, k5, hs, hb]
            · exact ⟨by simp [AH.push], BkLe.refl _, Fz.put_le fun p e => (by rw [hGn _ (Nat.le_refl _)] at e; cases e), fun q hq _ => ⟨by rw [Val.push_get', if_neg (by omega)], rfl, by simp only [Fz.put]; rw [if_neg (by omega)]⟩, fun q hq => hq.imp id fun e => by omega⟩
          · have h4 := h.frozen (H' := (H.push (.cells [] false)).grow cs) (r := H.next + 1) (pre := cs) (l := cs) (ro := true) (fun hw => by have := h.win _ hw; omega) (by simp [AH.grow, AH.tipOn, AH.push]) (by simp [AH.grow, AH.tipOn, AH.push]; omega) (fun p e => by rw [hGn _ (by omega)] at e; cases e)
              (fun q hq hne => ⟨by show (if q = H.next + 1 then some (AObj.cells cs true) else if q = H.next then some (AObj.cells [] false) else H.get q) = H.get q; rw [if_neg (by omega), if_neg (by omega)], fun _ => by show (if q = H.next + 1 then true else H.tip q) = H.tip q; rw [if_neg (by omega)]⟩) (by show (if H.next + 1 = H.next + 1 then some (AObj.cells cs true) else _) = some (AObj.cells cs true); rw [if_pos rfl]) (List.prefix_refl _)
            have hle : FzLe G (Fz.put G (H.next + 1) cs) := Fz.put_le fun p e => (by rw [hGn _ (by omega)] at e; cases e)
            refine ⟨.sl (some (H.next + 1, 0)) sz' rows.length none, (H.push (.cells [] false)).grow cs, φ, _, _, ?_, h4.only (v := .lst sz' rows) (by simp only [VRel]; exact .inr ⟨H.next + 1, 0, none, cs, rfl, by simp [Fz.put], by omega, by rw [List.drop_zero]; exact k4.mono (BkLe.refl _) hle (List.prefix_refl _) (by omega)⟩), ?_⟩
            · have hb' : 100 ≤ H.next + 1 := by omega
              obtain rfl : fz = true := hfz.resolve_right fun e => h0 (by rw [e]; rfl)
              simp -implicitDefEqProofs [afunL, cloneA, cloneC, frOf, eqA, finA, resA, tupOf, appendX, appendF, lenA, k5, hs, hb, h0, hc, hb']
            · exact ⟨by simp [AH.grow, AH.tipOn, AH.push]; omega, BkLe.refl _, hle, fun q hq _ => ⟨by show (if q = H.next + 1 then some (AObj.cells cs true) else if q = H.next then some (AObj.cells [] false) else H.get q) = H.get q; rw [if_neg (by omega), if_neg (by omega)], by show (if q = H.next + 1 then true else H.tip q) = H.tip q; rw [if_neg (by omega)], by simp only [Fz.put]; rw [if_neg (by omega)]⟩, fun q hq => hq.imp id fun e => by omega⟩
    · cases hp
  · cases hp
/-! a copy that may be written -/
def cloneHC (sz bytes : Nat) : ACode :=
 .seq (.reg [.o 2 (.mov (.c (.sl none sz 0 none)))])
 (.keep [0] (.seq (.seq (.reg [.o 3 (.mov (.t 0)),
 .o 4 (.eq false .nilS (.t 3) (.c (.sl none 1 0 none)))])
 (.keep [0, 4] (.cond (.t 4)
 (.seq (.reg [.o 2 (.mov (.c (.sl none sz 0 none)))])
 (.ret))
 (.skip))))
 (.keep [0] (.seq (.reg [.o 5 (.bslice true sz 0 [] []),
 .o 6 (.mov (.t 0)),
 .o 7 (.append false sz bytes (.t 5) (.t 6)),
 .o 2 (.mov (.t 7))])
 (.ret)))))
def cloneHA (sz bytes : Nat) : AFun := ⟨1, cloneHC sz bytes, [.tmp 2]⟩
def isSl : V → Bool
  | .lst _ _ => true
  | .sl _ _ _ _ => true
  | _ => false
def cloneH (sz bytes : Nat) : List V → VH → Option (V × VH)
  | [v], S => (seenV S sz v).bind fun rows => if rows.length * bytes ≤ 140737488355328 ∧ isSl v = true then (if rows = [] then some (.lst sz [], S) else some (.sl (some (S.next, 0)) sz rows.length none, S.push (.cells rows.flatten []))) else none
  | _, _ => none
theorem cloneH_ok {TR : Tab} {f sz bytes : Nat} (hf : TR.fn f = some (.code (cloneHA sz bytes))) (hs : 0 < sz) (hb : 0 < bytes) : PrimOk TR f (cloneH sz bytes) := by
  intro vs rs S v S' hp φ G W H as' h hl
  unfold cloneH at hp
  split at hp
  · rename_i S0 u
    simp only [Option.bind_eq_some_iff] at hp
    obtain ⟨rows, hseen, hp⟩ := hp
    split at hp
    · rename_i hc
      obtain ⟨a, h1, h2⟩ := h.slots 0 u (by simp)
      rw [get_frOf'] at h1
      match as', hl, h1 with
      | [x], _, h1 =>
        simp at h1; subst h1
        obtain ⟨cs, k1, k2, k3, k4⟩ := h.seen (sz := sz) (rows := rows) h2 hseen
        have hk4 := rows_cells rfl k3 k4
        have hn := h.n100.2
        have hWn : ¬ W H.next := fun hw => by have := h.win _ hw; omega
        have hGn : ∀ q, H.next ≤ q → G q = none := fun q hq => by
          cases e : G q with
          | none => rfl
          | some pre => have := (h.fz _ _ e).1; omega
        -- the heap with one block more
        have h4 := h.frozen (H' := H.push (.cells [] false)) (r := H.next) (pre := []) (l := []) (ro := false) hWn (by simp [AH.push]) (by simp [AH.push]) (fun p e => by rw [hGn _ (Nat.le_refl _)] at e; cases e) (fun q hq hne => ⟨by rw [Val.push_get', if_neg hne], fun _ => rfl⟩) (by rw [Val.push_get', if_pos rfl]) (List.prefix_refl _)
        have f4 : Frm φ G W H φ (Fz.put G H.next []) (fun q => W q ∨ q = H.next) (H.push (.cells [] false)) := ⟨by simp [AH.push], BkLe.refl _, Fz.put_le fun p e => (by rw [hGn _ (Nat.le_refl _)] at e; cases e), fun q hq _ => ⟨by rw [Val.push_get', if_neg (by omega)], rfl, by simp only [Fz.put]; rw [if_neg (by omega)]⟩, fun q hq => hq.imp id fun e => by omega⟩
        have hle : FzLe G (Fz.put G H.next []) := f4.fz
        rw [Call_code hf]
        have hx : (∃ s c, x = .sl none s 0 c) ∨ ∃ r o sz' len c, x = .sl (some (r, o)) sz' len c ∧ r < H.next := by
          have hh := hc.2
          cases u with
          | lst sz0 rows0 =>
            simp only [VRel] at h2
            rcases h2 with ⟨_, s, c, rfl⟩ | ⟨r, o, c, pre, rfl, g1, _⟩
            · exact .inl ⟨s, c, rfl⟩
            · exact .inr ⟨r, o, _, _, c, rfl, (h.fz r pre g1).1⟩
          | sl p sz' len cap =>
            cases p with
            | none => simp only [VRel] at h2; obtain ⟨_, s, c, rfl⟩ := h2; exact .inl ⟨s, c, rfl⟩
            | some q =>
              obtain ⟨i, off⟩ := q
              simp only [VRel] at h2
              obtain ⟨r, g1, rfl⟩ := h2
              refine .inr ⟨r, off, sz', len, cap, rfl, ?_⟩
              simp only [seenV] at hseen
              split at hseen
              · rename_i l own hg
                obtain ⟨_, r', g2, g3, _⟩ := h.objs i _ hg
                rw [g1] at g2; obtain rfl := Option.some.inj g2
                exact h.win _ g3
              · cases hseen
          | _ => cases hh
        rcases hx with ⟨s, c, rfl⟩ | ⟨r, o, sz', len, c, rfl, hr⟩
        · have h0 : rows = [] := by
            simp only [lenA, Option.some.injEq] at k1
            exact List.length_eq_zero_iff.1 k1.symm
          subst h0
          obtain ⟨rfl, rfl⟩ := Prod.mk.inj (Option.some.inj hp)
          refine ⟨.sl none sz 0 none, H, φ, G, W, ?_, h.only (by simp [VRel]), Frm.refl _ _ _ _⟩
          simp -implicitDefEqProofs [afunL, cloneHA, cloneHC, frOf, eqA, finA, resA, tupOf]
        · have k5 : sliceCells (H.push (.cells [] false)) sz rows.length (.sl (some (r, o)) sz' len c) = some cs := by
            have e : (H.push (.cells [] false)).get r = H.get r := by rw [Val.push_get', if_neg (by omega)]
            unfold sliceCells at k2 ⊢
            dsimp only at k2 ⊢
            rw [e]; exact k2
          simp only [lenA, Option.some.injEq] at k1
          by_cases h0 : rows = []
          · subst h0
            obtain ⟨rfl, rfl⟩ := Prod.mk.inj (Option.some.inj hp)
            have hcs : cs = [] := by simpa using k3
            subst hcs
            obtain rfl : len = 0 := k1
            refine ⟨.sl (some (H.next, 0)) sz 0 (some 0), H.push (.cells [] false), φ, _, _, ?_, h4.only (v := .lst sz []) (by simp only [VRel]; exact .inr ⟨H.next, 0, some 0, [], rfl, by simp [Fz.put], by simp, by simp [RowsRel]⟩), f4⟩
            simp only [List.length_nil] at k5
            simp -implicitDefEqProofs [afunL, cloneHA, cloneHC, frOf, eqA, finA, resA, tupOf, appendX, appendA, lenA, k5, hs, hb]
          · rw [if_neg h0] at hp
            obtain ⟨rfl, rfl⟩ := Prod.mk.inj (Option.some.inj hp)
            obtain rfl : len = rows.length := k1
            have h0' : ¬ rows.length = 0 := fun e => h0 (List.length_eq_zero_iff.1 e)
            obtain ⟨q1, q2⟩ := h4.block (o := .cells rows.flatten []) (bo := .cells cs false) (fun φ' hφ => ⟨rfl, cs, rfl, hk4.mono hφ hle⟩)
            refine ⟨.sl (some (H.next + 1, 0)) sz rows.length none, (H.push (.cells [] false)).push (.cells cs false), _, _, _, ?_, q1.only (v := .sl (some (S.next, 0)) sz rows.length none) (by simp only [VRel]; exact ⟨H.next + 1, by simp [Bk.put, AH.push], rfl⟩), f4.trans q2⟩
            simp -implicitDefEqProofs [afunL, cloneHA, cloneHC, frOf, eqA, finA, resA, tupOf, appendX, appendA, lenA, k5, hs, hb, hc.1, h0']
    · cases hp
  · cases hp
end Go.Proofs.YtbpgbhmibmcbnaaGreatDoor.Val

/-! The functions in the machine of RamA. By program (gen2.py). -/
namespace Go.Proofs.YtbpgbhmibmcbnaaGreatDoor.Ram
open Go

def F_patoislaw9_RunFors : Nat := 3
def F_patoislaw9_RunWhiles : Nat := 4
def F_patoislaw9_RunHears : Nat := 5
def F_patoislaw9_RunDeep : Nat := 6
def F_patoislaw9_RunBig : Nat := 7
def F_patoislaw9_first : Nat := 8
def F_core_Lit : Nat := 9
def F_core_New : Nat := 10
def F_patoislaw9_call : Nat := 11
def F_patoislaw9_plain : Nat := 12
def F_run_Defaults : Nat := 13
def F_patoisref_SameTexts : Nat := 14
def F_core_Seq : Nat := 15
def F_patoisref4_Erase : Nat := 16
def F_lists_Trim : Nat := 17
def F_run_Run : Nat := 18
def F_slices_Clone_api_Node_api_Node : Nat := 19
def F_strings_TrimRight : Nat := 20
def F_core_Check : Nat := 21
def F_run_begin : Nat := 22
def F_run_runner_do : Nat := 23
def F_world_asked_Trace : Nat := 24
def F_store_values_Vars : Nat := 25
def F_world_Kernel_Files : Nat := 26
def F_errors_As : Nat := 27
def F_strings_trimRightByte : Nat := 28
def F_strings_makeASCIISet : Nat := 29
def F_strings_trimRightASCII : Nat := 30
def F_strings_trimRightUnicode : Nat := 31
def F_core_look : Nat := 32
def F_world_New : Nat := 33
def F_run_Options_may : Nat := 34
def F_store_New : Nat := 35
def F_store_values_SetArgs : Nat := 36
def F_run_kids : Nat := 37
def F_run_runner_seq : Nat := 38
def F_run_runner_choice : Nat := 39
def F_run_not : Nat := 40
def F_run_runner_each : Nat := 41
def F_run_runner_while : Nat := 42
def F_run_runner_step : Nat := 43
def F_run_runner_together : Nat := 44
def F_lists_Cat : Nat := 45
def F_run_runner_call : Nat := 46
def F_store_functions_SetFun : Nat := 47
def F_run_runner_choose : Nat := 48
def F_run_runner_pipe : Nat := 49
def F_run_runner_redir : Nat := 50
def F_run_runner_framed : Nat := 51
def F_run_runner_valued : Nat := 52
def F_world_copied : Nat := 53
def F_slices_Sorted_string : Nat := 54
def F_maps_Keys_map_string_string_string_string : Nat := 55
def F_slices_Clone_string_string : Nat := 56
def F_slices_Clone_api_File_api_File : Nat := 57
def F_strings_asciiSet_contains : Nat := 62
def F_unicode_utf8_DecodeLastRuneInString : Nat := 63
def F_strings_ContainsRune : Nat := 64
def F_core_Word : Nat := 65
def F_core_Command : Nat := 66
def F_core_fields : Nat := 67
def F_core_children : Nat := 68
def F_core_at : Nat := 69
def F_core_takes : Nat := 70
def F_world_May : Nat := 71
def F_slices_SortFunc_api_File_api_File : Nat := 72
def F_world_byName : Nat := 73
def F_lists_Fits : Nat := 74
def F_text_Name : Nat := 75
def F_store_values_Set : Nat := 76
def F_run_runner_word : Nat := 77
def F_lists_bound : Nat := 78
def F_store_functions_Fun : Nat := 79
def F_run_runner_frame : Nat := 80
def F_builtin_Do : Nat := 81
def F_run_runner_exec : Nat := 82
def F_run_runner_say : Nat := 83
def F_run_runner_flat : Nat := 84
def F_run_runner_matches : Nat := 85
def F_world_asked_Mark : Nat := 86
def F_run_runner_pipe_1 : Nat := 87
def F_run_runner_catch : Nat := 88
def F_world_Kernel_Open : Nat := 89
def F_run_runner_hear : Nat := 90
def F_run_few : Nat := 91
def F_run_runner_eval : Nat := 92
def F_store_values_Swap : Nat := 93
def F_slices_Sort_string_string : Nat := 95
def F_maps_Keys_map_string_string_string_string_1 : Nat := 96
def F_unicode_utf8_RuneStart : Nat := 100
def F_unicode_utf8_DecodeRuneInString : Nat := 101
def F_strings_IndexRune : Nat := 102
def F_pattern_Closed : Nat := 103
def F_core_named : Nat := 104
def F_slices_ContainsFunc_string_string : Nat := 105
def F_world_May_1 : Nat := 106
def F_slices_pdqsortCmpFunc_api_File : Nat := 107
def F_math_bits_Len : Nat := 108
def F_strings_Compare : Nat := 109
def F_lists_Fits_1 : Nat := 110
def F_text_begins : Nat := 111
def F_text_goesOn : Nat := 112
def F_store_values_Get : Nat := 113
def F_lists_Join : Nat := 114
def F_run_runner_sub : Nat := 115
def F_lists_Split : Nat := 116
def F_lists_Glob : Nat := 117
def F_world_Kernel_Names : Nat := 118
def F_lists_Plain : Nat := 119
def F_lists_Esc : Nat := 120
def F_lists_Flat : Nat := 121
def F_lists_Count : Nat := 122
def F_lists_Pick : Nat := 123
def F_run_runner_deeper : Nat := 124
def F_run_runner_frame_1 : Nat := 125
def F_builtin_commands : Nat := 126
def F_world_Kernel_Exec : Nat := 127
def F_world_Kernel_Reads : Nat := 128
def F_world_Kernel_Write : Nat := 129
def F_pattern_Any : Nat := 130
def F_world_asked_note : Nat := 131
def F_world_Kernel_file : Nat := 132
def F_world_Kernel_made : Nat := 133
def F_run_runner_eval_1 : Nat := 134
def F_store_values_Unset : Nat := 135
def F_slices_pdqsortOrdered_string : Nat := 137
def F_unicode_utf8_decodeRuneInStringSlow : Nat := 138
def F_strings_IndexByte : Nat := 139
def F_unicode_utf8_ValidRune : Nat := 140
def F_internal_bytealg_Cutover : Nat := 141
def F_internal_bytealg_IndexString : Nat := 142
def F_pattern_pieces : Nat := 143
def F_slices_Contains_int_int : Nat := 144
def F_slices_IndexFunc_string_string : Nat := 145
def F_slices_insertionSortCmpFunc_api_File : Nat := 146
def F_slices_heapSortCmpFunc_api_File : Nat := 147
def F_slices_breakPatternsCmpFunc_api_File : Nat := 148
def F_slices_choosePivotCmpFunc_api_File : Nat := 149
def F_slices_reverseRangeCmpFunc_api_File : Nat := 150
def F_slices_partialInsertionSortCmpFunc_api_File : Nat := 151
def F_slices_partitionEqualCmpFunc_api_File : Nat := 152
def F_slices_partitionCmpFunc_api_File : Nat := 153
def F_math_bits_Len32 : Nat := 154
def F_math_bits_Len64 : Nat := 155
def F_internal_bytealg_CompareString : Nat := 156
def F_store_values_Args : Nat := 157
def F_lists_some : Nat := 158
def F_lists_two : Nat := 159
def F_run_runner_sub_1 : Nat := 160
def F_run_runner_sub_1_1 : Nat := 161
def F_lists_each : Nat := 162
def F_pattern_Split : Nat := 163
def F_lists_Glob_1 : Nat := 164
def F_pattern_Live : Nat := 165
def F_pattern_Files : Nat := 166
def F_pattern_Plain : Nat := 167
def F_lists_one : Nat := 168
def F_pattern_Escape : Nat := 169
def F_strings_Join : Nat := 170
def F_text_Number : Nat := 171
def F_builtin_add : Nat := 172
def F_builtin_cat : Nat := 173
def F_builtin_echo : Nat := 174
def F_builtin_eq : Nat := 175
def F_builtin_exit : Nat := 176
def F_builtin_no : Nat := 177
def F_builtin_less : Nat := 178
def F_builtin_like : Nat := 179
def F_builtin_put : Nat := 180
def F_builtin_read : Nat := 181
def F_builtin_yes : Nat := 182
def F_world_Kernel_row : Nat := 183
def F_pattern_Any_1 : Nat := 184
def F_pattern_Match : Nat := 185
def F_slices_BinarySearchFunc_api_File_api_File_api_File : Nat := 186
def F_slices_Insert_api_File_api_File : Nat := 187
def F_slices_insertionSortOrdered_string : Nat := 188
def F_slices_heapSortOrdered_string : Nat := 189
def F_slices_breakPatternsOrdered_string : Nat := 190
def F_slices_choosePivotOrdered_string : Nat := 191
def F_slices_reverseRangeOrdered_string : Nat := 192
def F_slices_partialInsertionSortOrdered_string : Nat := 193
def F_cmp_Less_string : Nat := 194
def F_slices_partitionEqualOrdered_string : Nat := 195
def F_slices_partitionOrdered_string : Nat := 196
def F_internal_stringslite_IndexByte : Nat := 197
def F_slices_Index_int_int : Nat := 198
def F_slices_nextPowerOfTwo : Nat := 200
def F_slices_xorshift_Next : Nat := 201
def F_pattern_piece_blank : Nat := 205
def F_pattern_piece_is : Nat := 206
def F_pattern_end : Nat := 207
def F_strings_HasPrefix : Nat := 208
def F_slices_Compact_string_string : Nat := 209
def F_strings_Builder_WriteByte : Nat := 210
def F_strings_Builder_String : Nat := 211
def F_lists_one_1 : Nat := 212
def F_text_Blank : Nat := 213
def F_strings_Builder_Grow : Nat := 214
def F_strings_Builder_WriteString : Nat := 215
def F_strconv_Itoa : Nat := 216
def F_builtin_numbers : Nat := 217
def F_builtin_Outcome_test : Nat := 218
def F_text_Parse : Nat := 219
def F_strings_Cut : Nat := 220
def F_slices_Equal_string_string : Nat := 221
def F_pattern_in : Nat := 222
def F_slices_siftDownOrdered_string : Nat := 225
def F_slices_medianAdjacentOrdered_string : Nat := 226
def F_slices_medianOrdered_string : Nat := 227
def F_cmp_isNaN_string : Nat := 228
def F_internal_bytealg_IndexByteString : Nat := 229
def F_internal_stringslite_HasPrefix : Nat := 231
def F_strings_Builder_copyCheck : Nat := 232
def F_internal_strconv_Itoa : Nat := 234
def F_internal_stringslite_Cut : Nat := 235
def F_pattern_among : Nat := 236
def F_slices_order2Ordered_string : Nat := 238
def F_internal_strconv_FormatInt : Nat := 241
def F_internal_stringslite_Index : Nat := 242
def F_internal_strconv_small : Nat := 244
def F_internal_strconv_numDigits : Nat := 245
def F_internal_strconv_formatBits : Nat := 247
def F_internal_bytealg_IndexRabinKarp_string : Nat := 248
def F_internal_strconv_log10Pow2 : Nat := 249
def F_internal_strconv_isPowerOfTwo : Nat := 251
def F_math_bits_TrailingZeros : Nat := 252
def F_internal_bytealg_hashStr_string : Nat := 253
def F_math_bits_TrailingZeros32 : Nat := 254
def F_math_bits_TrailingZeros64 : Nat := 255
def Ty_string : Nat := 9
def Ty_prun_end : Nat := 95
def Ty_pprun_end : Nat := 97
def Ty_papi_At : Nat := 198
def Ty_perrors_errorString : Nat := 317
def G_api_ErrDeep : Nat := 0
def G_api_ErrBig : Nat := 1
def G_api_ErrFuel : Nat := 2
def G_api_ErrMany : Nat := 3
def G_errors_errorType : Nat := 4
def G_api_ErrNode : Nat := 5
def G_api_ErrNest : Nat := 6
def G_api_ErrNumber : Nat := 7
def G_api_ErrName : Nat := 8
def G_api_ErrLong : Nat := 9
def G_internal_bytealg_MaxLen : Nat := 12
/- patois/patoislaw9.RunWhiles -/
def c_patoislaw9_RunWhiles_l0 : ACode :=
 .keep [0, 4, 5, 6] (.seq (.seq (.reg [.o 33 (.mov (.t 6)),
 .o 34 (.mov (.t 0)),
 .o 35 (.mov (.t 5)),
 .o 36 (.indexA 1 (.t 34) (.t 35)),
 .o 37 (.load 1 false (.t 36)),
 .o 38 (.len true (.t 37)),
 .o 39 (.bin .lss (.t 33) (.t 38))])
 (.keep [0, 4, 5, 6, 39] (.cond (.t 39)
 (.skip)
 (.exit 2))))
 (.keep [0, 4, 5, 6] (.seq (.block 3 (.seq (.reg [.o 42 (.mov (.t 0)),
 .o 43 (.mov (.t 5)),
 .o 44 (.indexA 1 (.t 42) (.t 43)),
 .o 45 (.load 1 false (.t 44)),
 .o 46 (.mov (.t 6)),
 .o 47 (.index (.t 45) (.t 46)),
 .o 48 (.bin .eql (.t 47) (.c (.int .u8 10)))])
 (.keep [0, 4, 5, 6, 48] (.cond (.t 48)
 (.seq (.reg [.o 2 (.mov (.c (.bool true)))])
 (.ret))
 (.skip)))))
 (.keep [0, 4, 5, 6] (.reg [.o 40 (.mov (.t 6)),
 .o 41 (.bin .add (.t 40) (.c (.int .i64 1))),
 .o 6 (.mov (.t 41))])))))
def c_patoislaw9_RunWhiles_l1 : ACode :=
 .keep [0, 4, 5] (.seq (.seq (.reg [.o 21 (.mov (.t 5)),
 .o 22 (.mov (.t 0)),
 .o 23 (.len false (.t 22)),
 .o 24 (.bin .lss (.t 21) (.t 23))])
 (.keep [0, 4, 5, 24] (.cond (.t 24)
 (.skip)
 (.exit 0))))
 (.keep [0, 4, 5] (.seq (.block 1 (.seq (.seq (.reg [.o 27 (.mov (.t 0)),
 .o 28 (.mov (.t 5)),
 .o 29 (.indexA 1 (.t 27) (.t 28)),
 .o 30 (.load 1 false (.t 29)),
 .o 31 (.len true (.t 30)),
 .o 32 (.bin .gtr (.t 31) (.c (.int .i64 30)))])
 (.keep [0, 4, 5, 32] (.cond (.t 32)
 (.seq (.reg [.o 2 (.mov (.c (.bool true)))])
 (.ret))
 (.skip))))
 (.keep [0, 4, 5] (.seq (.seq (.reg [.o 6 (.mov (.c (.int .i64 0)))])
 (.keep [0, 4, 5, 6] (.block 2 (.loop c_patoislaw9_RunWhiles_l0))))
 (.keep [0, 4, 5] (.reg [.o 49 (.mov (.t 4)),
 .o 50 (.mov (.t 0)),
 .o 51 (.mov (.t 5)),
 .o 52 (.indexA 1 (.t 50) (.t 51)),
 .o 53 (.load 1 false (.t 52)),
 .o 54 (.bin .add (.t 49) (.t 53)),
 .o 55 (.bin .add (.t 54) (.c (.str [10]))),
 .o 4 (.mov (.t 55))]))))))
 (.keep [0, 4, 5] (.reg [.o 25 (.mov (.t 5)),
 .o 26 (.bin .add (.t 25) (.c (.int .i64 1))),
 .o 5 (.mov (.t 26))])))))
def c_patoislaw9_RunWhiles_l2 : ACode :=
 .keep [0, 9, 11] (.seq (.seq (.reg [.o 84 (.mov (.t 11)),
 .o 85 (.mov (.t 0)),
 .o 86 (.len false (.t 85)),
 .o 87 (.bin .lss (.t 84) (.t 86))])
 (.keep [0, 9, 11, 87] (.cond (.t 87)
 (.skip)
 (.exit 4))))
 (.keep [0, 9, 11] (.seq (.block 5 (.seq (.dreg [⟨0, .o 90 (.fieldA 2 (.t 9)), [], []⟩,
 ⟨1, .o 91 (.load 1 false (.t 90)), [0], []⟩,
 ⟨2, .o 92 (.mov (.t 11)), [], []⟩,
 ⟨3, .o 93 (.indexA 5 (.t 91) (.t 92)), [0, 1, 2], []⟩,
 ⟨4, .o 94 (.fieldA 4 (.t 93)), [0, 1, 2, 3], []⟩,
 ⟨5, .o 95 (.load 1 false (.t 94)), [0, 1, 2, 3, 4], []⟩,
 ⟨6, .o 96 (.mov (.t 0)), [], []⟩,
 ⟨7, .o 97 (.mov (.t 11)), [], []⟩,
 ⟨8, .o 98 (.indexA 1 (.t 96) (.t 97)), [6, 7], []⟩,
 ⟨9, .o 99 (.load 1 false (.t 98)), [6, 7, 8], []⟩,
 ⟨10, .o 100 (.bslice false 1 1 [.str []] [(0, 1, (.t 99))]), [6, 7, 8, 9], []⟩,
 ⟨11, .o 101 (.callF F_patoisref_SameTexts [(.t 95), (.t 100)]), [0, 1, 2, 3, 4, 5, 6, 7, 8, 9, 10], []⟩,
 ⟨12, .o 102 (.not (.t 101)), [0, 1, 2, 3, 4, 5, 6, 7, 8, 9, 10, 11], []⟩])
 (.keep [0, 9, 11, 102] (.cond (.t 102)
 (.seq (.reg [.o 2 (.mov (.c (.bool false)))])
 (.ret))
 (.skip)))))
 (.keep [0, 9, 11] (.reg [.o 88 (.mov (.t 11)),
 .o 89 (.bin .add (.t 88) (.c (.int .i64 1))),
 .o 11 (.mov (.t 89))])))))
def c_patoislaw9_RunWhiles : ACode :=
 .seq (.reg [.o 2 (.mov (.c (.bool false)))])
 (.keep [0] (.seq (.reg [.o 12 (.callF F_patoislaw9_first []),
 .o 3 (.mov (.t 12))])
 (.keep [0, 3] (.seq (.seq (.reg [.o 13 (.mov (.t 0)),
 .o 14 (.len false (.t 13)),
 .o 15 (.bin .gtr (.t 14) (.c (.int .i64 30))),
 .o 16 (.mov (.t 15)),
 .g (some 17) 16 false (.mov (.t 3)),
 .g (some 18) 16 false (.not (.t 17)),
 .o 19 (.pick (.t 16) (.c (.bool true)) (.t 18))])
 (.keep [0, 3, 19] (.cond (.t 19)
 (.seq (.reg [.o 20 (.mov (.t 3)),
 .o 2 (.mov (.t 20))])
 (.ret))
 (.skip))))
 (.keep [0] (.seq (.reg [.o 4 (.mov (.c (.str [])))])
 (.keep [0, 4] (.seq (.seq (.reg [.o 5 (.mov (.c (.int .i64 0)))])
 (.keep [0, 4, 5] (.block 0 (.loop c_patoislaw9_RunWhiles_l1))))
 (.keep [0, 4] (.seq (.reg [.o 56 (.callF F_run_Defaults []),
 .o 7 (.alloc [.nilFn, .int .i64 0, .int .i64 0, .sl none 2 0 (some 0), .sl none 1 0 (some 0), .str []]),
 .n (.store 6 (.t 7) (.t 56))])
 (.keep [0, 4, 7] (.seq (.reg [.o 57 (.mov (.t 4)),
 .o 58 (.fieldA 5 (.t 7)),
 .n (.store 1 (.t 58) (.t 57))])
 (.keep [0, 7] (.seq (.reg [.o 59 (.bslice false 1 2 [.str [], .str []] [(0, 1, (.c (.str [114, 101, 97, 100]))), (1, 1, (.c (.str [118])))]),
 .o 60 (.callF F_patoislaw9_call [(.t 59)]),
 .o 61 (.callF F_core_Lit [(.c (.str [110, 111]))]),
 .o 62 (.callF F_core_New [(.c (.int .i64 2)), (.c (.int .i64 0)), (.c (.str [118])), (.c (.sl none 1 0 (some 0)))]),
 .o 63 (.bslice false 1 2 [.sl none 5 0 (some 0), .sl none 5 0 (some 0)] [(0, 1, (.t 61)), (1, 1, (.t 62))]),
 .o 64 (.callF F_core_New [(.c (.int .i64 21)), (.c (.int .i64 0)), (.c (.str [])), (.t 63)]),
 .o 65 (.bslice false 1 2 [.sl none 5 0 (some 0), .sl none 5 0 (some 0)] [(0, 1, (.t 60)), (1, 1, (.t 64))]),
 .o 66 (.callF F_core_New [(.c (.int .i64 28)), (.c (.int .i64 0)), (.c (.str [])), (.t 65)]),
 .o 8 (.mov (.t 66))])
 (.keep [0, 7, 8] (.seq (.reg [.o 68 (.mov (.t 8)),
 .o 69 (.build [.sl none 2 0 (some 0), .sl none 7 0 (some 0)] []),
 .o 70 (.load 6 true (.t 7)),
 .o 71 (.callF F_patoislaw9_plain [(.t 68), (.t 69), (.t 70)]),
 .o 67 (.mov (.t 71)),
 .o 72 (.extract (.t 67) 0),
 .o 73 (.extract (.t 67) 1),
 .o 9 (.alloc [.int .i64 0, .nilI, .sl none 5 0 (some 0), .sl none 2 0 (some 0), .sl none 2 0 (some 0), .int .i64 0]),
 .n (.store 6 (.t 9) (.t 72)),
 .o 10 (.mov (.t 73))])
 (.keep [0, 9, 10] (.seq (.seq (.reg [.o 74 (.mov (.t 10)),
 .o 75 (.not (.t 74)),
 .o 76 (.mov (.t 75)),
 .g (some 77) 76 false (.fieldA 2 (.t 9)),
 .g (some 78) 76 false (.load 1 false (.t 77)),
 .g (some 79) 76 false (.len false (.t 78)),
 .g (some 80) 76 false (.mov (.t 0)),
 .g (some 81) 76 false (.len false (.t 80)),
 .g (some 82) 76 false (.bin .neq (.t 79) (.t 81)),
 .o 83 (.pick (.t 76) (.c (.bool true)) (.t 82))])
 (.keep [0, 9, 83] (.cond (.t 83)
 (.seq (.reg [.o 2 (.mov (.c (.bool false)))])
 (.ret))
 (.skip))))
 (.keep [0, 9] (.seq (.seq (.reg [.o 11 (.mov (.c (.int .i64 0)))])
 (.keep [0, 9, 11] (.block 4 (.loop c_patoislaw9_RunWhiles_l2))))
 (.keep [0, 9] (.seq (.reg [.o 103 (.fieldA 5 (.t 9)),
 .o 104 (.load 1 false (.t 103)),
 .o 105 (.mov (.t 0)),
 .o 106 (.len false (.t 105)),
 .o 107 (.bin .mul (.c (.int .i64 3)) (.t 106)),
 .o 108 (.bin .add (.t 107) (.c (.int .i64 2))),
 .o 109 (.bin .eql (.t 104) (.t 108)),
 .o 110 (.mov (.t 109)),
 .g (some 111) 110 true (.mov (.t 0)),
 .g (some 112) 110 true (.len false (.t 111)),
 .g (some 113) 110 true (.bin .eql (.t 112) (.c (.int .i64 0))),
 .g (some 114) 110 true (.fieldA 0 (.t 9)),
 .g (some 115) 110 true (.load 1 false (.t 114)),
 .g (some 116) 110 true (.bin .eql (.t 115) (.c (.int .i64 0))),
 .g (some 117) 110 true (.eq false .bool (.t 113) (.t 116)),
 .o 118 (.pick (.t 110) (.t 117) (.c (.bool false))),
 .o 2 (.mov (.t 118))])
 (.ret)))))))))))))))))))))))
def a_patoislaw9_RunWhiles : AFun := ⟨1, c_patoislaw9_RunWhiles, [.tmp 2]⟩

/- patois/patoislaw9.first -/
def c_patoislaw9_first : ACode :=
 .seq (.reg [.o 0 (.mov (.c (.bool false)))])
 (.keep [] (.seq (.reg [.o 10 (.callF F_run_Defaults []),
 .o 1 (.alloc [.nilFn, .int .i64 0, .int .i64 0, .sl none 2 0 (some 0), .sl none 1 0 (some 0), .str []]),
 .n (.store 6 (.t 1) (.t 10))])
 (.keep [1] (.seq (.dreg [⟨0, .o 12 (.bslice false 1 2 [.str [], .str []] [(0, 1, (.c (.str [101, 99, 104, 111]))), (1, 1, (.c (.str [97])))]), [], []⟩,
 ⟨2, .o 14 (.build [.sl none 2 0 (some 0), .sl none 7 0 (some 0)] []), [], []⟩,
 ⟨3, .o 15 (.load 6 true (.t 1)), [], []⟩,
 ⟨8, .o 2 (.alloc [.int .i64 0, .nilI, .sl none 5 0 (some 0), .sl none 2 0 (some 0), .sl none 2 0 (some 0), .int .i64 0]), [], []⟩,
 ⟨1, .o 13 (.callF F_patoislaw9_call [(.t 12)]), [0], [3]⟩,
 ⟨4, .o 16 (.callF F_run_Run [(.t 13), (.t 14), (.t 15)]), [0, 1, 2, 3], []⟩,
 ⟨5, .o 11 (.mov (.t 16)), [0, 1, 2, 3, 4], []⟩,
 ⟨6, .o 17 (.extract (.t 11) 0), [0, 1, 2, 3, 4, 5], []⟩,
 ⟨7, .o 18 (.extract (.t 11) 1), [0, 1, 2, 3, 4, 5], []⟩,
 ⟨9, .n (.store 6 (.t 2) (.t 17)), [0, 1, 2, 3, 4, 5, 6, 8], []⟩,
 ⟨10, .o 3 (.mov (.t 18)), [0, 1, 2, 3, 4, 5, 6, 7, 8, 9], []⟩])
 (.keep [1, 2, 3] (.seq (.dreg [⟨0, .o 20 (.bslice false 1 2 [.str [], .str []] [(0, 1, (.c (.str [101, 99, 104, 111]))), (1, 1, (.c (.str [97])))]), [], []⟩,
 ⟨2, .o 22 (.bslice false 1 1 [.str []] [(0, 1, (.c (.str [99, 97, 116])))]), [], []⟩,
 ⟨6, .o 26 (.build [.sl none 2 0 (some 0), .sl none 7 0 (some 0)] []), [], []⟩,
 ⟨7, .o 27 (.load 6 true (.t 1)), [], []⟩,
 ⟨12, .o 4 (.alloc [.int .i64 0, .nilI, .sl none 5 0 (some 0), .sl none 2 0 (some 0), .sl none 2 0 (some 0), .int .i64 0]), [], []⟩,
 ⟨1, .o 21 (.callF F_patoislaw9_call [(.t 20)]), [0], [7]⟩,
 ⟨3, .o 23 (.callF F_patoislaw9_call [(.t 22)]), [0, 1, 2], [7]⟩,
 ⟨4, .o 24 (.bslice false 1 2 [.sl none 5 0 (some 0), .sl none 5 0 (some 0)] [(0, 1, (.t 21)), (1, 1, (.t 23))]), [0, 1, 2, 3], []⟩,
 ⟨5, .o 25 (.callF F_core_New [(.c (.int .i64 32)), (.c (.int .i64 0)), (.c (.str [])), (.t 24)]), [0, 1, 2, 3, 4], [7]⟩,
 ⟨8, .o 28 (.callF F_run_Run [(.t 25), (.t 26), (.t 27)]), [0, 1, 2, 3, 4, 5, 6, 7], []⟩,
 ⟨9, .o 19 (.mov (.t 28)), [0, 1, 2, 3, 4, 5, 6, 7, 8], []⟩,
 ⟨10, .o 29 (.extract (.t 19) 0), [0, 1, 2, 3, 4, 5, 6, 7, 8, 9], []⟩,
 ⟨11, .o 30 (.extract (.t 19) 1), [0, 1, 2, 3, 4, 5, 6, 7, 8, 9], []⟩,
 ⟨13, .n (.store 6 (.t 4) (.t 29)), [0, 1, 2, 3, 4, 5, 6, 7, 8, 9, 10, 12], []⟩,
 ⟨14, .o 5 (.mov (.t 30)), [0, 1, 2, 3, 4, 5, 6, 7, 8, 9, 10, 11, 12, 13], []⟩])
 (.keep [1, 2, 3, 4, 5] (.seq (.dreg [⟨0, .o 32 (.bslice false 1 1 [.str []] [(0, 1, (.c (.str [116, 114, 117, 101])))]), [], []⟩,
 ⟨5, .o 37 (.build [.sl none 2 0 (some 0), .sl none 7 0 (some 0)] []), [], []⟩,
 ⟨6, .o 38 (.load 6 true (.t 1)), [], []⟩,
 ⟨11, .o 6 (.alloc [.int .i64 0, .nilI, .sl none 5 0 (some 0), .sl none 2 0 (some 0), .sl none 2 0 (some 0), .int .i64 0]), [], []⟩,
 ⟨1, .o 33 (.callF F_patoislaw9_call [(.t 32)]), [0], [6]⟩,
 ⟨2, .o 34 (.callF F_core_New [(.c (.int .i64 20)), (.c (.int .i64 0)), (.c (.str [])), (.c (.sl none 1 0 (some 0)))]), [0, 1], [6]⟩,
 ⟨3, .o 35 (.bslice false 1 2 [.sl none 5 0 (some 0), .sl none 5 0 (some 0)] [(0, 1, (.t 33)), (1, 1, (.t 34))]), [0, 1, 2], []⟩,
 ⟨4, .o 36 (.callF F_core_New [(.c (.int .i64 28)), (.c (.int .i64 0)), (.c (.str [])), (.t 35)]), [0, 1, 2, 3], [6]⟩,
 ⟨7, .o 39 (.callF F_run_Run [(.t 36), (.t 37), (.t 38)]), [0, 1, 2, 3, 4, 5, 6], []⟩,
 ⟨8, .o 31 (.mov (.t 39)), [0, 1, 2, 3, 4, 5, 6, 7], []⟩,
 ⟨9, .o 40 (.extract (.t 31) 0), [0, 1, 2, 3, 4, 5, 6, 7, 8], []⟩,
 ⟨10, .o 41 (.extract (.t 31) 1), [0, 1, 2, 3, 4, 5, 6, 7, 8], []⟩,
 ⟨12, .n (.store 6 (.t 6) (.t 40)), [0, 1, 2, 3, 4, 5, 6, 7, 8, 9, 11], []⟩,
 ⟨13, .o 7 (.mov (.t 41)), [0, 1, 2, 3, 4, 5, 6, 7, 8, 9, 10, 11, 12], []⟩])
 (.keep [1, 2, 3, 4, 5, 6, 7] (.seq (.dreg [⟨0, .o 43 (.bslice false 1 1 [.str []] [(0, 1, (.c (.str [102])))]), [], []⟩,
 ⟨4, .o 47 (.bslice false 1 1 [.str []] [(0, 1, (.c (.str [102])))]), [], []⟩,
 ⟨8, .o 51 (.build [.sl none 2 0 (some 0), .sl none 7 0 (some 0)] []), [], []⟩,
 ⟨9, .o 52 (.load 6 true (.t 1)), [], []⟩,
 ⟨14, .o 8 (.alloc [.int .i64 0, .nilI, .sl none 5 0 (some 0), .sl none 2 0 (some 0), .sl none 2 0 (some 0), .int .i64 0]), [], []⟩,
 ⟨1, .o 44 (.callF F_patoislaw9_call [(.t 43)]), [0], [9]⟩,
 ⟨2, .o 45 (.bslice false 1 1 [.sl none 5 0 (some 0)] [(0, 1, (.t 44))]), [0, 1], []⟩,
 ⟨3, .o 46 (.callF F_core_New [(.c (.int .i64 31)), (.c (.int .i64 0)), (.c (.str [102])), (.t 45)]), [0, 1, 2], [9]⟩,
 ⟨5, .o 48 (.callF F_patoislaw9_call [(.t 47)]), [0, 1, 2, 3, 4], [9]⟩,
 ⟨6, .o 49 (.bslice false 1 2 [.sl none 5 0 (some 0), .sl none 5 0 (some 0)] [(0, 1, (.t 46)), (1, 1, (.t 48))]), [0, 1, 2, 3, 4, 5], []⟩,
 ⟨7, .o 50 (.callF F_core_New [(.c (.int .i64 23)), (.c (.int .i64 0)), (.c (.str [])), (.t 49)]), [0, 1, 2, 3, 4, 5, 6], [9]⟩,
 ⟨10, .o 53 (.callF F_run_Run [(.t 50), (.t 51), (.t 52)]), [0, 1, 2, 3, 4, 5, 6, 7, 8, 9], []⟩,
 ⟨11, .o 42 (.mov (.t 53)), [0, 1, 2, 3, 4, 5, 6, 7, 8, 9, 10], []⟩,
 ⟨12, .o 54 (.extract (.t 42) 0), [0, 1, 2, 3, 4, 5, 6, 7, 8, 9, 10, 11], []⟩,
 ⟨13, .o 55 (.extract (.t 42) 1), [0, 1, 2, 3, 4, 5, 6, 7, 8, 9, 10, 11], []⟩,
 ⟨15, .n (.store 6 (.t 8) (.t 54)), [0, 1, 2, 3, 4, 5, 6, 7, 8, 9, 10, 11, 12, 14], []⟩,
 ⟨16, .o 9 (.mov (.t 55)), [0, 1, 2, 3, 4, 5, 6, 7, 8, 9, 10, 11, 12, 13, 14, 15], []⟩])
 (.keep [1, 2, 3, 4, 5, 6, 7, 8, 9] (.seq (.reg [.o 56 (.mov (.t 3)),
 .o 57 (.eq false .ifc (.t 56) (.c (.nilI))),
 .o 58 (.mov (.t 57)),
 .g (some 59) 58 true (.mov (.t 5)),
 .g (some 60) 58 true (.eq false .ifc (.t 59) (.c (.nilI))),
 .o 61 (.pick (.t 58) (.t 60) (.c (.bool false))),
 .o 62 (.mov (.t 61)),
 .g (some 63) 62 true (.mov (.t 7)),
 .g (some 64) 62 true (.eq false .ifc (.t 63) (.c (.nilI))),
 .o 65 (.pick (.t 62) (.t 64) (.c (.bool false))),
 .o 66 (.mov (.t 65)),
 .g (some 67) 66 true (.mov (.t 9)),
 .g (some 68) 66 true (.eq false .ifc (.t 67) (.c (.nilI))),
 .o 69 (.pick (.t 66) (.t 68) (.c (.bool false))),
 .o 70 (.mov (.t 69)),
 .g (some 71) 70 true (.fieldA 5 (.t 2)),
 .g (some 72) 70 true (.load 1 false (.t 71)),
 .g (some 73) 70 true (.bin .eql (.t 72) (.c (.int .i64 1))),
 .o 74 (.pick (.t 70) (.t 73) (.c (.bool false))),
 .o 75 (.mov (.t 74)),
 .g (some 76) 75 true (.fieldA 2 (.t 2)),
 .g (some 77) 75 true (.load 1 false (.t 76)),
 .g (some 78) 75 true (.len false (.t 77)),
 .g (some 79) 75 true (.bin .eql (.t 78) (.c (.int .i64 1))),
 .o 80 (.pick (.t 75) (.t 79) (.c (.bool false))),
 .o 81 (.mov (.t 80)),
 .g (some 82) 81 true (.fieldA 2 (.t 2)),
 .g (some 83) 81 true (.load 1 false (.t 82)),
 .g (some 84) 81 true (.indexA 5 (.t 83) (.c (.int .i64 0))),
 .g (some 85) 81 true (.fieldA 3 (.t 84)),
 .g (some 86) 81 true (.load 1 false (.t 85)),
 .g (some 87) 81 true (.bin .eql (.t 86) (.c (.str [97, 10]))),
 .o 88 (.pick (.t 81) (.t 87) (.c (.bool false))),
 .o 89 (.mov (.t 88)),
 .g (some 90) 89 true (.fieldA 5 (.t 4)),
 .g (some 91) 89 true (.load 1 false (.t 90)),
 .g (some 92) 89 true (.bin .eql (.t 91) (.c (.int .i64 3))),
 .o 93 (.pick (.t 89) (.t 92) (.c (.bool false))),
 .o 94 (.mov (.t 93)),
 .g (some 95) 94 true (.fieldA 2 (.t 4)),
 .g (some 96) 94 true (.load 1 false (.t 95)),
 .g (some 97) 94 true (.len false (.t 96)),
 .g (some 98) 94 true (.bin .eql (.t 97) (.c (.int .i64 3))),
 .o 99 (.pick (.t 94) (.t 98) (.c (.bool false))),
 .o 100 (.mov (.t 99)),
 .g (some 101) 100 true (.fieldA 1 (.t 6)),
 .g (some 102) 100 true (.load 1 false (.t 101)),
 .g (some 103) 100 true (.load 1 false (.g G_api_ErrFuel)),
 .g (some 104) 100 true (.eq false .ifc (.t 102) (.t 103)),
 .o 105 (.pick (.t 100) (.t 104) (.c (.bool false))),
 .o 106 (.mov (.t 105)),
 .g (some 107) 106 true (.fieldA 5 (.t 6)),
 .g (some 108) 106 true (.load 1 false (.t 107)),
 .g (some 109) 106 true (.bin .eql (.t 108) (.c (.int .i64 1500))),
 .o 110 (.pick (.t 106) (.t 109) (.c (.bool false))),
 .o 111 (.mov (.t 110)),
 .g (some 112) 111 true (.fieldA 1 (.t 8)),
 .g (some 113) 111 true (.load 1 false (.t 112)),
 .g (some 114) 111 true (.load 1 false (.g G_api_ErrDeep)),
 .g (some 115) 111 true (.eq false .ifc (.t 113) (.t 114)),
 .o 116 (.pick (.t 111) (.t 115) (.c (.bool false))),
 .o 117 (.mov (.t 116)),
 .g (some 118) 117 true (.fieldA 1 (.t 1)),
 .g (some 119) 117 true (.load 1 false (.t 118)),
 .g (some 120) 117 true (.bin .eql (.t 119) (.c (.int .i64 1500))),
 .o 121 (.pick (.t 117) (.t 120) (.c (.bool false))),
 .o 122 (.mov (.t 121)),
 .g (some 123) 122 true (.fieldA 2 (.t 1)),
 .g (some 124) 122 true (.load 1 false (.t 123)),
 .g (some 125) 122 true (.bin .eql (.t 124) (.c (.int .i64 25))),
 .o 126 (.pick (.t 122) (.t 125) (.c (.bool false))),
 .o 0 (.mov (.t 126))])
 (.ret)))))))))))))
def a_patoislaw9_first : AFun := ⟨0, c_patoislaw9_first, [.tmp 0]⟩

/- patois/core.Lit -/
def c_core_Lit : ACode :=
 .seq (.reg [.o 2 (.mov (.c (.sl none 5 0 (some 0))))])
 (.keep [0] (.seq (.reg [.o 3 (.mov (.t 0)),
 .o 4 (.callF F_core_New [(.c (.int .i64 1)), (.c (.int .i64 0)), (.t 3), (.c (.sl none 1 0 (some 0)))]),
 .o 2 (.mov (.t 4))])
 (.ret)))
def a_core_Lit : AFun := ⟨1, c_core_Lit, [.tmp 2]⟩

/- patois/core.New -/
def c_core_New_l0 : ACode :=
 .keep [9, 19, 20, 21] (.seq (.reg [.o 22 (.bin .lss (.t 21) (.t 20))])
 (.keep [9, 19, 20, 21, 22] (.seq (.cond (.t 22)
 (.skip)
 (.exit 0))
 (.keep [9, 19, 20, 21] (.seq (.block 1 (.seq (.reg [.o 23 (.indexA 1 (.t 19) (.t 21)),
 .o 24 (.load 1 false (.t 23)),
 .o 11 (.mov (.t 24))])
 (.keep [9, 11, 19, 20, 21] (.reg [.o 25 (.mov (.t 9)),
 .o 26 (.mov (.t 11)),
 .o 27 (.append false 5 48 (.t 25) (.t 26)),
 .o 9 (.mov (.t 27))]))))
 (.keep [9, 19, 20, 21] (.reg [.o 28 (.bin .add (.t 21) (.c (.int .i64 1))),
 .o 21 (.mov (.t 28))])))))))
def c_core_New : ACode :=
 .seq (.reg [.o 8 (.mov (.c (.sl none 5 0 none)))])
 (.keep [0, 1, 2, 3] (.seq (.reg [.o 12 (.mov (.t 0)),
 .o 13 (.mov (.t 1)),
 .o 14 (.mov (.t 3)),
 .o 15 (.len false (.t 14)),
 .o 16 (.mov (.t 2)),
 .o 17 (.build [.int .i64 0, .int .i64 0, .int .i64 0, .int .i64 0, .str []] [(0, 1, (.t 12)), (1, 1, (.t 13)), (2, 1, (.t 15)), (4, 1, (.t 16))]),
 .o 18 (.bslice true 5 1 [.int .i64 0, .int .i64 0, .int .i64 0, .int .i64 0, .str []] [(0, 5, (.t 17))]),
 .o 9 (.mov (.t 18))])
 (.keep [3, 9] (.seq (.seq (.reg [.o 19 (.mov (.t 3)),
 .o 20 (.len false (.t 19)),
 .o 21 (.mov (.c (.int .i64 0)))])
 (.keep [9, 19, 20, 21] (.block 0 (.loop c_core_New_l0))))
 (.keep [9] (.seq (.reg [.o 29 (.mov (.t 9)),
 .o 30 (.mov (.t 9)),
 .o 31 (.len false (.t 30)),
 .o 32 (.indexA 5 (.t 29) (.c (.int .i64 0))),
 .o 33 (.fieldA 3 (.t 32)),
 .n (.store 1 (.t 33) (.t 31))])
 (.keep [9] (.seq (.reg [.o 34 (.mov (.t 9)),
 .o 8 (.mov (.t 34))])
 (.ret)))))))))
def a_core_New : AFun := ⟨4, c_core_New, [.tmp 8]⟩

/- patois/patoislaw9.call -/
def c_patoislaw9_call_l0 : ACode :=
 .keep [0, 3, 4] (.seq (.seq (.reg [.o 5 (.mov (.t 4)),
 .o 6 (.mov (.t 0)),
 .o 7 (.len false (.t 6)),
 .o 8 (.bin .lss (.t 5) (.t 7))])
 (.keep [0, 3, 4, 8] (.cond (.t 8)
 (.skip)
 (.exit 0))))
 (.keep [0, 3, 4] (.seq (.block 1 (.reg [.o 11 (.mov (.t 3)),
 .o 12 (.mov (.t 0)),
 .o 13 (.mov (.t 4)),
 .o 14 (.indexA 1 (.t 12) (.t 13)),
 .o 15 (.load 1 false (.t 14)),
 .o 16 (.callF F_core_Lit [(.t 15)]),
 .o 17 (.bslice false 1 1 [.sl none 5 0 (some 0)] [(0, 1, (.t 16))]),
 .o 18 (.append true 1 24 (.t 11) (.t 17)),
 .o 3 (.mov (.t 18))]))
 (.keep [0, 3, 4] (.reg [.o 9 (.mov (.t 4)),
 .o 10 (.bin .add (.t 9) (.c (.int .i64 1))),
 .o 4 (.mov (.t 10))])))))
def c_patoislaw9_call : ACode :=
 .seq (.reg [.o 2 (.mov (.c (.sl none 5 0 (some 0))))])
 (.keep [0] (.seq (.reg [.o 3 (.mov (.c (.sl none 1 0 (some 0))))])
 (.keep [0, 3] (.seq (.seq (.reg [.o 4 (.mov (.c (.int .i64 0)))])
 (.keep [0, 3, 4] (.block 0 (.loop c_patoislaw9_call_l0))))
 (.keep [3] (.seq (.reg [.o 19 (.mov (.t 3)),
 .o 20 (.callF F_core_New [(.c (.int .i64 21)), (.c (.int .i64 0)), (.c (.str [])), (.t 19)]),
 .o 2 (.mov (.t 20))])
 (.ret)))))))
def a_patoislaw9_call : AFun := ⟨1, c_patoislaw9_call, [.tmp 2]⟩

/- patois/patoislaw9.plain -/
def c_patoislaw9_plain : ACode :=
 .seq (.reg [.o 4 (.box (.t 1)),
 .o 5 (.box (.t 2)),
 .o 6 (.alloc [.int .i64 0, .nilI, .sl none 5 0 (some 0), .sl none 2 0 (some 0), .sl none 2 0 (some 0), .int .i64 0]),
 .o 7 (.mov (.c (.bool false)))])
 (.keep [0, 4, 5, 6] (.seq (.reg [.o 11 (.mov (.t 0)),
 .o 12 (.load 2 true (.t 4)),
 .o 13 (.load 6 true (.t 5)),
 .o 14 (.callF F_run_Run [(.t 11), (.t 12), (.t 13)]),
 .o 10 (.mov (.t 14)),
 .o 15 (.extract (.t 10) 0),
 .o 16 (.extract (.t 10) 1),
 .o 8 (.alloc [.int .i64 0, .nilI, .sl none 5 0 (some 0), .sl none 2 0 (some 0), .sl none 2 0 (some 0), .int .i64 0]),
 .n (.store 6 (.t 8) (.t 15)),
 .o 9 (.mov (.t 16))])
 (.keep [6, 8, 9] (.seq (.dreg [⟨0, .o 17 (.load 6 true (.t 8)), [], []⟩,
 ⟨1, .o 18 (.mov (.t 9)), [], []⟩,
 ⟨2, .o 19 (.eq false .ifc (.t 18) (.c (.nilI))), [1], []⟩,
 ⟨3, .o 20 (.mov (.t 19)), [1, 2], []⟩,
 ⟨4, .g (some 21) 20 true (.fieldA 1 (.t 8)), [1, 2, 3], []⟩,
 ⟨5, .g (some 22) 20 true (.load 1 false (.t 21)), [1, 2, 3, 4], []⟩,
 ⟨6, .g (some 23) 20 true (.eq false .ifc (.t 22) (.c (.nilI))), [1, 2, 3, 4, 5], []⟩,
 ⟨7, .o 24 (.pick (.t 20) (.t 23) (.c (.bool false))), [1, 2, 3, 4, 5, 6], []⟩,
 ⟨8, .n (.store 6 (.t 6) (.t 17)), [0, 1, 2, 3], [5, 6]⟩,
 ⟨9, .o 7 (.mov (.t 24)), [0, 1, 2, 3, 4, 5, 6, 7, 8], []⟩])
 (.ret)))))
def a_patoislaw9_plain : AFun := ⟨3, c_patoislaw9_plain, [.cell 6 6 true, .tmp 7]⟩

/- patois/run.Defaults -/
def c_run_Defaults : ACode :=
 .seq (.reg [.o 0 (.alloc [.nilFn, .int .i64 0, .int .i64 0, .sl none 2 0 (some 0), .sl none 1 0 (some 0), .str []])])
 (.keep [0] (.seq (.reg [.o 1 (.build [.nilFn, .int .i64 0, .int .i64 0, .sl none 2 0 (some 0), .sl none 1 0 (some 0), .str []] [(1, 1, (.c (.int .i64 1500))), (2, 1, (.c (.int .i64 25)))]),
 .n (.store 6 (.t 0) (.t 1))])
 (.ret)))
def a_run_Defaults : AFun := ⟨0, c_run_Defaults, [.cell 0 6 true]⟩

/- patois/patoisref.SameTexts -/
def c_patoisref_SameTexts_l0 : ACode :=
 .keep [0, 1, 5] (.seq (.seq (.reg [.o 12 (.mov (.t 5)),
 .o 13 (.mov (.t 0)),
 .o 14 (.len false (.t 13)),
 .o 15 (.bin .lss (.t 12) (.t 14))])
 (.keep [0, 1, 5, 15] (.cond (.t 15)
 (.skip)
 (.exit 0))))
 (.keep [0, 1, 5] (.seq (.block 1 (.seq (.dreg [⟨0, .o 18 (.mov (.t 0)), [], []⟩,
 ⟨1, .o 19 (.mov (.t 5)), [], []⟩,
 ⟨2, .o 20 (.indexA 1 (.t 18) (.t 19)), [0, 1], []⟩,
 ⟨3, .o 21 (.load 1 false (.t 20)), [0, 1, 2], []⟩,
 ⟨4, .o 22 (.mov (.t 1)), [], []⟩,
 ⟨5, .o 23 (.mov (.t 5)), [], []⟩,
 ⟨6, .o 24 (.indexA 1 (.t 22) (.t 23)), [4, 5], []⟩,
 ⟨7, .o 25 (.load 1 false (.t 24)), [4, 5, 6], []⟩,
 ⟨8, .o 26 (.bin .eql (.t 21) (.t 25)), [0, 1, 2, 3, 4, 5, 6, 7], []⟩,
 ⟨9, .o 6 (.mov (.t 26)), [0, 1, 2, 3, 4, 5, 6, 7, 8], []⟩])
 (.keep [0, 1, 5, 6] (.seq (.reg [.o 27 (.mov (.t 6)),
 .o 28 (.not (.t 27))])
 (.keep [0, 1, 5, 28] (.cond (.t 28)
 (.seq (.reg [.o 4 (.mov (.c (.bool false)))])
 (.ret))
 (.skip)))))))
 (.keep [0, 1, 5] (.reg [.o 16 (.mov (.t 5)),
 .o 17 (.bin .add (.t 16) (.c (.int .i64 1))),
 .o 5 (.mov (.t 17))])))))
def c_patoisref_SameTexts : ACode :=
 .seq (.reg [.o 4 (.mov (.c (.bool false)))])
 (.keep [0, 1] (.seq (.seq (.reg [.o 7 (.mov (.t 0)),
 .o 8 (.len false (.t 7)),
 .o 9 (.mov (.t 1)),
 .o 10 (.len false (.t 9)),
 .o 11 (.bin .neq (.t 8) (.t 10))])
 (.keep [0, 1, 11] (.cond (.t 11)
 (.seq (.reg [.o 4 (.mov (.c (.bool false)))])
 (.ret))
 (.skip))))
 (.keep [0, 1] (.seq (.seq (.reg [.o 5 (.mov (.c (.int .i64 0)))])
 (.keep [0, 1, 5] (.block 0 (.loop c_patoisref_SameTexts_l0))))
 (.keep [] (.seq (.reg [.o 4 (.mov (.c (.bool true)))])
 (.ret)))))))
def a_patoisref_SameTexts : AFun := ⟨2, c_patoisref_SameTexts, [.tmp 4]⟩

/- patois/run.Run -/
def c_run_Run : ACode :=
 .seq (.reg [.o 4 (.box (.t 1)),
 .o 5 (.box (.t 2)),
 .o 6 (.alloc [.int .i64 0, .nilI, .sl none 5 0 (some 0), .sl none 2 0 (some 0), .sl none 2 0 (some 0), .int .i64 0]),
 .o 7 (.mov (.c (.nilI)))])
 (.keep [0, 4, 5, 6] (.seq (.seq (.reg [.o 14 (.mov (.t 0)),
 .o 15 (.callF F_core_Check [(.t 14)]),
 .o 8 (.mov (.t 15))])
 (.keep [0, 4, 5, 6, 8] (.seq (.reg [.o 16 (.mov (.t 8)),
 .o 17 (.eq true .ifc (.t 16) (.c (.nilI)))])
 (.keep [0, 4, 5, 6, 8, 17] (.cond (.t 17)
 (.seq (.reg [.o 18 (.build [.int .i64 0, .nilI, .sl none 5 0 (some 0), .sl none 2 0 (some 0), .sl none 2 0 (some 0), .int .i64 0] []),
 .o 19 (.mov (.t 8)),
 .n (.store 6 (.t 6) (.t 18)),
 .o 7 (.mov (.t 19))])
 (.ret))
 (.skip))))))
 (.keep [0, 4, 5, 6] (.seq (.reg [.o 21 (.load 2 true (.t 4)),
 .o 22 (.load 6 true (.t 5)),
 .o 23 (.callF F_run_begin [(.t 21), (.t 22)]),
 .o 20 (.mov (.t 23)),
 .o 24 (.extract (.t 20) 0),
 .o 25 (.extract (.t 20) 1),
 .o 9 (.mov (.t 24)),
 .o 10 (.mov (.t 25))])
 (.keep [0, 6, 9, 10] (.seq (.seq (.reg [.o 26 (.mov (.t 10)),
 .o 27 (.eq true .ifc (.t 26) (.c (.nilI)))])
 (.keep [0, 6, 9, 10, 27] (.cond (.t 27)
 (.seq (.reg [.o 28 (.build [.int .i64 0, .nilI, .sl none 5 0 (some 0), .sl none 2 0 (some 0), .sl none 2 0 (some 0), .int .i64 0] []),
 .o 29 (.mov (.t 10)),
 .n (.store 6 (.t 6) (.t 28)),
 .o 7 (.mov (.t 29))])
 (.ret))
 (.skip))))
 (.keep [0, 6, 9] (.seq (.reg [.o 31 (.mov (.t 9)),
 .o 32 (.mov (.t 0)),
 .o 33 (.callF F_run_runner_do [(.t 31), (.t 32)]),
 .o 30 (.mov (.t 33)),
 .o 34 (.extract (.t 30) 0),
 .o 35 (.extract (.t 30) 1),
 .o 11 (.mov (.t 34)),
 .o 10 (.mov (.t 35))])
 (.keep [6, 9, 10, 11] (.seq (.dreg [⟨0, .o 36 (.mov (.t 9)), [], []⟩,
 ⟨1, .o 37 (.nilchk (.t 36)), [0], []⟩,
 ⟨2, .o 38 (.fieldA 0 (.t 37)), [0, 1], []⟩,
 ⟨3, .o 39 (.load 1 false (.t 38)), [0, 1, 2], []⟩,
 ⟨4, .o 40 (.nilchk (.t 39)), [0, 1, 2, 3], []⟩,
 ⟨5, .o 41 (.fieldA 0 (.t 40)), [0, 1, 2, 3, 4], []⟩,
 ⟨7, .o 43 (.mov (.t 9)), [], []⟩,
 ⟨8, .o 44 (.nilchk (.t 43)), [7], []⟩,
 ⟨9, .o 45 (.fieldA 1 (.t 44)), [7, 8], []⟩,
 ⟨10, .o 46 (.load 1 false (.t 45)), [7, 8, 9], []⟩,
 ⟨11, .o 47 (.nilchk (.t 46)), [7, 8, 9, 10], []⟩,
 ⟨12, .o 48 (.fieldA 0 (.t 47)), [7, 8, 9, 10, 11], []⟩,
 ⟨14, .o 50 (.mov (.t 9)), [], []⟩,
 ⟨15, .o 51 (.nilchk (.t 50)), [14], []⟩,
 ⟨16, .o 52 (.fieldA 0 (.t 51)), [14, 15], []⟩,
 ⟨17, .o 53 (.load 1 false (.t 52)), [14, 15, 16], []⟩,
 ⟨19, .o 55 (.mov (.t 9)), [], []⟩,
 ⟨20, .o 56 (.nilchk (.t 55)), [19], []⟩,
 ⟨21, .o 57 (.fieldA 8 (.t 56)), [19, 20], []⟩,
 ⟨22, .o 58 (.load 1 false (.t 57)), [19, 20, 21], []⟩,
 ⟨24, .o 12 (.alloc [.int .i64 0, .nilI, .sl none 5 0 (some 0), .sl none 2 0 (some 0), .sl none 2 0 (some 0), .int .i64 0]), [], []⟩,
 ⟨6, .o 42 (.callF F_world_asked_Trace [(.t 41)]), [0, 1, 2, 3, 4, 5], [10, 17, 22]⟩,
 ⟨13, .o 49 (.callF F_store_values_Vars [(.t 48)]), [0, 1, 2, 3, 4, 5, 6, 7, 8, 9, 10, 11, 12], [17, 22]⟩,
 ⟨18, .o 54 (.callF F_world_Kernel_Files [(.t 53)]), [0, 1, 2, 3, 4, 5, 6, 7, 8, 9, 10, 11, 12, 13, 14, 15, 16, 17], [22]⟩,
 ⟨23, .o 59 (.build [.int .i64 0, .nilI, .sl none 5 0 (some 0), .sl none 2 0 (some 0), .sl none 2 0 (some 0), .int .i64 0] [(2, 1, (.t 42)), (3, 1, (.t 49)), (4, 1, (.t 54)), (5, 1, (.t 58))]), [0, 1, 2, 3, 4, 5, 6, 7, 8, 9, 10, 11, 12, 13, 14, 15, 16, 17, 18, 19, 20, 21, 22], []⟩,
 ⟨25, .n (.store 6 (.t 12) (.t 59)), [0, 1, 2, 3, 4, 5, 6, 7, 8, 9, 10, 11, 12, 13, 14, 15, 16, 17, 18, 19, 20, 21, 22, 23, 24], []⟩])
 (.keep [6, 10, 11, 12] (.seq (.reg [.o 13 (.alloc [.ptr none])])
 (.keep [6, 10, 11, 12, 13] (.seq (.block 0 (.seq (.reg [.o 63 (.mov (.t 10)),
 .o 64 (.mkIfc Ty_pprun_end (.t 13)),
 .o 65 (.callF F_errors_As [(.t 63), (.t 64)]),
 .o 62 (.mov (.t 65))])
 (.keep [6, 10, 11, 12, 13, 62] (.cond (.t 62)
 (.reg [.o 66 (.load 1 false (.t 13)),
 .o 67 (.nilchk (.t 66)),
 .o 68 (.fieldA 0 (.t 67)),
 .o 69 (.load 1 false (.t 68)),
 .o 70 (.fieldA 0 (.t 12)),
 .n (.store 1 (.t 70) (.t 69))])
 (.seq (.reg [.o 72 (.mov (.t 10)),
 .o 73 (.eq true .ifc (.t 72) (.c (.nilI))),
 .o 71 (.mov (.t 73))])
 (.keep [6, 10, 11, 12, 71] (.cond (.t 71)
 (.reg [.o 74 (.mov (.t 10)),
 .o 75 (.fieldA 1 (.t 12)),
 .n (.store 1 (.t 75) (.t 74))])
 (.reg [.o 60 (.mov (.t 11)),
 .o 61 (.fieldA 0 (.t 12)),
 .n (.store 1 (.t 61) (.t 60))]))))))))
 (.keep [6, 12] (.seq (.reg [.o 76 (.load 6 true (.t 12)),
 .n (.store 6 (.t 6) (.t 76)),
 .o 7 (.mov (.c (.nilI)))])
 (.ret)))))))))))))))))
def a_run_Run : AFun := ⟨3, c_run_Run, [.cell 6 6 true, .tmp 7]⟩

/- slices.Clone[[]patois/api.Node,patois/api.Node] -/
def c_slices_Clone_api_Node_api_Node : ACode :=
 .seq (.reg [.o 2 (.mov (.c (.sl none 5 0 (some 0))))])
 (.keep [0] (.seq (.seq (.reg [.o 3 (.mov (.t 0)),
 .o 4 (.eq false .nilS (.t 3) (.c (.sl none 1 0 (some 0))))])
 (.keep [0, 4] (.cond (.t 4)
 (.seq (.reg [.o 2 (.mov (.c (.sl none 5 0 (some 0))))])
 (.ret))
 (.skip))))
 (.keep [0] (.seq (.reg [.o 5 (.bslice false 5 0 [] []),
 .o 6 (.mov (.t 0)),
 .o 7 (.append true 5 48 (.t 5) (.t 6)),
 .o 2 (.mov (.t 7))])
 (.ret)))))
def a_slices_Clone_api_Node_api_Node : AFun := ⟨1, c_slices_Clone_api_Node_api_Node, [.tmp 2]⟩

/- patois/core.Check -/
def c_core_Check : ACode :=
 .seq (.reg [.o 2 (.mov (.c (.nilI)))])
 (.keep [0] (.seq (.seq (.reg [.o 3 (.mov (.t 0)),
 .o 4 (.len false (.t 3)),
 .o 5 (.bin .eql (.t 4) (.c (.int .i64 0))),
 .o 6 (.mov (.t 5)),
 .g (some 7) 6 false (.mov (.t 0)),
 .g (some 8) 6 false (.len false (.t 7)),
 .g (some 9) 6 false (.bin .gtr (.t 8) (.c (.int .i64 3000))),
 .o 10 (.pick (.t 6) (.c (.bool true)) (.t 9))])
 (.keep [0, 10] (.cond (.t 10)
 (.seq (.reg [.o 11 (.load 1 false (.g G_api_ErrMany)),
 .o 2 (.mov (.t 11))])
 (.ret))
 (.skip))))
 (.keep [0] (.seq (.reg [.o 12 (.mov (.t 0)),
 .o 13 (.mov (.t 0)),
 .o 14 (.len false (.t 13)),
 .o 15 (.callF F_core_look [(.t 12), (.c (.int .i64 0)), (.t 14), (.c (.int .i64 1)), (.c (.bool false)), (.c (.bool true))]),
 .o 2 (.mov (.t 15))])
 (.ret)))))
def a_core_Check : AFun := ⟨1, c_core_Check, [.tmp 2]⟩

/- patois/run.begin -/
def c_run_begin : ACode :=
 .seq (.reg [.o 2 (.box (.t 0)),
 .o 3 (.box (.t 1)),
 .o 4 (.mov (.c (.ptr none))),
 .o 5 (.mov (.c (.nilI)))])
 (.keep [2, 3] (.seq (.reg [.o 11 (.load 2 true (.t 2)),
 .o 12 (.callF F_world_New [(.t 11)]),
 .o 10 (.mov (.t 12)),
 .o 13 (.extract (.t 10) 0),
 .o 14 (.extract (.t 10) 1),
 .o 6 (.mov (.t 13)),
 .o 7 (.mov (.t 14))])
 (.keep [3, 6, 7] (.seq (.seq (.reg [.o 15 (.mov (.t 7)),
 .o 16 (.eq true .ifc (.t 15) (.c (.nilI)))])
 (.keep [3, 6, 7, 16] (.cond (.t 16)
 (.seq (.reg [.o 17 (.mov (.t 7)),
 .o 4 (.mov (.c (.ptr none))),
 .o 5 (.mov (.t 17))])
 (.ret))
 (.skip))))
 (.keep [3, 6] (.seq (.seq (.reg [.o 18 (.load 6 true (.t 3)),
 .o 19 (.callF F_run_Options_may [(.t 18)]),
 .o 8 (.mov (.t 19))])
 (.keep [3, 6, 8] (.seq (.reg [.o 20 (.mov (.t 8)),
 .o 21 (.eq true .ifc (.t 20) (.c (.nilI)))])
 (.keep [3, 6, 8, 21] (.cond (.t 21)
 (.seq (.reg [.o 22 (.mov (.t 8)),
 .o 4 (.mov (.c (.ptr none))),
 .o 5 (.mov (.t 22))])
 (.ret))
 (.skip))))))
 (.keep [3, 6] (.seq (.dreg [⟨0, .o 23 (.mov (.t 6)), [], []⟩,
 ⟨1, .o 24 (.fieldA 3 (.t 3)), [], []⟩,
 ⟨2, .o 25 (.load 1 false (.t 24)), [1], []⟩,
 ⟨4, .o 27 (.load 6 true (.t 3)), [], []⟩,
 ⟨5, .o 28 (.fieldA 5 (.t 3)), [], []⟩,
 ⟨6, .o 29 (.load 1 false (.t 28)), [5], []⟩,
 ⟨3, .o 26 (.callF F_store_New [(.t 25)]), [1, 2], [4, 6]⟩,
 ⟨7, .o 30 (.build [.ptr none, .ptr none, .nilFn, .int .i64 0, .int .i64 0, .sl none 2 0 (some 0), .sl none 1 0 (some 0), .str [], .int .i64 0, .int .i64 0, .str [], .ptr none, .str []] [(0, 1, (.t 23)), (1, 1, (.t 26)), (2, 6, (.t 27)), (10, 1, (.t 29))]), [0, 1, 2, 3, 4, 5, 6], []⟩,
 ⟨8, .o 31 (.box (.t 30)), [0, 1, 2, 3, 4, 5, 6, 7], []⟩,
 ⟨9, .o 9 (.mov (.t 31)), [0, 1, 2, 3, 4, 5, 6, 7, 8], []⟩])
 (.keep [3, 9] (.seq (.dreg [⟨0, .o 32 (.mov (.t 9)), [], []⟩,
 ⟨1, .o 33 (.nilchk (.t 32)), [0], []⟩,
 ⟨2, .o 34 (.fieldA 1 (.t 33)), [0, 1], []⟩,
 ⟨3, .o 35 (.load 1 false (.t 34)), [0, 1, 2], []⟩,
 ⟨4, .o 36 (.nilchk (.t 35)), [0, 1, 2, 3], []⟩,
 ⟨5, .o 37 (.fieldA 0 (.t 36)), [0, 1, 2, 3, 4], []⟩,
 ⟨6, .o 38 (.fieldA 4 (.t 3)), [], []⟩,
 ⟨7, .o 39 (.load 1 false (.t 38)), [6], []⟩,
 ⟨8, .o 40 (.callF F_store_values_SetArgs [(.t 37), (.t 39)]), [0, 1, 2, 3, 4, 5, 6, 7], []⟩])
 (.keep [9] (.seq (.reg [.o 41 (.mov (.t 9)),
 .o 4 (.mov (.t 41)),
 .o 5 (.mov (.c (.nilI)))])
 (.ret)))))))))))))
def a_run_begin : AFun := ⟨2, c_run_begin, [.tmp 4, .tmp 5]⟩

/- (*patois/run.runner).do -/
def c_run_runner_do : ACode :=
 .seq (.reg [.o 4 (.mov (.c (.int .i64 0))),
 .o 5 (.mov (.c (.nilI)))])
 (.keep [0, 1] (.seq (.dreg [⟨0, .o 13 (.mov (.t 1)), [], []⟩,
 ⟨1, .o 14 (.indexA 5 (.t 13) (.c (.int .i64 0))), [0], []⟩,
 ⟨2, .o 15 (.load 5 true (.t 14)), [0, 1], []⟩,
 ⟨3, .o 16 (.mov (.t 1)), [], []⟩,
 ⟨5, .o 6 (.alloc [.int .i64 0, .int .i64 0, .int .i64 0, .int .i64 0, .str []]), [], []⟩,
 ⟨4, .o 17 (.callF F_run_kids [(.t 16)]), [3], [2]⟩,
 ⟨6, .n (.store 5 (.t 6) (.t 15)), [0, 1, 2, 3, 4, 5], []⟩,
 ⟨7, .o 7 (.mov (.t 17)), [0, 1, 2, 3, 4, 5, 6], []⟩])
 (.keep [0, 6, 7] (.seq (.seq (.reg [.o 18 (.fieldA 0 (.t 6)),
 .o 19 (.load 1 false (.t 18))])
 (.keep [0, 6, 7, 19] (.block 0 (.seq (.reg [.o 21 (.bin .eql (.t 19) (.c (.int .i64 23))),
 .o 20 (.mov (.t 21))])
 (.keep [0, 6, 7, 19, 20] (.cond (.t 20)
 (.seq (.reg [.o 22 (.mov (.t 0)),
 .o 23 (.mov (.t 7)),
 .o 24 (.callF F_run_runner_seq [(.t 22), (.t 23)]),
 .o 25 (.extract (.t 24) 0),
 .o 26 (.extract (.t 24) 1),
 .o 4 (.mov (.t 25)),
 .o 5 (.mov (.t 26))])
 (.ret))
 (.seq (.seq (.reg [.o 28 (.bin .eql (.t 19) (.c (.int .i64 24))),
 .o 27 (.mov (.t 28))])
 (.keep [0, 6, 7, 19, 27] (.cond (.t 27)
 (.skip)
 (.seq (.reg [.o 29 (.bin .eql (.t 19) (.c (.int .i64 25))),
 .o 27 (.mov (.t 29))])
 (.keep [0, 6, 7, 19, 27] (.cond (.t 27)
 (.skip)
 (.reg [.o 30 (.bin .eql (.t 19) (.c (.int .i64 26))),
 .o 27 (.mov (.t 30))])))))))
 (.keep [0, 6, 7, 19, 27] (.cond (.t 27)
 (.seq (.reg [.o 31 (.mov (.t 0)),
 .o 32 (.fieldA 0 (.t 6)),
 .o 33 (.load 1 false (.t 32)),
 .o 34 (.mov (.t 7)),
 .o 35 (.callF F_run_runner_choice [(.t 31), (.t 33), (.t 34)]),
 .o 36 (.extract (.t 35) 0),
 .o 37 (.extract (.t 35) 1),
 .o 4 (.mov (.t 36)),
 .o 5 (.mov (.t 37))])
 (.ret))
 (.seq (.reg [.o 39 (.bin .eql (.t 19) (.c (.int .i64 27))),
 .o 38 (.mov (.t 39))])
 (.keep [0, 6, 7, 19, 38] (.cond (.t 38)
 (.seq (.reg [.o 41 (.mov (.t 0)),
 .o 42 (.mov (.t 7)),
 .o 43 (.indexA 1 (.t 42) (.c (.int .i64 0))),
 .o 44 (.load 1 false (.t 43)),
 .o 45 (.callF F_run_runner_do [(.t 41), (.t 44)]),
 .o 40 (.mov (.t 45)),
 .o 46 (.extract (.t 40) 0),
 .o 47 (.extract (.t 40) 1),
 .o 8 (.mov (.t 46)),
 .o 9 (.mov (.t 47))])
 (.keep [8, 9] (.seq (.reg [.o 48 (.mov (.t 8)),
 .o 49 (.callF F_run_not [(.t 48)]),
 .o 50 (.mov (.t 9)),
 .o 4 (.mov (.t 49)),
 .o 5 (.mov (.t 50))])
 (.ret))))
 (.seq (.reg [.o 52 (.bin .eql (.t 19) (.c (.int .i64 29))),
 .o 51 (.mov (.t 52))])
 (.keep [0, 6, 7, 19, 51] (.cond (.t 51)
 (.seq (.reg [.o 53 (.mov (.t 0)),
 .o 54 (.fieldA 4 (.t 6)),
 .o 55 (.load 1 false (.t 54)),
 .o 56 (.mov (.t 7)),
 .o 57 (.callF F_run_runner_each [(.t 53), (.t 55), (.t 56)]),
 .o 58 (.extract (.t 57) 0),
 .o 59 (.extract (.t 57) 1),
 .o 4 (.mov (.t 58)),
 .o 5 (.mov (.t 59))])
 (.ret))
 (.seq (.reg [.o 61 (.bin .eql (.t 19) (.c (.int .i64 28))),
 .o 60 (.mov (.t 61))])
 (.keep [0, 6, 7, 19, 60] (.cond (.t 60)
 (.seq (.reg [.o 62 (.mov (.t 0)),
 .o 63 (.mov (.t 7)),
 .o 64 (.callF F_run_runner_while [(.t 62), (.t 63)]),
 .o 65 (.extract (.t 64) 0),
 .o 66 (.extract (.t 64) 1),
 .o 4 (.mov (.t 65)),
 .o 5 (.mov (.t 66))])
 (.ret))
 (.seq (.reg [.o 68 (.bin .eql (.t 19) (.c (.int .i64 20))),
 .o 67 (.mov (.t 68))])
 (.keep [0, 6, 7, 67] (.cond (.t 67)
 (.seq (.reg [.o 4 (.mov (.c (.int .i64 0))),
 .o 5 (.mov (.c (.nilI)))])
 (.ret))
 (.skip))))))))))))))))))))))
 (.keep [0, 6, 7] (.seq (.seq (.reg [.o 69 (.mov (.t 0)),
 .o 70 (.callF F_run_runner_step [(.t 69)]),
 .o 10 (.mov (.t 70))])
 (.keep [0, 6, 7, 10] (.seq (.reg [.o 71 (.mov (.t 10)),
 .o 72 (.eq true .ifc (.t 71) (.c (.nilI)))])
 (.keep [0, 6, 7, 10, 72] (.cond (.t 72)
 (.seq (.reg [.o 73 (.mov (.t 10)),
 .o 4 (.mov (.c (.int .i64 0))),
 .o 5 (.mov (.t 73))])
 (.ret))
 (.skip))))))
 (.keep [0, 6, 7] (.seq (.seq (.reg [.o 74 (.fieldA 0 (.t 6)),
 .o 75 (.load 1 false (.t 74))])
 (.keep [0, 6, 7, 75] (.block 1 (.seq (.reg [.o 77 (.bin .eql (.t 75) (.c (.int .i64 21))),
 .o 76 (.mov (.t 77))])
 (.keep [0, 6, 7, 75, 76] (.cond (.t 76)
 (.seq (.reg [.o 79 (.mov (.t 0)),
 .o 80 (.mov (.t 7)),
 .o 81 (.callF F_run_runner_together [(.t 79), (.t 80), (.f F_lists_Cat)]),
 .o 78 (.mov (.t 81)),
 .o 82 (.extract (.t 78) 0),
 .o 83 (.extract (.t 78) 1),
 .o 11 (.mov (.t 82)),
 .o 12 (.mov (.t 83))])
 (.keep [0, 11, 12] (.seq (.seq (.reg [.o 84 (.mov (.t 12)),
 .o 85 (.eq true .ifc (.t 84) (.c (.nilI)))])
 (.keep [0, 11, 12, 85] (.cond (.t 85)
 (.seq (.reg [.o 86 (.mov (.t 12)),
 .o 4 (.mov (.c (.int .i64 0))),
 .o 5 (.mov (.t 86))])
 (.ret))
 (.skip))))
 (.keep [0, 11] (.seq (.reg [.o 87 (.mov (.t 0)),
 .o 88 (.mov (.t 11)),
 .o 89 (.callF F_run_runner_call [(.t 87), (.t 88)]),
 .o 90 (.extract (.t 89) 0),
 .o 91 (.extract (.t 89) 1),
 .o 4 (.mov (.t 90)),
 .o 5 (.mov (.t 91))])
 (.ret))))))
 (.seq (.reg [.o 93 (.bin .eql (.t 75) (.c (.int .i64 31))),
 .o 92 (.mov (.t 93))])
 (.keep [0, 6, 7, 75, 92] (.cond (.t 92)
 (.seq (.dreg [⟨0, .o 94 (.mov (.t 0)), [], []⟩,
 ⟨1, .o 95 (.nilchk (.t 94)), [0], []⟩,
 ⟨2, .o 96 (.fieldA 1 (.t 95)), [0, 1], []⟩,
 ⟨3, .o 97 (.load 1 false (.t 96)), [0, 1, 2], []⟩,
 ⟨4, .o 98 (.nilchk (.t 97)), [0, 1, 2, 3], []⟩,
 ⟨5, .o 99 (.fieldA 2 (.t 98)), [0, 1, 2, 3, 4], []⟩,
 ⟨6, .o 100 (.fieldA 4 (.t 6)), [], []⟩,
 ⟨7, .o 101 (.load 1 false (.t 100)), [6], []⟩,
 ⟨8, .o 102 (.mov (.t 7)), [], []⟩,
 ⟨9, .o 103 (.indexA 1 (.t 102) (.c (.int .i64 0))), [8], []⟩,
 ⟨10, .o 104 (.load 1 false (.t 103)), [8, 9], []⟩,
 ⟨11, .o 105 (.callF F_store_functions_SetFun [(.t 99), (.t 101), (.t 104)]), [0, 1, 2, 3, 4, 5, 6, 7, 8, 9, 10], []⟩])
 (.keep [] (.seq (.reg [.o 4 (.mov (.c (.int .i64 0))),
 .o 5 (.mov (.c (.nilI)))])
 (.ret))))
 (.seq (.reg [.o 107 (.bin .eql (.t 75) (.c (.int .i64 30))),
 .o 106 (.mov (.t 107))])
 (.keep [0, 6, 7, 75, 106] (.cond (.t 106)
 (.seq (.reg [.o 108 (.mov (.t 0)),
 .o 109 (.mov (.t 7)),
 .o 110 (.callF F_run_runner_choose [(.t 108), (.t 109)]),
 .o 111 (.extract (.t 110) 0),
 .o 112 (.extract (.t 110) 1),
 .o 4 (.mov (.t 111)),
 .o 5 (.mov (.t 112))])
 (.ret))
 (.seq (.reg [.o 114 (.bin .eql (.t 75) (.c (.int .i64 32))),
 .o 113 (.mov (.t 114))])
 (.keep [0, 6, 7, 75, 113] (.cond (.t 113)
 (.seq (.reg [.o 115 (.mov (.t 0)),
 .o 116 (.mov (.t 7)),
 .o 117 (.callF F_run_runner_pipe [(.t 115), (.t 116)]),
 .o 118 (.extract (.t 117) 0),
 .o 119 (.extract (.t 117) 1),
 .o 4 (.mov (.t 118)),
 .o 5 (.mov (.t 119))])
 (.ret))
 (.seq (.reg [.o 121 (.bin .eql (.t 75) (.c (.int .i64 33))),
 .o 120 (.mov (.t 121))])
 (.keep [0, 6, 7, 75, 120] (.cond (.t 120)
 (.seq (.reg [.o 122 (.mov (.t 0)),
 .o 123 (.fieldA 1 (.t 6)),
 .o 124 (.load 1 false (.t 123)),
 .o 125 (.mov (.t 7)),
 .o 126 (.callF F_run_runner_redir [(.t 122), (.t 124), (.t 125)]),
 .o 127 (.extract (.t 126) 0),
 .o 128 (.extract (.t 126) 1),
 .o 4 (.mov (.t 127)),
 .o 5 (.mov (.t 128))])
 (.ret))
 (.seq (.reg [.o 130 (.bin .eql (.t 75) (.c (.int .i64 37))),
 .o 129 (.mov (.t 130))])
 (.keep [0, 6, 7, 129] (.cond (.t 129)
 (.seq (.reg [.o 131 (.mov (.t 0)),
 .o 132 (.mov (.t 7)),
 .o 133 (.callF F_run_runner_framed [(.t 131), (.t 132)]),
 .o 134 (.extract (.t 133) 0),
 .o 135 (.extract (.t 133) 1),
 .o 4 (.mov (.t 134)),
 .o 5 (.mov (.t 135))])
 (.ret))
 (.skip))))))))))))))))))))))
 (.keep [0, 6, 7] (.seq (.reg [.o 136 (.mov (.t 0)),
 .o 137 (.load 5 true (.t 6)),
 .o 138 (.mov (.t 7)),
 .o 139 (.callF F_run_runner_valued [(.t 136), (.t 137), (.t 138)]),
 .o 140 (.extract (.t 139) 0),
 .o 141 (.extract (.t 139) 1),
 .o 4 (.mov (.t 140)),
 .o 5 (.mov (.t 141))])
 (.ret)))))))))))
def a_run_runner_do : AFun := ⟨2, c_run_runner_do, [.tmp 4, .tmp 5]⟩

/- (*patois/world.asked).Trace -/
def c_world_asked_Trace : ACode :=
 .seq (.reg [.o 2 (.mov (.c (.sl none 5 0 (some 0))))])
 (.keep [0] (.seq (.reg [.o 3 (.mov (.t 0)),
 .o 4 (.nilchk (.t 3)),
 .o 5 (.fieldA 0 (.t 4)),
 .o 6 (.load 1 false (.t 5)),
 .o 7 (.callF F_world_copied [(.t 6)]),
 .o 2 (.mov (.t 7))])
 (.ret)))
def a_world_asked_Trace : AFun := ⟨1, c_world_asked_Trace, [.tmp 2]⟩

/- (*patois/store.values).Vars -/
def c_store_values_Vars_l0 : ACode :=
 .keep [0, 3, 11, 12, 13] (.seq (.reg [.o 14 (.bin .lss (.t 13) (.t 12))])
 (.keep [0, 3, 11, 12, 13, 14] (.seq (.cond (.t 14)
 (.skip)
 (.exit 0))
 (.keep [0, 3, 11, 12, 13] (.seq (.block 1 (.seq (.reg [.o 15 (.indexA 1 (.t 11) (.t 13)),
 .o 16 (.load 1 false (.t 15)),
 .o 5 (.mov (.t 16))])
 (.keep [0, 3, 5, 11, 12, 13] (.reg [.o 17 (.mov (.t 3)),
 .o 18 (.mov (.t 5)),
 .o 19 (.mov (.t 0)),
 .o 20 (.nilchk (.t 19)),
 .o 21 (.fieldA 0 (.t 20)),
 .o 22 (.load 1 false (.t 21)),
 .o 23 (.mov (.t 5)),
 .o 24 (.lookup (.sl none 1 0 (some 0)) false (.t 22) (.t 23)),
 .o 25 (.callF F_slices_Clone_string_string [(.t 24)]),
 .o 26 (.build [.str [], .sl none 1 0 (some 0)] [(0, 1, (.t 18)), (1, 1, (.t 25))]),
 .o 27 (.bslice false 2 1 [.str [], .sl none 1 0 (some 0)] [(0, 2, (.t 26))]),
 .o 28 (.append true 2 40 (.t 17) (.t 27)),
 .o 3 (.mov (.t 28))]))))
 (.keep [0, 3, 11, 12, 13] (.reg [.o 29 (.bin .add (.t 13) (.c (.int .i64 1))),
 .o 13 (.mov (.t 29))])))))))
def c_store_values_Vars : ACode :=
 .seq (.reg [.o 2 (.mov (.c (.sl none 2 0 (some 0))))])
 (.keep [0] (.seq (.reg [.o 3 (.mov (.c (.sl none 2 0 (some 0))))])
 (.keep [0, 3] (.seq (.seq (.reg [.o 6 (.mov (.t 0)),
 .o 7 (.nilchk (.t 6)),
 .o 8 (.fieldA 0 (.t 7)),
 .o 9 (.load 1 false (.t 8)),
 .o 10 (.callF F_maps_Keys_map_string_string_string_string [(.t 9)]),
 .o 11 (.callF F_slices_Sorted_string [(.t 10)]),
 .o 12 (.len false (.t 11)),
 .o 13 (.mov (.c (.int .i64 0)))])
 (.keep [0, 3, 11, 12, 13] (.block 0 (.loop c_store_values_Vars_l0))))
 (.keep [3] (.seq (.reg [.o 30 (.mov (.t 3)),
 .o 2 (.mov (.t 30))])
 (.ret)))))))
def a_store_values_Vars : AFun := ⟨1, c_store_values_Vars, [.tmp 2]⟩

/- (*patois/world.Kernel).Files -/
def c_world_Kernel_Files : ACode :=
 .seq (.reg [.o 2 (.mov (.c (.sl none 2 0 (some 0))))])
 (.keep [0] (.seq (.reg [.o 3 (.mov (.t 0)),
 .o 4 (.nilchk (.t 3)),
 .o 5 (.fieldA 1 (.t 4)),
 .o 6 (.load 1 false (.t 5)),
 .o 7 (.callF F_slices_Clone_api_File_api_File [(.t 6)]),
 .o 2 (.mov (.t 7))])
 (.ret)))
def a_world_Kernel_Files : AFun := ⟨1, c_world_Kernel_Files, [.tmp 2]⟩

/- patois/core.look -/
def c_core_look_l0 : ACode :=
 .keep [0, 1, 2, 3, 13, 15, 16] (.seq (.seq (.reg [.o 94 (.mov (.t 16)),
 .o 95 (.fieldA 2 (.t 13)),
 .o 96 (.load 1 false (.t 95)),
 .o 97 (.bin .lss (.t 94) (.t 96))])
 (.keep [0, 1, 2, 3, 13, 15, 16, 97] (.cond (.t 97)
 (.skip)
 (.exit 0))))
 (.keep [0, 1, 2, 3, 13, 15, 16] (.seq (.block 1 (.seq (.seq (.reg [.o 100 (.mov (.t 15)),
 .o 101 (.mov (.t 2)),
 .o 102 (.bin .geq (.t 100) (.t 101))])
 (.keep [0, 1, 2, 3, 13, 15, 16, 102] (.cond (.t 102)
 (.seq (.reg [.o 103 (.mov (.t 1)),
 .o 104 (.load 1 false (.g G_api_ErrNode)),
 .o 105 (.callF F_core_at [(.t 103), (.t 104)]),
 .o 12 (.mov (.t 105))])
 (.ret))
 (.skip))))
 (.keep [0, 1, 2, 3, 13, 15, 16] (.seq (.seq (.reg [.o 106 (.mov (.t 0)),
 .o 107 (.mov (.t 15)),
 .o 108 (.indexA 5 (.t 106) (.t 107)),
 .o 109 (.fieldA 3 (.t 108)),
 .o 110 (.load 1 false (.t 109)),
 .o 111 (.bin .lss (.t 110) (.c (.int .i64 1))),
 .o 112 (.mov (.t 111)),
 .g (some 113) 112 false (.mov (.t 0)),
 .g (some 114) 112 false (.mov (.t 15)),
 .g (some 115) 112 false (.indexA 5 (.t 113) (.t 114)),
 .g (some 116) 112 false (.fieldA 3 (.t 115)),
 .g (some 117) 112 false (.load 1 false (.t 116)),
 .g (some 118) 112 false (.mov (.t 2)),
 .g (some 119) 112 false (.mov (.t 15)),
 .g (some 120) 112 false (.bin .sub (.t 118) (.t 119)),
 .g (some 121) 112 false (.bin .gtr (.t 117) (.t 120)),
 .o 122 (.pick (.t 112) (.c (.bool true)) (.t 121))])
 (.keep [0, 1, 2, 3, 13, 15, 16, 122] (.cond (.t 122)
 (.exit 0)
 (.skip))))
 (.keep [0, 1, 2, 3, 13, 15, 16] (.reg [.o 123 (.mov (.t 15)),
 .o 124 (.mov (.t 0)),
 .o 125 (.mov (.t 15)),
 .o 126 (.indexA 5 (.t 124) (.t 125)),
 .o 127 (.fieldA 3 (.t 126)),
 .o 128 (.load 1 false (.t 127)),
 .o 129 (.bin .add (.t 123) (.t 128)),
 .o 15 (.mov (.t 129))]))))))
 (.keep [0, 1, 2, 3, 13, 15, 16] (.reg [.o 98 (.mov (.t 16)),
 .o 99 (.bin .add (.t 98) (.c (.int .i64 1))),
 .o 16 (.mov (.t 99))])))))
def c_core_look_l1 : ACode :=
 .keep [0, 2, 3, 13, 15, 138, 139] (.seq (.reg [.o 140 (.bin .lss (.t 139) (.t 138))])
 (.keep [0, 2, 3, 13, 15, 138, 139, 140] (.seq (.cond (.t 140)
 (.skip)
 (.exit 2))
 (.keep [0, 2, 3, 13, 15, 138, 139] (.seq (.block 3 (.seq (.reg [.o 141 (.mov (.t 139)),
 .o 17 (.mov (.t 141))])
 (.keep [0, 2, 3, 13, 15, 17, 138, 139] (.seq (.seq (.dreg [⟨0, .o 142 (.mov (.t 0)), [], []⟩,
 ⟨1, .o 143 (.mov (.t 15)), [], []⟩,
 ⟨2, .o 144 (.mov (.t 2)), [], []⟩,
 ⟨3, .o 145 (.mov (.t 3)), [], []⟩,
 ⟨4, .o 146 (.bin .add (.t 145) (.c (.int .i64 1))), [3], []⟩,
 ⟨5, .o 147 (.load 5 true (.t 13)), [], []⟩,
 ⟨6, .o 148 (.mov (.t 17)), [], []⟩,
 ⟨8, .o 150 (.mov (.t 17)), [], []⟩,
 ⟨9, .o 151 (.fieldA 2 (.t 13)), [], []⟩,
 ⟨10, .o 152 (.load 1 false (.t 151)), [9], []⟩,
 ⟨11, .o 153 (.bin .sub (.t 152) (.c (.int .i64 1))), [9, 10], []⟩,
 ⟨12, .o 154 (.bin .eql (.t 150) (.t 153)), [8, 9, 10, 11], []⟩,
 ⟨7, .o 149 (.callF F_core_takes [(.t 147), (.t 148)]), [5, 6], [10]⟩,
 ⟨13, .o 155 (.callF F_core_look [(.t 142), (.t 143), (.t 144), (.t 146), (.t 149), (.t 154)]), [0, 1, 2, 3, 4, 5, 6, 7, 8, 9, 10, 11, 12], []⟩,
 ⟨14, .o 18 (.mov (.t 155)), [0, 1, 2, 3, 4, 5, 6, 7, 8, 9, 10, 11, 12, 13], []⟩])
 (.keep [0, 2, 3, 13, 15, 18, 138, 139] (.seq (.reg [.o 156 (.mov (.t 18)),
 .o 157 (.eq true .ifc (.t 156) (.c (.nilI)))])
 (.keep [0, 2, 3, 13, 15, 18, 138, 139, 157] (.cond (.t 157)
 (.seq (.reg [.o 158 (.mov (.t 18)),
 .o 12 (.mov (.t 158))])
 (.ret))
 (.skip))))))
 (.keep [0, 2, 3, 13, 15, 138, 139] (.reg [.o 159 (.mov (.t 15)),
 .o 160 (.mov (.t 0)),
 .o 161 (.mov (.t 15)),
 .o 162 (.indexA 5 (.t 160) (.t 161)),
 .o 163 (.fieldA 3 (.t 162)),
 .o 164 (.load 1 false (.t 163)),
 .o 165 (.bin .add (.t 159) (.t 164)),
 .o 15 (.mov (.t 165))]))))))
 (.keep [0, 2, 3, 13, 15, 138, 139] (.reg [.o 166 (.bin .add (.t 139) (.c (.int .i64 1))),
 .o 139 (.mov (.t 166))])))))))
def c_core_look : ACode :=
 .seq (.reg [.o 12 (.mov (.c (.nilI)))])
 (.keep [0, 1, 2, 3, 4, 5] (.seq (.reg [.o 19 (.mov (.t 0)),
 .o 20 (.mov (.t 1)),
 .o 21 (.indexA 5 (.t 19) (.t 20)),
 .o 22 (.load 5 true (.t 21)),
 .o 13 (.alloc [.int .i64 0, .int .i64 0, .int .i64 0, .int .i64 0, .str []]),
 .n (.store 5 (.t 13) (.t 22))])
 (.keep [0, 1, 2, 3, 4, 5, 13] (.seq (.reg [.o 23 (.mov (.t 4)),
 .o 24 (.mov (.t 23)),
 .g (some 25) 24 true (.fieldA 0 (.t 13)),
 .g (some 26) 24 true (.load 1 false (.t 25)),
 .g (some 27) 24 true (.callF F_core_Word [(.t 26)]),
 .o 28 (.pick (.t 24) (.t 27) (.c (.bool false))),
 .o 29 (.mov (.t 28)),
 .g (some 30) 29 false (.mov (.t 4)),
 .g (some 31) 29 false (.not (.t 30)),
 .g (some 32) 29 false (.mov (.t 31)),
 .g (some 33) 32 true (.fieldA 0 (.t 13)),
 .g (some 34) 32 true (.load 1 false (.t 33)),
 .g (some 35) 32 true (.callF F_core_Command [(.t 34)]),
 .g (some 36) 29 false (.pick (.t 32) (.t 35) (.c (.bool false))),
 .o 37 (.pick (.t 29) (.c (.bool true)) (.t 36)),
 .o 14 (.mov (.t 37))])
 (.keep [0, 1, 2, 3, 5, 13, 14] (.seq (.seq (.reg [.o 38 (.mov (.t 14)),
 .o 39 (.not (.t 38)),
 .o 40 (.mov (.t 39)),
 .g (some 41) 40 false (.load 5 true (.t 13)),
 .g (some 42) 40 false (.callF F_core_fields [(.t 41)]),
 .g (some 43) 40 false (.not (.t 42)),
 .o 44 (.pick (.t 40) (.c (.bool true)) (.t 43)),
 .o 45 (.mov (.t 44)),
 .g (some 46) 45 false (.load 5 true (.t 13)),
 .g (some 47) 45 false (.callF F_core_children [(.t 46)]),
 .g (some 48) 45 false (.not (.t 47)),
 .o 49 (.pick (.t 45) (.c (.bool true)) (.t 48)),
 .o 50 (.mov (.t 49)),
 .g (some 51) 50 false (.fieldA 3 (.t 13)),
 .g (some 52) 50 false (.load 1 false (.t 51)),
 .g (some 53) 50 false (.bin .lss (.t 52) (.c (.int .i64 1))),
 .o 54 (.pick (.t 50) (.c (.bool true)) (.t 53)),
 .o 55 (.mov (.t 54)),
 .g (some 56) 55 false (.fieldA 3 (.t 13)),
 .g (some 57) 55 false (.load 1 false (.t 56)),
 .g (some 58) 55 false (.mov (.t 2)),
 .g (some 59) 55 false (.mov (.t 1)),
 .g (some 60) 55 false (.bin .sub (.t 58) (.t 59)),
 .g (some 61) 55 false (.bin .gtr (.t 57) (.t 60)),
 .o 62 (.pick (.t 55) (.c (.bool true)) (.t 61)),
 .o 63 (.mov (.t 62)),
 .g (some 64) 63 false (.mov (.t 5)),
 .g (some 65) 63 false (.mov (.t 64)),
 .g (some 66) 65 true (.fieldA 3 (.t 13)),
 .g (some 67) 65 true (.load 1 false (.t 66)),
 .g (some 68) 65 true (.mov (.t 2)),
 .g (some 69) 65 true (.mov (.t 1)),
 .g (some 70) 65 true (.bin .sub (.t 68) (.t 69)),
 .g (some 71) 65 true (.bin .neq (.t 67) (.t 70)),
 .g (some 72) 63 false (.pick (.t 65) (.t 71) (.c (.bool false))),
 .o 73 (.pick (.t 63) (.c (.bool true)) (.t 72))])
 (.keep [0, 1, 3, 13, 73] (.cond (.t 73)
 (.seq (.reg [.o 74 (.mov (.t 1)),
 .o 75 (.load 1 false (.g G_api_ErrNode)),
 .o 76 (.callF F_core_at [(.t 74), (.t 75)]),
 .o 12 (.mov (.t 76))])
 (.ret))
 (.skip))))
 (.keep [0, 1, 3, 13] (.seq (.reg [.o 77 (.mov (.t 1)),
 .o 78 (.fieldA 3 (.t 13)),
 .o 79 (.load 1 false (.t 78)),
 .o 80 (.bin .add (.t 77) (.t 79)),
 .o 2 (.mov (.t 80))])
 (.keep [0, 1, 2, 3, 13] (.seq (.seq (.reg [.o 81 (.fieldA 2 (.t 13)),
 .o 82 (.load 1 false (.t 81)),
 .o 83 (.bin .eql (.t 82) (.c (.int .i64 0))),
 .o 84 (.mov (.t 83)),
 .g (some 85) 84 true (.fieldA 3 (.t 13)),
 .g (some 86) 84 true (.load 1 false (.t 85)),
 .g (some 87) 84 true (.bin .neq (.t 86) (.c (.int .i64 1))),
 .o 88 (.pick (.t 84) (.t 87) (.c (.bool false)))])
 (.keep [0, 1, 2, 3, 13, 88] (.cond (.t 88)
 (.seq (.reg [.o 89 (.mov (.t 1)),
 .o 90 (.load 1 false (.g G_api_ErrNode)),
 .o 91 (.callF F_core_at [(.t 89), (.t 90)]),
 .o 12 (.mov (.t 91))])
 (.ret))
 (.skip))))
 (.keep [0, 1, 2, 3, 13] (.seq (.reg [.o 92 (.mov (.t 1)),
 .o 93 (.bin .add (.t 92) (.c (.int .i64 1))),
 .o 15 (.mov (.t 93)),
 .o 16 (.mov (.c (.int .i64 0)))])
 (.keep [0, 1, 2, 3, 13, 15, 16] (.seq (.block 0 (.loop c_core_look_l0))
 (.keep [0, 1, 2, 3, 13] (.seq (.seq (.reg [.o 130 (.mov (.t 3)),
 .o 131 (.bin .gtr (.t 130) (.c (.int .i64 30)))])
 (.keep [0, 1, 2, 3, 13, 131] (.cond (.t 131)
 (.seq (.reg [.o 132 (.mov (.t 1)),
 .o 133 (.load 1 false (.g G_api_ErrNest)),
 .o 134 (.callF F_core_at [(.t 132), (.t 133)]),
 .o 12 (.mov (.t 134))])
 (.ret))
 (.skip))))
 (.keep [0, 1, 2, 3, 13] (.seq (.reg [.o 135 (.mov (.t 1)),
 .o 136 (.bin .add (.t 135) (.c (.int .i64 1))),
 .o 15 (.mov (.t 136))])
 (.keep [0, 2, 3, 13, 15] (.seq (.seq (.reg [.o 137 (.fieldA 2 (.t 13)),
 .o 138 (.load 1 false (.t 137)),
 .o 139 (.mov (.c (.int .i64 0)))])
 (.keep [0, 2, 3, 13, 15, 138, 139] (.block 2 (.loop c_core_look_l1))))
 (.keep [] (.seq (.reg [.o 12 (.mov (.c (.nilI)))])
 (.ret)))))))))))))))))))))))
def a_core_look : AFun := ⟨6, c_core_look, [.tmp 12]⟩

/- patois/world.New -/
def c_world_New_l0 : ACode :=
 .keep [5, 24, 25, 26] (.seq (.reg [.o 27 (.bin .lss (.t 26) (.t 25))])
 (.keep [5, 24, 25, 26, 27] (.seq (.cond (.t 27)
 (.skip)
 (.exit 0))
 (.keep [5, 24, 25, 26] (.seq (.block 1 (.seq (.reg [.o 28 (.indexA 7 (.t 24) (.t 26)),
 .o 29 (.load 7 true (.t 28)),
 .o 7 (.alloc [.str [], .sl none 1 0 (some 0), .bool false, .bool false, .bool false, .str [], .int .i64 0]),
 .n (.store 7 (.t 7) (.t 29))])
 (.keep [5, 7, 24, 25, 26] (.seq (.reg [.o 30 (.fieldA 1 (.t 7)),
 .o 31 (.load 1 false (.t 30)),
 .o 32 (.callF F_slices_Clone_string_string [(.t 31)]),
 .o 33 (.fieldA 1 (.t 7)),
 .n (.store 1 (.t 33) (.t 32))])
 (.keep [5, 7, 24, 25, 26] (.dreg [⟨0, .o 34 (.mov (.t 5)), [], []⟩,
 ⟨1, .o 35 (.mov (.t 5)), [], []⟩,
 ⟨2, .o 36 (.nilchk (.t 35)), [1], []⟩,
 ⟨3, .o 37 (.fieldA 2 (.t 36)), [1, 2], []⟩,
 ⟨4, .o 38 (.load 1 false (.t 37)), [1, 2, 3], []⟩,
 ⟨5, .o 39 (.load 7 true (.t 7)), [], []⟩,
 ⟨6, .o 40 (.bslice false 7 1 [.str [], .sl none 1 0 (some 0), .bool false, .bool false, .bool false, .str [], .int .i64 0] [(0, 7, (.t 39))]), [5], []⟩,
 ⟨7, .o 41 (.append true 7 72 (.t 38) (.t 40)), [1, 2, 3, 4, 5, 6], []⟩,
 ⟨8, .o 42 (.nilchk (.t 34)), [0, 1, 2, 3, 4, 5, 6, 7], []⟩,
 ⟨9, .o 43 (.fieldA 2 (.t 42)), [0, 1, 2, 3, 4, 5, 6, 7, 8], []⟩,
 ⟨10, .n (.store 1 (.t 43) (.t 41)), [0, 1, 2, 3, 4, 5, 6, 7, 8, 9], []⟩]))))))
 (.keep [5, 24, 25, 26] (.reg [.o 44 (.bin .add (.t 26) (.c (.int .i64 1))),
 .o 26 (.mov (.t 44))])))))))
def c_world_New : ACode :=
 .seq (.reg [.o 1 (.box (.t 0)),
 .o 2 (.mov (.c (.ptr none))),
 .o 3 (.mov (.c (.nilI)))])
 (.keep [1] (.seq (.seq (.reg [.o 8 (.load 2 true (.t 1)),
 .o 9 (.callF F_world_May [(.t 8)]),
 .o 4 (.mov (.t 9))])
 (.keep [1, 4] (.seq (.reg [.o 10 (.mov (.t 4)),
 .o 11 (.eq true .ifc (.t 10) (.c (.nilI)))])
 (.keep [1, 4, 11] (.cond (.t 11)
 (.seq (.reg [.o 12 (.mov (.t 4)),
 .o 2 (.mov (.c (.ptr none))),
 .o 3 (.mov (.t 12))])
 (.ret))
 (.skip))))))
 (.keep [1] (.seq (.reg [.o 13 (.fieldA 0 (.t 1)),
 .o 14 (.load 1 false (.t 13)),
 .o 15 (.callF F_slices_Clone_api_File_api_File [(.t 14)]),
 .o 16 (.build [.sl none 5 0 (some 0), .sl none 2 0 (some 0), .sl none 7 0 (some 0)] [(1, 1, (.t 15))]),
 .o 17 (.box (.t 16)),
 .o 5 (.mov (.t 17))])
 (.keep [1, 5] (.seq (.reg [.o 18 (.mov (.t 5)),
 .o 19 (.nilchk (.t 18)),
 .o 20 (.fieldA 1 (.t 19)),
 .o 21 (.load 1 false (.t 20)),
 .o 22 (.callF F_slices_SortFunc_api_File_api_File [(.t 21), (.f F_world_byName)])])
 (.keep [1, 5] (.seq (.seq (.reg [.o 23 (.fieldA 1 (.t 1)),
 .o 24 (.load 1 false (.t 23)),
 .o 25 (.len false (.t 24)),
 .o 26 (.mov (.c (.int .i64 0)))])
 (.keep [5, 24, 25, 26] (.block 0 (.loop c_world_New_l0))))
 (.keep [5] (.seq (.reg [.o 45 (.mov (.t 5)),
 .o 2 (.mov (.t 45)),
 .o 3 (.mov (.c (.nilI)))])
 (.ret)))))))))))
def a_world_New : AFun := ⟨1, c_world_New, [.tmp 2, .tmp 3]⟩

/- (patois/run.Options).may -/
def c_run_Options_may_l0 : ACode :=
 .keep [3, 36, 37, 38] (.seq (.reg [.o 39 (.bin .lss (.t 38) (.t 37))])
 (.keep [3, 36, 37, 38, 39] (.seq (.cond (.t 39)
 (.skip)
 (.exit 0))
 (.keep [3, 36, 37, 38] (.seq (.block 1 (.seq (.reg [.o 40 (.indexA 2 (.t 36) (.t 38)),
 .o 41 (.load 2 true (.t 40)),
 .o 5 (.alloc [.str [], .sl none 1 0 (some 0)]),
 .n (.store 2 (.t 5) (.t 41))])
 (.keep [3, 5, 36, 37, 38] (.reg [.o 42 (.mov (.t 3)),
 .o 43 (.mov (.t 42)),
 .g (some 44) 43 false (.fieldA 0 (.t 5)),
 .g (some 45) 43 false (.load 1 false (.t 44)),
 .g (some 46) 43 false (.callF F_text_Name [(.t 45)]),
 .g (some 47) 43 false (.not (.t 46)),
 .o 48 (.pick (.t 43) (.c (.bool true)) (.t 47)),
 .o 49 (.mov (.t 48)),
 .g (some 50) 49 false (.fieldA 1 (.t 5)),
 .g (some 51) 49 false (.load 1 false (.t 50)),
 .g (some 52) 49 false (.callF F_lists_Fits [(.t 51)]),
 .g (some 53) 49 false (.eq true .ifc (.t 52) (.c (.nilI))),
 .o 54 (.pick (.t 49) (.c (.bool true)) (.t 53)),
 .o 3 (.mov (.t 54))]))))
 (.keep [3, 36, 37, 38] (.reg [.o 55 (.bin .add (.t 38) (.c (.int .i64 1))),
 .o 38 (.mov (.t 55))])))))))
def c_run_Options_may : ACode :=
 .seq (.reg [.o 1 (.box (.t 0)),
 .o 2 (.mov (.c (.nilI)))])
 (.keep [1] (.seq (.seq (.reg [.o 6 (.fieldA 1 (.t 1)),
 .o 7 (.load 1 false (.t 6)),
 .o 8 (.bin .lss (.t 7) (.c (.int .i64 0))),
 .o 9 (.mov (.t 8)),
 .g (some 10) 9 false (.fieldA 1 (.t 1)),
 .g (some 11) 9 false (.load 1 false (.t 10)),
 .g (some 12) 9 false (.bin .gtr (.t 11) (.c (.int .i64 1500))),
 .o 13 (.pick (.t 9) (.c (.bool true)) (.t 12)),
 .o 14 (.mov (.t 13)),
 .g (some 15) 14 false (.fieldA 2 (.t 1)),
 .g (some 16) 14 false (.load 1 false (.t 15)),
 .g (some 17) 14 false (.bin .lss (.t 16) (.c (.int .i64 0))),
 .o 18 (.pick (.t 14) (.c (.bool true)) (.t 17)),
 .o 19 (.mov (.t 18)),
 .g (some 20) 19 false (.fieldA 2 (.t 1)),
 .g (some 21) 19 false (.load 1 false (.t 20)),
 .g (some 22) 19 false (.bin .gtr (.t 21) (.c (.int .i64 25))),
 .o 23 (.pick (.t 19) (.c (.bool true)) (.t 22))])
 (.keep [1, 23] (.cond (.t 23)
 (.seq (.reg [.o 24 (.load 1 false (.g G_api_ErrNumber)),
 .o 2 (.mov (.t 24))])
 (.ret))
 (.skip))))
 (.keep [1] (.seq (.reg [.o 25 (.fieldA 5 (.t 1)),
 .o 26 (.load 1 false (.t 25)),
 .o 27 (.len true (.t 26)),
 .o 28 (.bin .gtr (.t 27) (.c (.int .i64 2000))),
 .o 29 (.mov (.t 28)),
 .g (some 30) 29 false (.fieldA 4 (.t 1)),
 .g (some 31) 29 false (.load 1 false (.t 30)),
 .g (some 32) 29 false (.callF F_lists_Fits [(.t 31)]),
 .g (some 33) 29 false (.eq true .ifc (.t 32) (.c (.nilI))),
 .o 34 (.pick (.t 29) (.c (.bool true)) (.t 33)),
 .o 3 (.mov (.t 34))])
 (.keep [1, 3] (.seq (.seq (.reg [.o 35 (.fieldA 3 (.t 1)),
 .o 36 (.load 1 false (.t 35)),
 .o 37 (.len false (.t 36)),
 .o 38 (.mov (.c (.int .i64 0)))])
 (.keep [3, 36, 37, 38] (.block 0 (.loop c_run_Options_may_l0))))
 (.keep [3] (.seq (.seq (.reg [.o 56 (.mov (.t 3))])
 (.keep [56] (.cond (.t 56)
 (.seq (.reg [.o 57 (.load 1 false (.g G_api_ErrBig)),
 .o 2 (.mov (.t 57))])
 (.ret))
 (.skip))))
 (.keep [] (.seq (.reg [.o 2 (.mov (.c (.nilI)))])
 (.ret)))))))))))
def a_run_Options_may : AFun := ⟨1, c_run_Options_may, [.tmp 2]⟩

/- patois/store.New -/
def c_store_New_l0 : ACode :=
 .keep [3, 12, 13, 14] (.seq (.reg [.o 15 (.bin .lss (.t 14) (.t 13))])
 (.keep [3, 12, 13, 14, 15] (.seq (.cond (.t 15)
 (.skip)
 (.exit 0))
 (.keep [3, 12, 13, 14] (.seq (.block 1 (.seq (.reg [.o 16 (.indexA 2 (.t 12) (.t 14)),
 .o 17 (.load 2 true (.t 16)),
 .o 5 (.alloc [.str [], .sl none 1 0 (some 0)]),
 .n (.store 2 (.t 5) (.t 17))])
 (.keep [3, 5, 12, 13, 14] (.dreg [⟨0, .o 18 (.mov (.t 3)), [], []⟩,
 ⟨1, .o 19 (.nilchk (.t 18)), [0], []⟩,
 ⟨2, .o 20 (.fieldA 0 (.t 19)), [0, 1], []⟩,
 ⟨3, .o 21 (.fieldA 0 (.t 5)), [], []⟩,
 ⟨4, .o 22 (.load 1 false (.t 21)), [3], []⟩,
 ⟨5, .o 23 (.fieldA 1 (.t 5)), [], []⟩,
 ⟨6, .o 24 (.load 1 false (.t 23)), [5], []⟩,
 ⟨7, .o 25 (.callF F_store_values_Set [(.t 20), (.t 22), (.t 24)]), [0, 1, 2, 3, 4, 5, 6], []⟩]))))
 (.keep [3, 12, 13, 14] (.reg [.o 26 (.bin .add (.t 14) (.c (.int .i64 1))),
 .o 14 (.mov (.t 26))])))))))
def c_store_New : ACode :=
 .seq (.reg [.o 2 (.mov (.c (.ptr none)))])
 (.keep [0] (.seq (.reg [.o 6 (.mkMap),
 .o 7 (.build [.map none, .sl none 1 0 (some 0)] [(0, 1, (.t 6))]),
 .o 8 (.mkMap),
 .o 9 (.build [.map none] [(0, 1, (.t 8))]),
 .o 10 (.build [.map none, .sl none 1 0 (some 0), .map none] [(0, 2, (.t 7)), (2, 1, (.t 9))]),
 .o 11 (.box (.t 10)),
 .o 3 (.mov (.t 11))])
 (.keep [0, 3] (.seq (.seq (.reg [.o 12 (.mov (.t 0)),
 .o 13 (.len false (.t 12)),
 .o 14 (.mov (.c (.int .i64 0)))])
 (.keep [3, 12, 13, 14] (.block 0 (.loop c_store_New_l0))))
 (.keep [3] (.seq (.reg [.o 27 (.mov (.t 3)),
 .o 2 (.mov (.t 27))])
 (.ret)))))))
def a_store_New : AFun := ⟨1, c_store_New, [.tmp 2]⟩

/- (*patois/store.values).SetArgs -/
def c_store_values_SetArgs : ACode :=
 .seq (.reg [.o 4 (.mov (.c (.sl none 1 0 (some 0))))])
 (.keep [0, 1] (.seq (.reg [.o 6 (.mov (.t 0)),
 .o 7 (.nilchk (.t 6)),
 .o 8 (.fieldA 1 (.t 7)),
 .o 9 (.load 1 false (.t 8)),
 .o 5 (.mov (.t 9))])
 (.keep [0, 1, 5] (.seq (.reg [.o 10 (.mov (.t 0)),
 .o 11 (.mov (.t 1)),
 .o 12 (.callF F_slices_Clone_string_string [(.t 11)]),
 .o 13 (.nilchk (.t 10)),
 .o 14 (.fieldA 1 (.t 13)),
 .n (.store 1 (.t 14) (.t 12))])
 (.keep [5] (.seq (.reg [.o 15 (.mov (.t 5)),
 .o 4 (.mov (.t 15))])
 (.ret)))))))
def a_store_values_SetArgs : AFun := ⟨2, c_store_values_SetArgs, [.tmp 4]⟩

/- patois/run.kids -/
def c_run_kids_l0 : ACode :=
 .keep [0, 3, 4] (.seq (.seq (.reg [.o 5 (.mov (.t 4)),
 .o 6 (.mov (.t 0)),
 .o 7 (.len false (.t 6)),
 .o 8 (.bin .lss (.t 5) (.t 7))])
 (.keep [0, 3, 4, 8] (.cond (.t 8)
 (.skip)
 (.exit 0))))
 (.keep [0, 3, 4] (.seq (.block 1 (.reg [.o 16 (.mov (.t 3)),
 .o 17 (.mov (.t 0)),
 .o 18 (.mov (.t 4)),
 .o 19 (.mov (.t 4)),
 .o 20 (.mov (.t 0)),
 .o 21 (.mov (.t 4)),
 .o 22 (.indexA 5 (.t 20) (.t 21)),
 .o 23 (.fieldA 3 (.t 22)),
 .o 24 (.load 1 false (.t 23)),
 .o 25 (.bin .add (.t 19) (.t 24)),
 .o 26 (.slc 5 (.t 17) (some (.t 18)) (some (.t 25))),
 .o 27 (.bslice false 1 1 [.sl none 5 0 (some 0)] [(0, 1, (.t 26))]),
 .o 28 (.append true 1 24 (.t 16) (.t 27)),
 .o 3 (.mov (.t 28))]))
 (.keep [0, 3, 4] (.reg [.o 9 (.mov (.t 4)),
 .o 10 (.mov (.t 0)),
 .o 11 (.mov (.t 4)),
 .o 12 (.indexA 5 (.t 10) (.t 11)),
 .o 13 (.fieldA 3 (.t 12)),
 .o 14 (.load 1 false (.t 13)),
 .o 15 (.bin .add (.t 9) (.t 14)),
 .o 4 (.mov (.t 15))])))))
def c_run_kids : ACode :=
 .seq (.reg [.o 2 (.mov (.c (.sl none 1 0 (some 0))))])
 (.keep [0] (.seq (.reg [.o 3 (.mov (.c (.sl none 1 0 (some 0))))])
 (.keep [0, 3] (.seq (.seq (.reg [.o 4 (.mov (.c (.int .i64 1)))])
 (.keep [0, 3, 4] (.block 0 (.loop c_run_kids_l0))))
 (.keep [3] (.seq (.reg [.o 29 (.mov (.t 3)),
 .o 2 (.mov (.t 29))])
 (.ret)))))))
def a_run_kids : AFun := ⟨1, c_run_kids, [.tmp 2]⟩

/- (*patois/run.runner).seq -/
def c_run_runner_seq_l0 : ACode :=
 .keep [0, 6, 10, 11, 12] (.seq (.reg [.o 13 (.bin .lss (.t 12) (.t 11))])
 (.keep [0, 6, 10, 11, 12, 13] (.seq (.cond (.t 13)
 (.skip)
 (.exit 0))
 (.keep [0, 10, 11, 12] (.seq (.block 1 (.seq (.reg [.o 14 (.indexA 1 (.t 10) (.t 12)),
 .o 15 (.load 1 false (.t 14)),
 .o 9 (.mov (.t 15))])
 (.keep [0, 9, 10, 11, 12] (.seq (.reg [.o 17 (.mov (.t 0)),
 .o 18 (.mov (.t 9)),
 .o 19 (.callF F_run_runner_do [(.t 17), (.t 18)]),
 .o 16 (.mov (.t 19)),
 .o 20 (.extract (.t 16) 0),
 .o 21 (.extract (.t 16) 1),
 .o 6 (.mov (.t 20)),
 .o 7 (.mov (.t 21))])
 (.keep [0, 6, 7, 10, 11, 12] (.seq (.reg [.o 22 (.mov (.t 7)),
 .o 23 (.eq true .ifc (.t 22) (.c (.nilI)))])
 (.keep [0, 6, 7, 10, 11, 12, 23] (.cond (.t 23)
 (.seq (.reg [.o 24 (.mov (.t 7)),
 .o 4 (.mov (.c (.int .i64 0))),
 .o 5 (.mov (.t 24))])
 (.ret))
 (.skip)))))))))
 (.keep [0, 6, 10, 11, 12] (.reg [.o 25 (.bin .add (.t 12) (.c (.int .i64 1))),
 .o 12 (.mov (.t 25))])))))))
def c_run_runner_seq : ACode :=
 .seq (.reg [.o 4 (.mov (.c (.int .i64 0))),
 .o 5 (.mov (.c (.nilI)))])
 (.keep [0, 1] (.seq (.reg [.o 6 (.mov (.c (.int .i64 0)))])
 (.keep [0, 1, 6] (.seq (.reg [.o 7 (.mov (.c (.nilI)))])
 (.keep [0, 1, 6] (.seq (.seq (.reg [.o 10 (.mov (.t 1)),
 .o 11 (.len false (.t 10)),
 .o 12 (.mov (.c (.int .i64 0)))])
 (.keep [0, 6, 10, 11, 12] (.block 0 (.loop c_run_runner_seq_l0))))
 (.keep [6] (.seq (.reg [.o 26 (.mov (.t 6)),
 .o 4 (.mov (.t 26)),
 .o 5 (.mov (.c (.nilI)))])
 (.ret)))))))))
def a_run_runner_seq : AFun := ⟨2, c_run_runner_seq, [.tmp 4, .tmp 5]⟩

/- (*patois/run.runner).while -/
def c_run_runner_while_l0 : ACode :=
 .keep [0, 1, 6] (.block 1 (.seq (.seq (.reg [.o 10 (.mov (.t 0)),
 .o 11 (.callF F_run_runner_step [(.t 10)]),
 .o 7 (.mov (.t 11))])
 (.keep [0, 1, 6, 7] (.seq (.reg [.o 12 (.mov (.t 7)),
 .o 13 (.eq true .ifc (.t 12) (.c (.nilI)))])
 (.keep [0, 1, 6, 7, 13] (.cond (.t 13)
 (.seq (.reg [.o 14 (.mov (.t 7)),
 .o 4 (.mov (.c (.int .i64 0))),
 .o 5 (.mov (.t 14))])
 (.ret))
 (.skip))))))
 (.keep [0, 1, 6] (.seq (.reg [.o 16 (.mov (.t 0)),
 .o 17 (.mov (.t 1)),
 .o 18 (.indexA 1 (.t 17) (.c (.int .i64 0))),
 .o 19 (.load 1 false (.t 18)),
 .o 20 (.callF F_run_runner_do [(.t 16), (.t 19)]),
 .o 15 (.mov (.t 20)),
 .o 21 (.extract (.t 15) 0),
 .o 22 (.extract (.t 15) 1),
 .o 8 (.mov (.t 21)),
 .o 9 (.mov (.t 22))])
 (.keep [0, 1, 6, 8, 9] (.seq (.seq (.reg [.o 23 (.mov (.t 9)),
 .o 24 (.eq true .ifc (.t 23) (.c (.nilI)))])
 (.keep [0, 1, 6, 8, 9, 24] (.cond (.t 24)
 (.seq (.reg [.o 25 (.mov (.t 9)),
 .o 4 (.mov (.c (.int .i64 0))),
 .o 5 (.mov (.t 25))])
 (.ret))
 (.skip))))
 (.keep [0, 1, 6, 8] (.seq (.seq (.reg [.o 26 (.mov (.t 8)),
 .o 27 (.bin .neq (.t 26) (.c (.int .i64 0)))])
 (.keep [0, 1, 6, 27] (.cond (.t 27)
 (.seq (.reg [.o 28 (.mov (.t 6)),
 .o 4 (.mov (.t 28)),
 .o 5 (.mov (.c (.nilI)))])
 (.ret))
 (.skip))))
 (.keep [0, 1] (.seq (.reg [.o 30 (.mov (.t 0)),
 .o 31 (.mov (.t 1)),
 .o 32 (.indexA 1 (.t 31) (.c (.int .i64 1))),
 .o 33 (.load 1 false (.t 32)),
 .o 34 (.callF F_run_runner_do [(.t 30), (.t 33)]),
 .o 29 (.mov (.t 34)),
 .o 35 (.extract (.t 29) 0),
 .o 36 (.extract (.t 29) 1),
 .o 6 (.mov (.t 35)),
 .o 9 (.mov (.t 36))])
 (.keep [0, 1, 6, 9] (.seq (.reg [.o 37 (.mov (.t 9)),
 .o 38 (.eq true .ifc (.t 37) (.c (.nilI)))])
 (.keep [0, 1, 6, 9, 38] (.cond (.t 38)
 (.seq (.reg [.o 39 (.mov (.t 9)),
 .o 4 (.mov (.c (.int .i64 0))),
 .o 5 (.mov (.t 39))])
 (.ret))
 (.skip)))))))))))))))
def c_run_runner_while : ACode :=
 .seq (.reg [.o 4 (.mov (.c (.int .i64 0))),
 .o 5 (.mov (.c (.nilI)))])
 (.keep [0, 1] (.seq (.reg [.o 6 (.mov (.c (.int .i64 0)))])
 (.keep [0, 1, 6] (.block 0 (.loop c_run_runner_while_l0)))))
def a_run_runner_while : AFun := ⟨2, c_run_runner_while, [.tmp 4, .tmp 5]⟩

/- (*patois/run.runner).step -/
def c_run_runner_step : ACode :=
 .seq (.reg [.o 2 (.mov (.c (.nilI)))])
 (.keep [0] (.seq (.seq (.dreg [⟨0, .o 3 (.mov (.t 0)), [], []⟩,
 ⟨1, .o 4 (.nilchk (.t 3)), [0], []⟩,
 ⟨2, .o 5 (.fieldA 8 (.t 4)), [0, 1], []⟩,
 ⟨3, .o 6 (.load 1 false (.t 5)), [0, 1, 2], []⟩,
 ⟨4, .o 7 (.mov (.t 0)), [], []⟩,
 ⟨5, .o 8 (.nilchk (.t 7)), [4], []⟩,
 ⟨6, .o 9 (.fieldA 2 (.t 8)), [4, 5], []⟩,
 ⟨7, .o 10 (.fieldA 1 (.t 9)), [4, 5, 6], []⟩,
 ⟨8, .o 11 (.load 1 false (.t 10)), [4, 5, 6, 7], []⟩,
 ⟨9, .o 12 (.bin .geq (.t 6) (.t 11)), [0, 1, 2, 3, 4, 5, 6, 7, 8], []⟩])
 (.keep [0, 12] (.cond (.t 12)
 (.seq (.reg [.o 13 (.load 1 false (.g G_api_ErrFuel)),
 .o 2 (.mov (.t 13))])
 (.ret))
 (.skip))))
 (.keep [0] (.seq (.reg [.o 14 (.mov (.t 0)),
 .o 15 (.nilchk (.t 14)),
 .o 16 (.fieldA 8 (.t 15)),
 .o 17 (.load 1 false (.t 16)),
 .o 18 (.bin .add (.t 17) (.c (.int .i64 1))),
 .o 19 (.nilchk (.t 14)),
 .o 20 (.fieldA 8 (.t 19)),
 .n (.store 1 (.t 20) (.t 18))])
 (.keep [] (.seq (.reg [.o 2 (.mov (.c (.nilI)))])
 (.ret)))))))
def a_run_runner_step : AFun := ⟨1, c_run_runner_step, [.tmp 2]⟩

/- (*patois/run.runner).together -/
def c_run_runner_together_l0 : ACode :=
 .keep [0, 2, 8, 14, 15, 16] (.seq (.reg [.o 17 (.bin .lss (.t 16) (.t 15))])
 (.keep [0, 2, 8, 14, 15, 16, 17] (.seq (.cond (.t 17)
 (.skip)
 (.exit 0))
 (.keep [0, 2, 8, 14, 15, 16] (.seq (.block 1 (.seq (.reg [.o 18 (.indexA 1 (.t 14) (.t 16)),
 .o 19 (.load 1 false (.t 18)),
 .o 10 (.mov (.t 19))])
 (.keep [0, 2, 8, 10, 14, 15, 16] (.seq (.reg [.o 21 (.mov (.t 0)),
 .o 22 (.mov (.t 10)),
 .o 23 (.callF F_run_runner_word [(.t 21), (.t 22)]),
 .o 20 (.mov (.t 23)),
 .o 24 (.extract (.t 20) 0),
 .o 25 (.extract (.t 20) 1),
 .o 11 (.mov (.t 24)),
 .o 12 (.mov (.t 25))])
 (.keep [0, 2, 8, 11, 12, 14, 15, 16] (.seq (.seq (.reg [.o 26 (.mov (.t 12)),
 .o 27 (.eq true .ifc (.t 26) (.c (.nilI)))])
 (.keep [0, 2, 8, 11, 12, 14, 15, 16, 27] (.cond (.t 27)
 (.seq (.reg [.o 28 (.mov (.t 12)),
 .o 6 (.mov (.c (.sl none 1 0 (some 0)))),
 .o 7 (.mov (.t 28))])
 (.ret))
 (.skip))))
 (.keep [0, 2, 8, 11, 14, 15, 16] (.seq (.reg [.o 30 (.mov (.t 2)),
 .o 31 (.mov (.t 8)),
 .o 32 (.mov (.t 11)),
 .o 33 (.bslice false 1 1 [.sl none 1 0 (some 0)] [(0, 1, (.t 32))]),
 .o 34 (.append true 1 24 (.t 31) (.t 33)),
 .o 35 (.callV (.t 30) [(.t 34)]),
 .o 29 (.mov (.t 35)),
 .o 36 (.extract (.t 29) 0),
 .o 37 (.extract (.t 29) 1),
 .o 13 (.mov (.t 36)),
 .o 12 (.mov (.t 37))])
 (.keep [0, 2, 12, 13, 14, 15, 16] (.seq (.seq (.reg [.o 38 (.mov (.t 12)),
 .o 39 (.eq true .ifc (.t 38) (.c (.nilI)))])
 (.keep [0, 2, 12, 13, 14, 15, 16, 39] (.cond (.t 39)
 (.seq (.reg [.o 40 (.mov (.t 12)),
 .o 6 (.mov (.c (.sl none 1 0 (some 0)))),
 .o 7 (.mov (.t 40))])
 (.ret))
 (.skip))))
 (.keep [0, 2, 13, 14, 15, 16] (.reg [.o 41 (.mov (.t 13)),
 .o 42 (.bslice false 1 1 [.sl none 1 0 (some 0)] [(0, 1, (.t 41))]),
 .o 8 (.mov (.t 42))]))))))))))))
 (.keep [0, 2, 8, 14, 15, 16] (.reg [.o 43 (.bin .add (.t 16) (.c (.int .i64 1))),
 .o 16 (.mov (.t 43))])))))))
def c_run_runner_together : ACode :=
 .seq (.reg [.o 6 (.mov (.c (.sl none 1 0 (some 0)))),
 .o 7 (.mov (.c (.nilI)))])
 (.keep [0, 1, 2] (.seq (.reg [.o 8 (.mov (.c (.sl none 1 0 (some 0))))])
 (.keep [0, 1, 2, 8] (.seq (.seq (.reg [.o 14 (.mov (.t 1)),
 .o 15 (.len false (.t 14)),
 .o 16 (.mov (.c (.int .i64 0)))])
 (.keep [0, 2, 8, 14, 15, 16] (.block 0 (.loop c_run_runner_together_l0))))
 (.keep [2, 8] (.seq (.reg [.o 44 (.mov (.t 2)),
 .o 45 (.mov (.t 8)),
 .o 46 (.callV (.t 44) [(.t 45)]),
 .o 47 (.extract (.t 46) 0),
 .o 48 (.extract (.t 46) 1),
 .o 6 (.mov (.t 47)),
 .o 7 (.mov (.t 48))])
 (.ret)))))))
def a_run_runner_together : AFun := ⟨3, c_run_runner_together, [.tmp 6, .tmp 7]⟩

/- patois/lists.Cat -/
def c_lists_Cat_l0 : ACode :=
 .keep [4, 7, 8, 9] (.seq (.reg [.o 10 (.bin .lss (.t 9) (.t 8))])
 (.keep [4, 7, 8, 9, 10] (.seq (.cond (.t 10)
 (.skip)
 (.exit 0))
 (.keep [4, 7, 8, 9] (.seq (.block 1 (.seq (.reg [.o 11 (.indexA 1 (.t 7) (.t 9)),
 .o 12 (.load 1 false (.t 11)),
 .o 6 (.mov (.t 12))])
 (.keep [4, 6, 7, 8, 9] (.seq (.reg [.o 13 (.mov (.t 4)),
 .o 14 (.mov (.t 6)),
 .o 15 (.append true 1 16 (.t 13) (.t 14)),
 .o 4 (.mov (.t 15))])
 (.keep [4, 7, 8, 9] (.seq (.reg [.o 16 (.pick (.c (.bool true)) (.t 4) (.t 4)),
 .o 17 (.len false (.t 16)),
 .o 18 (.bin .gtr (.t 17) (.c (.int .i64 100)))])
 (.keep [4, 7, 8, 9, 18] (.cond (.t 18)
 (.seq (.dreg [⟨0, .o 19 (.load 1 false (.g G_api_ErrBig)), [], []⟩,
 ⟨1, .o 2 (.mov (.c (.sl none 1 0 (some 0)))), [], []⟩,
 ⟨2, .o 3 (.mov (.t 19)), [0, 1], []⟩])
 (.ret))
 (.skip)))))))))
 (.keep [4, 7, 8, 9] (.reg [.o 20 (.bin .add (.t 9) (.c (.int .i64 1))),
 .o 9 (.mov (.t 20))])))))))
def c_lists_Cat : ACode :=
 .seq (.reg [.o 2 (.mov (.c (.sl none 1 0 (some 0)))),
 .o 3 (.mov (.c (.nilI)))])
 (.keep [0] (.seq (.reg [.o 4 (.mov (.c (.sl none 1 0 (some 0))))])
 (.keep [0, 4] (.seq (.seq (.reg [.o 7 (.pick (.c (.bool true)) (.t 0) (.t 0)),
 .o 8 (.len false (.t 7)),
 .o 9 (.mov (.c (.int .i64 0)))])
 (.keep [4, 7, 8, 9] (.block 0 (.loop c_lists_Cat_l0))))
 (.keep [4] (.seq (.reg [.o 21 (.mov (.t 4)),
 .o 22 (.callF F_lists_bound [(.t 21)]),
 .o 23 (.extract (.t 22) 0),
 .o 24 (.extract (.t 22) 1),
 .o 2 (.mov (.t 23)),
 .o 3 (.mov (.t 24))])
 (.ret)))))))
def a_lists_Cat : AFun := ⟨1, c_lists_Cat, [.tmp 2, .tmp 3]⟩

/- (*patois/run.runner).call -/
def c_run_runner_call : ACode :=
 .seq (.reg [.o 4 (.mov (.c (.int .i64 0))),
 .o 5 (.mov (.c (.nilI)))])
 (.keep [0, 1] (.seq (.seq (.reg [.o 13 (.mov (.t 1)),
 .o 14 (.len false (.t 13)),
 .o 15 (.bin .eql (.t 14) (.c (.int .i64 0)))])
 (.keep [0, 1, 15] (.cond (.t 15)
 (.seq (.reg [.o 4 (.mov (.c (.int .i64 0))),
 .o 5 (.mov (.c (.nilI)))])
 (.ret))
 (.skip))))
 (.keep [0, 1] (.seq (.dreg [⟨0, .o 16 (.mov (.t 1)), [], []⟩,
 ⟨1, .o 17 (.indexA 1 (.t 16) (.c (.int .i64 0))), [0], []⟩,
 ⟨2, .o 18 (.load 1 false (.t 17)), [0, 1], []⟩,
 ⟨3, .o 19 (.mov (.t 1)), [], []⟩,
 ⟨4, .o 20 (.slc 1 (.t 19) (some (.c (.int .i64 1))) none), [3], []⟩,
 ⟨5, .o 6 (.mov (.t 18)), [0, 1, 2], []⟩,
 ⟨6, .o 7 (.mov (.t 20)), [0, 1, 2, 3, 4, 5], []⟩])
 (.keep [0, 6, 7] (.seq (.seq (.reg [.o 22 (.mov (.t 0)),
 .o 23 (.nilchk (.t 22)),
 .o 24 (.fieldA 1 (.t 23)),
 .o 25 (.load 1 false (.t 24)),
 .o 26 (.nilchk (.t 25)),
 .o 27 (.fieldA 2 (.t 26)),
 .o 28 (.mov (.t 6)),
 .o 29 (.callF F_store_functions_Fun [(.t 27), (.t 28)]),
 .o 21 (.mov (.t 29)),
 .o 30 (.extract (.t 21) 0),
 .o 31 (.extract (.t 21) 1),
 .o 8 (.mov (.t 30)),
 .o 9 (.mov (.t 31))])
 (.keep [0, 6, 7, 8, 9] (.seq (.reg [.o 32 (.mov (.t 9))])
 (.keep [0, 6, 7, 8, 32] (.cond (.t 32)
 (.seq (.reg [.o 33 (.mov (.t 0)),
 .o 34 (.mov (.t 7)),
 .o 35 (.mov (.t 8)),
 .o 36 (.callF F_run_runner_frame [(.t 33), (.t 34), (.t 35)]),
 .o 37 (.extract (.t 36) 0),
 .o 38 (.extract (.t 36) 1),
 .o 4 (.mov (.t 37)),
 .o 5 (.mov (.t 38))])
 (.ret))
 (.skip))))))
 (.keep [0, 6, 7] (.seq (.reg [.o 40 (.mov (.t 6)),
 .o 41 (.mov (.t 0)),
 .o 42 (.nilchk (.t 41)),
 .o 43 (.fieldA 10 (.t 42)),
 .o 44 (.load 1 false (.t 43)),
 .o 45 (.mov (.t 7)),
 .o 46 (.callF F_builtin_Do [(.t 40), (.t 44), (.t 45)]),
 .o 39 (.mov (.t 46)),
 .o 47 (.extract (.t 39) 0),
 .o 48 (.extract (.t 39) 1),
 .o 10 (.alloc [.str [], .str [], .int .i64 0, .str [], .str [], .bool false]),
 .n (.store 6 (.t 10) (.t 47)),
 .o 11 (.mov (.t 48))])
 (.keep [0, 6, 7, 10, 11] (.seq (.seq (.reg [.o 49 (.mov (.t 11)),
 .o 50 (.not (.t 49))])
 (.keep [0, 6, 7, 10, 50] (.cond (.t 50)
 (.seq (.reg [.o 51 (.mov (.t 0)),
 .o 52 (.mov (.t 6)),
 .o 53 (.mov (.t 7)),
 .o 54 (.callF F_run_runner_exec [(.t 51), (.t 52), (.t 53)]),
 .o 55 (.extract (.t 54) 0),
 .o 56 (.extract (.t 54) 1),
 .o 4 (.mov (.t 55)),
 .o 5 (.mov (.t 56))])
 (.ret))
 (.skip))))
 (.keep [0, 10] (.seq (.seq (.reg [.o 57 (.mov (.t 0)),
 .o 58 (.fieldA 0 (.t 10)),
 .o 59 (.load 1 false (.t 58)),
 .o 60 (.callF F_run_runner_say [(.t 57), (.t 59)]),
 .o 12 (.mov (.t 60))])
 (.keep [0, 10, 12] (.seq (.reg [.o 61 (.mov (.t 12)),
 .o 62 (.eq true .ifc (.t 61) (.c (.nilI)))])
 (.keep [0, 10, 12, 62] (.cond (.t 62)
 (.seq (.reg [.o 63 (.mov (.t 12)),
 .o 4 (.mov (.c (.int .i64 0))),
 .o 5 (.mov (.t 63))])
 (.ret))
 (.skip))))))
 (.keep [0, 10] (.seq (.reg [.o 64 (.mov (.t 0)),
 .o 65 (.fieldA 1 (.t 10)),
 .o 66 (.load 1 false (.t 65)),
 .o 67 (.nilchk (.t 64)),
 .o 68 (.fieldA 10 (.t 67)),
 .n (.store 1 (.t 68) (.t 66))])
 (.keep [0, 10] (.seq (.seq (.reg [.o 69 (.fieldA 3 (.t 10)),
 .o 70 (.load 1 false (.t 69)),
 .o 71 (.bin .neq (.t 70) (.c (.str [])))])
 (.keep [0, 10, 71] (.cond (.t 71)
 (.seq (.seq (.reg [.o 72 (.fieldA 4 (.t 10)),
 .o 73 (.load 1 false (.t 72)),
 .o 74 (.len true (.t 73)),
 .o 75 (.bin .gtr (.t 74) (.c (.int .i64 2000)))])
 (.keep [0, 10, 75] (.cond (.t 75)
 (.seq (.dreg [⟨0, .o 76 (.load 1 false (.g G_api_ErrBig)), [], []⟩,
 ⟨1, .o 4 (.mov (.c (.int .i64 0))), [], []⟩,
 ⟨2, .o 5 (.mov (.t 76)), [0, 1], []⟩])
 (.ret))
 (.skip))))
 (.keep [0, 10] (.dreg [⟨0, .o 77 (.mov (.t 0)), [], []⟩,
 ⟨1, .o 78 (.nilchk (.t 77)), [0], []⟩,
 ⟨2, .o 79 (.fieldA 1 (.t 78)), [0, 1], []⟩,
 ⟨3, .o 80 (.load 1 false (.t 79)), [0, 1, 2], []⟩,
 ⟨4, .o 81 (.nilchk (.t 80)), [0, 1, 2, 3], []⟩,
 ⟨5, .o 82 (.fieldA 0 (.t 81)), [0, 1, 2, 3, 4], []⟩,
 ⟨6, .o 83 (.fieldA 3 (.t 10)), [], []⟩,
 ⟨7, .o 84 (.load 1 false (.t 83)), [6], []⟩,
 ⟨8, .o 85 (.fieldA 4 (.t 10)), [], []⟩,
 ⟨9, .o 86 (.load 1 false (.t 85)), [8], []⟩,
 ⟨10, .o 87 (.bslice false 1 1 [.str []] [(0, 1, (.t 86))]), [8, 9], []⟩,
 ⟨11, .o 88 (.callF F_store_values_Set [(.t 82), (.t 84), (.t 87)]), [0, 1, 2, 3, 4, 5, 6, 7, 8, 9, 10], []⟩])))
 (.skip))))
 (.keep [10] (.seq (.seq (.reg [.o 89 (.fieldA 5 (.t 10)),
 .o 90 (.load 1 false (.t 89))])
 (.keep [10, 90] (.cond (.t 90)
 (.seq (.dreg [⟨0, .o 91 (.fieldA 2 (.t 10)), [], []⟩,
 ⟨1, .o 92 (.load 1 false (.t 91)), [0], []⟩,
 ⟨2, .o 93 (.build [.int .i64 0] [(0, 1, (.t 92))]), [0, 1], []⟩,
 ⟨3, .o 94 (.box (.t 93)), [0, 1, 2], []⟩,
 ⟨4, .o 95 (.mkIfc Ty_prun_end (.t 94)), [0, 1, 2, 3], []⟩,
 ⟨5, .o 4 (.mov (.c (.int .i64 0))), [], []⟩,
 ⟨6, .o 5 (.mov (.t 95)), [0, 1, 2, 3, 4, 5], []⟩])
 (.ret))
 (.skip))))
 (.keep [10] (.seq (.reg [.o 96 (.fieldA 2 (.t 10)),
 .o 97 (.load 1 false (.t 96)),
 .o 4 (.mov (.t 97)),
 .o 5 (.mov (.c (.nilI)))])
 (.ret)))))))))))))))))))))
def a_run_runner_call : AFun := ⟨2, c_run_runner_call, [.tmp 4, .tmp 5]⟩

/- (*patois/store.functions).SetFun -/
def c_store_functions_SetFun : ACode :=
 .dreg [⟨0, .o 6 (.mov (.t 0)), [], []⟩,
 ⟨1, .o 7 (.nilchk (.t 6)), [0], []⟩,
 ⟨2, .o 8 (.fieldA 0 (.t 7)), [0, 1], []⟩,
 ⟨3, .o 9 (.load 1 false (.t 8)), [0, 1, 2], []⟩,
 ⟨4, .o 10 (.mov (.t 1)), [], []⟩,
 ⟨5, .o 11 (.mov (.t 2)), [], []⟩,
 ⟨6, .o 12 (.callF F_slices_Clone_api_Node_api_Node [(.t 11)]), [5], [3]⟩,
 ⟨7, .n (.mset (.t 9) (.t 10) (.t 12)), [0, 1, 2, 3, 4, 5, 6], []⟩]
def a_store_functions_SetFun : AFun := ⟨3, c_store_functions_SetFun, []⟩

/- (*patois/run.runner).pipe -/
def c_run_runner_pipe_l0 : ACode :=
 .keep [1, 2, 6, 7, 8, 22, 23, 24] (.seq (.reg [.o 25 (.bin .lss (.t 24) (.t 23))])
 (.keep [1, 2, 6, 7, 8, 22, 23, 24, 25] (.seq (.cond (.t 25)
 (.skip)
 (.exit 0))
 (.keep [1, 2, 6, 7, 8, 22, 23, 24] (.seq (.block 1 (.seq (.reg [.o 26 (.mov (.t 24)),
 .o 27 (.indexA 1 (.t 22) (.t 24)),
 .o 28 (.load 1 false (.t 27)),
 .o 10 (.alloc [.sl none 5 0 (some 0)]),
 .o 9 (.mov (.t 26)),
 .n (.store 1 (.t 10) (.t 28))])
 (.keep [1, 2, 6, 7, 8, 9, 10, 22, 23, 24] (.seq (.seq (.reg [.o 29 (.mov (.t 9)),
 .o 30 (.bin .gtr (.t 29) (.c (.int .i64 0)))])
 (.keep [1, 2, 6, 7, 8, 9, 10, 22, 23, 24, 30] (.cond (.t 30)
 (.reg [.o 31 (.load 1 false (.t 2)),
 .o 32 (.mov (.t 6)),
 .o 33 (.nilchk (.t 31)),
 .o 34 (.fieldA 10 (.t 33)),
 .n (.store 1 (.t 34) (.t 32))])
 (.skip))))
 (.keep [1, 2, 6, 7, 8, 9, 10, 22, 23, 24] (.seq (.reg [.o 35 (.mkFn F_run_runner_pipe_1 [(.t 2), (.t 10), (.t 8)]),
 .o 11 (.mov (.t 35))])
 (.keep [1, 2, 6, 7, 8, 9, 11, 22, 23, 24] (.seq (.reg [.o 12 (.mov (.c (.nilI)))])
 (.keep [1, 2, 6, 7, 8, 9, 11, 22, 23, 24] (.seq (.seq (.reg [.o 36 (.mov (.t 9)),
 .o 37 (.mov (.t 1)),
 .o 38 (.len false (.t 37)),
 .o 39 (.bin .sub (.t 38) (.c (.int .i64 1))),
 .o 40 (.bin .lss (.t 36) (.t 39))])
 (.keep [1, 2, 6, 7, 8, 9, 11, 22, 23, 24, 40] (.cond (.t 40)
 (.reg [.o 42 (.load 1 false (.t 2)),
 .o 43 (.mov (.t 11)),
 .o 44 (.callF F_run_runner_catch [(.t 42), (.t 43)]),
 .o 41 (.mov (.t 44)),
 .o 45 (.extract (.t 41) 0),
 .o 46 (.extract (.t 41) 1),
 .o 6 (.mov (.t 45)),
 .o 12 (.mov (.t 46))])
 (.reg [.o 47 (.mov (.t 11)),
 .o 48 (.callV (.t 47) []),
 .o 12 (.mov (.t 48))]))))
 (.keep [1, 2, 6, 7, 8, 9, 12, 22, 23, 24] (.seq (.seq (.reg [.o 49 (.mov (.t 12)),
 .o 50 (.eq true .ifc (.t 49) (.c (.nilI)))])
 (.keep [1, 2, 6, 7, 8, 9, 12, 22, 23, 24, 50] (.cond (.t 50)
 (.seq (.reg [.o 51 (.mov (.t 12)),
 .o 4 (.mov (.c (.int .i64 0))),
 .o 5 (.mov (.t 51))])
 (.ret))
 (.skip))))
 (.keep [1, 2, 6, 7, 8, 9, 22, 23, 24] (.seq (.reg [.o 52 (.mov (.t 9)),
 .o 53 (.bin .eql (.t 52) (.c (.int .i64 0)))])
 (.keep [1, 2, 6, 7, 8, 22, 23, 24, 53] (.cond (.t 53)
 (.reg [.o 54 (.load 1 false (.t 2)),
 .o 55 (.nilchk (.t 54)),
 .o 56 (.fieldA 10 (.t 55)),
 .o 57 (.load 1 false (.t 56)),
 .o 7 (.mov (.t 57))])
 (.skip)))))))))))))))))
 (.keep [1, 2, 6, 7, 8, 22, 23, 24] (.reg [.o 58 (.bin .add (.t 24) (.c (.int .i64 1))),
 .o 24 (.mov (.t 58))])))))))
def c_run_runner_pipe : ACode :=
 .seq (.reg [.o 2 (.box (.t 0)),
 .o 4 (.mov (.c (.int .i64 0))),
 .o 5 (.mov (.c (.nilI)))])
 (.keep [1, 2] (.seq (.reg [.o 13 (.load 1 false (.t 2)),
 .o 14 (.nilchk (.t 13)),
 .o 15 (.fieldA 0 (.t 14)),
 .o 16 (.load 1 false (.t 15)),
 .o 17 (.nilchk (.t 16)),
 .o 18 (.fieldA 0 (.t 17)),
 .o 19 (.mov (.t 1)),
 .o 20 (.len false (.t 19)),
 .o 21 (.callF F_world_asked_Mark [(.t 18), (.c (.int .i64 4)), (.t 20)])])
 (.keep [1, 2] (.seq (.reg [.o 8 (.alloc [.int .i64 0]),
 .o 6 (.mov (.c (.str []))),
 .o 7 (.mov (.c (.str []))),
 .n (.store 1 (.t 8) (.c (.int .i64 0)))])
 (.keep [1, 2, 6, 7, 8] (.seq (.seq (.reg [.o 22 (.mov (.t 1)),
 .o 23 (.len false (.t 22)),
 .o 24 (.mov (.c (.int .i64 0)))])
 (.keep [1, 2, 6, 7, 8, 22, 23, 24] (.block 0 (.loop c_run_runner_pipe_l0))))
 (.keep [1, 2, 7, 8] (.seq (.reg [.o 59 (.load 1 false (.t 2)),
 .o 60 (.mov (.t 7)),
 .o 61 (.nilchk (.t 59)),
 .o 62 (.fieldA 10 (.t 61)),
 .n (.store 1 (.t 62) (.t 60))])
 (.keep [1, 2, 8] (.seq (.reg [.o 63 (.load 1 false (.t 2)),
 .o 64 (.nilchk (.t 63)),
 .o 65 (.fieldA 0 (.t 64)),
 .o 66 (.load 1 false (.t 65)),
 .o 67 (.nilchk (.t 66)),
 .o 68 (.fieldA 0 (.t 67)),
 .o 69 (.mov (.t 1)),
 .o 70 (.len false (.t 69)),
 .o 71 (.callF F_world_asked_Mark [(.t 68), (.c (.int .i64 6)), (.t 70)])])
 (.keep [8] (.seq (.reg [.o 72 (.load 1 false (.t 8)),
 .o 4 (.mov (.t 72)),
 .o 5 (.mov (.c (.nilI)))])
 (.ret)))))))))))))
def a_run_runner_pipe : AFun := ⟨2, c_run_runner_pipe, [.tmp 4, .tmp 5]⟩

/- patois/world.copied -/
def c_world_copied_l0 : ACode :=
 .keep [3, 6, 7, 8] (.seq (.reg [.o 9 (.bin .lss (.t 8) (.t 7))])
 (.keep [3, 6, 7, 8, 9] (.seq (.cond (.t 9)
 (.skip)
 (.exit 0))
 (.keep [3, 6, 7, 8] (.seq (.block 1 (.seq (.reg [.o 10 (.indexA 5 (.t 6) (.t 8)),
 .o 11 (.load 5 true (.t 10)),
 .o 5 (.alloc [.int .i64 0, .int .i64 0, .str [], .str [], .sl none 1 0 none]),
 .n (.store 5 (.t 5) (.t 11))])
 (.keep [3, 5, 6, 7, 8] (.seq (.reg [.o 12 (.fieldA 4 (.t 5)),
 .o 13 (.load 1 false (.t 12)),
 .o 14 (.callF F_slices_Clone_string_string [(.t 13)]),
 .o 15 (.fieldA 4 (.t 5)),
 .n (.store 1 (.t 15) (.t 14))])
 (.keep [3, 5, 6, 7, 8] (.reg [.o 16 (.mov (.t 3)),
 .o 17 (.load 5 true (.t 5)),
 .o 18 (.bslice true 5 1 [.int .i64 0, .int .i64 0, .str [], .str [], .sl none 1 0 none] [(0, 5, (.t 17))]),
 .o 19 (.append false 5 72 (.t 16) (.t 18)),
 .o 3 (.mov (.t 19))]))))))
 (.keep [3, 6, 7, 8] (.reg [.o 20 (.bin .add (.t 8) (.c (.int .i64 1))),
 .o 8 (.mov (.t 20))])))))))
def c_world_copied : ACode :=
 .seq (.reg [.o 2 (.mov (.c (.sl none 5 0 none)))])
 (.keep [0] (.seq (.reg [.o 3 (.mov (.c (.sl none 5 0 none)))])
 (.keep [0, 3] (.seq (.seq (.reg [.o 6 (.mov (.t 0)),
 .o 7 (.len false (.t 6)),
 .o 8 (.mov (.c (.int .i64 0)))])
 (.keep [3, 6, 7, 8] (.block 0 (.loop c_world_copied_l0))))
 (.keep [3] (.seq (.reg [.o 21 (.mov (.t 3)),
 .o 2 (.mov (.t 21))])
 (.ret)))))))
def a_world_copied : AFun := ⟨1, c_world_copied, [.tmp 2]⟩

/- maps.Keys[map[string][]string,string,[]string] -/
def c_maps_Keys_map_string_string_string_string : ACode :=
 .seq (.reg [.o 1 (.box (.t 0)),
 .o 2 (.mov (.c (.nilFn)))])
 (.keep [1] (.seq (.reg [.o 3 (.mkFn F_maps_Keys_map_string_string_string_string_1 [(.t 1)]),
 .o 2 (.mov (.t 3))])
 (.ret)))
def a_maps_Keys_map_string_string_string_string : AFun := ⟨1, c_maps_Keys_map_string_string_string_string, [.tmp 2]⟩

/- slices.Clone[[]string,string] -/
def c_slices_Clone_string_string : ACode :=
 .seq (.reg [.o 2 (.mov (.c (.sl none 1 0 (some 0))))])
 (.keep [0] (.seq (.seq (.reg [.o 3 (.mov (.t 0)),
 .o 4 (.eq false .nilS (.t 3) (.c (.sl none 1 0 (some 0))))])
 (.keep [0, 4] (.cond (.t 4)
 (.seq (.reg [.o 2 (.mov (.c (.sl none 1 0 (some 0))))])
 (.ret))
 (.skip))))
 (.keep [0] (.seq (.reg [.o 5 (.bslice false 1 0 [] []),
 .o 6 (.mov (.t 0)),
 .o 7 (.append true 1 16 (.t 5) (.t 6)),
 .o 2 (.mov (.t 7))])
 (.ret)))))
def a_slices_Clone_string_string : AFun := ⟨1, c_slices_Clone_string_string, [.tmp 2]⟩

/- slices.Clone[[]patois/api.File,patois/api.File] -/
def c_slices_Clone_api_File_api_File : ACode :=
 .seq (.reg [.o 2 (.mov (.c (.sl none 2 0 none)))])
 (.keep [0] (.seq (.seq (.reg [.o 3 (.mov (.t 0)),
 .o 4 (.eq false .nilS (.t 3) (.c (.sl none 1 0 none)))])
 (.keep [0, 4] (.cond (.t 4)
 (.seq (.reg [.o 2 (.mov (.c (.sl none 2 0 none)))])
 (.ret))
 (.skip))))
 (.keep [0] (.seq (.reg [.o 5 (.bslice true 2 0 [] []),
 .o 6 (.mov (.t 0)),
 .o 7 (.append false 2 32 (.t 5) (.t 6)),
 .o 2 (.mov (.t 7))])
 (.ret)))))
def a_slices_Clone_api_File_api_File : AFun := ⟨1, c_slices_Clone_api_File_api_File, [.tmp 2]⟩

/- patois/core.Word -/
def c_core_Word : ACode :=
 .seq (.reg [.o 2 (.mov (.c (.bool false)))])
 (.keep [0] (.seq (.reg [.o 3 (.mov (.t 0)),
 .o 4 (.bin .geq (.t 3) (.c (.int .i64 1))),
 .o 5 (.mov (.t 4)),
 .g (some 6) 5 true (.mov (.t 0)),
 .g (some 7) 5 true (.bin .leq (.t 6) (.c (.int .i64 12))),
 .o 8 (.pick (.t 5) (.t 7) (.c (.bool false))),
 .o 2 (.mov (.t 8))])
 (.ret)))
def a_core_Word : AFun := ⟨1, c_core_Word, [.tmp 2]⟩

/- patois/core.Command -/
def c_core_Command : ACode :=
 .seq (.reg [.o 2 (.mov (.c (.bool false)))])
 (.keep [0] (.seq (.reg [.o 3 (.mov (.t 0)),
 .o 4 (.bin .geq (.t 3) (.c (.int .i64 20))),
 .o 5 (.mov (.t 4)),
 .g (some 6) 5 true (.mov (.t 0)),
 .g (some 7) 5 true (.bin .leq (.t 6) (.c (.int .i64 37))),
 .o 8 (.pick (.t 5) (.t 7) (.c (.bool false))),
 .o 2 (.mov (.t 8))])
 (.ret)))
def a_core_Command : AFun := ⟨1, c_core_Command, [.tmp 2]⟩

/- patois/core.fields -/
def c_core_fields : ACode :=
 .seq (.reg [.o 1 (.box (.t 0)),
 .o 2 (.mov (.c (.bool false)))])
 (.keep [1] (.seq (.block 0 (.seq (.reg [.o 4 (.fieldA 0 (.t 1)),
 .o 5 (.load 1 false (.t 4)),
 .o 6 (.bin .eql (.t 5) (.c (.int .i64 1))),
 .o 3 (.mov (.t 6))])
 (.keep [1, 3] (.cond (.t 3)
 (.seq (.reg [.o 7 (.fieldA 1 (.t 1)),
 .o 8 (.load 1 false (.t 7)),
 .o 9 (.bin .eql (.t 8) (.c (.int .i64 0))),
 .o 10 (.mov (.t 9)),
 .g (some 11) 10 false (.fieldA 1 (.t 1)),
 .g (some 12) 10 false (.load 1 false (.t 11)),
 .g (some 13) 10 false (.bin .eql (.t 12) (.c (.int .i64 1))),
 .g (some 14) 10 false (.mov (.t 13)),
 .g (some 15) 14 true (.fieldA 4 (.t 1)),
 .g (some 16) 14 true (.load 1 false (.t 15)),
 .g (some 17) 14 true (.callF F_pattern_Closed [(.t 16)]),
 .g (some 18) 10 false (.pick (.t 14) (.t 17) (.c (.bool false))),
 .o 19 (.pick (.t 10) (.c (.bool true)) (.t 18)),
 .o 20 (.mov (.t 19)),
 .g (some 21) 20 true (.fieldA 4 (.t 1)),
 .g (some 22) 20 true (.load 1 false (.t 21)),
 .g (some 23) 20 true (.len true (.t 22)),
 .g (some 24) 20 true (.bin .leq (.t 23) (.c (.int .i64 2000))),
 .o 25 (.pick (.t 20) (.t 24) (.c (.bool false))),
 .o 2 (.mov (.t 25))])
 (.ret))
 (.seq (.reg [.o 27 (.fieldA 0 (.t 1)),
 .o 28 (.load 1 false (.t 27)),
 .o 29 (.bin .eql (.t 28) (.c (.int .i64 11))),
 .o 26 (.mov (.t 29))])
 (.keep [1, 26] (.cond (.t 26)
 (.seq (.reg [.o 30 (.fieldA 1 (.t 1)),
 .o 31 (.load 1 false (.t 30)),
 .o 32 (.bin .geq (.t 31) (.c (.int .i64 1))),
 .o 33 (.mov (.t 32)),
 .g (some 34) 33 true (.fieldA 1 (.t 1)),
 .g (some 35) 33 true (.load 1 false (.t 34)),
 .g (some 36) 33 true (.bin .leq (.t 35) (.c (.int .i64 99))),
 .o 37 (.pick (.t 33) (.t 36) (.c (.bool false))),
 .o 38 (.mov (.t 37)),
 .g (some 39) 38 true (.fieldA 4 (.t 1)),
 .g (some 40) 38 true (.load 1 false (.t 39)),
 .g (some 41) 38 true (.bin .eql (.t 40) (.c (.str []))),
 .o 42 (.pick (.t 38) (.t 41) (.c (.bool false))),
 .o 2 (.mov (.t 42))])
 (.ret))
 (.seq (.reg [.o 44 (.fieldA 0 (.t 1)),
 .o 45 (.load 1 false (.t 44)),
 .o 46 (.bin .eql (.t 45) (.c (.int .i64 33))),
 .o 43 (.mov (.t 46))])
 (.keep [1, 43] (.cond (.t 43)
 (.seq (.reg [.o 47 (.fieldA 1 (.t 1)),
 .o 48 (.load 1 false (.t 47)),
 .o 49 (.bin .geq (.t 48) (.c (.int .i64 1))),
 .o 50 (.mov (.t 49)),
 .g (some 51) 50 true (.fieldA 1 (.t 1)),
 .g (some 52) 50 true (.load 1 false (.t 51)),
 .g (some 53) 50 true (.bin .leq (.t 52) (.c (.int .i64 3))),
 .o 54 (.pick (.t 50) (.t 53) (.c (.bool false))),
 .o 55 (.mov (.t 54)),
 .g (some 56) 55 true (.fieldA 4 (.t 1)),
 .g (some 57) 55 true (.load 1 false (.t 56)),
 .g (some 58) 55 true (.bin .eql (.t 57) (.c (.str []))),
 .o 59 (.pick (.t 55) (.t 58) (.c (.bool false))),
 .o 2 (.mov (.t 59))])
 (.ret))
 (.seq (.reg [.o 61 (.fieldA 1 (.t 1)),
 .o 62 (.load 1 false (.t 61)),
 .o 63 (.bin .neq (.t 62) (.c (.int .i64 0))),
 .o 60 (.mov (.t 63))])
 (.keep [1, 60] (.cond (.t 60)
 (.seq (.reg [.o 2 (.mov (.c (.bool false)))])
 (.ret))
 (.seq (.reg [.o 65 (.fieldA 0 (.t 1)),
 .o 66 (.load 1 false (.t 65)),
 .o 67 (.bin .eql (.t 66) (.c (.int .i64 2))),
 .o 64 (.mov (.t 67))])
 (.keep [1, 64] (.cond (.t 64)
 (.seq (.reg [.o 68 (.fieldA 4 (.t 1)),
 .o 69 (.load 1 false (.t 68)),
 .o 70 (.callF F_text_Name [(.t 69)]),
 .o 71 (.mov (.t 70)),
 .g (some 72) 71 false (.fieldA 4 (.t 1)),
 .g (some 73) 71 false (.load 1 false (.t 72)),
 .g (some 74) 71 false (.bin .eql (.t 73) (.c (.str [42]))),
 .o 75 (.pick (.t 71) (.c (.bool true)) (.t 74)),
 .o 2 (.mov (.t 75))])
 (.ret))
 (.seq (.reg [.o 77 (.fieldA 0 (.t 1)),
 .o 78 (.load 1 false (.t 77)),
 .o 79 (.callF F_core_named [(.t 78)]),
 .o 76 (.mov (.t 79))])
 (.keep [1, 76] (.cond (.t 76)
 (.seq (.reg [.o 80 (.fieldA 4 (.t 1)),
 .o 81 (.load 1 false (.t 80)),
 .o 82 (.callF F_text_Name [(.t 81)]),
 .o 2 (.mov (.t 82))])
 (.ret))
 (.skip))))))))))))))))))))
 (.keep [1] (.seq (.reg [.o 83 (.fieldA 4 (.t 1)),
 .o 84 (.load 1 false (.t 83)),
 .o 85 (.bin .eql (.t 84) (.c (.str []))),
 .o 2 (.mov (.t 85))])
 (.ret)))))
def a_core_fields : AFun := ⟨1, c_core_fields, [.tmp 2]⟩

/- patois/core.children -/
def c_core_children : ACode :=
 .seq (.reg [.o 1 (.box (.t 0)),
 .o 2 (.mov (.c (.bool false)))])
 (.keep [1] (.seq (.seq (.reg [.o 3 (.fieldA 0 (.t 1)),
 .o 4 (.load 1 false (.t 3))])
 (.keep [1, 4] (.block 0 (.seq (.seq (.reg [.o 6 (.bin .eql (.t 4) (.c (.int .i64 1))),
 .o 5 (.mov (.t 6))])
 (.keep [1, 4, 5] (.cond (.t 5)
 (.skip)
 (.seq (.reg [.o 7 (.bin .eql (.t 4) (.c (.int .i64 2))),
 .o 5 (.mov (.t 7))])
 (.keep [1, 4, 5] (.cond (.t 5)
 (.skip)
 (.reg [.o 8 (.bin .eql (.t 4) (.c (.int .i64 20))),
 .o 5 (.mov (.t 8))])))))))
 (.keep [1, 4, 5] (.cond (.t 5)
 (.seq (.reg [.o 9 (.fieldA 2 (.t 1)),
 .o 10 (.load 1 false (.t 9)),
 .o 11 (.bin .eql (.t 10) (.c (.int .i64 0))),
 .o 2 (.mov (.t 11))])
 (.ret))
 (.seq (.reg [.o 13 (.bin .eql (.t 4) (.c (.int .i64 3))),
 .o 12 (.mov (.t 13))])
 (.keep [1, 4, 12] (.cond (.t 12)
 (.seq (.reg [.o 14 (.fieldA 2 (.t 1)),
 .o 15 (.load 1 false (.t 14)),
 .o 16 (.bin .geq (.t 15) (.c (.int .i64 0))),
 .o 2 (.mov (.t 16))])
 (.ret))
 (.seq (.seq (.reg [.o 18 (.bin .eql (.t 4) (.c (.int .i64 4))),
 .o 17 (.mov (.t 18))])
 (.keep [1, 4, 17] (.cond (.t 17)
 (.skip)
 (.seq (.reg [.o 19 (.bin .eql (.t 4) (.c (.int .i64 21))),
 .o 17 (.mov (.t 19))])
 (.keep [1, 4, 17] (.cond (.t 17)
 (.skip)
 (.reg [.o 20 (.bin .eql (.t 4) (.c (.int .i64 37))),
 .o 17 (.mov (.t 20))])))))))
 (.keep [1, 4, 17] (.cond (.t 17)
 (.seq (.reg [.o 21 (.fieldA 2 (.t 1)),
 .o 22 (.load 1 false (.t 21)),
 .o 23 (.bin .geq (.t 22) (.c (.int .i64 1))),
 .o 2 (.mov (.t 23))])
 (.ret))
 (.seq (.seq (.reg [.o 25 (.bin .eql (.t 4) (.c (.int .i64 23))),
 .o 24 (.mov (.t 25))])
 (.keep [1, 4, 24] (.cond (.t 24)
 (.skip)
 (.reg [.o 26 (.bin .eql (.t 4) (.c (.int .i64 32))),
 .o 24 (.mov (.t 26))]))))
 (.keep [1, 4, 24] (.cond (.t 24)
 (.seq (.reg [.o 27 (.fieldA 2 (.t 1)),
 .o 28 (.load 1 false (.t 27)),
 .o 29 (.bin .geq (.t 28) (.c (.int .i64 2))),
 .o 2 (.mov (.t 29))])
 (.ret))
 (.seq (.reg [.o 31 (.bin .eql (.t 4) (.c (.int .i64 24))),
 .o 30 (.mov (.t 31))])
 (.keep [1, 4, 30] (.cond (.t 30)
 (.seq (.reg [.o 32 (.fieldA 2 (.t 1)),
 .o 33 (.load 1 false (.t 32)),
 .o 34 (.bin .eql (.t 33) (.c (.int .i64 3))),
 .o 2 (.mov (.t 34))])
 (.ret))
 (.seq (.seq (.reg [.o 36 (.bin .eql (.t 4) (.c (.int .i64 25))),
 .o 35 (.mov (.t 36))])
 (.keep [1, 4, 35] (.cond (.t 35)
 (.skip)
 (.seq (.reg [.o 37 (.bin .eql (.t 4) (.c (.int .i64 26))),
 .o 35 (.mov (.t 37))])
 (.keep [1, 4, 35] (.cond (.t 35)
 (.skip)
 (.seq (.reg [.o 38 (.bin .eql (.t 4) (.c (.int .i64 28))),
 .o 35 (.mov (.t 38))])
 (.keep [1, 4, 35] (.cond (.t 35)
 (.skip)
 (.seq (.reg [.o 39 (.bin .eql (.t 4) (.c (.int .i64 29))),
 .o 35 (.mov (.t 39))])
 (.keep [1, 4, 35] (.cond (.t 35)
 (.skip)
 (.seq (.reg [.o 40 (.bin .eql (.t 4) (.c (.int .i64 35))),
 .o 35 (.mov (.t 40))])
 (.keep [1, 4, 35] (.cond (.t 35)
 (.skip)
 (.seq (.reg [.o 41 (.bin .eql (.t 4) (.c (.int .i64 33))),
 .o 35 (.mov (.t 41))])
 (.keep [1, 4, 35] (.cond (.t 35)
 (.skip)
 (.reg [.o 42 (.bin .eql (.t 4) (.c (.int .i64 34))),
 .o 35 (.mov (.t 42))])))))))))))))))))))
 (.keep [1, 4, 35] (.cond (.t 35)
 (.seq (.reg [.o 43 (.fieldA 2 (.t 1)),
 .o 44 (.load 1 false (.t 43)),
 .o 45 (.bin .eql (.t 44) (.c (.int .i64 2))),
 .o 2 (.mov (.t 45))])
 (.ret))
 (.seq (.reg [.o 47 (.bin .eql (.t 4) (.c (.int .i64 30))),
 .o 46 (.mov (.t 47))])
 (.keep [1, 46] (.cond (.t 46)
 (.seq (.reg [.o 48 (.fieldA 2 (.t 1)),
 .o 49 (.load 1 false (.t 48)),
 .o 50 (.bin .geq (.t 49) (.c (.int .i64 1))),
 .o 51 (.mov (.t 50)),
 .g (some 52) 51 true (.fieldA 2 (.t 1)),
 .g (some 53) 51 true (.load 1 false (.t 52)),
 .g (some 54) 51 true (.bin .rem (.t 53) (.c (.int .i64 2))),
 .g (some 55) 51 true (.bin .eql (.t 54) (.c (.int .i64 1))),
 .o 56 (.pick (.t 51) (.t 55) (.c (.bool false))),
 .o 2 (.mov (.t 56))])
 (.ret))
 (.skip)))))))))))))))))))))))))
 (.keep [1] (.seq (.reg [.o 57 (.fieldA 2 (.t 1)),
 .o 58 (.load 1 false (.t 57)),
 .o 59 (.bin .eql (.t 58) (.c (.int .i64 1))),
 .o 2 (.mov (.t 59))])
 (.ret)))))
def a_core_children : AFun := ⟨1, c_core_children, [.tmp 2]⟩

/- patois/core.takes -/
def c_core_takes : ACode :=
 .seq (.reg [.o 2 (.box (.t 0)),
 .o 4 (.mov (.c (.bool false)))])
 (.keep [1, 2] (.seq (.seq (.reg [.o 5 (.fieldA 0 (.t 2)),
 .o 6 (.load 1 false (.t 5))])
 (.keep [1, 2, 6] (.block 0 (.seq (.seq (.reg [.o 8 (.bin .eql (.t 6) (.c (.int .i64 12))),
 .o 7 (.mov (.t 8))])
 (.keep [1, 2, 6, 7] (.cond (.t 7)
 (.skip)
 (.seq (.reg [.o 9 (.bin .eql (.t 6) (.c (.int .i64 23))),
 .o 7 (.mov (.t 9))])
 (.keep [1, 2, 6, 7] (.cond (.t 7)
 (.skip)
 (.seq (.reg [.o 10 (.bin .eql (.t 6) (.c (.int .i64 32))),
 .o 7 (.mov (.t 10))])
 (.keep [1, 2, 6, 7] (.cond (.t 7)
 (.skip)
 (.seq (.reg [.o 11 (.bin .eql (.t 6) (.c (.int .i64 24))),
 .o 7 (.mov (.t 11))])
 (.keep [1, 2, 6, 7] (.cond (.t 7)
 (.skip)
 (.seq (.reg [.o 12 (.bin .eql (.t 6) (.c (.int .i64 25))),
 .o 7 (.mov (.t 12))])
 (.keep [1, 2, 6, 7] (.cond (.t 7)
 (.skip)
 (.seq (.reg [.o 13 (.bin .eql (.t 6) (.c (.int .i64 26))),
 .o 7 (.mov (.t 13))])
 (.keep [1, 2, 6, 7] (.cond (.t 7)
 (.skip)
 (.seq (.reg [.o 14 (.bin .eql (.t 6) (.c (.int .i64 28))),
 .o 7 (.mov (.t 14))])
 (.keep [1, 2, 6, 7] (.cond (.t 7)
 (.skip)
 (.seq (.reg [.o 15 (.bin .eql (.t 6) (.c (.int .i64 27))),
 .o 7 (.mov (.t 15))])
 (.keep [1, 2, 6, 7] (.cond (.t 7)
 (.skip)
 (.reg [.o 16 (.bin .eql (.t 6) (.c (.int .i64 31))),
 .o 7 (.mov (.t 16))])))))))))))))))))))))))))
 (.keep [1, 2, 6, 7] (.cond (.t 7)
 (.seq (.reg [.o 4 (.mov (.c (.bool false)))])
 (.ret))
 (.seq (.seq (.reg [.o 18 (.bin .eql (.t 6) (.c (.int .i64 29))),
 .o 17 (.mov (.t 18))])
 (.keep [1, 2, 6, 17] (.cond (.t 17)
 (.skip)
 (.seq (.reg [.o 19 (.bin .eql (.t 6) (.c (.int .i64 35))),
 .o 17 (.mov (.t 19))])
 (.keep [1, 2, 6, 17] (.cond (.t 17)
 (.skip)
 (.seq (.reg [.o 20 (.bin .eql (.t 6) (.c (.int .i64 33))),
 .o 17 (.mov (.t 20))])
 (.keep [1, 2, 6, 17] (.cond (.t 17)
 (.skip)
 (.reg [.o 21 (.bin .eql (.t 6) (.c (.int .i64 34))),
 .o 17 (.mov (.t 21))]))))))))))
 (.keep [1, 2, 6, 17] (.cond (.t 17)
 (.seq (.reg [.o 22 (.mov (.t 1)),
 .o 23 (.bin .eql (.t 22) (.c (.int .i64 0))),
 .o 4 (.mov (.t 23))])
 (.ret))
 (.seq (.reg [.o 25 (.bin .eql (.t 6) (.c (.int .i64 30))),
 .o 24 (.mov (.t 25))])
 (.keep [1, 2, 6, 24] (.cond (.t 24)
 (.seq (.reg [.o 26 (.mov (.t 1)),
 .o 27 (.bin .eql (.t 26) (.c (.int .i64 0))),
 .o 28 (.mov (.t 27)),
 .g (some 29) 28 false (.mov (.t 1)),
 .g (some 30) 28 false (.bin .rem (.t 29) (.c (.int .i64 2))),
 .g (some 31) 28 false (.bin .eql (.t 30) (.c (.int .i64 1))),
 .o 32 (.pick (.t 28) (.c (.bool true)) (.t 31)),
 .o 4 (.mov (.t 32))])
 (.ret))
 (.seq (.reg [.o 34 (.bin .eql (.t 6) (.c (.int .i64 37))),
 .o 33 (.mov (.t 34))])
 (.keep [1, 2, 33] (.cond (.t 33)
 (.seq (.reg [.o 35 (.mov (.t 1)),
 .o 36 (.fieldA 2 (.t 2)),
 .o 37 (.load 1 false (.t 36)),
 .o 38 (.bin .sub (.t 37) (.c (.int .i64 1))),
 .o 39 (.bin .lss (.t 35) (.t 38)),
 .o 4 (.mov (.t 39))])
 (.ret))
 (.skip))))))))))))))))
 (.keep [] (.seq (.reg [.o 4 (.mov (.c (.bool true)))])
 (.ret)))))
def a_core_takes : AFun := ⟨2, c_core_takes, [.tmp 4]⟩

/- patois/world.May -/
def c_world_May_l0 : ACode :=
 .keep [1, 23, 24, 25] (.seq (.reg [.o 26 (.bin .lss (.t 25) (.t 24))])
 (.keep [1, 23, 24, 25, 26] (.seq (.cond (.t 26)
 (.skip)
 (.exit 0))
 (.keep [1, 23, 24, 25] (.seq (.block 1 (.seq (.reg [.o 27 (.indexA 7 (.t 23) (.t 25)),
 .o 28 (.load 7 true (.t 27)),
 .o 4 (.alloc [.str [], .sl none 1 0 (some 0), .bool false, .bool false, .bool false, .str [], .int .i64 0]),
 .n (.store 7 (.t 4) (.t 28))])
 (.keep [1, 4, 23, 24, 25] (.seq (.reg [.o 29 (.fieldA 1 (.t 4)),
 .o 30 (.load 1 false (.t 29)),
 .o 31 (.len false (.t 30)),
 .o 32 (.bin .gtr (.t 31) (.c (.int .i64 100)))])
 (.keep [1, 23, 24, 25, 32] (.cond (.t 32)
 (.seq (.reg [.o 33 (.load 1 false (.g G_api_ErrMany)),
 .o 2 (.mov (.t 33))])
 (.ret))
 (.skip)))))))
 (.keep [1, 23, 24, 25] (.reg [.o 34 (.bin .add (.t 25) (.c (.int .i64 1))),
 .o 25 (.mov (.t 34))])))))))
def c_world_May_l1 : ACode :=
 .keep [1, 5, 37, 38, 39] (.seq (.reg [.o 40 (.bin .lss (.t 39) (.t 38))])
 (.keep [1, 5, 37, 38, 39, 40] (.seq (.cond (.t 40)
 (.skip)
 (.exit 2))
 (.keep [1, 5, 37, 38, 39] (.seq (.block 3 (.seq (.reg [.o 41 (.indexA 2 (.t 37) (.t 39)),
 .o 42 (.load 2 true (.t 41)),
 .o 7 (.alloc [.str [], .str []]),
 .n (.store 2 (.t 7) (.t 42))])
 (.keep [1, 5, 7, 37, 38, 39] (.seq (.block 4 (.seq (.reg [.o 44 (.fieldA 0 (.t 7)),
 .o 45 (.load 1 false (.t 44)),
 .o 46 (.bin .eql (.t 45) (.c (.str []))),
 .o 47 (.mov (.t 46)),
 .g (some 48) 47 false (.fieldA 0 (.t 7)),
 .g (some 49) 47 false (.load 1 false (.t 48)),
 .g (some 50) 47 false (.len true (.t 49)),
 .g (some 51) 47 false (.bin .gtr (.t 50) (.c (.int .i64 2000))),
 .o 52 (.pick (.t 47) (.c (.bool true)) (.t 51)),
 .o 53 (.mov (.t 52)),
 .g (some 54) 53 false (.mov (.t 5)),
 .g (some 55) 53 false (.fieldA 0 (.t 7)),
 .g (some 56) 53 false (.load 1 false (.t 55)),
 .g (some 57) 53 false (.lookup (.bool false) false (.t 54) (.t 56)),
 .o 58 (.pick (.t 53) (.c (.bool true)) (.t 57)),
 .o 43 (.mov (.t 58))])
 (.keep [1, 5, 7, 37, 38, 39, 43] (.cond (.t 43)
 (.seq (.reg [.o 59 (.load 1 false (.g G_api_ErrName)),
 .o 2 (.mov (.t 59))])
 (.ret))
 (.seq (.reg [.o 61 (.fieldA 1 (.t 7)),
 .o 62 (.load 1 false (.t 61)),
 .o 63 (.len true (.t 62)),
 .o 64 (.bin .gtr (.t 63) (.c (.int .i64 16384))),
 .o 60 (.mov (.t 64))])
 (.keep [1, 5, 7, 37, 38, 39, 60] (.cond (.t 60)
 (.seq (.reg [.o 65 (.load 1 false (.g G_api_ErrLong)),
 .o 2 (.mov (.t 65))])
 (.ret))
 (.skip))))))))
 (.keep [1, 5, 7, 37, 38, 39] (.reg [.o 66 (.mov (.t 5)),
 .o 67 (.fieldA 0 (.t 7)),
 .o 68 (.load 1 false (.t 67)),
 .n (.mset (.t 66) (.t 68) (.c (.bool true)))]))))))
 (.keep [1, 5, 37, 38, 39] (.reg [.o 69 (.bin .add (.t 39) (.c (.int .i64 1))),
 .o 39 (.mov (.t 69))])))))))
def c_world_May_l2 : ACode :=
 .keep [71, 72, 73] (.seq (.reg [.o 74 (.bin .lss (.t 73) (.t 72))])
 (.keep [71, 72, 73, 74] (.seq (.cond (.t 74)
 (.skip)
 (.exit 5))
 (.keep [71, 72, 73] (.seq (.block 6 (.seq (.reg [.o 75 (.indexA 7 (.t 71) (.t 73)),
 .o 76 (.load 7 true (.t 75)),
 .o 9 (.alloc [.str [], .sl none 1 0 (some 0), .bool false, .bool false, .bool false, .str [], .int .i64 0]),
 .n (.store 7 (.t 9) (.t 76))])
 (.keep [9, 71, 72, 73] (.seq (.reg [.o 77 (.fieldA 1 (.t 9)),
 .o 78 (.load 1 false (.t 77)),
 .o 79 (.callF F_slices_ContainsFunc_string_string [(.t 78), (.f F_world_May_1)]),
 .o 10 (.mov (.t 79))])
 (.keep [9, 10, 71, 72, 73] (.block 7 (.seq (.reg [.o 81 (.fieldA 0 (.t 9)),
 .o 82 (.load 1 false (.t 81)),
 .o 83 (.bin .eql (.t 82) (.c (.str []))),
 .o 84 (.mov (.t 83)),
 .g (some 85) 84 false (.fieldA 0 (.t 9)),
 .g (some 86) 84 false (.load 1 false (.t 85)),
 .g (some 87) 84 false (.len true (.t 86)),
 .g (some 88) 84 false (.bin .gtr (.t 87) (.c (.int .i64 2000))),
 .o 89 (.pick (.t 84) (.c (.bool true)) (.t 88)),
 .o 80 (.mov (.t 89))])
 (.keep [9, 10, 71, 72, 73, 80] (.cond (.t 80)
 (.seq (.reg [.o 90 (.load 1 false (.g G_api_ErrName)),
 .o 2 (.mov (.t 90))])
 (.ret))
 (.seq (.reg [.o 92 (.mov (.t 10)),
 .o 93 (.mov (.t 92)),
 .g (some 94) 93 false (.fieldA 5 (.t 9)),
 .g (some 95) 93 false (.load 1 false (.t 94)),
 .g (some 96) 93 false (.len true (.t 95)),
 .g (some 97) 93 false (.bin .gtr (.t 96) (.c (.int .i64 2000))),
 .o 98 (.pick (.t 93) (.c (.bool true)) (.t 97)),
 .o 91 (.mov (.t 98))])
 (.keep [9, 71, 72, 73, 91] (.cond (.t 91)
 (.seq (.reg [.o 99 (.load 1 false (.g G_api_ErrLong)),
 .o 2 (.mov (.t 99))])
 (.ret))
 (.seq (.reg [.o 101 (.fieldA 6 (.t 9)),
 .o 102 (.load 1 false (.t 101)),
 .o 103 (.bin .lss (.t 102) (.c (.int .i64 0))),
 .o 104 (.mov (.t 103)),
 .g (some 105) 104 false (.fieldA 6 (.t 9)),
 .g (some 106) 104 false (.load 1 false (.t 105)),
 .g (some 107) 104 false (.bin .gtr (.t 106) (.c (.int .i64 255))),
 .o 108 (.pick (.t 104) (.c (.bool true)) (.t 107)),
 .o 100 (.mov (.t 108))])
 (.keep [71, 72, 73, 100] (.cond (.t 100)
 (.seq (.reg [.o 109 (.load 1 false (.g G_api_ErrNumber)),
 .o 2 (.mov (.t 109))])
 (.ret))
 (.skip))))))))))))))))
 (.keep [71, 72, 73] (.reg [.o 110 (.bin .add (.t 73) (.c (.int .i64 1))),
 .o 73 (.mov (.t 110))])))))))
def c_world_May : ACode :=
 .seq (.reg [.o 1 (.box (.t 0)),
 .o 2 (.mov (.c (.nilI)))])
 (.keep [1] (.seq (.seq (.reg [.o 11 (.fieldA 0 (.t 1)),
 .o 12 (.load 1 false (.t 11)),
 .o 13 (.len false (.t 12)),
 .o 14 (.bin .gtr (.t 13) (.c (.int .i64 50))),
 .o 15 (.mov (.t 14)),
 .g (some 16) 15 false (.fieldA 1 (.t 1)),
 .g (some 17) 15 false (.load 1 false (.t 16)),
 .g (some 18) 15 false (.len false (.t 17)),
 .g (some 19) 15 false (.bin .gtr (.t 18) (.c (.int .i64 50))),
 .o 20 (.pick (.t 15) (.c (.bool true)) (.t 19))])
 (.keep [1, 20] (.cond (.t 20)
 (.seq (.reg [.o 21 (.load 1 false (.g G_api_ErrMany)),
 .o 2 (.mov (.t 21))])
 (.ret))
 (.skip))))
 (.keep [1] (.seq (.seq (.reg [.o 22 (.fieldA 1 (.t 1)),
 .o 23 (.load 1 false (.t 22)),
 .o 24 (.len false (.t 23)),
 .o 25 (.mov (.c (.int .i64 0)))])
 (.keep [1, 23, 24, 25] (.block 0 (.loop c_world_May_l0))))
 (.keep [1] (.seq (.reg [.o 35 (.mkMap),
 .o 5 (.mov (.t 35))])
 (.keep [1, 5] (.seq (.seq (.reg [.o 36 (.fieldA 0 (.t 1)),
 .o 37 (.load 1 false (.t 36)),
 .o 38 (.len false (.t 37)),
 .o 39 (.mov (.c (.int .i64 0)))])
 (.keep [1, 5, 37, 38, 39] (.block 2 (.loop c_world_May_l1))))
 (.keep [1] (.seq (.seq (.reg [.o 70 (.fieldA 1 (.t 1)),
 .o 71 (.load 1 false (.t 70)),
 .o 72 (.len false (.t 71)),
 .o 73 (.mov (.c (.int .i64 0)))])
 (.keep [71, 72, 73] (.block 5 (.loop c_world_May_l2))))
 (.keep [] (.seq (.reg [.o 2 (.mov (.c (.nilI)))])
 (.ret)))))))))))))
def a_world_May : AFun := ⟨1, c_world_May, [.tmp 2]⟩

/- slices.SortFunc[[]patois/api.File,patois/api.File] -/
def c_slices_SortFunc_api_File_api_File : ACode :=
 .seq (.reg [.o 5 (.mov (.t 0)),
 .o 6 (.len false (.t 5)),
 .o 4 (.mov (.t 6))])
 (.keep [0, 1, 4] (.reg [.o 7 (.mov (.t 0)),
 .o 8 (.mov (.t 4)),
 .o 9 (.mov (.t 4)),
 .o 10 (.conv .u64 (.t 9)),
 .o 11 (.callF F_math_bits_Len [(.t 10)]),
 .o 12 (.mov (.t 1)),
 .o 13 (.callF F_slices_pdqsortCmpFunc_api_File [(.t 7), (.c (.int .i64 0)), (.t 8), (.t 11), (.t 12)])]))
def a_slices_SortFunc_api_File_api_File : AFun := ⟨2, c_slices_SortFunc_api_File_api_File, []⟩

/- patois/lists.Fits -/
def c_lists_Fits : ACode :=
 .seq (.reg [.o 2 (.mov (.c (.nilI)))])
 (.keep [0] (.seq (.seq (.reg [.o 3 (.mov (.t 0)),
 .o 4 (.len false (.t 3)),
 .o 5 (.bin .gtr (.t 4) (.c (.int .i64 100))),
 .o 6 (.mov (.t 5)),
 .g (some 7) 6 false (.mov (.t 0)),
 .g (some 8) 6 false (.callF F_slices_ContainsFunc_string_string [(.t 7), (.f F_lists_Fits_1)]),
 .o 9 (.pick (.t 6) (.c (.bool true)) (.t 8))])
 (.keep [9] (.cond (.t 9)
 (.seq (.reg [.o 10 (.load 1 false (.g G_api_ErrBig)),
 .o 2 (.mov (.t 10))])
 (.ret))
 (.skip))))
 (.keep [] (.seq (.reg [.o 2 (.mov (.c (.nilI)))])
 (.ret)))))
def a_lists_Fits : AFun := ⟨1, c_lists_Fits, [.tmp 2]⟩

/- patois/text.Name -/
def c_text_Name_l0 : ACode :=
 .keep [0, 18, 19] (.seq (.reg [.o 20 (.bin .lss (.t 19) (.t 18))])
 (.keep [0, 18, 19, 20] (.seq (.cond (.t 20)
 (.skip)
 (.exit 0))
 (.keep [0, 18, 19] (.seq (.block 1 (.seq (.reg [.o 21 (.mov (.t 19)),
 .o 3 (.mov (.t 21))])
 (.keep [0, 3, 18, 19] (.seq (.reg [.o 22 (.mov (.t 0)),
 .o 23 (.mov (.t 3)),
 .o 24 (.index (.t 22) (.t 23)),
 .o 25 (.callF F_text_goesOn [(.t 24)]),
 .o 26 (.not (.t 25))])
 (.keep [0, 18, 19, 26] (.cond (.t 26)
 (.seq (.reg [.o 2 (.mov (.c (.bool false)))])
 (.ret))
 (.skip)))))))
 (.keep [0, 18, 19] (.reg [.o 27 (.bin .add (.t 19) (.c (.int .i64 1))),
 .o 19 (.mov (.t 27))])))))))
def c_text_Name : ACode :=
 .seq (.reg [.o 2 (.mov (.c (.bool false)))])
 (.keep [0] (.seq (.seq (.reg [.o 4 (.mov (.t 0)),
 .o 5 (.bin .eql (.t 4) (.c (.str []))),
 .o 6 (.mov (.t 5)),
 .g (some 7) 6 false (.mov (.t 0)),
 .g (some 8) 6 false (.len true (.t 7)),
 .g (some 9) 6 false (.bin .gtr (.t 8) (.c (.int .i64 20))),
 .o 10 (.pick (.t 6) (.c (.bool true)) (.t 9)),
 .o 11 (.mov (.t 10)),
 .g (some 12) 11 false (.mov (.t 0)),
 .g (some 13) 11 false (.index (.t 12) (.c (.int .i64 0))),
 .g (some 14) 11 false (.callF F_text_begins [(.t 13)]),
 .g (some 15) 11 false (.not (.t 14)),
 .o 16 (.pick (.t 11) (.c (.bool true)) (.t 15))])
 (.keep [0, 16] (.cond (.t 16)
 (.seq (.reg [.o 2 (.mov (.c (.bool false)))])
 (.ret))
 (.skip))))
 (.keep [0] (.seq (.seq (.reg [.o 17 (.mov (.t 0)),
 .o 18 (.len true (.t 17)),
 .o 19 (.mov (.c (.int .i64 0)))])
 (.keep [0, 18, 19] (.block 0 (.loop c_text_Name_l0))))
 (.keep [] (.seq (.reg [.o 2 (.mov (.c (.bool true)))])
 (.ret)))))))
def a_text_Name : AFun := ⟨1, c_text_Name, [.tmp 2]⟩

/- (*patois/store.values).Set -/
def c_store_values_Set : ACode :=
 .seq (.seq (.reg [.o 6 (.mov (.t 1)),
 .o 7 (.bin .eql (.t 6) (.c (.str [42])))])
 (.keep [0, 1, 2, 7] (.cond (.t 7)
 (.seq (.reg [.o 8 (.mov (.t 0)),
 .o 9 (.mov (.t 2)),
 .o 10 (.callF F_slices_Clone_string_string [(.t 9)]),
 .o 11 (.nilchk (.t 8)),
 .o 12 (.fieldA 1 (.t 11)),
 .n (.store 1 (.t 12) (.t 10))])
 (.ret))
 (.skip))))
 (.keep [0, 1, 2] (.dreg [⟨0, .o 13 (.mov (.t 0)), [], []⟩,
 ⟨1, .o 14 (.nilchk (.t 13)), [0], []⟩,
 ⟨2, .o 15 (.fieldA 0 (.t 14)), [0, 1], []⟩,
 ⟨3, .o 16 (.load 1 false (.t 15)), [0, 1, 2], []⟩,
 ⟨4, .o 17 (.mov (.t 1)), [], []⟩,
 ⟨5, .o 18 (.mov (.t 2)), [], []⟩,
 ⟨6, .o 19 (.callF F_slices_Clone_string_string [(.t 18)]), [5], [3]⟩,
 ⟨7, .n (.mset (.t 16) (.t 17) (.t 19)), [0, 1, 2, 3, 4, 5, 6], []⟩]))
def a_store_values_Set : AFun := ⟨3, c_store_values_Set, []⟩

/- (*patois/run.runner).word -/
def c_run_runner_word : ACode :=
 .seq (.reg [.o 4 (.mov (.c (.sl none 1 0 (some 0)))),
 .o 5 (.mov (.c (.nilI)))])
 (.keep [0, 1] (.seq (.reg [.o 11 (.mov (.t 1)),
 .o 12 (.indexA 5 (.t 11) (.c (.int .i64 0))),
 .o 13 (.load 5 true (.t 12)),
 .o 6 (.alloc [.int .i64 0, .int .i64 0, .int .i64 0, .int .i64 0, .str []]),
 .n (.store 5 (.t 6) (.t 13))])
 (.keep [0, 1, 6] (.seq (.seq (.reg [.o 14 (.fieldA 0 (.t 6)),
 .o 15 (.load 1 false (.t 14))])
 (.keep [0, 1, 6, 15] (.block 0 (.seq (.reg [.o 17 (.bin .eql (.t 15) (.c (.int .i64 1))),
 .o 16 (.mov (.t 17))])
 (.keep [0, 1, 6, 15, 16] (.cond (.t 16)
 (.seq (.reg [.o 18 (.fieldA 4 (.t 6)),
 .o 19 (.load 1 false (.t 18)),
 .o 20 (.bslice false 1 1 [.str []] [(0, 1, (.t 19))]),
 .o 4 (.mov (.t 20)),
 .o 5 (.mov (.c (.nilI)))])
 (.ret))
 (.seq (.reg [.o 22 (.bin .eql (.t 15) (.c (.int .i64 2))),
 .o 21 (.mov (.t 22))])
 (.keep [0, 1, 6, 15, 21] (.cond (.t 21)
 (.seq (.dreg [⟨0, .o 24 (.mov (.t 0)), [], []⟩,
 ⟨1, .o 25 (.nilchk (.t 24)), [0], []⟩,
 ⟨2, .o 26 (.fieldA 1 (.t 25)), [0, 1], []⟩,
 ⟨3, .o 27 (.load 1 false (.t 26)), [0, 1, 2], []⟩,
 ⟨4, .o 28 (.nilchk (.t 27)), [0, 1, 2, 3], []⟩,
 ⟨5, .o 29 (.fieldA 0 (.t 28)), [0, 1, 2, 3, 4], []⟩,
 ⟨6, .o 30 (.fieldA 4 (.t 6)), [], []⟩,
 ⟨7, .o 31 (.load 1 false (.t 30)), [6], []⟩,
 ⟨8, .o 32 (.callF F_store_values_Get [(.t 29), (.t 31)]), [0, 1, 2, 3, 4, 5, 6, 7], []⟩,
 ⟨9, .o 23 (.mov (.t 32)), [0, 1, 2, 3, 4, 5, 6, 7, 8], []⟩,
 ⟨10, .o 33 (.extract (.t 23) 0), [0, 1, 2, 3, 4, 5, 6, 7, 8, 9], []⟩,
 ⟨11, .o 34 (.extract (.t 23) 1), [0, 1, 2, 3, 4, 5, 6, 7, 8, 9], []⟩,
 ⟨12, .o 7 (.mov (.t 33)), [0, 1, 2, 3, 4, 5, 6, 7, 8, 9, 10], []⟩,
 ⟨13, .o 8 (.mov (.t 34)), [0, 1, 2, 3, 4, 5, 6, 7, 8, 9, 10, 11, 12], []⟩])
 (.keep [7] (.seq (.reg [.o 35 (.mov (.t 7)),
 .o 4 (.mov (.t 35)),
 .o 5 (.mov (.c (.nilI)))])
 (.ret))))
 (.seq (.reg [.o 37 (.bin .eql (.t 15) (.c (.int .i64 3))),
 .o 36 (.mov (.t 37))])
 (.keep [0, 1, 6, 15, 36] (.cond (.t 36)
 (.seq (.reg [.o 38 (.mov (.t 0)),
 .o 39 (.mov (.t 1)),
 .o 40 (.callF F_run_kids [(.t 39)]),
 .o 41 (.callF F_run_runner_together [(.t 38), (.t 40), (.f F_lists_Cat)]),
 .o 42 (.extract (.t 41) 0),
 .o 43 (.extract (.t 41) 1),
 .o 4 (.mov (.t 42)),
 .o 5 (.mov (.t 43))])
 (.ret))
 (.seq (.reg [.o 45 (.bin .eql (.t 15) (.c (.int .i64 4))),
 .o 44 (.mov (.t 45))])
 (.keep [0, 1, 6, 15, 44] (.cond (.t 44)
 (.seq (.reg [.o 46 (.mov (.t 0)),
 .o 47 (.mov (.t 1)),
 .o 48 (.callF F_run_kids [(.t 47)]),
 .o 49 (.callF F_run_runner_together [(.t 46), (.t 48), (.f F_lists_Join)]),
 .o 50 (.extract (.t 49) 0),
 .o 51 (.extract (.t 49) 1),
 .o 4 (.mov (.t 50)),
 .o 5 (.mov (.t 51))])
 (.ret))
 (.seq (.reg [.o 53 (.bin .eql (.t 15) (.c (.int .i64 12))),
 .o 52 (.mov (.t 53))])
 (.keep [0, 1, 6, 52] (.cond (.t 52)
 (.seq (.reg [.o 54 (.mov (.t 0)),
 .o 55 (.mov (.t 1)),
 .o 56 (.slc 5 (.t 55) (some (.c (.int .i64 1))) none),
 .o 57 (.callF F_run_runner_sub [(.t 54), (.t 56)]),
 .o 58 (.extract (.t 57) 0),
 .o 59 (.extract (.t 57) 1),
 .o 4 (.mov (.t 58)),
 .o 5 (.mov (.t 59))])
 (.ret))
 (.skip)))))))))))))))))))
 (.keep [0, 1, 6] (.seq (.reg [.o 61 (.mov (.t 0)),
 .o 62 (.mov (.t 1)),
 .o 63 (.slc 5 (.t 62) (some (.c (.int .i64 1))) none),
 .o 64 (.callF F_run_runner_word [(.t 61), (.t 63)]),
 .o 60 (.mov (.t 64)),
 .o 65 (.extract (.t 60) 0),
 .o 66 (.extract (.t 60) 1),
 .o 9 (.mov (.t 65)),
 .o 10 (.mov (.t 66))])
 (.keep [0, 6, 9, 10] (.seq (.seq (.reg [.o 67 (.mov (.t 10)),
 .o 68 (.eq true .ifc (.t 67) (.c (.nilI)))])
 (.keep [0, 6, 9, 10, 68] (.cond (.t 68)
 (.seq (.reg [.o 69 (.mov (.t 10)),
 .o 4 (.mov (.c (.sl none 1 0 (some 0)))),
 .o 5 (.mov (.t 69))])
 (.ret))
 (.skip))))
 (.keep [0, 6, 9] (.seq (.seq (.reg [.o 70 (.fieldA 0 (.t 6)),
 .o 71 (.load 1 false (.t 70))])
 (.keep [0, 6, 9, 71] (.block 1 (.seq (.reg [.o 73 (.bin .eql (.t 71) (.c (.int .i64 5))),
 .o 72 (.mov (.t 73))])
 (.keep [0, 6, 9, 71, 72] (.cond (.t 72)
 (.seq (.reg [.o 74 (.mov (.t 9)),
 .o 75 (.callF F_lists_Split [(.t 74)]),
 .o 76 (.extract (.t 75) 0),
 .o 77 (.extract (.t 75) 1),
 .o 4 (.mov (.t 76)),
 .o 5 (.mov (.t 77))])
 (.ret))
 (.seq (.reg [.o 79 (.bin .eql (.t 71) (.c (.int .i64 6))),
 .o 78 (.mov (.t 79))])
 (.keep [0, 6, 9, 71, 78] (.cond (.t 78)
 (.seq (.reg [.o 80 (.mov (.t 9)),
 .o 81 (.mov (.t 0)),
 .o 82 (.nilchk (.t 81)),
 .o 83 (.fieldA 0 (.t 82)),
 .o 84 (.load 1 false (.t 83)),
 .o 85 (.callF F_world_Kernel_Names [(.t 84)]),
 .o 86 (.callF F_lists_Glob [(.t 80), (.t 85)]),
 .o 87 (.extract (.t 86) 0),
 .o 88 (.extract (.t 86) 1),
 .o 4 (.mov (.t 87)),
 .o 5 (.mov (.t 88))])
 (.ret))
 (.seq (.reg [.o 90 (.bin .eql (.t 71) (.c (.int .i64 7))),
 .o 89 (.mov (.t 90))])
 (.keep [6, 9, 71, 89] (.cond (.t 89)
 (.seq (.reg [.o 91 (.mov (.t 9)),
 .o 92 (.callF F_lists_Plain [(.t 91)]),
 .o 93 (.extract (.t 92) 0),
 .o 94 (.extract (.t 92) 1),
 .o 4 (.mov (.t 93)),
 .o 5 (.mov (.t 94))])
 (.ret))
 (.seq (.reg [.o 96 (.bin .eql (.t 71) (.c (.int .i64 8))),
 .o 95 (.mov (.t 96))])
 (.keep [6, 9, 71, 95] (.cond (.t 95)
 (.seq (.reg [.o 97 (.mov (.t 9)),
 .o 98 (.callF F_lists_Esc [(.t 97)]),
 .o 99 (.extract (.t 98) 0),
 .o 100 (.extract (.t 98) 1),
 .o 4 (.mov (.t 99)),
 .o 5 (.mov (.t 100))])
 (.ret))
 (.seq (.reg [.o 102 (.bin .eql (.t 71) (.c (.int .i64 9))),
 .o 101 (.mov (.t 102))])
 (.keep [6, 9, 71, 101] (.cond (.t 101)
 (.seq (.reg [.o 103 (.mov (.t 9)),
 .o 104 (.callF F_lists_Flat [(.t 103)]),
 .o 105 (.extract (.t 104) 0),
 .o 106 (.extract (.t 104) 1),
 .o 4 (.mov (.t 105)),
 .o 5 (.mov (.t 106))])
 (.ret))
 (.seq (.reg [.o 108 (.bin .eql (.t 71) (.c (.int .i64 10))),
 .o 107 (.mov (.t 108))])
 (.keep [6, 9, 107] (.cond (.t 107)
 (.seq (.reg [.o 109 (.mov (.t 9)),
 .o 110 (.callF F_lists_Count [(.t 109)]),
 .o 4 (.mov (.t 110)),
 .o 5 (.mov (.c (.nilI)))])
 (.ret))
 (.skip))))))))))))))))))))))
 (.keep [6, 9] (.seq (.reg [.o 111 (.mov (.t 9)),
 .o 112 (.fieldA 1 (.t 6)),
 .o 113 (.load 1 false (.t 112)),
 .o 114 (.callF F_lists_Pick [(.t 111), (.t 113)]),
 .o 4 (.mov (.t 114)),
 .o 5 (.mov (.c (.nilI)))])
 (.ret)))))))))))))
def a_run_runner_word : AFun := ⟨2, c_run_runner_word, [.tmp 4, .tmp 5]⟩

/- patois/lists.bound -/
def c_lists_bound : ACode :=
 .seq (.reg [.o 2 (.mov (.c (.sl none 1 0 (some 0)))),
 .o 3 (.mov (.c (.nilI)))])
 (.keep [0] (.seq (.seq (.reg [.o 5 (.mov (.t 0)),
 .o 6 (.callF F_lists_Fits [(.t 5)]),
 .o 4 (.mov (.t 6))])
 (.keep [0, 4] (.seq (.reg [.o 7 (.mov (.t 4)),
 .o 8 (.eq true .ifc (.t 7) (.c (.nilI)))])
 (.keep [0, 4, 8] (.cond (.t 8)
 (.seq (.reg [.o 9 (.mov (.t 4)),
 .o 2 (.mov (.c (.sl none 1 0 (some 0)))),
 .o 3 (.mov (.t 9))])
 (.ret))
 (.skip))))))
 (.keep [0] (.seq (.reg [.o 10 (.mov (.t 0)),
 .o 11 (.callF F_slices_Clone_string_string [(.t 10)]),
 .o 2 (.mov (.t 11)),
 .o 3 (.mov (.c (.nilI)))])
 (.ret)))))
def a_lists_bound : AFun := ⟨1, c_lists_bound, [.tmp 2, .tmp 3]⟩

/- (*patois/store.functions).Fun -/
def c_store_functions_Fun : ACode :=
 .seq (.reg [.o 4 (.mov (.c (.sl none 5 0 (some 0)))),
 .o 5 (.mov (.c (.bool false)))])
 (.keep [0, 1] (.seq (.reg [.o 9 (.mov (.t 0)),
 .o 10 (.nilchk (.t 9)),
 .o 11 (.fieldA 0 (.t 10)),
 .o 12 (.load 1 false (.t 11)),
 .o 13 (.mov (.t 1)),
 .o 14 (.lookup (.sl none 5 0 (some 0)) true (.t 12) (.t 13)),
 .o 8 (.mov (.t 14)),
 .o 15 (.extract (.t 8) 0),
 .o 16 (.extract (.t 8) 1),
 .o 6 (.mov (.t 15)),
 .o 7 (.mov (.t 16))])
 (.keep [6, 7] (.seq (.reg [.o 17 (.mov (.t 6)),
 .o 18 (.callF F_slices_Clone_api_Node_api_Node [(.t 17)]),
 .o 19 (.mov (.t 7)),
 .o 4 (.mov (.t 18)),
 .o 5 (.mov (.t 19))])
 (.ret)))))
def a_store_functions_Fun : AFun := ⟨2, c_store_functions_Fun, [.tmp 4, .tmp 5]⟩

/- (*patois/run.runner).frame -/
def c_run_runner_frame : ACode :=
 .seq (.reg [.o 3 (.box (.t 0)),
 .o 4 (.box (.t 1)),
 .o 5 (.box (.t 2)),
 .o 6 (.mov (.c (.int .i64 0))),
 .o 7 (.mov (.c (.nilI)))])
 (.keep [3, 4, 5] (.seq (.reg [.o 8 (.alloc [.int .i64 0]),
 .n (.store 1 (.t 8) (.c (.int .i64 0)))])
 (.keep [3, 4, 5, 8] (.seq (.reg [.o 10 (.load 1 false (.t 3)),
 .o 11 (.mkFn F_run_runner_frame_1 [(.t 3), (.t 4), (.t 5), (.t 8)]),
 .o 12 (.callF F_run_runner_deeper [(.t 10), (.t 11)]),
 .o 9 (.mov (.t 12))])
 (.keep [8, 9] (.seq (.reg [.o 13 (.load 1 false (.t 8)),
 .o 14 (.mov (.t 9)),
 .o 6 (.mov (.t 13)),
 .o 7 (.mov (.t 14))])
 (.ret)))))))
def a_run_runner_frame : AFun := ⟨3, c_run_runner_frame, [.tmp 6, .tmp 7]⟩

/- patois/builtin.Do -/
def c_builtin_Do : ACode :=
 .seq (.reg [.o 6 (.alloc [.str [], .str [], .int .i64 0, .str [], .str [], .bool false]),
 .o 7 (.mov (.c (.bool false)))])
 (.keep [0, 1, 2, 6] (.seq (.reg [.o 12 (.callF F_builtin_commands []),
 .o 13 (.mov (.t 0)),
 .o 14 (.lookup (.nilFn) true (.t 12) (.t 13)),
 .o 11 (.mov (.t 14)),
 .o 15 (.extract (.t 11) 0),
 .o 16 (.extract (.t 11) 1),
 .o 8 (.mov (.t 15)),
 .o 9 (.mov (.t 16))])
 (.keep [1, 2, 6, 8, 9] (.seq (.seq (.reg [.o 17 (.mov (.t 9)),
 .o 18 (.not (.t 17))])
 (.keep [1, 2, 6, 8, 18] (.cond (.t 18)
 (.seq (.reg [.o 19 (.build [.str [], .str [], .int .i64 0, .str [], .str [], .bool false] []),
 .n (.store 6 (.t 6) (.t 19)),
 .o 7 (.mov (.c (.bool false)))])
 (.ret))
 (.skip))))
 (.keep [1, 2, 6, 8] (.seq (.reg [.o 20 (.mov (.t 1)),
 .o 21 (.build [.str [], .str [], .int .i64 0, .str [], .str [], .bool false] [(1, 1, (.t 20))]),
 .o 10 (.alloc [.str [], .str [], .int .i64 0, .str [], .str [], .bool false]),
 .n (.store 6 (.t 10) (.t 21))])
 (.keep [1, 2, 6, 8, 10] (.seq (.reg [.o 22 (.mov (.t 8)),
 .o 23 (.mov (.t 1)),
 .o 24 (.mov (.t 2)),
 .o 25 (.callV (.t 22) [(.t 10), (.t 23), (.t 24)])])
 (.keep [6, 10] (.seq (.reg [.o 26 (.load 6 true (.t 10)),
 .n (.store 6 (.t 6) (.t 26)),
 .o 7 (.mov (.c (.bool true)))])
 (.ret)))))))))))
def a_builtin_Do : AFun := ⟨3, c_builtin_Do, [.cell 6 6 true, .tmp 7]⟩

/- (*patois/run.runner).exec -/
def c_run_runner_exec : ACode :=
 .seq (.reg [.o 6 (.mov (.c (.int .i64 0))),
 .o 7 (.mov (.c (.nilI)))])
 (.keep [0, 1, 2] (.seq (.dreg [⟨0, .o 12 (.mov (.t 0)), [], []⟩,
 ⟨1, .o 13 (.nilchk (.t 12)), [0], []⟩,
 ⟨2, .o 14 (.fieldA 0 (.t 13)), [0, 1], []⟩,
 ⟨3, .o 15 (.load 1 false (.t 14)), [0, 1, 2], []⟩,
 ⟨4, .o 16 (.mov (.t 1)), [], []⟩,
 ⟨5, .o 17 (.mov (.t 0)), [], []⟩,
 ⟨6, .o 18 (.nilchk (.t 17)), [5], []⟩,
 ⟨7, .o 19 (.fieldA 10 (.t 18)), [5, 6], []⟩,
 ⟨8, .o 20 (.load 1 false (.t 19)), [5, 6, 7], []⟩,
 ⟨9, .o 21 (.mov (.t 2)), [], []⟩,
 ⟨10, .o 22 (.callF F_world_Kernel_Exec [(.t 15), (.t 16), (.t 20), (.t 21)]), [0, 1, 2, 3, 4, 5, 6, 7, 8, 9], []⟩,
 ⟨11, .o 11 (.mov (.t 22)), [0, 1, 2, 3, 4, 5, 6, 7, 8, 9, 10], []⟩,
 ⟨12, .o 23 (.extract (.t 11) 0), [0, 1, 2, 3, 4, 5, 6, 7, 8, 9, 10, 11], []⟩,
 ⟨13, .o 24 (.extract (.t 11) 1), [0, 1, 2, 3, 4, 5, 6, 7, 8, 9, 10, 11], []⟩,
 ⟨14, .o 25 (.extract (.t 11) 2), [0, 1, 2, 3, 4, 5, 6, 7, 8, 9, 10, 11], []⟩,
 ⟨15, .o 8 (.mov (.t 23)), [0, 1, 2, 3, 4, 5, 6, 7, 8, 9, 10, 11, 12], []⟩,
 ⟨16, .o 9 (.mov (.t 24)), [0, 1, 2, 3, 4, 5, 6, 7, 8, 9, 10, 11, 12, 13, 15], []⟩,
 ⟨17, .o 10 (.mov (.t 25)), [0, 1, 2, 3, 4, 5, 6, 7, 8, 9, 10, 11, 12, 13, 14, 15, 16], []⟩])
 (.keep [0, 1, 2, 8, 9] (.seq (.seq (.reg [.o 26 (.mov (.t 0)),
 .o 27 (.nilchk (.t 26)),
 .o 28 (.fieldA 0 (.t 27)),
 .o 29 (.load 1 false (.t 28)),
 .o 30 (.mov (.t 1)),
 .o 31 (.mov (.t 2)),
 .o 32 (.callF F_world_Kernel_Reads [(.t 29), (.t 30), (.t 31)])])
 (.keep [0, 8, 9, 32] (.cond (.t 32)
 (.reg [.o 33 (.mov (.t 0)),
 .o 34 (.nilchk (.t 33)),
 .o 35 (.fieldA 10 (.t 34)),
 .n (.store 1 (.t 35) (.c (.str [])))])
 (.skip))))
 (.keep [0, 8, 9] (.seq (.reg [.o 36 (.mov (.t 9)),
 .o 37 (.mov (.t 0)),
 .o 38 (.mov (.t 8)),
 .o 39 (.callF F_run_runner_say [(.t 37), (.t 38)]),
 .o 6 (.mov (.t 36)),
 .o 7 (.mov (.t 39))])
 (.ret)))))))
def a_run_runner_exec : AFun := ⟨3, c_run_runner_exec, [.tmp 6, .tmp 7]⟩

/- (*patois/run.runner).say -/
def c_run_runner_say : ACode :=
 .seq (.reg [.o 4 (.mov (.c (.nilI)))])
 (.keep [0, 1] (.seq (.seq (.reg [.o 5 (.mov (.t 0)),
 .o 6 (.nilchk (.t 5)),
 .o 7 (.fieldA 11 (.t 6)),
 .o 8 (.fieldA 0 (.t 7)),
 .o 9 (.load 1 false (.t 8)),
 .o 10 (.eq false .ptr (.t 9) (.c (.ptr none)))])
 (.keep [0, 1, 10] (.cond (.t 10)
 (.seq (.dreg [⟨0, .o 11 (.mov (.t 0)), [], []⟩,
 ⟨1, .o 12 (.nilchk (.t 11)), [0], []⟩,
 ⟨2, .o 13 (.fieldA 0 (.t 12)), [0, 1], []⟩,
 ⟨3, .o 14 (.load 1 false (.t 13)), [0, 1, 2], []⟩,
 ⟨4, .o 15 (.mov (.t 0)), [], []⟩,
 ⟨5, .o 16 (.nilchk (.t 15)), [4], []⟩,
 ⟨6, .o 17 (.fieldA 11 (.t 16)), [4, 5], []⟩,
 ⟨7, .o 18 (.fieldA 1 (.t 17)), [4, 5, 6], []⟩,
 ⟨8, .o 19 (.load 1 false (.t 18)), [4, 5, 6, 7], []⟩,
 ⟨9, .o 20 (.mov (.t 1)), [], []⟩,
 ⟨10, .o 21 (.callF F_world_Kernel_Write [(.t 14), (.t 19), (.t 20)]), [0, 1, 2, 3, 4, 5, 6, 7, 8, 9], []⟩,
 ⟨11, .o 4 (.mov (.t 21)), [0, 1, 2, 3, 4, 5, 6, 7, 8, 9, 10], []⟩])
 (.ret))
 (.skip))))
 (.keep [0, 1] (.seq (.seq (.reg [.o 22 (.mov (.t 1)),
 .o 23 (.len true (.t 22)),
 .o 24 (.mov (.t 0)),
 .o 25 (.nilchk (.t 24)),
 .o 26 (.fieldA 11 (.t 25)),
 .o 27 (.fieldA 0 (.t 26)),
 .o 28 (.load 1 false (.t 27)),
 .o 29 (.nilchk (.t 28)),
 .o 30 (.load 1 false (.t 29)),
 .o 31 (.len true (.t 30)),
 .o 32 (.bin .sub (.c (.int .i64 2000)) (.t 31)),
 .o 33 (.bin .gtr (.t 23) (.t 32))])
 (.keep [0, 1, 33] (.cond (.t 33)
 (.seq (.reg [.o 34 (.load 1 false (.g G_api_ErrBig)),
 .o 4 (.mov (.t 34))])
 (.ret))
 (.skip))))
 (.keep [0, 1] (.seq (.reg [.o 35 (.mov (.t 0)),
 .o 36 (.nilchk (.t 35)),
 .o 37 (.fieldA 11 (.t 36)),
 .o 38 (.fieldA 0 (.t 37)),
 .o 39 (.load 1 false (.t 38)),
 .o 40 (.nilchk (.t 39)),
 .o 41 (.load 1 false (.t 40)),
 .o 42 (.mov (.t 1)),
 .o 43 (.bin .add (.t 41) (.t 42)),
 .o 44 (.nilchk (.t 39)),
 .n (.store 1 (.t 44) (.t 43))])
 (.keep [] (.seq (.reg [.o 4 (.mov (.c (.nilI)))])
 (.ret)))))))))
def a_run_runner_say : AFun := ⟨2, c_run_runner_say, [.tmp 4]⟩

/- (*patois/world.asked).Mark -/
def c_world_asked_Mark : ACode :=
 .seq (.reg [.o 6 (.mov (.t 1)),
 .o 7 (.bin .eql (.t 6) (.c (.int .i64 4))),
 .o 8 (.mov (.t 7)),
 .g (some 9) 8 false (.mov (.t 1)),
 .g (some 10) 8 false (.bin .eql (.t 9) (.c (.int .i64 5))),
 .o 11 (.pick (.t 8) (.c (.bool true)) (.t 10)),
 .o 12 (.mov (.t 11)),
 .g (some 13) 12 false (.mov (.t 1)),
 .g (some 14) 12 false (.bin .eql (.t 13) (.c (.int .i64 6))),
 .o 15 (.pick (.t 12) (.c (.bool true)) (.t 14))])
 (.keep [0, 1, 2, 15] (.cond (.t 15)
 (.reg [.o 16 (.mov (.t 0)),
 .o 17 (.mov (.t 1)),
 .o 18 (.mov (.t 2)),
 .o 19 (.build [.int .i64 0, .int .i64 0, .str [], .str [], .sl none 1 0 (some 0)] [(0, 1, (.t 17)), (1, 1, (.t 18))]),
 .o 20 (.callF F_world_asked_note [(.t 16), (.t 19)])])
 (.skip)))
def a_world_asked_Mark : AFun := ⟨3, c_world_asked_Mark, []⟩

/- (*patois/run.runner).pipe$1 -/
def c_run_runner_pipe_1 : ACode :=
 .seq (.reg [.o 3 (.mov (.c (.nilI)))])
 (.keep [0, 1, 2] (.seq (.reg [.o 4 (.mov (.c (.nilI)))])
 (.keep [0, 1, 2] (.seq (.reg [.o 6 (.load 1 false (.t 0)),
 .o 7 (.load 1 false (.t 1)),
 .o 8 (.callF F_run_runner_do [(.t 6), (.t 7)]),
 .o 5 (.mov (.t 8)),
 .o 9 (.extract (.t 5) 0),
 .o 10 (.extract (.t 5) 1),
 .n (.store 1 (.t 2) (.t 9)),
 .o 4 (.mov (.t 10))])
 (.keep [4] (.seq (.reg [.o 11 (.mov (.t 4)),
 .o 3 (.mov (.t 11))])
 (.ret)))))))
def a_run_runner_pipe_1 : AFun := ⟨3, c_run_runner_pipe_1, [.tmp 3]⟩

/- (*patois/run.runner).catch -/
def c_run_runner_catch : ACode :=
 .seq (.reg [.o 4 (.mov (.c (.str []))),
 .o 5 (.mov (.c (.nilI)))])
 (.keep [0, 1] (.seq (.reg [.o 6 (.alloc [.str []]),
 .n (.store 1 (.t 6) (.c (.str [])))])
 (.keep [0, 1, 6] (.seq (.reg [.o 9 (.mov (.t 0)),
 .o 10 (.nilchk (.t 9)),
 .o 11 (.fieldA 11 (.t 10)),
 .o 12 (.load 2 true (.t 11)),
 .o 7 (.alloc [.ptr none, .str []]),
 .n (.store 2 (.t 7) (.t 12))])
 (.keep [0, 1, 6, 7] (.seq (.reg [.o 13 (.mov (.t 0)),
 .o 14 (.build [.ptr none, .str []] [(0, 1, (.t 6))]),
 .o 15 (.nilchk (.t 13)),
 .o 16 (.fieldA 11 (.t 15)),
 .n (.store 2 (.t 16) (.t 14))])
 (.keep [0, 1, 6, 7] (.seq (.seq (.reg [.o 17 (.mov (.t 1)),
 .o 18 (.callV (.t 17) []),
 .o 8 (.mov (.t 18))])
 (.keep [0, 6, 7, 8] (.seq (.reg [.o 19 (.mov (.t 8)),
 .o 20 (.eq true .ifc (.t 19) (.c (.nilI)))])
 (.keep [0, 6, 7, 8, 20] (.cond (.t 20)
 (.seq (.reg [.o 21 (.mov (.t 8)),
 .o 4 (.mov (.c (.str []))),
 .o 5 (.mov (.t 21))])
 (.ret))
 (.skip))))))
 (.keep [0, 6, 7] (.seq (.reg [.o 22 (.mov (.t 0)),
 .o 23 (.load 2 true (.t 7)),
 .o 24 (.nilchk (.t 22)),
 .o 25 (.fieldA 11 (.t 24)),
 .n (.store 2 (.t 25) (.t 23))])
 (.keep [6] (.seq (.reg [.o 26 (.load 1 false (.t 6)),
 .o 4 (.mov (.t 26)),
 .o 5 (.mov (.c (.nilI)))])
 (.ret)))))))))))))
def a_run_runner_catch : AFun := ⟨2, c_run_runner_catch, [.tmp 4, .tmp 5]⟩

end Go.Proofs.YtbpgbhmibmcbnaaGreatDoor.Ram

namespace Go.Proofs.YtbpgbhmibmcbnaaGreatDoor.Ram
open Go
/- patois/core.named -/
def c_core_named : ACode :=
 .seq (.reg [.o 2 (.mov (.c (.bool false)))])
 (.keep [0] (.seq (.reg [.o 3 (.bslice false 1 5 [.int .i64 0, .int .i64 0, .int .i64 0, .int .i64 0, .int .i64 0] [(0, 1, (.c (.int .i64 2))), (1, 1, (.c (.int .i64 22))), (2, 1, (.c (.int .i64 29))), (3, 1, (.c (.int .i64 31))), (4, 1, (.c (.int .i64 35)))]),
 .o 4 (.mov (.t 0)),
 .o 5 (.callF F_slices_Contains_int_int [(.t 3), (.t 4)]),
 .o 2 (.mov (.t 5))])
 (.ret)))
def a_core_named : AFun := ⟨1, c_core_named, [.tmp 2]⟩

/- slices.ContainsFunc[[]string,string] -/
def c_slices_ContainsFunc_string_string : ACode :=
 .seq (.reg [.o 4 (.mov (.c (.bool false)))])
 (.keep [0, 1] (.seq (.reg [.o 5 (.mov (.t 0)),
 .o 6 (.mov (.t 1)),
 .o 7 (.callF F_slices_IndexFunc_string_string [(.t 5), (.t 6)]),
 .o 8 (.bin .geq (.t 7) (.c (.int .i64 0))),
 .o 4 (.mov (.t 8))])
 (.ret)))
def a_slices_ContainsFunc_string_string : AFun := ⟨2, c_slices_ContainsFunc_string_string, [.tmp 4]⟩

/- patois/world.May$1 -/
def c_world_May_1 : ACode :=
 .seq (.reg [.o 2 (.mov (.c (.bool false)))])
 (.keep [0] (.seq (.reg [.o 3 (.mov (.t 0)),
 .o 4 (.len true (.t 3)),
 .o 5 (.bin .gtr (.t 4) (.c (.int .i64 2000))),
 .o 2 (.mov (.t 5))])
 (.ret)))
def a_world_May_1 : AFun := ⟨1, c_world_May_1, [.tmp 2]⟩

/- slices.pdqsortCmpFunc[patois/api.File] -/
def c_slices_pdqsortCmpFunc_api_File_l0 : ACode :=
 .keep [0, 1, 2, 3, 4, 10, 11] (.block 1 (.seq (.reg [.o 21 (.mov (.t 2)),
 .o 22 (.mov (.t 1)),
 .o 23 (.bin .sub (.t 21) (.t 22)),
 .o 12 (.mov (.t 23))])
 (.keep [0, 1, 2, 3, 4, 10, 11, 12] (.seq (.seq (.reg [.o 24 (.mov (.t 12)),
 .o 25 (.bin .leq (.t 24) (.c (.int .i64 12)))])
 (.keep [0, 1, 2, 3, 4, 10, 11, 12, 25] (.cond (.t 25)
 (.seq (.reg [.o 26 (.mov (.t 0)),
 .o 27 (.mov (.t 1)),
 .o 28 (.mov (.t 2)),
 .o 29 (.mov (.t 4)),
 .o 30 (.callF F_slices_insertionSortCmpFunc_api_File [(.t 26), (.t 27), (.t 28), (.t 29)])])
 (.ret))
 (.skip))))
 (.keep [0, 1, 2, 3, 4, 10, 11, 12] (.seq (.seq (.reg [.o 31 (.mov (.t 3)),
 .o 32 (.bin .eql (.t 31) (.c (.int .i64 0)))])
 (.keep [0, 1, 2, 3, 4, 10, 11, 12, 32] (.cond (.t 32)
 (.seq (.reg [.o 33 (.mov (.t 0)),
 .o 34 (.mov (.t 1)),
 .o 35 (.mov (.t 2)),
 .o 36 (.mov (.t 4)),
 .o 37 (.callF F_slices_heapSortCmpFunc_api_File [(.t 33), (.t 34), (.t 35), (.t 36)])])
 (.ret))
 (.skip))))
 (.keep [0, 1, 2, 3, 4, 10, 11, 12] (.seq (.seq (.reg [.o 38 (.mov (.t 10)),
 .o 39 (.not (.t 38))])
 (.keep [0, 1, 2, 3, 4, 10, 11, 12, 39] (.cond (.t 39)
 (.seq (.reg [.o 40 (.mov (.t 0)),
 .o 41 (.mov (.t 1)),
 .o 42 (.mov (.t 2)),
 .o 43 (.mov (.t 4)),
 .o 44 (.callF F_slices_breakPatternsCmpFunc_api_File [(.t 40), (.t 41), (.t 42), (.t 43)])])
 (.keep [0, 1, 2, 3, 4, 10, 11, 12] (.reg [.o 45 (.mov (.t 3)),
 .o 46 (.bin .sub (.t 45) (.c (.int .i64 1))),
 .o 3 (.mov (.t 46))])))
 (.skip))))
 (.keep [0, 1, 2, 3, 4, 10, 11, 12] (.seq (.reg [.o 48 (.mov (.t 0)),
 .o 49 (.mov (.t 1)),
 .o 50 (.mov (.t 2)),
 .o 51 (.mov (.t 4)),
 .o 52 (.callF F_slices_choosePivotCmpFunc_api_File [(.t 48), (.t 49), (.t 50), (.t 51)]),
 .o 47 (.mov (.t 52)),
 .o 53 (.extract (.t 47) 0),
 .o 54 (.extract (.t 47) 1),
 .o 13 (.mov (.t 53)),
 .o 14 (.mov (.t 54))])
 (.keep [0, 1, 2, 3, 4, 10, 11, 12, 13, 14] (.seq (.seq (.reg [.o 55 (.mov (.t 14)),
 .o 56 (.bin .eql (.t 55) (.c (.int .i64 2)))])
 (.keep [0, 1, 2, 3, 4, 10, 11, 12, 13, 14, 56] (.cond (.t 56)
 (.seq (.reg [.o 57 (.mov (.t 0)),
 .o 58 (.mov (.t 1)),
 .o 59 (.mov (.t 2)),
 .o 60 (.mov (.t 4)),
 .o 61 (.callF F_slices_reverseRangeCmpFunc_api_File [(.t 57), (.t 58), (.t 59), (.t 60)])])
 (.keep [0, 1, 2, 3, 4, 10, 11, 12, 13] (.seq (.reg [.o 62 (.mov (.t 2)),
 .o 63 (.bin .sub (.t 62) (.c (.int .i64 1))),
 .o 64 (.mov (.t 13)),
 .o 65 (.mov (.t 1)),
 .o 66 (.bin .sub (.t 64) (.t 65)),
 .o 67 (.bin .sub (.t 63) (.t 66)),
 .o 13 (.mov (.t 67))])
 (.keep [0, 1, 2, 3, 4, 10, 11, 12, 13] (.reg [.o 14 (.mov (.c (.int .i64 1)))])))))
 (.skip))))
 (.keep [0, 1, 2, 3, 4, 10, 11, 12, 13, 14] (.seq (.seq (.reg [.o 68 (.mov (.t 10)),
 .o 69 (.mov (.t 68)),
 .g (some 70) 69 true (.mov (.t 11)),
 .o 71 (.pick (.t 69) (.t 70) (.c (.bool false))),
 .o 72 (.mov (.t 71)),
 .g (some 73) 72 true (.mov (.t 14)),
 .g (some 74) 72 true (.bin .eql (.t 73) (.c (.int .i64 1))),
 .o 75 (.pick (.t 72) (.t 74) (.c (.bool false)))])
 (.keep [0, 1, 2, 3, 4, 10, 11, 12, 13, 75] (.cond (.t 75)
 (.seq (.reg [.o 76 (.mov (.t 0)),
 .o 77 (.mov (.t 1)),
 .o 78 (.mov (.t 2)),
 .o 79 (.mov (.t 4)),
 .o 80 (.callF F_slices_partialInsertionSortCmpFunc_api_File [(.t 76), (.t 77), (.t 78), (.t 79)])])
 (.keep [0, 1, 2, 3, 4, 10, 11, 12, 13, 80] (.cond (.t 80)
 (.ret)
 (.skip))))
 (.skip))))
 (.keep [0, 1, 2, 3, 4, 10, 11, 12, 13] (.seq (.seq (.dreg [⟨0, .o 81 (.mov (.t 1)), [], []⟩,
 ⟨1, .o 82 (.bin .gtr (.t 81) (.c (.int .i64 0))), [0], []⟩,
 ⟨2, .o 83 (.mov (.t 82)), [0, 1], []⟩,
 ⟨3, .g (some 84) 83 true (.mov (.t 4)), [0, 1, 2], []⟩,
 ⟨4, .g (some 85) 83 true (.mov (.t 0)), [0, 1, 2], []⟩,
 ⟨5, .g (some 86) 83 true (.mov (.t 1)), [0, 1, 2], []⟩,
 ⟨6, .g (some 87) 83 true (.bin .sub (.t 86) (.c (.int .i64 1))), [0, 1, 2, 5], []⟩,
 ⟨7, .g (some 88) 83 true (.indexA 2 (.t 85) (.t 87)), [0, 1, 2, 4, 5, 6], []⟩,
 ⟨8, .g (some 89) 83 true (.load 2 true (.t 88)), [0, 1, 2, 4, 5, 6, 7], []⟩,
 ⟨9, .g (some 90) 83 true (.mov (.t 0)), [0, 1, 2], []⟩,
 ⟨10, .g (some 91) 83 true (.mov (.t 13)), [0, 1, 2], []⟩,
 ⟨11, .g (some 92) 83 true (.indexA 2 (.t 90) (.t 91)), [0, 1, 2, 9, 10], []⟩,
 ⟨12, .g (some 93) 83 true (.load 2 true (.t 92)), [0, 1, 2, 9, 10, 11], []⟩,
 ⟨13, .g (some 94) 83 true (.callV (.t 84) [(.t 89), (.t 93)]), [0, 1, 2, 3, 4, 5, 6, 7, 8, 9, 10, 11, 12], []⟩,
 ⟨14, .g (some 95) 83 true (.bin .lss (.t 94) (.c (.int .i64 0))), [0, 1, 2, 3, 4, 5, 6, 7, 8, 9, 10, 11, 12, 13], []⟩,
 ⟨15, .g (some 96) 83 true (.not (.t 95)), [0, 1, 2, 3, 4, 5, 6, 7, 8, 9, 10, 11, 12, 13, 14], []⟩,
 ⟨16, .o 97 (.pick (.t 83) (.t 96) (.c (.bool false))), [0, 1, 2, 3, 4, 5, 6, 7, 8, 9, 10, 11, 12, 13, 14, 15], []⟩])
 (.keep [0, 1, 2, 3, 4, 10, 11, 12, 13, 97] (.cond (.t 97)
 (.seq (.reg [.o 98 (.mov (.t 0)),
 .o 99 (.mov (.t 1)),
 .o 100 (.mov (.t 2)),
 .o 101 (.mov (.t 13)),
 .o 102 (.mov (.t 4)),
 .o 103 (.callF F_slices_partitionEqualCmpFunc_api_File [(.t 98), (.t 99), (.t 100), (.t 101), (.t 102)]),
 .o 15 (.mov (.t 103))])
 (.keep [0, 2, 3, 4, 10, 11, 15] (.seq (.reg [.o 104 (.mov (.t 15)),
 .o 1 (.mov (.t 104))])
 (.exit 1))))
 (.skip))))
 (.keep [0, 1, 2, 3, 4, 12, 13] (.seq (.reg [.o 106 (.mov (.t 0)),
 .o 107 (.mov (.t 1)),
 .o 108 (.mov (.t 2)),
 .o 109 (.mov (.t 13)),
 .o 110 (.mov (.t 4)),
 .o 111 (.callF F_slices_partitionCmpFunc_api_File [(.t 106), (.t 107), (.t 108), (.t 109), (.t 110)]),
 .o 105 (.mov (.t 111)),
 .o 112 (.extract (.t 105) 0),
 .o 113 (.extract (.t 105) 1),
 .o 16 (.mov (.t 112)),
 .o 17 (.mov (.t 113))])
 (.keep [0, 1, 2, 3, 4, 12, 16, 17] (.seq (.reg [.o 114 (.mov (.t 17)),
 .o 11 (.mov (.t 114))])
 (.keep [0, 1, 2, 3, 4, 11, 12, 16] (.seq (.reg [.o 115 (.mov (.t 16)),
 .o 116 (.mov (.t 1)),
 .o 117 (.bin .sub (.t 115) (.t 116)),
 .o 118 (.mov (.t 2)),
 .o 119 (.mov (.t 16)),
 .o 120 (.bin .sub (.t 118) (.t 119)),
 .o 18 (.mov (.t 117)),
 .o 19 (.mov (.t 120))])
 (.keep [0, 1, 2, 3, 4, 11, 12, 16, 18, 19] (.seq (.reg [.o 121 (.mov (.t 12)),
 .o 122 (.bin .quo (.t 121) (.c (.int .i64 8))),
 .o 20 (.mov (.t 122))])
 (.keep [0, 1, 2, 3, 4, 11, 16, 18, 19, 20] (.seq (.reg [.o 123 (.mov (.t 18)),
 .o 124 (.mov (.t 19)),
 .o 125 (.bin .lss (.t 123) (.t 124))])
 (.keep [0, 1, 2, 3, 4, 11, 16, 18, 19, 20, 125] (.cond (.t 125)
 (.seq (.reg [.o 126 (.mov (.t 18)),
 .o 127 (.mov (.t 20)),
 .o 128 (.bin .geq (.t 126) (.t 127)),
 .o 10 (.mov (.t 128))])
 (.keep [0, 1, 2, 3, 4, 10, 11, 16] (.seq (.reg [.o 129 (.mov (.t 0)),
 .o 130 (.mov (.t 1)),
 .o 131 (.mov (.t 16)),
 .o 132 (.mov (.t 3)),
 .o 133 (.mov (.t 4)),
 .o 134 (.callF F_slices_pdqsortCmpFunc_api_File [(.t 129), (.t 130), (.t 131), (.t 132), (.t 133)])])
 (.keep [0, 2, 3, 4, 10, 11, 16] (.reg [.o 135 (.mov (.t 16)),
 .o 136 (.bin .add (.t 135) (.c (.int .i64 1))),
 .o 1 (.mov (.t 136))])))))
 (.seq (.reg [.o 137 (.mov (.t 19)),
 .o 138 (.mov (.t 20)),
 .o 139 (.bin .geq (.t 137) (.t 138)),
 .o 10 (.mov (.t 139))])
 (.keep [0, 1, 2, 3, 4, 10, 11, 16] (.seq (.reg [.o 140 (.mov (.t 0)),
 .o 141 (.mov (.t 16)),
 .o 142 (.bin .add (.t 141) (.c (.int .i64 1))),
 .o 143 (.mov (.t 2)),
 .o 144 (.mov (.t 3)),
 .o 145 (.mov (.t 4)),
 .o 146 (.callF F_slices_pdqsortCmpFunc_api_File [(.t 140), (.t 142), (.t 143), (.t 144), (.t 145)])])
 (.keep [0, 1, 3, 4, 10, 11, 16] (.reg [.o 147 (.mov (.t 16)),
 .o 2 (.mov (.t 147))])))))))))))))))))))))))))))))))))
def c_slices_pdqsortCmpFunc_api_File : ACode :=
 .seq (.reg [.o 10 (.mov (.c (.bool true)))])
 (.keep [0, 1, 2, 3, 4, 10] (.seq (.reg [.o 11 (.mov (.c (.bool true)))])
 (.keep [0, 1, 2, 3, 4, 10, 11] (.block 0 (.loop c_slices_pdqsortCmpFunc_api_File_l0)))))
def a_slices_pdqsortCmpFunc_api_File : AFun := ⟨5, c_slices_pdqsortCmpFunc_api_File, []⟩

/- math/bits.Len -/
def c_math_bits_Len : ACode :=
 .seq (.reg [.o 2 (.mov (.c (.int .i64 0)))])
 (.keep [0] (.seq (.cond (.c (.bool false))
 (.seq (.reg [.o 3 (.mov (.t 0)),
 .o 4 (.conv .u32 (.t 3)),
 .o 5 (.callF F_math_bits_Len32 [(.t 4)]),
 .o 2 (.mov (.t 5))])
 (.ret))
 (.skip))
 (.keep [0] (.seq (.reg [.o 6 (.mov (.t 0)),
 .o 7 (.callF F_math_bits_Len64 [(.t 6)]),
 .o 2 (.mov (.t 7))])
 (.ret)))))
def a_math_bits_Len : AFun := ⟨1, c_math_bits_Len, [.tmp 2]⟩

/- patois/lists.Fits$1 -/
def c_lists_Fits_1 : ACode :=
 .seq (.reg [.o 2 (.mov (.c (.bool false)))])
 (.keep [0] (.seq (.reg [.o 3 (.mov (.t 0)),
 .o 4 (.len true (.t 3)),
 .o 5 (.bin .gtr (.t 4) (.c (.int .i64 2000))),
 .o 2 (.mov (.t 5))])
 (.ret)))
def a_lists_Fits_1 : AFun := ⟨1, c_lists_Fits_1, [.tmp 2]⟩

/- patois/text.begins -/
def c_text_begins : ACode :=
 .seq (.reg [.o 2 (.mov (.c (.bool false)))])
 (.keep [0] (.seq (.reg [.o 3 (.mov (.t 0)),
 .o 4 (.bin .or (.t 3) (.c (.int .u8 32))),
 .o 5 (.bin .geq (.t 4) (.c (.int .u8 97))),
 .o 6 (.mov (.t 5)),
 .g (some 7) 6 true (.mov (.t 0)),
 .g (some 8) 6 true (.bin .or (.t 7) (.c (.int .u8 32))),
 .g (some 9) 6 true (.bin .leq (.t 8) (.c (.int .u8 122))),
 .o 10 (.pick (.t 6) (.t 9) (.c (.bool false))),
 .o 11 (.mov (.t 10)),
 .g (some 12) 11 false (.mov (.t 0)),
 .g (some 13) 11 false (.bin .eql (.t 12) (.c (.int .u8 95))),
 .o 14 (.pick (.t 11) (.c (.bool true)) (.t 13)),
 .o 2 (.mov (.t 14))])
 (.ret)))
def a_text_begins : AFun := ⟨1, c_text_begins, [.tmp 2]⟩

/- patois/text.goesOn -/
def c_text_goesOn : ACode :=
 .seq (.reg [.o 2 (.mov (.c (.bool false)))])
 (.keep [0] (.seq (.reg [.o 3 (.mov (.t 0)),
 .o 4 (.callF F_text_begins [(.t 3)]),
 .o 5 (.mov (.t 4)),
 .g (some 6) 5 false (.mov (.t 0)),
 .g (some 7) 5 false (.bin .geq (.t 6) (.c (.int .u8 48))),
 .g (some 8) 5 false (.mov (.t 7)),
 .g (some 9) 8 true (.mov (.t 0)),
 .g (some 10) 8 true (.bin .leq (.t 9) (.c (.int .u8 57))),
 .g (some 11) 5 false (.pick (.t 8) (.t 10) (.c (.bool false))),
 .o 12 (.pick (.t 5) (.c (.bool true)) (.t 11)),
 .o 2 (.mov (.t 12))])
 (.ret)))
def a_text_goesOn : AFun := ⟨1, c_text_goesOn, [.tmp 2]⟩

/- (*patois/store.values).Get -/
def c_store_values_Get : ACode :=
 .seq (.reg [.o 4 (.mov (.c (.sl none 1 0 (some 0)))),
 .o 5 (.mov (.c (.bool false)))])
 (.keep [0, 1] (.seq (.seq (.reg [.o 8 (.mov (.t 1)),
 .o 9 (.bin .eql (.t 8) (.c (.str [42])))])
 (.keep [0, 1, 9] (.cond (.t 9)
 (.seq (.reg [.o 10 (.mov (.t 0)),
 .o 11 (.callF F_store_values_Args [(.t 10)]),
 .o 4 (.mov (.t 11)),
 .o 5 (.mov (.c (.bool true)))])
 (.ret))
 (.skip))))
 (.keep [0, 1] (.seq (.reg [.o 13 (.mov (.t 0)),
 .o 14 (.nilchk (.t 13)),
 .o 15 (.fieldA 0 (.t 14)),
 .o 16 (.load 1 false (.t 15)),
 .o 17 (.mov (.t 1)),
 .o 18 (.lookup (.sl none 1 0 (some 0)) true (.t 16) (.t 17)),
 .o 12 (.mov (.t 18)),
 .o 19 (.extract (.t 12) 0),
 .o 20 (.extract (.t 12) 1),
 .o 6 (.mov (.t 19)),
 .o 7 (.mov (.t 20))])
 (.keep [6, 7] (.seq (.reg [.o 21 (.mov (.t 6)),
 .o 22 (.callF F_slices_Clone_string_string [(.t 21)]),
 .o 23 (.mov (.t 7)),
 .o 4 (.mov (.t 22)),
 .o 5 (.mov (.t 23))])
 (.ret)))))))
def a_store_values_Get : AFun := ⟨2, c_store_values_Get, [.tmp 4, .tmp 5]⟩

/- (*patois/run.runner).deeper -/
def c_run_runner_deeper : ACode :=
 .seq (.reg [.o 4 (.mov (.c (.nilI)))])
 (.keep [0, 1] (.seq (.seq (.dreg [⟨0, .o 6 (.mov (.t 0)), [], []⟩,
 ⟨1, .o 7 (.nilchk (.t 6)), [0], []⟩,
 ⟨2, .o 8 (.fieldA 9 (.t 7)), [0, 1], []⟩,
 ⟨3, .o 9 (.load 1 false (.t 8)), [0, 1, 2], []⟩,
 ⟨4, .o 10 (.mov (.t 0)), [], []⟩,
 ⟨5, .o 11 (.nilchk (.t 10)), [4], []⟩,
 ⟨6, .o 12 (.fieldA 2 (.t 11)), [4, 5], []⟩,
 ⟨7, .o 13 (.fieldA 2 (.t 12)), [4, 5, 6], []⟩,
 ⟨8, .o 14 (.load 1 false (.t 13)), [4, 5, 6, 7], []⟩,
 ⟨9, .o 15 (.bin .geq (.t 9) (.t 14)), [0, 1, 2, 3, 4, 5, 6, 7, 8], []⟩])
 (.keep [0, 1, 15] (.cond (.t 15)
 (.seq (.reg [.o 16 (.load 1 false (.g G_api_ErrDeep)),
 .o 4 (.mov (.t 16))])
 (.ret))
 (.skip))))
 (.keep [0, 1] (.seq (.reg [.o 17 (.mov (.t 0)),
 .o 18 (.nilchk (.t 17)),
 .o 19 (.fieldA 9 (.t 18)),
 .o 20 (.load 1 false (.t 19)),
 .o 21 (.bin .add (.t 20) (.c (.int .i64 1))),
 .o 22 (.nilchk (.t 17)),
 .o 23 (.fieldA 9 (.t 22)),
 .n (.store 1 (.t 23) (.t 21))])
 (.keep [0, 1] (.seq (.reg [.o 24 (.mov (.t 1)),
 .o 25 (.callV (.t 24) []),
 .o 5 (.mov (.t 25))])
 (.keep [0, 5] (.seq (.seq (.reg [.o 26 (.mov (.t 5)),
 .o 27 (.eq false .ifc (.t 26) (.c (.nilI)))])
 (.keep [0, 5, 27] (.cond (.t 27)
 (.reg [.o 28 (.mov (.t 0)),
 .o 29 (.nilchk (.t 28)),
 .o 30 (.fieldA 9 (.t 29)),
 .o 31 (.load 1 false (.t 30)),
 .o 32 (.bin .sub (.t 31) (.c (.int .i64 1))),
 .o 33 (.nilchk (.t 28)),
 .o 34 (.fieldA 9 (.t 33)),
 .n (.store 1 (.t 34) (.t 32))])
 (.skip))))
 (.keep [5] (.seq (.reg [.o 35 (.mov (.t 5)),
 .o 4 (.mov (.t 35))])
 (.ret)))))))))))
def a_run_runner_deeper : AFun := ⟨2, c_run_runner_deeper, [.tmp 4]⟩

/- (*patois/run.runner).frame$1 -/
def c_run_runner_frame_1 : ACode :=
 .seq (.reg [.o 4 (.mov (.c (.nilI)))])
 (.keep [0, 1, 2, 3] (.seq (.dreg [⟨0, .o 7 (.load 1 false (.t 0)), [], []⟩,
 ⟨1, .o 8 (.nilchk (.t 7)), [0], []⟩,
 ⟨2, .o 9 (.fieldA 1 (.t 8)), [0, 1], []⟩,
 ⟨3, .o 10 (.load 1 false (.t 9)), [0, 1, 2], []⟩,
 ⟨4, .o 11 (.nilchk (.t 10)), [0, 1, 2, 3], []⟩,
 ⟨5, .o 12 (.fieldA 0 (.t 11)), [0, 1, 2, 3, 4], []⟩,
 ⟨6, .o 13 (.load 1 false (.t 1)), [], []⟩,
 ⟨7, .o 14 (.callF F_store_values_SetArgs [(.t 12), (.t 13)]), [0, 1, 2, 3, 4, 5, 6], []⟩,
 ⟨8, .o 5 (.mov (.t 14)), [0, 1, 2, 3, 4, 5, 6, 7], []⟩])
 (.keep [0, 2, 3, 5] (.seq (.reg [.o 6 (.mov (.c (.nilI)))])
 (.keep [0, 2, 3, 5] (.seq (.seq (.reg [.o 16 (.load 1 false (.t 0)),
 .o 17 (.load 1 false (.t 2)),
 .o 18 (.callF F_run_runner_do [(.t 16), (.t 17)]),
 .o 15 (.mov (.t 18)),
 .o 19 (.extract (.t 15) 0),
 .o 20 (.extract (.t 15) 1),
 .n (.store 1 (.t 3) (.t 19)),
 .o 6 (.mov (.t 20))])
 (.keep [0, 5, 6] (.seq (.reg [.o 21 (.mov (.t 6)),
 .o 22 (.eq false .ifc (.t 21) (.c (.nilI)))])
 (.keep [0, 5, 6, 22] (.cond (.t 22)
 (.reg [.o 23 (.load 1 false (.t 0)),
 .o 24 (.nilchk (.t 23)),
 .o 25 (.fieldA 1 (.t 24)),
 .o 26 (.load 1 false (.t 25)),
 .o 27 (.nilchk (.t 26)),
 .o 28 (.fieldA 0 (.t 27)),
 .o 29 (.mov (.t 5)),
 .o 30 (.callF F_store_values_SetArgs [(.t 28), (.t 29)])])
 (.skip))))))
 (.keep [6] (.seq (.reg [.o 31 (.mov (.t 6)),
 .o 4 (.mov (.t 31))])
 (.ret)))))))))
def a_run_runner_frame_1 : AFun := ⟨4, c_run_runner_frame_1, [.tmp 4]⟩

/- patois/builtin.commands -/
def c_builtin_commands : ACode :=
 .seq (.reg [.o 0 (.mov (.c (.map none)))])
 (.keep [] (.seq (.reg [.o 1 (.mkMap),
 .n (.mset (.t 1) (.c (.str [97, 100, 100])) (.f F_builtin_add)),
 .n (.mset (.t 1) (.c (.str [99, 97, 116])) (.f F_builtin_cat)),
 .n (.mset (.t 1) (.c (.str [101, 99, 104, 111])) (.f F_builtin_echo)),
 .n (.mset (.t 1) (.c (.str [101, 113])) (.f F_builtin_eq)),
 .n (.mset (.t 1) (.c (.str [101, 120, 105, 116])) (.f F_builtin_exit)),
 .n (.mset (.t 1) (.c (.str [102, 97, 108, 115, 101])) (.f F_builtin_no)),
 .n (.mset (.t 1) (.c (.str [108, 101, 115, 115])) (.f F_builtin_less)),
 .n (.mset (.t 1) (.c (.str [108, 105, 107, 101])) (.f F_builtin_like)),
 .n (.mset (.t 1) (.c (.str [112, 117, 116])) (.f F_builtin_put)),
 .n (.mset (.t 1) (.c (.str [114, 101, 97, 100])) (.f F_builtin_read)),
 .n (.mset (.t 1) (.c (.str [116, 114, 117, 101])) (.f F_builtin_yes)),
 .o 2 (.mov (.t 1)),
 .o 0 (.mov (.t 2))])
 (.ret)))
def a_builtin_commands : AFun := ⟨0, c_builtin_commands, [.tmp 0]⟩

/- (*patois/world.Kernel).Exec -/
def c_world_Kernel_Exec : ACode :=
 .seq (.reg [.o 8 (.mov (.c (.str []))),
 .o 9 (.mov (.c (.int .i64 0))),
 .o 10 (.mov (.c (.bool false)))])
 (.keep [0, 1, 2, 3] (.seq (.reg [.o 16 (.mov (.t 0)),
 .o 17 (.mov (.t 1)),
 .o 18 (.mov (.t 3)),
 .o 19 (.callF F_world_Kernel_row [(.t 16), (.t 17), (.t 18)]),
 .o 15 (.mov (.t 19)),
 .o 20 (.extract (.t 15) 0),
 .o 21 (.extract (.t 15) 1),
 .o 11 (.alloc [.str [], .sl none 1 0 (some 0), .bool false, .bool false, .bool false, .str [], .int .i64 0]),
 .n (.store 7 (.t 11) (.t 20)),
 .o 12 (.mov (.t 21))])
 (.keep [0, 1, 2, 3, 11, 12] (.seq (.dreg [⟨0, .o 22 (.fieldA 6 (.t 11)), [], []⟩,
 ⟨1, .o 23 (.load 1 false (.t 22)), [0], []⟩,
 ⟨2, .o 24 (.mov (.t 1)), [], []⟩,
 ⟨3, .o 25 (.mov (.t 3)), [], []⟩,
 ⟨6, .o 13 (.alloc [.int .i64 0, .int .i64 0, .str [], .str [], .sl none 1 0 (some 0)]), [], []⟩,
 ⟨4, .o 26 (.callF F_slices_Clone_string_string [(.t 25)]), [3], [1]⟩,
 ⟨5, .o 27 (.build [.int .i64 0, .int .i64 0, .str [], .str [], .sl none 1 0 (some 0)] [(0, 1, (.c (.int .i64 1))), (1, 1, (.t 23)), (2, 1, (.t 24)), (4, 1, (.t 26))]), [0, 1, 2, 3, 4], []⟩,
 ⟨7, .n (.store 5 (.t 13) (.t 27)), [0, 1, 2, 3, 4, 5, 6], []⟩])
 (.keep [0, 2, 11, 12, 13] (.seq (.seq (.reg [.o 28 (.fieldA 3 (.t 11)),
 .o 29 (.load 1 false (.t 28))])
 (.keep [0, 2, 11, 12, 13, 29] (.cond (.t 29)
 (.reg [.o 30 (.mov (.t 2)),
 .o 31 (.fieldA 3 (.t 13)),
 .n (.store 1 (.t 31) (.t 30))])
 (.skip))))
 (.keep [0, 2, 11, 12, 13] (.seq (.dreg [⟨0, .o 32 (.mov (.t 0)), [], []⟩,
 ⟨1, .o 33 (.nilchk (.t 32)), [0], []⟩,
 ⟨2, .o 34 (.fieldA 0 (.t 33)), [0, 1], []⟩,
 ⟨3, .o 35 (.load 5 true (.t 13)), [], []⟩,
 ⟨4, .o 36 (.callF F_world_asked_note [(.t 34), (.t 35)]), [0, 1, 2, 3], []⟩])
 (.keep [2, 11, 12] (.seq (.reg [.o 37 (.fieldA 5 (.t 11)),
 .o 38 (.load 1 false (.t 37)),
 .o 14 (.mov (.t 38))])
 (.keep [2, 11, 12, 14] (.seq (.seq (.reg [.o 39 (.fieldA 4 (.t 11)),
 .o 40 (.load 1 false (.t 39))])
 (.keep [2, 11, 12, 14, 40] (.cond (.t 40)
 (.reg [.o 41 (.mov (.t 14)),
 .o 42 (.mov (.t 2)),
 .o 43 (.bin .add (.t 41) (.t 42)),
 .o 14 (.mov (.t 43))])
 (.skip))))
 (.keep [11, 12, 14] (.seq (.dreg [⟨0, .o 44 (.mov (.t 14)), [], []⟩,
 ⟨1, .o 45 (.fieldA 6 (.t 11)), [], []⟩,
 ⟨2, .o 46 (.load 1 false (.t 45)), [1], []⟩,
 ⟨3, .o 47 (.mov (.t 12)), [], []⟩,
 ⟨4, .o 8 (.mov (.t 44)), [0], []⟩,
 ⟨5, .o 9 (.mov (.t 46)), [0, 1, 2, 4], []⟩,
 ⟨6, .o 10 (.mov (.t 47)), [0, 1, 2, 3, 4, 5], []⟩])
 (.ret)))))))))))))))
def a_world_Kernel_Exec : AFun := ⟨4, c_world_Kernel_Exec, [.tmp 8, .tmp 9, .tmp 10]⟩

/- (*patois/world.Kernel).Reads -/
def c_world_Kernel_Reads : ACode :=
 .seq (.reg [.o 6 (.mov (.c (.bool false)))])
 (.keep [0, 1, 2] (.seq (.reg [.o 10 (.mov (.t 0)),
 .o 11 (.mov (.t 1)),
 .o 12 (.mov (.t 2)),
 .o 13 (.callF F_world_Kernel_row [(.t 10), (.t 11), (.t 12)]),
 .o 9 (.mov (.t 13)),
 .o 14 (.extract (.t 9) 0),
 .o 15 (.extract (.t 9) 1),
 .o 7 (.alloc [.str [], .sl none 1 0 (some 0), .bool false, .bool false, .bool false, .str [], .int .i64 0]),
 .n (.store 7 (.t 7) (.t 14)),
 .o 8 (.mov (.t 15))])
 (.keep [7, 8] (.seq (.reg [.o 16 (.mov (.t 8)),
 .o 17 (.mov (.t 16)),
 .g (some 18) 17 true (.fieldA 3 (.t 7)),
 .g (some 19) 17 true (.load 1 false (.t 18)),
 .o 20 (.pick (.t 17) (.t 19) (.c (.bool false))),
 .o 6 (.mov (.t 20))])
 (.ret)))))
def a_world_Kernel_Reads : AFun := ⟨3, c_world_Kernel_Reads, [.tmp 6]⟩

/- (*patois/world.Kernel).Write -/
def c_world_Kernel_Write : ACode :=
 .seq (.reg [.o 6 (.mov (.c (.nilI)))])
 (.keep [0, 1, 2] (.seq (.seq (.reg [.o 9 (.mov (.t 2)),
 .o 10 (.bin .eql (.t 9) (.c (.str [])))])
 (.keep [0, 1, 2, 10] (.cond (.t 10)
 (.seq (.reg [.o 6 (.mov (.c (.nilI)))])
 (.ret))
 (.skip))))
 (.keep [0, 1, 2] (.seq (.seq (.reg [.o 11 (.mov (.t 1)),
 .o 12 (.bin .neq (.t 11) (.c (.str [])))])
 (.keep [0, 1, 2, 12] (.cond (.t 12)
 (.seq (.reg [.o 14 (.mov (.t 0)),
 .o 15 (.mov (.t 1)),
 .o 16 (.callF F_world_Kernel_file [(.t 14), (.t 15)]),
 .o 13 (.mov (.t 16)),
 .o 17 (.extract (.t 13) 0),
 .o 18 (.extract (.t 13) 1),
 .o 7 (.mov (.t 17)),
 .o 8 (.mov (.t 18))])
 (.keep [0, 1, 2, 7, 8] (.seq (.seq (.reg [.o 19 (.mov (.t 2)),
 .o 20 (.len true (.t 19)),
 .o 21 (.bin .gtr (.t 20) (.c (.int .i64 16384))),
 .o 22 (.mov (.t 21)),
 .g (some 23) 22 false (.mov (.t 8)),
 .g (some 24) 22 false (.mov (.t 23)),
 .g (some 25) 24 true (.mov (.t 2)),
 .g (some 26) 24 true (.len true (.t 25)),
 .g (some 27) 24 true (.mov (.t 0)),
 .g (some 28) 24 true (.nilchk (.t 27)),
 .g (some 29) 24 true (.fieldA 1 (.t 28)),
 .g (some 30) 24 true (.load 1 false (.t 29)),
 .g (some 31) 24 true (.mov (.t 7)),
 .g (some 32) 24 true (.indexA 2 (.t 30) (.t 31)),
 .g (some 33) 24 true (.fieldA 1 (.t 32)),
 .g (some 34) 24 true (.load 1 false (.t 33)),
 .g (some 35) 24 true (.len true (.t 34)),
 .g (some 36) 24 true (.bin .sub (.c (.int .i64 16384)) (.t 35)),
 .g (some 37) 24 true (.bin .gtr (.t 26) (.t 36)),
 .g (some 38) 22 false (.pick (.t 24) (.t 37) (.c (.bool false))),
 .o 39 (.pick (.t 22) (.c (.bool true)) (.t 38))])
 (.keep [0, 1, 2, 39] (.cond (.t 39)
 (.seq (.reg [.o 40 (.load 1 false (.g G_api_ErrBig)),
 .o 6 (.mov (.t 40))])
 (.ret))
 (.skip))))
 (.keep [0, 1, 2] (.seq (.reg [.o 41 (.mov (.t 0)),
 .o 42 (.mov (.t 1)),
 .o 43 (.callF F_world_Kernel_made [(.t 41), (.t 42)]),
 .o 7 (.mov (.t 43))])
 (.keep [0, 1, 2, 7] (.reg [.o 44 (.mov (.t 0)),
 .o 45 (.nilchk (.t 44)),
 .o 46 (.fieldA 1 (.t 45)),
 .o 47 (.load 1 false (.t 46)),
 .o 48 (.mov (.t 7)),
 .o 49 (.indexA 2 (.t 47) (.t 48)),
 .o 50 (.fieldA 1 (.t 49)),
 .o 51 (.load 1 false (.t 50)),
 .o 52 (.mov (.t 2)),
 .o 53 (.bin .add (.t 51) (.t 52)),
 .o 54 (.indexA 2 (.t 47) (.t 48)),
 .o 55 (.fieldA 1 (.t 54)),
 .n (.store 1 (.t 55) (.t 53))])))))))
 (.skip))))
 (.keep [0, 1, 2] (.seq (.reg [.o 56 (.mov (.t 0)),
 .o 57 (.nilchk (.t 56)),
 .o 58 (.fieldA 0 (.t 57)),
 .o 59 (.mov (.t 1)),
 .o 60 (.mov (.t 2)),
 .o 61 (.build [.int .i64 0, .int .i64 0, .str [], .str [], .sl none 1 0 (some 0)] [(0, 1, (.c (.int .i64 3))), (2, 1, (.t 59)), (3, 1, (.t 60))]),
 .o 62 (.callF F_world_asked_note [(.t 58), (.t 61)])])
 (.keep [] (.seq (.reg [.o 6 (.mov (.c (.nilI)))])
 (.ret)))))))))
def a_world_Kernel_Write : AFun := ⟨3, c_world_Kernel_Write, [.tmp 6]⟩

/- (*patois/world.asked).note -/
def c_world_asked_note : ACode :=
 .seq (.reg [.o 3 (.box (.t 1))])
 (.keep [0, 3] (.dreg [⟨0, .o 4 (.mov (.t 0)), [], []⟩,
 ⟨1, .o 5 (.mov (.t 0)), [], []⟩,
 ⟨2, .o 6 (.nilchk (.t 5)), [1], []⟩,
 ⟨3, .o 7 (.fieldA 0 (.t 6)), [1, 2], []⟩,
 ⟨4, .o 8 (.load 1 false (.t 7)), [1, 2, 3], []⟩,
 ⟨5, .o 9 (.load 5 true (.t 3)), [], []⟩,
 ⟨6, .o 10 (.bslice false 5 1 [.int .i64 0, .int .i64 0, .str [], .str [], .sl none 1 0 (some 0)] [(0, 5, (.t 9))]), [5], []⟩,
 ⟨7, .o 11 (.append true 5 72 (.t 8) (.t 10)), [1, 2, 3, 4, 5, 6], []⟩,
 ⟨8, .o 12 (.nilchk (.t 4)), [0, 1, 2, 3, 4, 5, 6, 7], []⟩,
 ⟨9, .o 13 (.fieldA 0 (.t 12)), [0, 1, 2, 3, 4, 5, 6, 7, 8], []⟩,
 ⟨10, .n (.store 1 (.t 13) (.t 11)), [0, 1, 2, 3, 4, 5, 6, 7, 8, 9], []⟩]))
def a_world_asked_note : AFun := ⟨2, c_world_asked_note, []⟩

/- slices.Contains[[]int,int] -/
def c_slices_Contains_int_int : ACode :=
 .seq (.reg [.o 4 (.mov (.c (.bool false)))])
 (.keep [0, 1] (.seq (.reg [.o 5 (.mov (.t 0)),
 .o 6 (.mov (.t 1)),
 .o 7 (.callF F_slices_Index_int_int [(.t 5), (.t 6)]),
 .o 8 (.bin .geq (.t 7) (.c (.int .i64 0))),
 .o 4 (.mov (.t 8))])
 (.ret)))
def a_slices_Contains_int_int : AFun := ⟨2, c_slices_Contains_int_int, [.tmp 4]⟩

/- slices.IndexFunc[[]string,string] -/
def c_slices_IndexFunc_string_string_l0 : ACode :=
 .keep [0, 1, 7, 8] (.seq (.reg [.o 9 (.bin .lss (.t 8) (.t 7))])
 (.keep [0, 1, 7, 8, 9] (.seq (.cond (.t 9)
 (.skip)
 (.exit 0))
 (.keep [0, 1, 7, 8] (.seq (.block 1 (.seq (.reg [.o 10 (.mov (.t 8)),
 .o 5 (.mov (.t 10))])
 (.keep [0, 1, 5, 7, 8] (.seq (.reg [.o 11 (.mov (.t 1)),
 .o 12 (.mov (.t 0)),
 .o 13 (.mov (.t 5)),
 .o 14 (.indexA 1 (.t 12) (.t 13)),
 .o 15 (.load 1 false (.t 14)),
 .o 16 (.callV (.t 11) [(.t 15)])])
 (.keep [0, 1, 5, 7, 8, 16] (.cond (.t 16)
 (.seq (.reg [.o 17 (.mov (.t 5)),
 .o 4 (.mov (.t 17))])
 (.ret))
 (.skip)))))))
 (.keep [0, 1, 7, 8] (.reg [.o 18 (.bin .add (.t 8) (.c (.int .i64 1))),
 .o 8 (.mov (.t 18))])))))))
def c_slices_IndexFunc_string_string : ACode :=
 .seq (.reg [.o 4 (.mov (.c (.int .i64 0)))])
 (.keep [0, 1] (.seq (.seq (.reg [.o 6 (.mov (.t 0)),
 .o 7 (.len false (.t 6)),
 .o 8 (.mov (.c (.int .i64 0)))])
 (.keep [0, 1, 7, 8] (.block 0 (.loop c_slices_IndexFunc_string_string_l0))))
 (.keep [] (.seq (.reg [.o 4 (.mov (.c (.int .i64 (-1))))])
 (.ret)))))
def a_slices_IndexFunc_string_string : AFun := ⟨2, c_slices_IndexFunc_string_string, [.tmp 4]⟩

/- slices.insertionSortCmpFunc[patois/api.File] -/
def c_slices_insertionSortCmpFunc_api_File_l0 : ACode :=
 .keep [0, 1, 2, 3, 8, 9] (.seq (.seq (.dreg [⟨0, .o 18 (.mov (.t 9)), [], []⟩,
 ⟨1, .o 19 (.mov (.t 1)), [], []⟩,
 ⟨2, .o 20 (.bin .gtr (.t 18) (.t 19)), [0, 1], []⟩,
 ⟨3, .o 21 (.mov (.t 20)), [0, 1, 2], []⟩,
 ⟨4, .g (some 22) 21 true (.mov (.t 3)), [0, 1, 2, 3], []⟩,
 ⟨5, .g (some 23) 21 true (.mov (.t 0)), [0, 1, 2, 3], []⟩,
 ⟨6, .g (some 24) 21 true (.mov (.t 9)), [0, 1, 2, 3], []⟩,
 ⟨7, .g (some 25) 21 true (.indexA 2 (.t 23) (.t 24)), [0, 1, 2, 3, 5, 6], []⟩,
 ⟨8, .g (some 26) 21 true (.load 2 true (.t 25)), [0, 1, 2, 3, 5, 6, 7], []⟩,
 ⟨9, .g (some 27) 21 true (.mov (.t 0)), [0, 1, 2, 3], []⟩,
 ⟨10, .g (some 28) 21 true (.mov (.t 9)), [0, 1, 2, 3], []⟩,
 ⟨11, .g (some 29) 21 true (.bin .sub (.t 28) (.c (.int .i64 1))), [0, 1, 2, 3, 10], []⟩,
 ⟨12, .g (some 30) 21 true (.indexA 2 (.t 27) (.t 29)), [0, 1, 2, 3, 9, 10, 11], []⟩,
 ⟨13, .g (some 31) 21 true (.load 2 true (.t 30)), [0, 1, 2, 3, 9, 10, 11, 12], []⟩,
 ⟨14, .g (some 32) 21 true (.callV (.t 22) [(.t 26), (.t 31)]), [0, 1, 2, 3, 4, 5, 6, 7, 8, 9, 10, 11, 12, 13], []⟩,
 ⟨15, .g (some 33) 21 true (.bin .lss (.t 32) (.c (.int .i64 0))), [0, 1, 2, 3, 4, 5, 6, 7, 8, 9, 10, 11, 12, 13, 14], []⟩,
 ⟨16, .o 34 (.pick (.t 21) (.t 33) (.c (.bool false))), [0, 1, 2, 3, 4, 5, 6, 7, 8, 9, 10, 11, 12, 13, 14, 15], []⟩])
 (.keep [0, 1, 2, 3, 8, 9, 34] (.cond (.t 34)
 (.skip)
 (.exit 2))))
 (.keep [0, 1, 2, 3, 8, 9] (.seq (.block 3 (.dreg [⟨0, .o 37 (.mov (.t 0)), [], []⟩,
 ⟨1, .o 38 (.mov (.t 9)), [], []⟩,
 ⟨2, .o 39 (.mov (.t 0)), [], []⟩,
 ⟨3, .o 40 (.mov (.t 9)), [], []⟩,
 ⟨4, .o 41 (.bin .sub (.t 40) (.c (.int .i64 1))), [3], []⟩,
 ⟨5, .o 42 (.mov (.t 0)), [], []⟩,
 ⟨6, .o 43 (.mov (.t 9)), [], []⟩,
 ⟨7, .o 44 (.bin .sub (.t 43) (.c (.int .i64 1))), [6], []⟩,
 ⟨8, .o 45 (.indexA 2 (.t 42) (.t 44)), [5, 6, 7], []⟩,
 ⟨9, .o 46 (.load 2 true (.t 45)), [5, 6, 7, 8], []⟩,
 ⟨10, .o 47 (.mov (.t 0)), [], []⟩,
 ⟨11, .o 48 (.mov (.t 9)), [], []⟩,
 ⟨12, .o 49 (.indexA 2 (.t 47) (.t 48)), [10, 11], []⟩,
 ⟨13, .o 50 (.load 2 true (.t 49)), [10, 11, 12], []⟩,
 ⟨14, .o 51 (.indexA 2 (.t 37) (.t 38)), [0, 1, 5, 6, 7, 8, 9, 10, 11, 12, 13], []⟩,
 ⟨15, .n (.store 2 (.t 51) (.t 46)), [0, 1, 5, 6, 7, 8, 9, 10, 11, 12, 13, 14], []⟩,
 ⟨16, .o 52 (.indexA 2 (.t 39) (.t 41)), [0, 1, 2, 3, 4, 5, 6, 7, 8, 9, 10, 11, 12, 13, 14, 15], []⟩,
 ⟨17, .n (.store 2 (.t 52) (.t 50)), [0, 1, 2, 3, 4, 5, 6, 7, 8, 9, 10, 11, 12, 13, 14, 15, 16], []⟩]))
 (.keep [0, 1, 2, 3, 8, 9] (.reg [.o 35 (.mov (.t 9)),
 .o 36 (.bin .sub (.t 35) (.c (.int .i64 1))),
 .o 9 (.mov (.t 36))])))))
def c_slices_insertionSortCmpFunc_api_File_l1 : ACode :=
 .keep [0, 1, 2, 3, 8] (.seq (.seq (.reg [.o 12 (.mov (.t 8)),
 .o 13 (.mov (.t 2)),
 .o 14 (.bin .lss (.t 12) (.t 13))])
 (.keep [0, 1, 2, 3, 8, 14] (.cond (.t 14)
 (.skip)
 (.exit 0))))
 (.keep [0, 1, 2, 3, 8] (.seq (.block 1 (.seq (.reg [.o 17 (.mov (.t 8)),
 .o 9 (.mov (.t 17))])
 (.keep [0, 1, 2, 3, 8, 9] (.block 2 (.loop c_slices_insertionSortCmpFunc_api_File_l0)))))
 (.keep [0, 1, 2, 3, 8] (.reg [.o 15 (.mov (.t 8)),
 .o 16 (.bin .add (.t 15) (.c (.int .i64 1))),
 .o 8 (.mov (.t 16))])))))
def c_slices_insertionSortCmpFunc_api_File : ACode :=
 .seq (.reg [.o 10 (.mov (.t 1)),
 .o 11 (.bin .add (.t 10) (.c (.int .i64 1))),
 .o 8 (.mov (.t 11))])
 (.keep [0, 1, 2, 3, 8] (.block 0 (.loop c_slices_insertionSortCmpFunc_api_File_l1)))
def a_slices_insertionSortCmpFunc_api_File : AFun := ⟨4, c_slices_insertionSortCmpFunc_api_File, []⟩

/- math/bits.Len64 -/
def c_math_bits_Len64 : ACode :=
 .seq (.reg [.o 2 (.mov (.c (.int .i64 0)))])
 (.keep [0, 2] (.seq (.seq (.reg [.o 3 (.mov (.t 0)),
 .o 4 (.bin .geq (.t 3) (.c (.int .u64 4294967296)))])
 (.keep [0, 2, 4] (.cond (.t 4)
 (.seq (.reg [.o 5 (.mov (.t 0)),
 .o 6 (.bin .shr (.t 5) (.c (.int .u64 32))),
 .o 0 (.mov (.t 6))])
 (.keep [0] (.reg [.o 2 (.mov (.c (.int .i64 32)))])))
 (.skip))))
 (.keep [0, 2] (.seq (.seq (.reg [.o 7 (.mov (.t 0)),
 .o 8 (.bin .geq (.t 7) (.c (.int .u64 65536)))])
 (.keep [0, 2, 8] (.cond (.t 8)
 (.seq (.reg [.o 9 (.mov (.t 0)),
 .o 10 (.bin .shr (.t 9) (.c (.int .u64 16))),
 .o 0 (.mov (.t 10))])
 (.keep [0, 2] (.reg [.o 11 (.mov (.t 2)),
 .o 12 (.bin .add (.t 11) (.c (.int .i64 16))),
 .o 2 (.mov (.t 12))])))
 (.skip))))
 (.keep [0, 2] (.seq (.seq (.reg [.o 13 (.mov (.t 0)),
 .o 14 (.bin .geq (.t 13) (.c (.int .u64 256)))])
 (.keep [0, 2, 14] (.cond (.t 14)
 (.seq (.reg [.o 15 (.mov (.t 0)),
 .o 16 (.bin .shr (.t 15) (.c (.int .u64 8))),
 .o 0 (.mov (.t 16))])
 (.keep [0, 2] (.reg [.o 17 (.mov (.t 2)),
 .o 18 (.bin .add (.t 17) (.c (.int .i64 8))),
 .o 2 (.mov (.t 18))])))
 (.skip))))
 (.keep [0, 2] (.seq (.reg [.o 19 (.mov (.t 2)),
 .o 20 (.mov (.t 0)),
 .o 21 (.conv .u8 (.t 20)),
 .o 22 (.index (.c (.str [0, 1, 2, 2, 3, 3, 3, 3, 4, 4, 4, 4, 4, 4, 4, 4, 5, 5, 5, 5, 5, 5, 5, 5, 5, 5, 5, 5, 5, 5, 5, 5, 6, 6, 6, 6, 6, 6, 6, 6, 6, 6, 6, 6, 6, 6, 6, 6, 6, 6, 6, 6, 6, 6, 6, 6, 6, 6, 6, 6, 6, 6, 6, 6, 7, 7, 7, 7, 7, 7, 7, 7, 7, 7, 7, 7, 7, 7, 7, 7, 7, 7, 7, 7, 7, 7, 7, 7, 7, 7, 7, 7, 7, 7, 7, 7, 7, 7, 7, 7, 7, 7, 7, 7, 7, 7, 7, 7, 7, 7, 7, 7, 7, 7, 7, 7, 7, 7, 7, 7, 7, 7, 7, 7, 7, 7, 7, 7, 8, 8, 8, 8, 8, 8, 8, 8, 8, 8, 8, 8, 8, 8, 8, 8, 8, 8, 8, 8, 8, 8, 8, 8, 8, 8, 8, 8, 8, 8, 8, 8, 8, 8, 8, 8, 8, 8, 8, 8, 8, 8, 8, 8, 8, 8, 8, 8, 8, 8, 8, 8, 8, 8, 8, 8, 8, 8, 8, 8, 8, 8, 8, 8, 8, 8, 8, 8, 8, 8, 8, 8, 8, 8, 8, 8, 8, 8, 8, 8, 8, 8, 8, 8, 8, 8, 8, 8, 8, 8, 8, 8, 8, 8, 8, 8, 8, 8, 8, 8, 8, 8, 8, 8, 8, 8, 8, 8, 8, 8, 8, 8, 8, 8, 8, 8, 8, 8, 8, 8, 8, 8, 8, 8, 8, 8, 8, 8])) (.t 21)),
 .o 23 (.conv .i64 (.t 22)),
 .o 24 (.bin .add (.t 19) (.t 23)),
 .o 2 (.mov (.t 24))])
 (.ret)))))))))
def a_math_bits_Len64 : AFun := ⟨1, c_math_bits_Len64, [.tmp 2]⟩

/- (*patois/store.values).Args -/
def c_store_values_Args : ACode :=
 .seq (.reg [.o 2 (.mov (.c (.sl none 1 0 (some 0))))])
 (.keep [0] (.seq (.reg [.o 3 (.mov (.t 0)),
 .o 4 (.nilchk (.t 3)),
 .o 5 (.fieldA 1 (.t 4)),
 .o 6 (.load 1 false (.t 5)),
 .o 7 (.callF F_slices_Clone_string_string [(.t 6)]),
 .o 2 (.mov (.t 7))])
 (.ret)))
def a_store_values_Args : AFun := ⟨1, c_store_values_Args, [.tmp 2]⟩

/- strings.Join (not covered: op panic; op panic) -/
def c_strings_Join_l0 : ACode :=
 .keep [0, 1, 5, 39, 40, 41] (.seq (.reg [.o 42 (.bin .lss (.t 41) (.t 40))])
 (.keep [0, 1, 5, 39, 40, 41, 42] (.seq (.cond (.t 42)
 (.skip)
 (.exit 1))
 (.keep [0, 1, 5, 39, 40, 41] (.seq (.block 2 (.seq (.reg [.o 43 (.indexA 1 (.t 39) (.t 41)),
 .o 44 (.load 1 false (.t 43)),
 .o 7 (.mov (.t 44))])
 (.keep [0, 1, 5, 7, 39, 40, 41] (.seq (.seq (.reg [.o 45 (.mov (.t 7)),
 .o 46 (.len true (.t 45)),
 .o 47 (.mov (.t 5)),
 .o 48 (.bin .sub (.c (.int .i64 9223372036854775807)) (.t 47)),
 .o 49 (.bin .gtr (.t 46) (.t 48))])
 (.keep [0, 1, 5, 7, 39, 40, 41, 49] (.cond (.t 49)
 (.bad)
 (.skip))))
 (.keep [0, 1, 5, 7, 39, 40, 41] (.reg [.o 51 (.mov (.t 5)),
 .o 52 (.mov (.t 7)),
 .o 53 (.len true (.t 52)),
 .o 54 (.bin .add (.t 51) (.t 53)),
 .o 5 (.mov (.t 54))]))))))
 (.keep [0, 1, 5, 39, 40, 41] (.reg [.o 55 (.bin .add (.t 41) (.c (.int .i64 1))),
 .o 41 (.mov (.t 55))])))))))
def c_strings_Join_l1 : ACode :=
 .keep [1, 8, 63, 64, 65] (.seq (.reg [.o 66 (.bin .lss (.t 65) (.t 64))])
 (.keep [1, 8, 63, 64, 65, 66] (.seq (.cond (.t 66)
 (.skip)
 (.exit 3))
 (.keep [1, 8, 63, 64, 65] (.seq (.block 4 (.seq (.reg [.o 67 (.indexA 1 (.t 63) (.t 65)),
 .o 68 (.load 1 false (.t 67)),
 .o 10 (.mov (.t 68))])
 (.keep [1, 8, 10, 63, 64, 65] (.seq (.reg [.o 69 (.mov (.t 1)),
 .o 70 (.callF F_strings_Builder_WriteString [(.t 8), (.t 69)])])
 (.keep [1, 8, 10, 63, 64, 65] (.reg [.o 71 (.mov (.t 10)),
 .o 72 (.callF F_strings_Builder_WriteString [(.t 8), (.t 71)])]))))))
 (.keep [1, 8, 63, 64, 65] (.reg [.o 73 (.bin .add (.t 65) (.c (.int .i64 1))),
 .o 65 (.mov (.t 73))])))))))
def c_strings_Join : ACode :=
 .seq (.reg [.o 4 (.mov (.c (.str [])))])
 (.keep [0, 1] (.seq (.seq (.reg [.o 11 (.mov (.t 0)),
 .o 12 (.len false (.t 11))])
 (.keep [0, 1, 12] (.block 0 (.seq (.reg [.o 14 (.bin .eql (.t 12) (.c (.int .i64 0))),
 .o 13 (.mov (.t 14))])
 (.keep [0, 1, 12, 13] (.cond (.t 13)
 (.seq (.reg [.o 4 (.mov (.c (.str [])))])
 (.ret))
 (.seq (.reg [.o 16 (.bin .eql (.t 12) (.c (.int .i64 1))),
 .o 15 (.mov (.t 16))])
 (.keep [0, 1, 15] (.cond (.t 15)
 (.seq (.reg [.o 17 (.mov (.t 0)),
 .o 18 (.indexA 1 (.t 17) (.c (.int .i64 0))),
 .o 19 (.load 1 false (.t 18)),
 .o 4 (.mov (.t 19))])
 (.ret))
 (.skip))))))))))
 (.keep [0, 1] (.seq (.reg [.o 5 (.mov (.c (.int .i64 0)))])
 (.keep [0, 1, 5] (.seq (.seq (.reg [.o 20 (.mov (.t 1)),
 .o 21 (.len true (.t 20)),
 .o 22 (.bin .gtr (.t 21) (.c (.int .i64 0)))])
 (.keep [0, 1, 5, 22] (.cond (.t 22)
 (.seq (.seq (.reg [.o 23 (.mov (.t 1)),
 .o 24 (.len true (.t 23)),
 .o 25 (.mov (.t 0)),
 .o 26 (.len false (.t 25)),
 .o 27 (.bin .sub (.t 26) (.c (.int .i64 1))),
 .o 28 (.bin .quo (.c (.int .i64 9223372036854775807)) (.t 27)),
 .o 29 (.bin .geq (.t 24) (.t 28))])
 (.keep [0, 1, 5, 29] (.cond (.t 29)
 (.bad)
 (.skip))))
 (.keep [0, 1, 5] (.reg [.o 31 (.mov (.t 5)),
 .o 32 (.mov (.t 1)),
 .o 33 (.len true (.t 32)),
 .o 34 (.mov (.t 0)),
 .o 35 (.len false (.t 34)),
 .o 36 (.bin .sub (.t 35) (.c (.int .i64 1))),
 .o 37 (.bin .mul (.t 33) (.t 36)),
 .o 38 (.bin .add (.t 31) (.t 37)),
 .o 5 (.mov (.t 38))])))
 (.skip))))
 (.keep [0, 1, 5] (.seq (.seq (.reg [.o 39 (.mov (.t 0)),
 .o 40 (.len false (.t 39)),
 .o 41 (.mov (.c (.int .i64 0)))])
 (.keep [0, 1, 5, 39, 40, 41] (.block 1 (.loop c_strings_Join_l0))))
 (.keep [0, 1, 5] (.seq (.reg [.o 8 (.alloc [.ptr none, .sl none 1 0 (some 0)])])
 (.keep [0, 1, 5, 8] (.seq (.reg [.o 56 (.mov (.t 5)),
 .o 57 (.callF F_strings_Builder_Grow [(.t 8), (.t 56)])])
 (.keep [0, 1, 8] (.seq (.reg [.o 58 (.mov (.t 0)),
 .o 59 (.indexA 1 (.t 58) (.c (.int .i64 0))),
 .o 60 (.load 1 false (.t 59)),
 .o 61 (.callF F_strings_Builder_WriteString [(.t 8), (.t 60)])])
 (.keep [0, 1, 8] (.seq (.seq (.reg [.o 62 (.mov (.t 0)),
 .o 63 (.slc 1 (.t 62) (some (.c (.int .i64 1))) none),
 .o 64 (.len false (.t 63)),
 .o 65 (.mov (.c (.int .i64 0)))])
 (.keep [1, 8, 63, 64, 65] (.block 3 (.loop c_strings_Join_l1))))
 (.keep [8] (.seq (.reg [.o 74 (.callF F_strings_Builder_String [(.t 8)]),
 .o 4 (.mov (.t 74))])
 (.ret)))))))))))))))))))
def a_strings_Join : AFun := ⟨2, c_strings_Join, [.tmp 4]⟩

/- patois/builtin.cat -/
def c_builtin_cat : ACode :=
 .reg [.o 6 (.mov (.t 0)),
 .o 7 (.mov (.t 0)),
 .o 8 (.mov (.t 1)),
 .o 9 (.nilchk (.t 6)),
 .o 10 (.fieldA 0 (.t 9)),
 .n (.store 1 (.t 10) (.t 8)),
 .o 11 (.nilchk (.t 7)),
 .o 12 (.fieldA 1 (.t 11)),
 .n (.store 1 (.t 12) (.c (.str [])))]
def a_builtin_cat : AFun := ⟨3, c_builtin_cat, []⟩

/- patois/builtin.echo -/
def c_builtin_echo : ACode :=
 .seq (.reg [.o 6 (.mov (.t 0)),
 .o 7 (.mov (.t 1)),
 .o 8 (.mov (.t 2)),
 .o 9 (.callF F_builtin_put [(.t 6), (.t 7), (.t 8)])])
 (.keep [0] (.reg [.o 10 (.mov (.t 0)),
 .o 11 (.nilchk (.t 10)),
 .o 12 (.fieldA 0 (.t 11)),
 .o 13 (.load 1 false (.t 12)),
 .o 14 (.bin .add (.t 13) (.c (.str [10]))),
 .o 15 (.nilchk (.t 10)),
 .o 16 (.fieldA 0 (.t 15)),
 .n (.store 1 (.t 16) (.t 14))]))
def a_builtin_echo : AFun := ⟨3, c_builtin_echo, []⟩

/- patois/builtin.put -/
def c_builtin_put : ACode :=
 .reg [.o 6 (.mov (.t 0)),
 .o 7 (.mov (.t 2)),
 .o 8 (.callF F_strings_Join [(.t 7), (.c (.str [32]))]),
 .o 9 (.nilchk (.t 6)),
 .o 10 (.fieldA 0 (.t 9)),
 .n (.store 1 (.t 10) (.t 8))]
def a_builtin_put : AFun := ⟨3, c_builtin_put, []⟩

/- patois/builtin.read -/
def c_builtin_read : ACode :=
 .seq (.seq (.reg [.o 6 (.mov (.t 2)),
 .o 7 (.len false (.t 6)),
 .o 8 (.bin .neq (.t 7) (.c (.int .i64 1))),
 .o 9 (.mov (.t 8)),
 .g (some 10) 9 false (.mov (.t 2)),
 .g (some 11) 9 false (.indexA 1 (.t 10) (.c (.int .i64 0))),
 .g (some 12) 9 false (.load 1 false (.t 11)),
 .g (some 13) 9 false (.callF F_text_Name [(.t 12)]),
 .g (some 14) 9 false (.not (.t 13)),
 .o 15 (.pick (.t 9) (.c (.bool true)) (.t 14)),
 .o 16 (.mov (.t 15)),
 .g (some 17) 16 false (.mov (.t 1)),
 .g (some 18) 16 false (.bin .eql (.t 17) (.c (.str []))),
 .o 19 (.pick (.t 16) (.c (.bool true)) (.t 18))])
 (.keep [0, 1, 2, 19] (.cond (.t 19)
 (.seq (.reg [.o 20 (.mov (.t 0)),
 .o 21 (.callF F_builtin_Outcome_test [(.t 20), (.c (.bool false))])])
 (.ret))
 (.skip))))
 (.keep [0, 1, 2] (.seq (.reg [.o 22 (.mov (.t 0)),
 .o 23 (.mov (.t 2)),
 .o 24 (.indexA 1 (.t 23) (.c (.int .i64 0))),
 .o 25 (.load 1 false (.t 24)),
 .o 26 (.nilchk (.t 22)),
 .o 27 (.fieldA 3 (.t 26)),
 .n (.store 1 (.t 27) (.t 25))])
 (.keep [0, 1] (.reg [.o 29 (.mov (.t 0)),
 .o 30 (.mov (.t 0)),
 .o 31 (.mov (.t 1)),
 .o 32 (.callF F_strings_Cut [(.t 31), (.c (.str [10]))]),
 .o 28 (.mov (.t 32)),
 .o 33 (.extract (.t 28) 0),
 .o 34 (.extract (.t 28) 1),
 .o 35 (.extract (.t 28) 2),
 .o 36 (.nilchk (.t 29)),
 .o 37 (.fieldA 4 (.t 36)),
 .n (.store 1 (.t 37) (.t 33)),
 .o 38 (.nilchk (.t 30)),
 .o 39 (.fieldA 1 (.t 38)),
 .n (.store 1 (.t 39) (.t 34))]))))
def a_builtin_read : AFun := ⟨3, c_builtin_read, []⟩

/- patois/builtin.yes -/
def c_builtin_yes : ACode :=
 .skip
def a_builtin_yes : AFun := ⟨3, c_builtin_yes, []⟩

/- (*patois/world.Kernel).row -/
def c_world_Kernel_row_l0 : ACode :=
 .keep [1, 2, 6, 13, 14, 15] (.seq (.reg [.o 16 (.bin .lss (.t 15) (.t 14))])
 (.keep [1, 2, 6, 13, 14, 15, 16] (.seq (.cond (.t 16)
 (.skip)
 (.exit 0))
 (.keep [1, 2, 6, 13, 14, 15] (.seq (.block 1 (.seq (.reg [.o 17 (.indexA 7 (.t 13) (.t 15)),
 .o 18 (.load 7 true (.t 17)),
 .o 9 (.alloc [.str [], .sl none 1 0 (some 0), .bool false, .bool false, .bool false, .str [], .int .i64 0]),
 .n (.store 7 (.t 9) (.t 18))])
 (.keep [1, 2, 6, 9, 13, 14, 15] (.seq (.reg [.o 19 (.fieldA 0 (.t 9)),
 .o 20 (.load 1 false (.t 19)),
 .o 21 (.mov (.t 1)),
 .o 22 (.bin .eql (.t 20) (.t 21)),
 .o 23 (.mov (.t 22)),
 .g (some 24) 23 true (.fieldA 2 (.t 9)),
 .g (some 25) 23 true (.load 1 false (.t 24)),
 .g (some 26) 23 true (.mov (.t 25)),
 .g (some 27) 26 false (.fieldA 1 (.t 9)),
 .g (some 28) 26 false (.load 1 false (.t 27)),
 .g (some 29) 26 false (.mov (.t 2)),
 .g (some 30) 26 false (.callF F_slices_Equal_string_string [(.t 28), (.t 29)]),
 .g (some 31) 23 true (.pick (.t 26) (.c (.bool true)) (.t 30)),
 .o 32 (.pick (.t 23) (.t 31) (.c (.bool false)))])
 (.keep [1, 2, 6, 9, 13, 14, 15, 32] (.cond (.t 32)
 (.seq (.reg [.o 33 (.load 7 true (.t 9)),
 .n (.store 7 (.t 6) (.t 33)),
 .o 7 (.mov (.c (.bool true)))])
 (.ret))
 (.skip)))))))
 (.keep [1, 2, 6, 13, 14, 15] (.reg [.o 34 (.bin .add (.t 15) (.c (.int .i64 1))),
 .o 15 (.mov (.t 34))])))))))
def c_world_Kernel_row : ACode :=
 .seq (.reg [.o 6 (.alloc [.str [], .sl none 1 0 (some 0), .bool false, .bool false, .bool false, .str [], .int .i64 0]),
 .o 7 (.mov (.c (.bool false)))])
 (.keep [0, 1, 2, 6] (.seq (.seq (.reg [.o 10 (.mov (.t 0)),
 .o 11 (.nilchk (.t 10)),
 .o 12 (.fieldA 2 (.t 11)),
 .o 13 (.load 1 false (.t 12)),
 .o 14 (.len false (.t 13)),
 .o 15 (.mov (.c (.int .i64 0)))])
 (.keep [1, 2, 6, 13, 14, 15] (.block 0 (.loop c_world_Kernel_row_l0))))
 (.keep [6] (.seq (.reg [.o 35 (.build [.str [], .sl none 1 0 (some 0), .bool false, .bool false, .bool false, .str [], .int .i64 0] [(6, 1, (.c (.int .i64 127)))]),
 .n (.store 7 (.t 6) (.t 35)),
 .o 7 (.mov (.c (.bool false)))])
 (.ret)))))
def a_world_Kernel_row : AFun := ⟨3, c_world_Kernel_row, [.cell 6 7 true, .tmp 7]⟩

/- internal/stringslite.IndexByte -/
def c_internal_stringslite_IndexByte : ACode :=
 .seq (.reg [.o 4 (.mov (.c (.int .i64 0)))])
 (.keep [0, 1] (.seq (.reg [.o 5 (.mov (.t 0)),
 .o 6 (.mov (.t 1)),
 .o 7 (.callF F_internal_bytealg_IndexByteString [(.t 5), (.t 6)]),
 .o 4 (.mov (.t 7))])
 (.ret)))
def a_internal_stringslite_IndexByte : AFun := ⟨2, c_internal_stringslite_IndexByte, [.tmp 4]⟩

/- slices.Index[[]int,int] -/
def c_slices_Index_int_int_l0 : ACode :=
 .keep [0, 1, 7, 8] (.seq (.reg [.o 9 (.bin .lss (.t 8) (.t 7))])
 (.keep [0, 1, 7, 8, 9] (.seq (.cond (.t 9)
 (.skip)
 (.exit 0))
 (.keep [0, 1, 7, 8] (.seq (.block 1 (.seq (.reg [.o 10 (.mov (.t 8)),
 .o 5 (.mov (.t 10))])
 (.keep [0, 1, 5, 7, 8] (.seq (.reg [.o 11 (.mov (.t 1)),
 .o 12 (.mov (.t 0)),
 .o 13 (.mov (.t 5)),
 .o 14 (.indexA 1 (.t 12) (.t 13)),
 .o 15 (.load 1 false (.t 14)),
 .o 16 (.bin .eql (.t 11) (.t 15))])
 (.keep [0, 1, 5, 7, 8, 16] (.cond (.t 16)
 (.seq (.reg [.o 17 (.mov (.t 5)),
 .o 4 (.mov (.t 17))])
 (.ret))
 (.skip)))))))
 (.keep [0, 1, 7, 8] (.reg [.o 18 (.bin .add (.t 8) (.c (.int .i64 1))),
 .o 8 (.mov (.t 18))])))))))
def c_slices_Index_int_int : ACode :=
 .seq (.reg [.o 4 (.mov (.c (.int .i64 0)))])
 (.keep [0, 1] (.seq (.seq (.reg [.o 6 (.mov (.t 0)),
 .o 7 (.len false (.t 6)),
 .o 8 (.mov (.c (.int .i64 0)))])
 (.keep [0, 1, 7, 8] (.block 0 (.loop c_slices_Index_int_int_l0))))
 (.keep [] (.seq (.reg [.o 4 (.mov (.c (.int .i64 (-1))))])
 (.ret)))))
def a_slices_Index_int_int : AFun := ⟨2, c_slices_Index_int_int, [.tmp 4]⟩

/- (*patois/builtin.Outcome).test -/
def c_builtin_Outcome_test : ACode :=
 .seq (.reg [.o 4 (.mov (.t 1)),
 .o 5 (.not (.t 4))])
 (.keep [0, 5] (.cond (.t 5)
 (.reg [.o 6 (.mov (.t 0)),
 .o 7 (.nilchk (.t 6)),
 .o 8 (.fieldA 2 (.t 7)),
 .n (.store 1 (.t 8) (.c (.int .i64 1)))])
 (.skip)))
def a_builtin_Outcome_test : AFun := ⟨2, c_builtin_Outcome_test, []⟩

/- strings.Cut -/
def c_strings_Cut : ACode :=
 .seq (.reg [.o 4 (.mov (.c (.str []))),
 .o 5 (.mov (.c (.str []))),
 .o 6 (.mov (.c (.bool false)))])
 (.keep [0, 1] (.seq (.reg [.o 7 (.mov (.t 0)),
 .o 8 (.mov (.t 1)),
 .o 9 (.callF F_internal_stringslite_Cut [(.t 7), (.t 8)]),
 .o 10 (.extract (.t 9) 0),
 .o 11 (.extract (.t 9) 1),
 .o 12 (.extract (.t 9) 2),
 .o 4 (.mov (.t 10)),
 .o 5 (.mov (.t 11)),
 .o 6 (.mov (.t 12))])
 (.ret)))
def a_strings_Cut : AFun := ⟨2, c_strings_Cut, [.tmp 4, .tmp 5, .tmp 6]⟩

/- slices.Equal[[]string,string] -/
def c_slices_Equal_string_string_l0 : ACode :=
 .keep [0, 1, 12, 13] (.seq (.reg [.o 14 (.bin .lss (.t 13) (.t 12))])
 (.keep [0, 1, 12, 13, 14] (.seq (.cond (.t 14)
 (.skip)
 (.exit 0))
 (.keep [0, 1, 12, 13] (.seq (.block 1 (.seq (.reg [.o 15 (.mov (.t 13)),
 .o 5 (.mov (.t 15))])
 (.keep [0, 1, 5, 12, 13] (.seq (.dreg [⟨0, .o 16 (.mov (.t 0)), [], []⟩,
 ⟨1, .o 17 (.mov (.t 5)), [], []⟩,
 ⟨2, .o 18 (.indexA 1 (.t 16) (.t 17)), [0, 1], []⟩,
 ⟨3, .o 19 (.load 1 false (.t 18)), [0, 1, 2], []⟩,
 ⟨4, .o 20 (.mov (.t 1)), [], []⟩,
 ⟨5, .o 21 (.mov (.t 5)), [], []⟩,
 ⟨6, .o 22 (.indexA 1 (.t 20) (.t 21)), [4, 5], []⟩,
 ⟨7, .o 23 (.load 1 false (.t 22)), [4, 5, 6], []⟩,
 ⟨8, .o 24 (.bin .neq (.t 19) (.t 23)), [0, 1, 2, 3, 4, 5, 6, 7], []⟩])
 (.keep [0, 1, 12, 13, 24] (.cond (.t 24)
 (.seq (.reg [.o 4 (.mov (.c (.bool false)))])
 (.ret))
 (.skip)))))))
 (.keep [0, 1, 12, 13] (.reg [.o 25 (.bin .add (.t 13) (.c (.int .i64 1))),
 .o 13 (.mov (.t 25))])))))))
def c_slices_Equal_string_string : ACode :=
 .seq (.reg [.o 4 (.mov (.c (.bool false)))])
 (.keep [0, 1] (.seq (.seq (.reg [.o 6 (.mov (.t 0)),
 .o 7 (.len false (.t 6)),
 .o 8 (.mov (.t 1)),
 .o 9 (.len false (.t 8)),
 .o 10 (.bin .neq (.t 7) (.t 9))])
 (.keep [0, 1, 10] (.cond (.t 10)
 (.seq (.reg [.o 4 (.mov (.c (.bool false)))])
 (.ret))
 (.skip))))
 (.keep [0, 1] (.seq (.seq (.reg [.o 11 (.mov (.t 0)),
 .o 12 (.len false (.t 11)),
 .o 13 (.mov (.c (.int .i64 0)))])
 (.keep [0, 1, 12, 13] (.block 0 (.loop c_slices_Equal_string_string_l0))))
 (.keep [] (.seq (.reg [.o 4 (.mov (.c (.bool true)))])
 (.ret)))))))
def a_slices_Equal_string_string : AFun := ⟨2, c_slices_Equal_string_string, [.tmp 4]⟩

/- internal/stringslite.Cut -/
def c_internal_stringslite_Cut : ACode :=
 .seq (.reg [.o 4 (.mov (.c (.str []))),
 .o 5 (.mov (.c (.str []))),
 .o 6 (.mov (.c (.bool false)))])
 (.keep [0, 1] (.seq (.seq (.reg [.o 8 (.mov (.t 0)),
 .o 9 (.mov (.t 1)),
 .o 10 (.callF F_internal_stringslite_Index [(.t 8), (.t 9)]),
 .o 7 (.mov (.t 10))])
 (.keep [0, 1, 7] (.seq (.reg [.o 11 (.mov (.t 7)),
 .o 12 (.bin .geq (.t 11) (.c (.int .i64 0)))])
 (.keep [0, 1, 7, 12] (.cond (.t 12)
 (.seq (.dreg [⟨0, .o 13 (.mov (.t 0)), [], []⟩,
 ⟨1, .o 14 (.mov (.t 7)), [], []⟩,
 ⟨2, .o 15 (.slc 0 (.t 13) none (some (.t 14))), [0, 1], []⟩,
 ⟨3, .o 16 (.mov (.t 0)), [], []⟩,
 ⟨4, .o 17 (.mov (.t 7)), [], []⟩,
 ⟨5, .o 18 (.mov (.t 1)), [], []⟩,
 ⟨6, .o 19 (.len true (.t 18)), [5], []⟩,
 ⟨7, .o 20 (.bin .add (.t 17) (.t 19)), [4, 5, 6], []⟩,
 ⟨8, .o 21 (.slc 0 (.t 16) (some (.t 20)) none), [3, 4, 5, 6, 7], []⟩,
 ⟨9, .o 4 (.mov (.t 15)), [0, 1, 2], []⟩,
 ⟨10, .o 5 (.mov (.t 21)), [0, 1, 2, 3, 4, 5, 6, 7, 8, 9], []⟩,
 ⟨11, .o 6 (.mov (.c (.bool true))), [0, 1, 2, 3, 4, 5, 6, 7, 8, 9, 10], []⟩])
 (.ret))
 (.skip))))))
 (.keep [0] (.seq (.reg [.o 22 (.mov (.t 0)),
 .o 4 (.mov (.t 22)),
 .o 5 (.mov (.c (.str []))),
 .o 6 (.mov (.c (.bool false)))])
 (.ret)))))
def a_internal_stringslite_Cut : AFun := ⟨2, c_internal_stringslite_Cut, [.tmp 4, .tmp 5, .tmp 6]⟩

end Go.Proofs.YtbpgbhmibmcbnaaGreatDoor.Ram

namespace Go.Proofs.YtbpgbhmibmcbnaaGreatDoor.Ram
open Go
/- internal/stringslite.Index -/
def c_internal_stringslite_Index_l0 : ACode :=
 .keep [0, 1, 5, 6, 7, 8, 9, 10] (.seq (.seq (.reg [.o 57 (.mov (.t 8)),
 .o 58 (.mov (.t 9)),
 .o 59 (.bin .lss (.t 57) (.t 58))])
 (.keep [0, 1, 5, 6, 7, 8, 9, 10, 59] (.cond (.t 59)
 (.skip)
 (.exit 1))))
 (.keep [0, 1, 5, 6, 7, 8, 9, 10] (.block 2 (.seq (.seq (.reg [.o 60 (.mov (.t 0)),
 .o 61 (.mov (.t 8)),
 .o 62 (.index (.t 60) (.t 61)),
 .o 63 (.mov (.t 6)),
 .o 64 (.bin .neq (.t 62) (.t 63))])
 (.keep [0, 1, 5, 6, 7, 8, 9, 10, 64] (.cond (.t 64)
 (.seq (.reg [.o 65 (.mov (.t 0)),
 .o 66 (.mov (.t 8)),
 .o 67 (.bin .add (.t 66) (.c (.int .i64 1))),
 .o 68 (.mov (.t 9)),
 .o 69 (.slc 0 (.t 65) (some (.t 67)) (some (.t 68))),
 .o 70 (.mov (.t 6)),
 .o 71 (.callF F_internal_stringslite_IndexByte [(.t 69), (.t 70)]),
 .o 11 (.mov (.t 71))])
 (.keep [0, 1, 5, 6, 7, 8, 9, 10, 11] (.seq (.seq (.reg [.o 72 (.mov (.t 11)),
 .o 73 (.bin .lss (.t 72) (.c (.int .i64 0)))])
 (.keep [0, 1, 5, 6, 7, 8, 9, 10, 11, 73] (.cond (.t 73)
 (.seq (.reg [.o 4 (.mov (.c (.int .i64 (-1))))])
 (.ret))
 (.skip))))
 (.keep [0, 1, 5, 6, 7, 8, 9, 10, 11] (.reg [.o 74 (.mov (.t 8)),
 .o 75 (.mov (.t 11)),
 .o 76 (.bin .add (.t 75) (.c (.int .i64 1))),
 .o 77 (.bin .add (.t 74) (.t 76)),
 .o 8 (.mov (.t 77))])))))
 (.skip))))
 (.keep [0, 1, 5, 6, 7, 8, 9, 10] (.seq (.seq (.reg [.o 78 (.mov (.t 0)),
 .o 79 (.mov (.t 8)),
 .o 80 (.bin .add (.t 79) (.c (.int .i64 1))),
 .o 81 (.index (.t 78) (.t 80)),
 .o 82 (.mov (.t 7)),
 .o 83 (.bin .eql (.t 81) (.t 82)),
 .o 84 (.mov (.t 83)),
 .g (some 85) 84 true (.mov (.t 0)),
 .g (some 86) 84 true (.mov (.t 8)),
 .g (some 87) 84 true (.mov (.t 8)),
 .g (some 88) 84 true (.mov (.t 5)),
 .g (some 89) 84 true (.bin .add (.t 87) (.t 88)),
 .g (some 90) 84 true (.slc 0 (.t 85) (some (.t 86)) (some (.t 89))),
 .g (some 91) 84 true (.mov (.t 1)),
 .g (some 92) 84 true (.bin .eql (.t 90) (.t 91)),
 .o 93 (.pick (.t 84) (.t 92) (.c (.bool false)))])
 (.keep [0, 1, 5, 6, 7, 8, 9, 10, 93] (.cond (.t 93)
 (.seq (.reg [.o 94 (.mov (.t 8)),
 .o 4 (.mov (.t 94))])
 (.ret))
 (.skip))))
 (.keep [0, 1, 5, 6, 7, 8, 9, 10] (.seq (.reg [.o 95 (.mov (.t 8)),
 .o 96 (.bin .add (.t 95) (.c (.int .i64 1))),
 .o 8 (.mov (.t 96))])
 (.keep [0, 1, 5, 6, 7, 8, 9, 10] (.seq (.reg [.o 97 (.mov (.t 10)),
 .o 98 (.bin .add (.t 97) (.c (.int .i64 1))),
 .o 10 (.mov (.t 98))])
 (.keep [0, 1, 5, 6, 7, 8, 9, 10] (.seq (.reg [.o 99 (.mov (.t 5)),
 .o 100 (.load 1 false (.g G_internal_bytealg_MaxLen)),
 .o 101 (.bin .leq (.t 99) (.t 100)),
 .o 102 (.mov (.t 101)),
 .g (some 103) 102 true (.mov (.t 10)),
 .g (some 104) 102 true (.mov (.t 8)),
 .g (some 105) 102 true (.callF F_internal_bytealg_Cutover [(.t 104)]),
 .g (some 106) 102 true (.bin .gtr (.t 103) (.t 105)),
 .o 107 (.pick (.t 102) (.t 106) (.c (.bool false)))])
 (.keep [0, 1, 5, 6, 7, 8, 9, 10, 107] (.cond (.t 107)
 (.seq (.reg [.o 108 (.mov (.t 0)),
 .o 109 (.mov (.t 8)),
 .o 110 (.slc 0 (.t 108) (some (.t 109)) none),
 .o 111 (.mov (.t 1)),
 .o 112 (.callF F_internal_bytealg_IndexString [(.t 110), (.t 111)]),
 .o 12 (.mov (.t 112))])
 (.keep [8, 12] (.seq (.seq (.reg [.o 113 (.mov (.t 12)),
 .o 114 (.bin .geq (.t 113) (.c (.int .i64 0)))])
 (.keep [8, 12, 114] (.cond (.t 114)
 (.seq (.reg [.o 115 (.mov (.t 12)),
 .o 116 (.mov (.t 8)),
 .o 117 (.bin .add (.t 115) (.t 116)),
 .o 4 (.mov (.t 117))])
 (.ret))
 (.skip))))
 (.keep [] (.seq (.reg [.o 4 (.mov (.c (.int .i64 (-1))))])
 (.ret))))))
 (.seq (.reg [.o 118 (.mov (.t 5)),
 .o 119 (.load 1 false (.g G_internal_bytealg_MaxLen)),
 .o 120 (.bin .gtr (.t 118) (.t 119)),
 .o 121 (.mov (.t 120)),
 .g (some 122) 121 true (.mov (.t 10)),
 .g (some 123) 121 true (.mov (.t 8)),
 .g (some 124) 121 true (.bin .shr (.t 123) (.c (.int .u64 4))),
 .g (some 125) 121 true (.bin .add (.c (.int .i64 4)) (.t 124)),
 .g (some 126) 121 true (.bin .geq (.t 122) (.t 125)),
 .o 127 (.pick (.t 121) (.t 126) (.c (.bool false))),
 .o 128 (.mov (.t 127)),
 .g (some 129) 128 true (.mov (.t 8)),
 .g (some 130) 128 true (.mov (.t 9)),
 .g (some 131) 128 true (.bin .lss (.t 129) (.t 130)),
 .o 132 (.pick (.t 128) (.t 131) (.c (.bool false)))])
 (.keep [0, 1, 5, 6, 7, 8, 9, 10, 132] (.cond (.t 132)
 (.seq (.reg [.o 133 (.mov (.t 0)),
 .o 134 (.mov (.t 8)),
 .o 135 (.slc 0 (.t 133) (some (.t 134)) none),
 .o 136 (.mov (.t 1)),
 .o 137 (.callF F_internal_bytealg_IndexRabinKarp_string [(.t 135), (.t 136)]),
 .o 13 (.mov (.t 137))])
 (.keep [8, 13] (.seq (.seq (.reg [.o 138 (.mov (.t 13)),
 .o 139 (.bin .lss (.t 138) (.c (.int .i64 0)))])
 (.keep [8, 13, 139] (.cond (.t 139)
 (.seq (.reg [.o 4 (.mov (.c (.int .i64 (-1))))])
 (.ret))
 (.skip))))
 (.keep [8, 13] (.seq (.reg [.o 140 (.mov (.t 8)),
 .o 141 (.mov (.t 13)),
 .o 142 (.bin .add (.t 140) (.t 141)),
 .o 4 (.mov (.t 142))])
 (.ret))))))
 (.skip))))))))))))))))))
def c_internal_stringslite_Index : ACode :=
 .seq (.reg [.o 4 (.mov (.c (.int .i64 0)))])
 (.keep [0, 1] (.seq (.reg [.o 14 (.mov (.t 1)),
 .o 15 (.len true (.t 14)),
 .o 5 (.mov (.t 15))])
 (.keep [0, 1, 5] (.seq (.block 0 (.seq (.reg [.o 17 (.mov (.t 5)),
 .o 18 (.bin .eql (.t 17) (.c (.int .i64 0))),
 .o 19 (.mov (.t 18)),
 .g (some 20) 19 false (.mov (.t 1)),
 .g (some 21) 19 false (.mov (.t 0)),
 .g (some 22) 19 false (.bin .eql (.t 20) (.t 21)),
 .o 23 (.pick (.t 19) (.c (.bool true)) (.t 22)),
 .o 16 (.mov (.t 23))])
 (.keep [0, 1, 5, 16] (.cond (.t 16)
 (.seq (.reg [.o 4 (.mov (.c (.int .i64 0)))])
 (.ret))
 (.seq (.reg [.o 25 (.mov (.t 5)),
 .o 26 (.bin .eql (.t 25) (.c (.int .i64 1))),
 .o 24 (.mov (.t 26))])
 (.keep [0, 1, 5, 24] (.cond (.t 24)
 (.seq (.reg [.o 27 (.mov (.t 0)),
 .o 28 (.mov (.t 1)),
 .o 29 (.index (.t 28) (.c (.int .i64 0))),
 .o 30 (.callF F_internal_stringslite_IndexByte [(.t 27), (.t 29)]),
 .o 4 (.mov (.t 30))])
 (.ret))
 (.seq (.reg [.o 32 (.mov (.t 5)),
 .o 33 (.mov (.t 0)),
 .o 34 (.len true (.t 33)),
 .o 35 (.bin .geq (.t 32) (.t 34)),
 .o 31 (.mov (.t 35))])
 (.keep [0, 1, 5, 31] (.cond (.t 31)
 (.seq (.reg [.o 4 (.mov (.c (.int .i64 (-1))))])
 (.ret))
 (.seq (.reg [.o 37 (.mov (.t 5)),
 .o 38 (.load 1 false (.g G_internal_bytealg_MaxLen)),
 .o 39 (.bin .leq (.t 37) (.t 38)),
 .o 40 (.mov (.t 39)),
 .g (some 41) 40 true (.mov (.t 0)),
 .g (some 42) 40 true (.len true (.t 41)),
 .g (some 43) 40 true (.bin .leq (.t 42) (.c (.int .i64 64))),
 .o 44 (.pick (.t 40) (.t 43) (.c (.bool false))),
 .o 36 (.mov (.t 44))])
 (.keep [0, 1, 5, 36] (.cond (.t 36)
 (.seq (.reg [.o 45 (.mov (.t 0)),
 .o 46 (.mov (.t 1)),
 .o 47 (.callF F_internal_bytealg_IndexString [(.t 45), (.t 46)]),
 .o 4 (.mov (.t 47))])
 (.ret))
 (.skip))))))))))))))
 (.keep [0, 1, 5] (.seq (.reg [.o 48 (.mov (.t 1)),
 .o 49 (.index (.t 48) (.c (.int .i64 0))),
 .o 6 (.mov (.t 49))])
 (.keep [0, 1, 5, 6] (.seq (.reg [.o 50 (.mov (.t 1)),
 .o 51 (.index (.t 50) (.c (.int .i64 1))),
 .o 7 (.mov (.t 51))])
 (.keep [0, 1, 5, 6, 7] (.seq (.reg [.o 8 (.mov (.c (.int .i64 0)))])
 (.keep [0, 1, 5, 6, 7, 8] (.seq (.reg [.o 52 (.mov (.t 0)),
 .o 53 (.len true (.t 52)),
 .o 54 (.mov (.t 5)),
 .o 55 (.bin .sub (.t 53) (.t 54)),
 .o 56 (.bin .add (.t 55) (.c (.int .i64 1))),
 .o 9 (.mov (.t 56))])
 (.keep [0, 1, 5, 6, 7, 8, 9] (.seq (.reg [.o 10 (.mov (.c (.int .i64 0)))])
 (.keep [0, 1, 5, 6, 7, 8, 9, 10] (.seq (.block 1 (.loop c_internal_stringslite_Index_l0))
 (.keep [] (.seq (.reg [.o 4 (.mov (.c (.int .i64 (-1))))])
 (.ret)))))))))))))))))))
def a_internal_stringslite_Index : AFun := ⟨2, c_internal_stringslite_Index, [.tmp 4]⟩

end Go.Proofs.YtbpgbhmibmcbnaaGreatDoor.Ram

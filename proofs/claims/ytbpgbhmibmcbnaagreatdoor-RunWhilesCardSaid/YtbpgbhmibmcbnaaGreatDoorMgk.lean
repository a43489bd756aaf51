/-
  Parts of the proof: RunKp, RamV, ValT, KvA, KvB, KvC, KvD, KvE, RvA, RvB, RvC, RvD, RvE, ArgE, RvF, RvG, RvH, KvF, KfA, KfB, KfC, RvI, RvJ, RvK, RxA, RxB, RxC, RvL, RvM, RvN, RvO, RvP, RvQ, RvR, RvS.
-/
import Derived.Test.YtbpgbhmibmcbnaaGreatDoorMgj
import Derived.Test.YtbpgbhmibmcbnaaGreatDoorMgh
import Derived.Sort.KeysCollected
import Derived.Test.YtbpgbhmibmcbnaaGreatDoorMgg
import Derived.Test.YtbpgbhmibmcbnaaGreatDoorMgi
import Derived.Test.YtbpgbhmibmcbnaaGreatDoorMgc
import Derived.Test.YtbpgbhmibmcbnaaGreatDoorMgf
/-! slices.Sorted at what maps.Keys handed back, as a prim: the keys, sorted. By program (mkkeys.py). -/
namespace Go.Proofs.YtbpgbhmibmcbnaaGreatDoor.Ram
open Go Go.RowKit

theorem HR.adopt {m : LMap} {H : AH} {w : World} (h : HR m H w) (loc : Loc) (o : AObj) (hb : loc.b < w.heap.size) (hn : ∀ i li, m i = some li → li.b ≠ loc.b) (hr : ∀ m', LSub m m' → ObjR m' w loc o) :
    HR (m.put H.next loc) (H.push o) w := by
  have hsub := LMap.put_sub (loc := loc) h.fresh
  refine ⟨fun i hi => ?_, fun i loc hi => ?_, fun i loc o' hi ho => ?_, fun i j li lj oi oj hi hj hoi hoj hne hsh => ?_, h.tipo_push o, fun j lj l ht hj hl => ?_⟩
  rotate_left 4
  · obtain ⟨hjn, _, _⟩ := h.tipo j ht
    rw [AH.get_push, if_neg (by omega)] at hl
    unfold LMap.put at hj
    rw [if_neg (by omega)] at hj
    obtain ⟨hc, ho⟩ := h.tip j lj l ht hj hl
    refine ⟨hc, fun i li oi hi hoi hb hne => ?_⟩
    unfold LMap.put at hi
    rw [AH.get_push] at hoi
    split at hi
    · rename_i e; subst e; obtain rfl := Option.some.inj hi; exact absurd hb.symm (hn j lj hj)
    · rename_i e; rw [if_neg e] at hoi; exact ho i li oi hi hoi hb hne
  · rw [AH.get_push, if_neg (by simp only [AH.push] at hi; omega)]
    exact h.wf i (by simp only [AH.push] at hi; omega)
  · unfold LMap.put at hi
    split at hi
    · rename_i e; subst e; obtain rfl := Option.some.inj hi; exact ⟨Nat.lt_succ_self _, hb⟩
    · have := h.dom i loc hi; simp only [AH.push]; exact ⟨by omega, by omega⟩
  · unfold LMap.put at hi
    rw [AH.get_push] at ho
    split at hi
    · rename_i e; subst e
      rw [if_pos rfl] at ho
      obtain rfl := Option.some.inj hi
      obtain rfl := Option.some.inj ho
      exact hr _ hsub
    · rename_i e
      rw [if_neg e] at ho
      exact (h.ok i loc o' hi ho).mono hsub rfl
  · unfold LMap.put at hi hj
    rw [AH.get_push] at hoi hoj
    split at hi <;> split at hj
    · rename_i e e'; exact absurd (e.trans e'.symm) hne
    · obtain rfl := Option.some.inj hi; exact fun e => hn j lj hj e.symm
    · obtain rfl := Option.some.inj hj; exact hn i li hi
    · rename_i e e'
      rw [if_neg e] at hoi
      rw [if_neg e'] at hoj
      exact h.sep i j li lj oi oj hi hj hoi hoj hne hsh
theorem Ext.adopt {m : LMap} {H : AH} {w w' : World} (h : HR m H w) (loc : Loc) (o : AObj) (hb : w.heap.size ≤ loc.b) (hx : Ext m H w m H w') : Ext m H w (m.put H.next loc) (H.push o) w' where
  next := by simp [AH.push]
  sub := LMap.put_sub h.fresh
  new := fun i loc' hi hn => by
    unfold LMap.put at hi
    split at hi
    · rename_i e; subst e; obtain rfl := Option.some.inj hi; exact ⟨Nat.le_refl _, .inl hb⟩
    · rw [hn] at hi; cases hi
  unm := fun i hi _ => by rw [AH.get_push, if_neg (by omega)]
  ro := fun i hi o' ho => by rw [AH.get_push, if_neg (by omega)] at ho; exact ⟨o', ho, rfl⟩
  rok := fun i o' ho _ => by
    rw [AH.get_push]
    split
    · rename_i e; subst e; rw [h.wf _ (Nat.le_refl _)] at ho; cases ho
    · exact ho
  tip := fun _ _ h => h
  frame := hx.frame
  size := hx.size
  os := hx.os
  tape := hx.tape
  output := hx.output
def V8 : Value → List UInt8
  | .string s => s.data.toList
  | _ => []
theorem MapR.keysEq {m : LMap} {l : List (List UInt8 × AV)} {es : List MapEntry} (h : MapR m l es) : es.map (·.key) = l.map fun p => .string ⟨⟨p.1⟩⟩ := by
  induction h with
  | nil => rfl
  | cons hk _ _ ih => simp [hk, ih]
theorem keys_of {F : MapEntry → Lit × DataW Unit} {es : List MapEntry} {ks : List (List UInt8)} (h : ∀ x ∈ es, V8 x.key = strOf (F x).1) (hk : es.map (·.key) = ks.map fun s => .string ⟨⟨s⟩⟩) : (es.map F).map (fun p => strOf p.1) = ks := by
  rw [List.map_map]
  have h1 : es.map ((fun p : Lit × DataW Unit => strOf p.1) ∘ F) = es.map fun x => V8 x.key := List.map_congr_left fun x hx => (h x hx).symm
  have h2 : es.map (fun x => V8 x.key) = (es.map (·.key)).map V8 := by rw [List.map_map]; rfl
  rw [h1, h2, hk, List.map_map]
  have : V8 ∘ (fun s : List UInt8 => Value.string ⟨⟨s⟩⟩) = id := rfl
  rw [this, List.map_id]
def sortK (l : List (List UInt8)) : List (List UInt8) := l.mergeSort fun x y => decide (x ≤ y)
def mapIn (H : AH) (p : Nat) : Option (List (List UInt8 × AV)) := match H.get p with
  | some (.cells (.map (some r) :: _) false) => match H.get r with
    | some (.map l _) => if l.length ≤ 1000000 ∧ (l.all fun e => decide (e.1.length ≤ 1000000)) = true then some l else none
    | _ => none
  | _ => none
def keysP : List AV → AH → Option (AV × AH)
  | [.fn f [.ptr (some (p, 0))]], H => if f = 96 then (mapIn H p).map fun l =>
      if l = [] then (.sl none 1 0 none, H) else (.sl (some (H.next, 0)) 1 l.length none, H.push (.cells ((sortK (l.map (·.1))).map .str) false)) else none
  | _, _ => none
theorem mapIn_spec {H : AH} {p : Nat} {l : List (List UInt8 × AV)} (h : mapIn H p = some l) : ∃ r rest o, H.get p = some (.cells (.map (some r) :: rest) false) ∧ H.get r = some (.map l o) ∧ l.length ≤ 1000000 ∧ ∀ e ∈ l, e.1.length ≤ 1000000 := by
  unfold mapIn at h
  split at h
  · rename_i r rest hp
    split at h
    · rename_i l' o hr
      split at h
      · rename_i hc
        obtain rfl := Option.some.inj h
        exact ⟨r, rest, o, hp, hr, hc.1, fun e he => by simpa using List.all_eq_true.1 hc.2 e he⟩
      · cases h
    · cases h
  · cases h
theorem keyOf_str (s : List UInt8) (h : s.length ≤ 1000000) : keyOf Tryz.prog 9 (.string ⟨⟨s⟩⟩) = some (.string s) := by
  have hu : Tryz.prog.underlying 9 = some .string := by kernel_rfl
  unfold keyOf
  rw [hu]
  simp only [mapKey, hu]
  first | rfl | (simp [Shape.size, ByteArray.size, maxLen]; omega) | (rw [if_pos (by simp [ByteArray.size, maxLen]; omega)])
open Go.WideElems in
theorem keysPOk : OSound Tryz.prog gl (fun g vs H => if g = 54 then keysP vs H else none) ∧ ∀ vs H r, keysP vs H = some r → H.next ≤ r.2.next := by
  have key : ∀ vs H r, keysP vs H = some r → ∃ p l, vs = [.fn 96 [.ptr (some (p, 0))]] ∧ mapIn H p = some l ∧ r = if l = [] then (.sl none 1 0 none, H) else (.sl (some (H.next, 0)) 1 l.length none, H.push (.cells ((sortK (l.map (·.1))).map .str) false)) := by
    intro vs H r h
    unfold keysP at h
    split at h
    · split at h
      · rename_i hf
        subst hf
        obtain ⟨l, h1, h2⟩ := Option.map_eq_some_iff.1 h
        exact ⟨_, l, rfl, h1, h2.symm⟩
      · cases h
    · cases h
  refine ⟨fun f vs H r h m w cargs hG hh hv => ?_, fun vs H r h => ?_⟩
  · by_cases hf : f = 54
    · subst hf
      dsimp only at h; rw [if_pos rfl] at h
      obtain ⟨p, l, rfl, h1, rfl⟩ := key _ _ _ h
      obtain ⟨r, rest, ro, hp, hr, hlen, hkl⟩ := mapIn_spec h1
      refine ⟨⟨_, Tryz.func54, by unfold Tryz.f54; simp, by unfold Tryz.f54; simp⟩, ?_⟩
      simp only [VRs, VR] at hv
      obtain ⟨_, _, hv, ⟨cs, rfl, ⟨_, _, hcs, ⟨loc, hm, rfl⟩, rfl⟩⟩, rfl⟩ := hv
      obtain rfl := (Array.toArray_toList (xs := cs)).symm.trans (congrArg List.toArray hcs)
      obtain rfl := (Array.toArray_toList (xs := cargs)).symm.trans (congrArg List.toArray hv)
      obtain ⟨c, e, f, k1, k2, _, _, k5⟩ := hh.ok _ _ _ hm hp
      obtain ⟨_, hlo⟩ := k2 (.inl rfl)
      have hlo := hlo rfl
      obtain ⟨cv, q1, q2, _⟩ := k5 0 _ rfl
      simp only [VR] at q2
      obtain ⟨locr, hmr, rfl⟩ := q2
      obtain ⟨es, ck, g1, g2, g3⟩ := hh.ok _ _ _ hmr hr
      have hke := g2.keysEq
      have hes : es.toList.length = l.length := by have := congrArg List.length hke; simpa using this
      let R : Value → Option (DataW Unit × List MemPlace) := fun _ => some (.nil, [])
      have hrd : ∀ x ∈ es.toList, ∃ s, s ∈ l.map (·.1) ∧ x.key = .string ⟨⟨s⟩⟩ ∧ rd Tryz.prog 9 R x = some (.string s, .nil) := fun x hx => by
        have h2 : x.key ∈ es.toList.map (·.key) := List.mem_map.2 ⟨x, hx, rfl⟩
        rw [hke] at h2
        obtain ⟨q, hq, hqe⟩ := List.mem_map.1 h2
        refine ⟨q.1, List.mem_map.2 ⟨q, hq, rfl⟩, hqe.symm, ?_⟩
        unfold rd
        rw [← hqe, keyOf_str _ (hkl q hq)]
        rfl
      have hF : Fit Tryz.prog 9 R es ck := ⟨by simp at hes; rw [hes]; unfold maxLen; omega, g3, fun x hx => by obtain ⟨s, _, _, h3⟩ := hrd x hx; exact ⟨_, h3⟩⟩
      let D : DataW Unit := .map ((es.toList.map (rg Tryz.prog 9 R)).foldr DataW.insert [])
      have hown : w.ownsMap Tryz.prog 9 R locr.b es.size D := ⟨es, ck, g1, hF, Nat.le_refl _, rfl⟩
      have hperm : (strKeys D).Perm (l.map (·.1)) := by
        have h2 : (strKeys D).Perm ((es.toList.map (rg Tryz.prog 9 R)).map fun p => strOf p.1) := (WideShapes.sorted_perm _).map _
        have h3 : (es.toList.map (rg Tryz.prog 9 R)).map (fun p => strOf p.1) = l.map (·.1) := by
          have h4 : ∀ x ∈ es.toList, V8 x.key = strOf (rg Tryz.prog 9 R x).1 := fun x hx => by
            obtain ⟨s, _, h5, h6⟩ := hrd x hx
            simp [rg, h6, h5, V8, strOf]
          exact keys_of h4 (by rw [hke, List.map_map]; rfl)
        rw [h3] at h2; exact h2
      have hsz : Maps.size D = l.length := by
        have h2 : Maps.size D = (strKeys D).length := by simp [D, Maps.size, strKeys]
        rw [h2, hperm.length_eq, List.length_map]
      have hcell : w.cell? ⟨loc.b, 0, none⟩ = some (.map (some locr.b)) := by
        simp only [World.cell?, k1]
        have := q1
        rw [hlo] at this
        simpa using this
      have hlt : loc.b < w.heap.size := (hh.dom _ _ hm).2
      have hseq : SeqGives Fence.wide 2 Tryz.prog 96 #[.pointer (some ⟨loc.b, 0, none⟩)] encStr (fun ss => ss.Perm (strKeys D)) (Maps.size D) w :=
        AnyZ.keys_gives (ρ := Tryz.keys55_ren) { Tryz.keys55 with } Fence.wide _ trivial rfl (by omega) loc.b locr.b es.size D _ hlt hcell hown
      have hcall := callsIn_wide.1 (AnyZ.sorted_in Tryz.sorted54 Fence.wide 5 trivial trivial trivial trivial rfl (by omega) (Tryz.sorts54 _) (enters_of Tryz.func95 (by kernel_rfl) rfl) 96 #[.pointer (some ⟨loc.b, 0, none⟩)] trivial (enters_of Tryz.func96 (by kernel_rfl) rfl) _ _ (by rw [hsz]; unfold maxLen; omega) (by rw [hsz]; omega) w hseq)
      have ea : loc.o + 0 = 0 := by omega
      rw [ea]
      refine hcall.mono ?_
      rintro e w' ⟨v, ss, rfl, hS, hrow, hnil, hb⟩
      have hss : ss.mergeSort (fun x y => decide (x ≤ y)) = sortK (l.map (·.1)) := Go.mergeSort_of_perm (hS.trans hperm)
      have hsl : ss.length = l.length := by rw [hS.length_eq, hperm.length_eq, List.length_map]
      obtain ⟨s1, s2⟩ := hh.same (w' := w') (fun b hb' => hb.block b hb') hb.size hb.os hb.tape hb.output
      by_cases h0 : l = []
      · subst h0
        have : ss = [] := List.length_eq_zero_iff.1 (by simpa using hsl)
        rw [hnil.2 this]
        exact ⟨_, m, rfl, by simp [VR], s1, s2⟩
      · rw [if_neg h0]
        have hv0 : v ≠ .slice none 0 0 := fun e => h0 (List.length_eq_zero_iff.1 (by rw [← hsl, hnil.1 e]; rfl))
        obtain ⟨_, hrow⟩ := hrow
        rcases hrow with ⟨e1, _⟩ | ⟨g, cap, cur, rfl, z1, z2, z3, z4, z5, z6⟩
        · exact absurd e1 hv0
        rw [hss, hsl] at z6
        rw [hsl] at z3
        have hlen2 : (sortK (l.map (·.1))).length = l.length := by simp [sortK]
        have hg : g < w'.heap.size := (Array.getElem?_eq_some_iff.1 z2).1
        refine ⟨_, m.put H.next ⟨g, 0, cap, false⟩, rfl, ?_, s1.adopt ⟨g, 0, cap, false⟩ _ hg (fun i li hi => by have := (hh.dom i li hi).2; simp only; omega) (fun m' _ => ⟨cur, _, _, z2, fun _ => ⟨rfl, fun _ => rfl⟩, by simp [z5], by simp [hlen2]; omega, fun j x hx => ?_⟩), Ext.adopt hh _ _ z1 s2⟩
        · simp only [VR, hsl]
          exact ⟨_, cap, _, LMap.put_self _ _ _, rfl, fun _ => rfl, z3, by simp, z4, fun d hd => by cases hd⟩
        · obtain ⟨s, hs, rfl⟩ := List.mem_map.1 (List.mem_of_getElem? hx)
          have hj := (List.getElem?_eq_some_iff.1 hx).1
          rw [List.length_map, hlen2] at hj
          have h2 : (cur.toList.take (l.length * 1))[j]? = some (encStr s) := by
            rw [z6, List.getElem?_map]
            rw [List.getElem?_map] at hx
            cases e3 : (sortK (l.map (·.1)))[j]? with
            | none => rw [e3] at hx; cases hx
            | some s' => rw [e3] at hx; simp only [Option.map_some, Option.some.injEq, AV.str.injEq] at hx; subst hx; rfl
          rw [List.getElem?_take, if_pos (by omega)] at h2
          exact ⟨encStr s, by simpa using h2, by simp [VR, encStr], rfl⟩
    · dsimp only at h; rw [if_neg hf] at h; cases h
  · obtain ⟨p, l, _, _, rfl⟩ := key _ _ _ h
    split
    · exact Nat.le_refl _
    · simp [AH.push]
end Go.Proofs.YtbpgbhmibmcbnaaGreatDoor.Ram

/-! The table. By program (gen2.py). -/
namespace Go.Proofs.YtbpgbhmibmcbnaaGreatDoor.Ram
open Go

def entries : List (Nat × ADef) := [(F_patoislaw9_RunWhiles, .code a_patoislaw9_RunWhiles), (F_patoislaw9_first, .code a_patoislaw9_first), (F_core_Lit, .code a_core_Lit), (F_core_New, .code a_core_New), (F_patoislaw9_call, .code a_patoislaw9_call), (F_patoislaw9_plain, .code a_patoislaw9_plain), (F_run_Defaults, .code a_run_Defaults), (F_patoisref_SameTexts, .code a_patoisref_SameTexts), (F_run_Run, .code a_run_Run), (F_slices_Clone_api_Node_api_Node, .code a_slices_Clone_api_Node_api_Node), (F_core_Check, .code a_core_Check), (F_run_begin, .code a_run_begin), (F_run_runner_do, .code a_run_runner_do), (F_world_asked_Trace, .code a_world_asked_Trace), (F_store_values_Vars, .code a_store_values_Vars), (F_world_Kernel_Files, .code a_world_Kernel_Files), (F_core_look, .code a_core_look), (F_world_New, .code a_world_New), (F_run_Options_may, .code a_run_Options_may), (F_store_New, .code a_store_New), (F_store_values_SetArgs, .code a_store_values_SetArgs), (F_run_kids, .code a_run_kids), (F_run_runner_seq, .code a_run_runner_seq), (F_run_runner_while, .code a_run_runner_while), (F_run_runner_step, .code a_run_runner_step), (F_run_runner_together, .code a_run_runner_together), (F_lists_Cat, .code a_lists_Cat), (F_run_runner_call, .code a_run_runner_call), (F_store_functions_SetFun, .code a_store_functions_SetFun), (F_run_runner_pipe, .code a_run_runner_pipe), (F_world_copied, .code a_world_copied), (F_maps_Keys_map_string_string_string_string, .code a_maps_Keys_map_string_string_string_string), (F_slices_Clone_string_string, .code a_slices_Clone_string_string), (F_slices_Clone_api_File_api_File, .code a_slices_Clone_api_File_api_File), (F_core_Word, .code a_core_Word), (F_core_Command, .code a_core_Command), (F_core_fields, .code a_core_fields), (F_core_children, .code a_core_children), (F_core_takes, .code a_core_takes), (F_world_May, .code a_world_May), (F_slices_SortFunc_api_File_api_File, .code a_slices_SortFunc_api_File_api_File), (F_lists_Fits, .code a_lists_Fits), (F_text_Name, .code a_text_Name), (F_store_values_Set, .code a_store_values_Set), (F_run_runner_word, .code a_run_runner_word), (F_lists_bound, .code a_lists_bound), (F_store_functions_Fun, .code a_store_functions_Fun), (F_run_runner_frame, .code a_run_runner_frame), (F_builtin_Do, .code a_builtin_Do), (F_run_runner_exec, .code a_run_runner_exec), (F_run_runner_say, .code a_run_runner_say), (F_world_asked_Mark, .code a_world_asked_Mark), (F_run_runner_pipe_1, .code a_run_runner_pipe_1), (F_run_runner_catch, .code a_run_runner_catch), (F_core_named, .code a_core_named), (F_slices_ContainsFunc_string_string, .code a_slices_ContainsFunc_string_string), (F_world_May_1, .code a_world_May_1), (F_slices_pdqsortCmpFunc_api_File, .code a_slices_pdqsortCmpFunc_api_File), (F_math_bits_Len, .code a_math_bits_Len), (F_lists_Fits_1, .code a_lists_Fits_1), (F_text_begins, .code a_text_begins), (F_text_goesOn, .code a_text_goesOn), (F_store_values_Get, .code a_store_values_Get), (F_run_runner_deeper, .code a_run_runner_deeper), (F_run_runner_frame_1, .code a_run_runner_frame_1), (F_builtin_commands, .code a_builtin_commands), (F_world_Kernel_Exec, .code a_world_Kernel_Exec), (F_world_Kernel_Reads, .code a_world_Kernel_Reads), (F_world_Kernel_Write, .code a_world_Kernel_Write), (F_world_asked_note, .code a_world_asked_note), (F_slices_Contains_int_int, .code a_slices_Contains_int_int), (F_slices_IndexFunc_string_string, .code a_slices_IndexFunc_string_string), (F_slices_insertionSortCmpFunc_api_File, .code a_slices_insertionSortCmpFunc_api_File), (F_math_bits_Len64, .code a_math_bits_Len64), (F_store_values_Args, .code a_store_values_Args), (F_strings_Join, .code a_strings_Join), (F_builtin_cat, .code a_builtin_cat), (F_builtin_echo, .code a_builtin_echo), (F_builtin_put, .code a_builtin_put), (F_builtin_read, .code a_builtin_read), (F_builtin_yes, .code a_builtin_yes), (F_world_Kernel_row, .code a_world_Kernel_row), (F_internal_stringslite_IndexByte, .prim ixP), (F_slices_Index_int_int, .code a_slices_Index_int_int), (F_builtin_Outcome_test, .code a_builtin_Outcome_test), (F_strings_Cut, .code a_strings_Cut), (F_slices_Equal_string_string, .code a_slices_Equal_string_string), (F_internal_stringslite_Cut, .code a_internal_stringslite_Cut), (F_internal_stringslite_Index, .code a_internal_stringslite_Index), (F_errors_As, .prim asP), (F_slices_Sorted_string, .prim keysP), (F_internal_bytealg_CompareString, .prim cmpP)]
def T : Tab := ⟨⟨[Ty_perrors_errorString], [50, 51, 52, 53, 55, 56, 57, 58, 59]⟩, fun f => (entries.find? fun p => p.1 == f).map (·.2)⟩
theorem T_patoislaw9_RunWhiles : T.fn F_patoislaw9_RunWhiles = some (.code a_patoislaw9_RunWhiles) := rfl
theorem T_patoislaw9_first : T.fn F_patoislaw9_first = some (.code a_patoislaw9_first) := rfl
theorem T_core_Lit : T.fn F_core_Lit = some (.code a_core_Lit) := rfl
theorem T_core_New : T.fn F_core_New = some (.code a_core_New) := rfl
theorem T_patoislaw9_call : T.fn F_patoislaw9_call = some (.code a_patoislaw9_call) := rfl
theorem T_patoislaw9_plain : T.fn F_patoislaw9_plain = some (.code a_patoislaw9_plain) := rfl
theorem T_run_Defaults : T.fn F_run_Defaults = some (.code a_run_Defaults) := rfl
theorem T_patoisref_SameTexts : T.fn F_patoisref_SameTexts = some (.code a_patoisref_SameTexts) := rfl
theorem T_run_Run : T.fn F_run_Run = some (.code a_run_Run) := rfl
theorem T_slices_Clone_api_Node_api_Node : T.fn F_slices_Clone_api_Node_api_Node = some (.code a_slices_Clone_api_Node_api_Node) := rfl
theorem T_core_Check : T.fn F_core_Check = some (.code a_core_Check) := rfl
theorem T_run_begin : T.fn F_run_begin = some (.code a_run_begin) := rfl
theorem T_run_runner_do : T.fn F_run_runner_do = some (.code a_run_runner_do) := rfl
theorem T_world_asked_Trace : T.fn F_world_asked_Trace = some (.code a_world_asked_Trace) := rfl
theorem T_store_values_Vars : T.fn F_store_values_Vars = some (.code a_store_values_Vars) := rfl
theorem T_world_Kernel_Files : T.fn F_world_Kernel_Files = some (.code a_world_Kernel_Files) := rfl
theorem T_core_look : T.fn F_core_look = some (.code a_core_look) := rfl
theorem T_world_New : T.fn F_world_New = some (.code a_world_New) := rfl
theorem T_run_Options_may : T.fn F_run_Options_may = some (.code a_run_Options_may) := rfl
theorem T_store_New : T.fn F_store_New = some (.code a_store_New) := rfl
theorem T_store_values_SetArgs : T.fn F_store_values_SetArgs = some (.code a_store_values_SetArgs) := rfl
theorem T_run_kids : T.fn F_run_kids = some (.code a_run_kids) := rfl
theorem T_run_runner_seq : T.fn F_run_runner_seq = some (.code a_run_runner_seq) := rfl
theorem T_run_runner_while : T.fn F_run_runner_while = some (.code a_run_runner_while) := rfl
theorem T_run_runner_step : T.fn F_run_runner_step = some (.code a_run_runner_step) := rfl
theorem T_run_runner_together : T.fn F_run_runner_together = some (.code a_run_runner_together) := rfl
theorem T_lists_Cat : T.fn F_lists_Cat = some (.code a_lists_Cat) := rfl
theorem T_run_runner_call : T.fn F_run_runner_call = some (.code a_run_runner_call) := rfl
theorem T_store_functions_SetFun : T.fn F_store_functions_SetFun = some (.code a_store_functions_SetFun) := rfl
theorem T_run_runner_pipe : T.fn F_run_runner_pipe = some (.code a_run_runner_pipe) := rfl
theorem T_world_copied : T.fn F_world_copied = some (.code a_world_copied) := rfl
theorem T_maps_Keys_map_string_string_string_string : T.fn F_maps_Keys_map_string_string_string_string = some (.code a_maps_Keys_map_string_string_string_string) := rfl
theorem T_slices_Clone_string_string : T.fn F_slices_Clone_string_string = some (.code a_slices_Clone_string_string) := rfl
theorem T_slices_Clone_api_File_api_File : T.fn F_slices_Clone_api_File_api_File = some (.code a_slices_Clone_api_File_api_File) := rfl
theorem T_core_Word : T.fn F_core_Word = some (.code a_core_Word) := rfl
theorem T_core_Command : T.fn F_core_Command = some (.code a_core_Command) := rfl
theorem T_core_fields : T.fn F_core_fields = some (.code a_core_fields) := rfl
theorem T_core_children : T.fn F_core_children = some (.code a_core_children) := rfl
theorem T_core_takes : T.fn F_core_takes = some (.code a_core_takes) := rfl
theorem T_world_May : T.fn F_world_May = some (.code a_world_May) := rfl
theorem T_slices_SortFunc_api_File_api_File : T.fn F_slices_SortFunc_api_File_api_File = some (.code a_slices_SortFunc_api_File_api_File) := rfl
theorem T_lists_Fits : T.fn F_lists_Fits = some (.code a_lists_Fits) := rfl
theorem T_text_Name : T.fn F_text_Name = some (.code a_text_Name) := rfl
theorem T_store_values_Set : T.fn F_store_values_Set = some (.code a_store_values_Set) := rfl
theorem T_run_runner_word : T.fn F_run_runner_word = some (.code a_run_runner_word) := rfl
theorem T_lists_bound : T.fn F_lists_bound = some (.code a_lists_bound) := rfl
theorem T_store_functions_Fun : T.fn F_store_functions_Fun = some (.code a_store_functions_Fun) := rfl
theorem T_run_runner_frame : T.fn F_run_runner_frame = some (.code a_run_runner_frame) := rfl
theorem T_builtin_Do : T.fn F_builtin_Do = some (.code a_builtin_Do) := rfl
theorem T_run_runner_exec : T.fn F_run_runner_exec = some (.code a_run_runner_exec) := rfl
theorem T_run_runner_say : T.fn F_run_runner_say = some (.code a_run_runner_say) := rfl
theorem T_world_asked_Mark : T.fn F_world_asked_Mark = some (.code a_world_asked_Mark) := rfl
theorem T_run_runner_pipe_1 : T.fn F_run_runner_pipe_1 = some (.code a_run_runner_pipe_1) := rfl
theorem T_run_runner_catch : T.fn F_run_runner_catch = some (.code a_run_runner_catch) := rfl
theorem T_core_named : T.fn F_core_named = some (.code a_core_named) := rfl
theorem T_slices_ContainsFunc_string_string : T.fn F_slices_ContainsFunc_string_string = some (.code a_slices_ContainsFunc_string_string) := rfl
theorem T_world_May_1 : T.fn F_world_May_1 = some (.code a_world_May_1) := rfl
theorem T_slices_pdqsortCmpFunc_api_File : T.fn F_slices_pdqsortCmpFunc_api_File = some (.code a_slices_pdqsortCmpFunc_api_File) := rfl
theorem T_math_bits_Len : T.fn F_math_bits_Len = some (.code a_math_bits_Len) := rfl
theorem T_lists_Fits_1 : T.fn F_lists_Fits_1 = some (.code a_lists_Fits_1) := rfl
theorem T_text_begins : T.fn F_text_begins = some (.code a_text_begins) := rfl
theorem T_text_goesOn : T.fn F_text_goesOn = some (.code a_text_goesOn) := rfl
theorem T_store_values_Get : T.fn F_store_values_Get = some (.code a_store_values_Get) := rfl
theorem T_run_runner_deeper : T.fn F_run_runner_deeper = some (.code a_run_runner_deeper) := rfl
theorem T_run_runner_frame_1 : T.fn F_run_runner_frame_1 = some (.code a_run_runner_frame_1) := rfl
theorem T_builtin_commands : T.fn F_builtin_commands = some (.code a_builtin_commands) := rfl
theorem T_world_Kernel_Exec : T.fn F_world_Kernel_Exec = some (.code a_world_Kernel_Exec) := rfl
theorem T_world_Kernel_Reads : T.fn F_world_Kernel_Reads = some (.code a_world_Kernel_Reads) := rfl
theorem T_world_Kernel_Write : T.fn F_world_Kernel_Write = some (.code a_world_Kernel_Write) := rfl
theorem T_world_asked_note : T.fn F_world_asked_note = some (.code a_world_asked_note) := rfl
theorem T_slices_Contains_int_int : T.fn F_slices_Contains_int_int = some (.code a_slices_Contains_int_int) := rfl
theorem T_slices_IndexFunc_string_string : T.fn F_slices_IndexFunc_string_string = some (.code a_slices_IndexFunc_string_string) := rfl
theorem T_slices_insertionSortCmpFunc_api_File : T.fn F_slices_insertionSortCmpFunc_api_File = some (.code a_slices_insertionSortCmpFunc_api_File) := rfl
theorem T_math_bits_Len64 : T.fn F_math_bits_Len64 = some (.code a_math_bits_Len64) := rfl
theorem T_store_values_Args : T.fn F_store_values_Args = some (.code a_store_values_Args) := rfl
theorem T_strings_Join : T.fn F_strings_Join = some (.code a_strings_Join) := rfl
theorem T_builtin_cat : T.fn F_builtin_cat = some (.code a_builtin_cat) := rfl
theorem T_builtin_echo : T.fn F_builtin_echo = some (.code a_builtin_echo) := rfl
theorem T_builtin_put : T.fn F_builtin_put = some (.code a_builtin_put) := rfl
theorem T_builtin_read : T.fn F_builtin_read = some (.code a_builtin_read) := rfl
theorem T_builtin_yes : T.fn F_builtin_yes = some (.code a_builtin_yes) := rfl
theorem T_world_Kernel_row : T.fn F_world_Kernel_row = some (.code a_world_Kernel_row) := rfl
theorem T_internal_stringslite_IndexByte : T.fn F_internal_stringslite_IndexByte = some (.prim ixP) := rfl
theorem T_slices_Index_int_int : T.fn F_slices_Index_int_int = some (.code a_slices_Index_int_int) := rfl
theorem T_builtin_Outcome_test : T.fn F_builtin_Outcome_test = some (.code a_builtin_Outcome_test) := rfl
theorem T_strings_Cut : T.fn F_strings_Cut = some (.code a_strings_Cut) := rfl
theorem T_slices_Equal_string_string : T.fn F_slices_Equal_string_string = some (.code a_slices_Equal_string_string) := rfl
theorem T_internal_stringslite_Cut : T.fn F_internal_stringslite_Cut = some (.code a_internal_stringslite_Cut) := rfl
theorem T_internal_stringslite_Index : T.fn F_internal_stringslite_Index = some (.code a_internal_stringslite_Index) := rfl
theorem T_errors_As : T.fn F_errors_As = some (.prim asP) := rfl
theorem T_slices_Sorted_string : T.fn F_slices_Sorted_string = some (.prim keysP) := rfl
theorem T_internal_bytealg_CompareString : T.fn F_internal_bytealg_CompareString = some (.prim cmpP) := rfl
set_option maxRecDepth 100000 in
theorem okEntries : ∀ p ∈ entries, match p.2 with
    | .code F => ∃ fn, Tryz.prog.funcs[p.1]? = some fn ∧ okFun Tryz.prog gl fn F = true
    | .prim q => OSound Tryz.prog gl (fun g vs H => if g = p.1 then q vs H else none) ∧ ∀ vs H r, q vs H = some r → H.next ≤ r.2.next := by
  unfold entries
  simp only [List.forall_mem_cons]
  exact ⟨⟨_, Tryz.func4, ok_patoislaw9_RunWhiles⟩, ⟨_, Tryz.func8, ok_patoislaw9_first⟩, ⟨_, Tryz.func9, ok_core_Lit⟩, ⟨_, Tryz.func10, ok_core_New⟩, ⟨_, Tryz.func11, ok_patoislaw9_call⟩, ⟨_, Tryz.func12, ok_patoislaw9_plain⟩, ⟨_, Tryz.func13, ok_run_Defaults⟩, ⟨_, Tryz.func14, ok_patoisref_SameTexts⟩, ⟨_, Tryz.func18, ok_run_Run⟩, ⟨_, Tryz.func19, ok_slices_Clone_api_Node_api_Node⟩, ⟨_, Tryz.func21, ok_core_Check⟩, ⟨_, Tryz.func22, ok_run_begin⟩, ⟨_, Tryz.func23, ok_run_runner_do⟩, ⟨_, Tryz.func24, ok_world_asked_Trace⟩, ⟨_, Tryz.func25, ok_store_values_Vars⟩, ⟨_, Tryz.func26, ok_world_Kernel_Files⟩, ⟨_, Tryz.func32, ok_core_look⟩, ⟨_, Tryz.func33, ok_world_New⟩, ⟨_, Tryz.func34, ok_run_Options_may⟩, ⟨_, Tryz.func35, ok_store_New⟩, ⟨_, Tryz.func36, ok_store_values_SetArgs⟩, ⟨_, Tryz.func37, ok_run_kids⟩, ⟨_, Tryz.func38, ok_run_runner_seq⟩, ⟨_, Tryz.func42, ok_run_runner_while⟩, ⟨_, Tryz.func43, ok_run_runner_step⟩, ⟨_, Tryz.func44, ok_run_runner_together⟩, ⟨_, Tryz.func45, ok_lists_Cat⟩, ⟨_, Tryz.func46, ok_run_runner_call⟩, ⟨_, Tryz.func47, ok_store_functions_SetFun⟩, ⟨_, Tryz.func49, ok_run_runner_pipe⟩, ⟨_, Tryz.func53, ok_world_copied⟩, ⟨_, Tryz.func55, ok_maps_Keys_map_string_string_string_string⟩, ⟨_, Tryz.func56, ok_slices_Clone_string_string⟩, ⟨_, Tryz.func57, ok_slices_Clone_api_File_api_File⟩, ⟨_, Tryz.func65, ok_core_Word⟩, ⟨_, Tryz.func66, ok_core_Command⟩, ⟨_, Tryz.func67, ok_core_fields⟩, ⟨_, Tryz.func68, ok_core_children⟩, ⟨_, Tryz.func70, ok_core_takes⟩, ⟨_, Tryz.func71, ok_world_May⟩, ⟨_, Tryz.func72, ok_slices_SortFunc_api_File_api_File⟩, ⟨_, Tryz.func74, ok_lists_Fits⟩, ⟨_, Tryz.func75, ok_text_Name⟩, ⟨_, Tryz.func76, ok_store_values_Set⟩, ⟨_, Tryz.func77, ok_run_runner_word⟩, ⟨_, Tryz.func78, ok_lists_bound⟩, ⟨_, Tryz.func79, ok_store_functions_Fun⟩, ⟨_, Tryz.func80, ok_run_runner_frame⟩, ⟨_, Tryz.func81, ok_builtin_Do⟩, ⟨_, Tryz.func82, ok_run_runner_exec⟩, ⟨_, Tryz.func83, ok_run_runner_say⟩, ⟨_, Tryz.func86, ok_world_asked_Mark⟩, ⟨_, Tryz.func87, ok_run_runner_pipe_1⟩, ⟨_, Tryz.func88, ok_run_runner_catch⟩, ⟨_, Tryz.func104, ok_core_named⟩, ⟨_, Tryz.func105, ok_slices_ContainsFunc_string_string⟩, ⟨_, Tryz.func106, ok_world_May_1⟩, ⟨_, Tryz.func107, ok_slices_pdqsortCmpFunc_api_File⟩, ⟨_, Tryz.func108, ok_math_bits_Len⟩, ⟨_, Tryz.func110, ok_lists_Fits_1⟩, ⟨_, Tryz.func111, ok_text_begins⟩, ⟨_, Tryz.func112, ok_text_goesOn⟩, ⟨_, Tryz.func113, ok_store_values_Get⟩, ⟨_, Tryz.func124, ok_run_runner_deeper⟩, ⟨_, Tryz.func125, ok_run_runner_frame_1⟩, ⟨_, Tryz.func126, ok_builtin_commands⟩, ⟨_, Tryz.func127, ok_world_Kernel_Exec⟩, ⟨_, Tryz.func128, ok_world_Kernel_Reads⟩, ⟨_, Tryz.func129, ok_world_Kernel_Write⟩, ⟨_, Tryz.func131, ok_world_asked_note⟩, ⟨_, Tryz.func144, ok_slices_Contains_int_int⟩, ⟨_, Tryz.func145, ok_slices_IndexFunc_string_string⟩, ⟨_, Tryz.func146, ok_slices_insertionSortCmpFunc_api_File⟩, ⟨_, Tryz.func155, ok_math_bits_Len64⟩, ⟨_, Tryz.func157, ok_store_values_Args⟩, ⟨_, Tryz.func170, ok_strings_Join⟩, ⟨_, Tryz.func173, ok_builtin_cat⟩, ⟨_, Tryz.func174, ok_builtin_echo⟩, ⟨_, Tryz.func180, ok_builtin_put⟩, ⟨_, Tryz.func181, ok_builtin_read⟩, ⟨_, Tryz.func182, ok_builtin_yes⟩, ⟨_, Tryz.func183, ok_world_Kernel_row⟩, ixPOk, ⟨_, Tryz.func198, ok_slices_Index_int_int⟩, ⟨_, Tryz.func218, ok_builtin_Outcome_test⟩, ⟨_, Tryz.func220, ok_strings_Cut⟩, ⟨_, Tryz.func221, ok_slices_Equal_string_string⟩, ⟨_, Tryz.func235, ok_internal_stringslite_Cut⟩, ⟨_, Tryz.func242, ok_internal_stringslite_Index⟩, asPOk, keysPOk, cmpPOk, fun p hp => absurd hp (by simp)⟩
theorem tabOk : TabOk Tryz.prog gl T where
  env := by kernel_rfl
  code := fun f F h => by
    simp only [T, Option.map_eq_some_iff] at h
    obtain ⟨p, h1, h2⟩ := h
    have h3 := okEntries p (List.mem_of_find?_eq_some h1)
    have h4 := List.find?_some h1
    obtain rfl : p.1 = f := by simpa using h4
    rw [h2] at h3
    exact h3
  prim := fun f q h => by
    simp only [T, Option.map_eq_some_iff] at h
    obtain ⟨p, h1, h2⟩ := h
    have h3 := okEntries p (List.mem_of_find?_eq_some h1)
    have h4 := List.find?_some h1
    obtain rfl : p.1 = f := by simpa using h4
    rw [h2] at h3
    exact h3
end Go.Proofs.YtbpgbhmibmcbnaaGreatDoor.Ram

/-! The second machine's table for the Run laws. -/
namespace Go.Proofs.YtbpgbhmibmcbnaaGreatDoor.Val
open Go Go.Proofs.YtbpgbhmibmcbnaaGreatDoor.Ram

def madeL : List Nat := [F_world_New, F_world_copied, F_store_New, F_run_begin, F_maps_Keys_map_string_string_string_string, F_builtin_commands, F_run_runner_do, F_run_runner_word, F_run_runner_seq, F_run_runner_choice, F_run_runner_each, F_run_runner_while, F_run_runner_choose, F_run_runner_pipe, F_run_runner_pipe_1, F_run_runner_redir, F_run_runner_framed, F_run_runner_valued, F_run_runner_eval, F_run_runner_eval_1, F_run_runner_catch, F_run_runner_hear, F_run_runner_deeper, F_run_runner_frame, F_run_runner_frame_1, F_run_runner_call, F_run_runner_exec, F_run_runner_sub, F_run_runner_sub_1, F_run_runner_sub_1_1, F_run_runner_together, F_run_runner_flat, F_run_runner_matches]
def frzL : List Nat := [F_world_asked_Trace, F_core_New, F_world_Kernel_Files]
def FlT : Flags := { lin := fun _ => none, ret := fun _ => false, made := fun f => madeL.contains f, frz := fun f => frzL.contains f }
def cmpV : List V → VH → Option (V × VH)
  | [.str a, .str b], S => some (.int .i64 (cmpL a b), S)
  | _, _ => none
def ixV : List V → VH → Option (V × VH)
  | [.str a, .int .u8 c], S => some (.int .i64 (ixL a c), S)
  | _, _ => none
def etVV : V := .ifc 185 (.agg [.raw 16 30])
def isEtV : V → Bool
  | .ifc a (.agg [.raw b o]) => a == 185 && b == 16 && o == 30
  | _ => false
theorem isEtV_eq {v : V} (h : isEtV v = true) : v = etVV := by
  unfold isEtV at h
  split at h
  · simp only [Bool.and_eq_true, beq_iff_eq] at h
    obtain ⟨⟨rfl, rfl⟩, rfl⟩ := h
    rfl
  · cases h
def etOkV (S : VH) : Bool := match S.gl G_errors_errorType with
  | some (v :: _) => isEtV v
  | _ => false
def asV : List V → VH → Option (V × VH)
  | [.nilI, _], S => some (.bool false, S)
  | [.ifc t _, .ifc t' (.ptr (some _))], S => if t = Ty_perrors_errorString ∧ t' = Ty_pprun_end ∧ etOkV S = true then some (.bool false, S) else none
  | _, _ => none
def mapInV (S : VH) (p : Nat) : Option (List (List UInt8)) := match S.get p with
  | some (.cells (.map (some r) :: _) _) => match S.get r with
    | some (.map l) => if l.length ≤ 1000000 ∧ (l.all fun e => decide (e.1.length ≤ 1000000)) = true then some (l.map (·.1)) else none
    | _ => none
  | _ => none
def keysV : List V → VH → Option (V × VH)
  | [.fn f [.ptr (some (p, 0))]], S => if f = F_maps_Keys_map_string_string_string_string_1 then (mapInV S p).map fun l => (.lst 1 ((sortK l).map fun s => [.str s]), S) else none
  | _, _ => none
def vprims : List (Nat × (List V → VH → Option (V × VH))) := [(F_slices_Clone_string_string, cloneP true 1 16), (F_slices_Clone_api_Node_api_Node, cloneP true 5 48), (F_slices_Clone_api_File_api_File, cloneH 2 32), (F_internal_bytealg_CompareString, cmpV), (F_errors_As, asV), (F_slices_Sorted_string, keysV), (F_internal_stringslite_IndexByte, ixV)]
def VT : VTab := ⟨T.E, FlT, fun f => match vprims.find? fun p => p.1 == f with
  | some p => some (.prim p.2)
  | none => match T.fn f with | some (.code F) => some (.code F) | _ => none⟩
theorem cmpV_ok : PrimOk T F_internal_bytealg_CompareString cmpV := by
  intro vs rs S v S' hp φ G W H as' h hl
  unfold cmpV at hp
  split at hp
  · rename_i a b
    obtain ⟨rfl, rfl⟩ := Prod.mk.inj (Option.some.inj hp)
    obtain ⟨x, h1, h2⟩ := h.slots 0 (.str a) (by simp)
    obtain ⟨y, h3, h4⟩ := h.slots 1 (.str b) (by simp)
    simp only [VRel] at h2 h4
    subst h2; subst h4
    rw [get_frOf'] at h1 h3
    match as', hl, h1, h3 with
    | [p, q], _, h1, h3 =>
      simp at h1 h3; subst h1; subst h3
      exact ⟨.int .i64 (cmpL a b), H, φ, G, W, by rw [Call_prim T_internal_bytealg_CompareString]; rfl, h.only (by simp [VRel]), Frm.refl _ _ _ _⟩
  · cases hp
theorem ixV_ok : PrimOk T F_internal_stringslite_IndexByte ixV := by
  intro vs rs S v S' hp φ G W H as' h hl
  unfold ixV at hp
  split at hp
  · rename_i a c
    obtain ⟨rfl, rfl⟩ := Prod.mk.inj (Option.some.inj hp)
    obtain ⟨x, h1, h2⟩ := h.slots 0 (.str a) (by simp)
    obtain ⟨y, h3, h4⟩ := h.slots 1 (.int .u8 c) (by simp)
    simp only [VRel] at h2 h4
    subst h2; subst h4
    rw [get_frOf'] at h1 h3
    match as', hl, h1, h3 with
    | [p, q], _, h1, h3 =>
      simp at h1 h3; subst h1; subst h3
      exact ⟨.int .i64 (ixL a c), H, φ, G, W, by rw [Call_prim T_internal_stringslite_IndexByte]; rfl, h.only (by simp [VRel]), Frm.refl _ _ _ _⟩
  · cases hp
theorem asV_ok : PrimOk T F_errors_As asV := by
  intro vs rs S v S' hp φ G W H as' h hl
  unfold asV at hp
  split at hp
  · rename_i t
    obtain ⟨rfl, rfl⟩ := Prod.mk.inj (Option.some.inj hp)
    obtain ⟨x, h1, h2⟩ := h.slots 0 .nilI (by simp)
    obtain ⟨y, h3, h4⟩ := h.slots 1 t (by simp)
    simp only [VRel] at h2
    subst h2
    rw [get_frOf'] at h1 h3
    match as', hl, h1, h3 with
    | [p, q], _, h1, h3 =>
      simp at h1 h3; subst h1; subst h3
      exact ⟨.bool false, H, φ, G, W, by rw [Call_prim T_errors_As]; rfl, h.only (by simp [VRel]), Frm.refl _ _ _ _⟩
  · rename_i t v0 t' q
    split at hp
    · rename_i hc
      obtain ⟨rfl, rfl, het⟩ := hc
      obtain ⟨rfl, rfl⟩ := Prod.mk.inj (Option.some.inj hp)
      obtain ⟨x, h1, h2⟩ := h.slots 0 (.ifc Ty_perrors_errorString v0) (by simp)
      obtain ⟨i, o⟩ := q
      obtain ⟨y, h3, h4⟩ := h.slots 1 (.ifc Ty_pprun_end (.ptr (some (i, o)))) (by simp)
      simp only [VRel] at h2 h4
      obtain ⟨b, rfl, _⟩ := h2
      obtain ⟨_, rfl, r, _, rfl⟩ := h4
      have hH : etOk H = true := by
        unfold etOkV at het
        split at het
        · rename_i u l hg
          obtain rfl := isEtV_eq het
          obtain ⟨_, pre, cs, g1, g2, g3⟩ := h.gl _ _ hg
          obtain ⟨_, l', ro, g4, g5⟩ := h.fz _ _ g1
          simp only [VRels, etVV, VRel] at g3
          obtain ⟨a, r', rfl, ⟨b', rfl, cs', rfl, ⟨_, _, rfl, rfl, rfl⟩⟩, _⟩ := g3
          obtain ⟨t2, rfl⟩ := g2.trans g5
          unfold etOk
          rw [show H.get 4 = _ from g4]
          rfl
        · cases het
      rw [get_frOf'] at h1 h3
      match as', hl, h1, h3 with
      | [p, q], _, h1, h3 =>
        simp at h1 h3; subst h1; subst h3
        refine ⟨.bool false, H, φ, G, W, ?_, h.only (by simp [VRel]), Frm.refl _ _ _ _⟩
        rw [Call_prim T_errors_As]
        simp only [asP]
        rw [if_pos ⟨rfl, rfl, hH⟩]
    · cases hp
  · cases hp
theorem MapV.keysEq {φ : Bk} {G : Fz} {l : List (List UInt8 × V)} {l' : List (List UInt8 × AV)} (h : MapV φ G l l') : l'.map (·.1) = l.map (·.1) := by
  induction h with
  | nil => rfl
  | cons _ _ ih => simp [ih]
theorem rows_str {φ : Bk} {G : Fz} : ∀ {l : List (List UInt8)}, RowsRel φ G 1 (l.map fun s => [.str s]) (l.map .str)
  | [] => by simp [RowsRel]
  | s :: l => by
    simp only [List.map_cons, RowsRel, List.length_singleton, List.take_succ_cons, List.take_zero, List.drop_succ_cons, List.drop_zero, true_and]
    exact ⟨by simp [VRels, VRel], rows_str⟩
theorem keysV_ok : PrimOk T F_slices_Sorted_string keysV := by
  intro vs rs S v S' hp φ G W H as' h hl
  unfold keysV at hp
  split at hp
  · rename_i f p _
    split at hp
    · rename_i hf
      subst hf
      obtain ⟨ks, hk, he⟩ := Option.map_eq_some_iff.1 hp
      obtain ⟨rfl, rfl⟩ := Prod.mk.inj he
      unfold mapInV at hk
      split at hk
      · rename_i r rest own hgp
        split at hk
        · rename_i l hgr
          split at hk
          · rename_i hc
            obtain rfl := Option.some.inj hk
            obtain ⟨x, h1, h2⟩ := h.slots 0 _ (by simp; rfl)
            simp only [VRel, VRels] at h2
            obtain ⟨_, rfl, _, _, rfl, ⟨rp, hφp, rfl⟩, rfl⟩ := h2
            obtain ⟨_, rp', e1, _, _, cs, g1, g2⟩ := h.objs _ _ hgp
            rw [hφp] at e1; obtain rfl := Option.some.inj e1
            simp only [VRels, VRel] at g2
            obtain ⟨_, cs', rfl, ⟨rr, hφr, rfl⟩, _⟩ := g2
            obtain ⟨_, rr', e2, _, _, l', g3, g4⟩ := h.objs _ _ hgr
            rw [hφr] at e2; obtain rfl := Option.some.inj e2
            have hke := g4.keysEq
            have hll : l'.length = l.length := by have := congrArg List.length hke; simpa using this
            have hin : mapIn H rp = some l' := by
              unfold mapIn
              rw [g1]; dsimp only; rw [g3]; dsimp only
              rw [if_pos]
              refine ⟨by omega, List.all_eq_true.2 fun e he => ?_⟩
              have h5 : e.1 ∈ l.map (·.1) := by rw [← hke]; exact List.mem_map.2 ⟨e, he, rfl⟩
              obtain ⟨q, hq, hqe⟩ := List.mem_map.1 h5
              have := List.all_eq_true.1 hc.2 q hq
              rw [hqe] at this
              exact this
            rw [get_frOf'] at h1
            match as', hl, h1 with
            | [q], _, h1 =>
              simp at h1; subst h1
              rw [Call_prim T_slices_Sorted_string]
              have hr : ∀ H, mapIn H rp = some l' → keysP [.fn F_maps_Keys_map_string_string_string_string_1 [.ptr (some (rp, 0))]] H = some (if l' = [] then (.sl none 1 0 none, H) else (.sl (some (H.next, 0)) 1 l'.length none, H.push (.cells ((sortK (l'.map (·.1))).map .str) false))) := fun H hH => by
                simp only [keysP]
                rw [if_pos (show F_maps_Keys_map_string_string_string_string_1 = 96 from rfl), hH]; rfl
              rw [hr H hin, hke]
              by_cases h0 : l' = []
              · have hl0 : l = [] := List.length_eq_zero_iff.1 (by rw [← hll, h0]; rfl)
                rw [if_pos h0]
                exact ⟨_, H, φ, G, W, rfl, h.only (by rw [hl0]; simp [VRel, sortK]), Frm.refl _ _ _ _⟩
              · rw [if_neg h0]
                have hWn : ¬ W H.next := fun hw => by have := h.win _ hw; omega
                have hGn : ∀ q, H.next ≤ q → G q = none := fun q hq => by
                  cases e : G q with
                  | none => rfl
                  | some pre => have := (h.fz _ _ e).1; omega
                have h4 := h.frozen (H' := H.push (.cells ((sortK (l.map (·.1))).map .str) false)) (r := H.next) (pre := (sortK (l.map (·.1))).map .str) (l := (sortK (l.map (·.1))).map .str) (ro := false) hWn (by simp [AH.push]) (by simp [AH.push]) (fun p e => by rw [hGn _ (Nat.le_refl _)] at e; cases e) (fun q hq hne => ⟨by rw [Val.push_get', if_neg hne], fun _ => rfl⟩) (by rw [Val.push_get', if_pos rfl]) (List.prefix_refl _)
                refine ⟨_, _, φ, _, _, rfl, h4.only (by
                  simp only [VRel]
                  exact .inr ⟨H.next, 0, none, _, by simp [sortK, hll], by simp [Fz.put]; rfl, by simp [sortK], by rw [List.drop_zero]; exact rows_str⟩), ?_⟩
                exact ⟨by simp [AH.push], BkLe.refl _, Fz.put_le fun p e => (by rw [hGn _ (Nat.le_refl _)] at e; cases e), fun q hq _ => ⟨by rw [Val.push_get', if_neg (by omega)], rfl, by simp only [Fz.put]; rw [if_neg (by omega)]⟩, fun q hq => hq.imp id fun e => by omega⟩
          · cases hk
        · cases hk
      · cases hk
    · cases hp
  · cases hp
theorem vprims_ok : ∀ p ∈ vprims, PrimOk T p.1 p.2 := by
  unfold vprims
  simp only [List.forall_mem_cons]
  exact ⟨cloneP_ok (f := F_slices_Clone_string_string) rfl (by decide) (by decide), cloneP_ok (f := F_slices_Clone_api_Node_api_Node) rfl (by decide) (by decide), cloneH_ok (f := F_slices_Clone_api_File_api_File) rfl (by decide) (by decide), cmpV_ok, asV_ok, keysV_ok, ixV_ok, fun p hp => absurd hp (by simp)⟩
theorem vtOk : VTabOk VT T where
  env := rfl
  code := fun f F h => by
    simp only [VT] at h
    split at h
    · cases h
    · split at h
      · rename_i e; rw [e]; simpa using h
      · cases h
  prim := fun f p h => by
    simp only [VT] at h
    split at h
    · rename_i q e
      have h1 := vprims_ok q (List.mem_of_find?_eq_some e)
      have h2 := List.find?_some e
      obtain rfl : q.1 = f := by simpa using h2
      obtain rfl : q.2 = p := by simpa using h
      exact h1
    · split at h <;> cases h
@[simp] theorem lin_T {f : Nat} : VT.Fl.lin f = none := nd rfl
theorem v_Clone_string {l : List (List V)} {S : VH} (h : l.length < 1000000) : VCall VT F_slices_Clone_string_string [.lst 1 l] [] S = some (.lst 1 l, [], S) := by
  rw [VCall_prim (p := cloneP true 1 16) rfl]
  simp [cloneP]; omega
theorem v_Clone_Node {l : List (List V)} {S : VH} (h : l.length < 1000000) : VCall VT F_slices_Clone_api_Node_api_Node [.lst 5 l] [] S = some (.lst 5 l, [], S) := by
  rw [VCall_prim (p := cloneP true 5 48) rfl]
  simp [cloneP]; omega
theorem v_Clone_File {S : VH} : VCall VT F_slices_Clone_api_File_api_File [.lst 2 []] [] S = some (.lst 2 [], [], S) := by
  rw [VCall_prim (p := cloneH 2 32) rfl]; rfl
theorem v_IndexByte {a : List UInt8} {c : Int} {S : VH} : VCall VT F_internal_stringslite_IndexByte [.str a, .int .u8 c] [] S = some (.int .i64 (ixL a c), [], S) := by
  rw [VCall_prim (p := ixV) rfl]; rfl
theorem v_As_nil {t : V} {S : VH} : VCall VT F_errors_As [.nilI, t] [] S = some (.bool false, [], S) := by
  rw [VCall_prim (p := asV) rfl]; rfl
theorem v_As_miss {v : V} {q : Nat × Nat} {S : VH} (h : S.gl G_errors_errorType = some [etVV]) : VCall VT F_errors_As [.ifc Ty_perrors_errorString v, .ifc Ty_pprun_end (.ptr (some q))] [] S = some (.bool false, [], S) := by
  rw [VCall_prim (p := asV) rfl]
  have : etOkV S = true := by unfold etOkV; rw [h]; rfl
  simp [asV, this]
end Go.Proofs.YtbpgbhmibmcbnaaGreatDoor.Val

/-! Lists of strings. -/
set_option linter.unusedSimpArgs false
set_option linter.unusedVariables false
namespace Go.Proofs.YtbpgbhmibmcbnaaGreatDoor.Val
open Go Go.Proofs.YtbpgbhmibmcbnaaGreatDoor.Ram

abbrev Str := List UInt8
abbrev strRow (s : Str) : List V := [.str s]
abbrev strsV (l : List Str) : V := .lst 1 (l.map strRow)
@[simp] theorem clo_strs {n : Nat} {l : List Str} : V.closs n (l.map strRow) = true := closs_map fun _ => rfl

theorem i64_lt {n : Nat} (h : n < 9223372036854775808) : IntKind.i64.wrap (n : Int) = n := by
  have := Go.IntWalk.i64_in (n : Int) ⟨by omega, by omega⟩
  exact this
@[simp] theorem wrap_succ {j n : Nat} (h : j < n) (hn : n < 9223372036854775808) : IntKind.i64.wrap ((j : Int) + 1) = ((j + 1 : Nat) : Int) := by
  have := i64_lt (n := j + 1) (by omega)
  rw [← this]; congr 1

theorem next_at {α : Type} {a : List α} {j : Nat} (h : j < a.length) : ∃ x, a[j]? = some x ∧ a.drop j = x :: a.drop (j + 1) := ⟨a[j], by simp [h], List.drop_eq_getElem_cons h⟩
theorem v_SameTexts_loop {a b : List Str} {S : VH} (hl : a.length = b.length) (ha : a.length < 1000000) : ∀ (d j : Nat), j + d = a.length →
    (a.drop j = b.drop j ∧ loopX VT.E VT.Fl (VCall VT) c_patoisref_SameTexts_l0 ⟨[(0, strsV a), (1, strsV b), (5, .int .i64 j)], [], S⟩ = some (.exit 0, ⟨[(0, strsV a), (1, strsV b), (5, .int .i64 a.length), (15, .bool false)], [], S⟩)) ∨
    (a.drop j ≠ b.drop j ∧ ∃ f, loopX VT.E VT.Fl (VCall VT) c_patoisref_SameTexts_l0 ⟨[(0, strsV a), (1, strsV b), (5, .int .i64 j)], [], S⟩ = some (.ret, ⟨(4, .bool false) :: f, [], S⟩)) := by
  have hK : ∀ f w h, loopX VT.E VT.Fl (VCall VT) c_patoisref_SameTexts_l0 ⟨f, w, h⟩ = loopX VT.E VT.Fl (VCall VT) c_patoisref_SameTexts_l0 ⟨VFr.keep f [0, 1, 5], Rts.keep w.noCell [0, 1, 5], h⟩ := fun _ _ _ => loopX_keep
  intro d
  induction d with
  | zero =>
    intro j hj
    obtain rfl : j = a.length := by omega
    left
    rw [loopX_eq]
    simp -implicitDefEqProofs [c_patoisref_SameTexts_l0, binA, hl]
  | succ d ih =>
    intro j hj
    have h1 : j < a.length := by omega
    have h2 : j < b.length := by omega
    have hlt : (j : Int) < (a.length : Int) := by omega
    obtain ⟨x, hx, dx⟩ := next_at h1
    obtain ⟨y, hy, dy⟩ := next_at h2
    rw [loopX_eq, dx, dy]
    have := ih (j + 1) (by omega)
    push_cast at this
    generalize loopX VT.E VT.Fl (VCall VT) c_patoisref_SameTexts_l0 = L at *
    by_cases e : x = y
    · simp -implicitDefEqProofs [c_patoisref_SameTexts_l0, binA, hlt, hx, hy, e, wrap_succ h1 (by omega)]
      rw [hK]
      simpa using this
    · simp -implicitDefEqProofs [c_patoisref_SameTexts_l0, binA, hlt, hx, hy, e]
theorem v_SameTexts {a b : List Str} {S : VH} (ha : a.length < 1000000) : VCall VT F_patoisref_SameTexts [strsV a, strsV b] [] S = some (.bool (decide (a = b)), [], S) := by
  rw [VCall_of (F := a_patoisref_SameTexts) rfl rfl rfl rfl]
  by_cases hl : a.length = b.length
  · have := v_SameTexts_loop (S := S) hl ha a.length 0 (by omega)
    push_cast at this
    rcases this with ⟨e, this⟩ | ⟨e, f, this⟩
    · simp -implicitDefEqProofs [a_patoisref_SameTexts, c_patoisref_SameTexts, binA, hl, this]
      simpa using e
    · simp -implicitDefEqProofs [a_patoisref_SameTexts, c_patoisref_SameTexts, binA, hl, this]
      simpa using e
  · have e : a ≠ b := fun h => hl (by rw [h])
    have hl' : ¬ ((a.length : Int) = (b.length : Int)) := by omega
    simp -implicitDefEqProofs [a_patoisref_SameTexts, c_patoisref_SameTexts, binA, e, hl']

end Go.Proofs.YtbpgbhmibmcbnaaGreatDoor.Val

/-! Small walks of the kernel: lists of strings. -/
set_option linter.unusedSimpArgs false
set_option linter.unusedVariables false
namespace Go.Proofs.YtbpgbhmibmcbnaaGreatDoor.Val
open Go Go.Proofs.YtbpgbhmibmcbnaaGreatDoor.Ram

theorem v_May_1 {s : Str} {S : VH} : VCall VT F_world_May_1 [.str s] [] S = some (.bool (decide (2000 < s.length)), [], S) := by
  rw [VCall_of (F := a_world_May_1) rfl rfl rfl rfl]
  simp -implicitDefEqProofs [a_world_May_1, c_world_May_1, binA]
  omega

theorem v_Index_loop {g : Nat} {p : Str → Bool} {S : VH} (hg : ∀ s, VCall VT g [.str s] [] S = some (.bool (p s), [], S)) {a : List Str} (ha : a.length < 1000000) : ∀ (d j : Nat), j + d = a.length →
    ((a.drop j).any p = false ∧ loopX VT.E VT.Fl (VCall VT) c_slices_IndexFunc_string_string_l0 ⟨[(0, strsV a), (1, .fn g []), (7, .int .i64 a.length), (8, .int .i64 j)], [], S⟩ = some (.exit 0, ⟨[(0, strsV a), (1, .fn g []), (7, .int .i64 a.length), (8, .int .i64 a.length), (9, .bool false)], [], S⟩)) ∨
    ((a.drop j).any p = true ∧ ∃ (i : Nat) (f : VFr), loopX VT.E VT.Fl (VCall VT) c_slices_IndexFunc_string_string_l0 ⟨[(0, strsV a), (1, .fn g []), (7, .int .i64 a.length), (8, .int .i64 j)], [], S⟩ = some (.ret, ⟨(4, .int .i64 i) :: f, [], S⟩)) := by
  have hK : ∀ f w h, loopX VT.E VT.Fl (VCall VT) c_slices_IndexFunc_string_string_l0 ⟨f, w, h⟩ = loopX VT.E VT.Fl (VCall VT) c_slices_IndexFunc_string_string_l0 ⟨VFr.keep f [0, 1, 7, 8], Rts.keep w.noCell [0, 1, 7, 8], h⟩ := fun _ _ _ => loopX_keep
  intro d
  induction d with
  | zero =>
    intro j hj
    obtain rfl : j = a.length := by omega
    left
    rw [loopX_eq]
    simp -implicitDefEqProofs [c_slices_IndexFunc_string_string_l0, binA]
  | succ d ih =>
    intro j hj
    have h1 : j < a.length := by omega
    have hlt : (j : Int) < (a.length : Int) := by omega
    obtain ⟨x, hx, dx⟩ := next_at h1
    rw [loopX_eq, dx]
    have := ih (j + 1) (by omega)
    push_cast at this
    generalize loopX VT.E VT.Fl (VCall VT) c_slices_IndexFunc_string_string_l0 = L at *
    by_cases e : p x = true
    · right
      simp -implicitDefEqProofs [c_slices_IndexFunc_string_string_l0, binA, hlt, hx, hg, e]
      exact ⟨j, rfl⟩
    · simp only [Bool.not_eq_true] at e
      simp -implicitDefEqProofs [c_slices_IndexFunc_string_string_l0, binA, hlt, hx, hg, e, wrap_succ h1 (by omega)]
      rw [hK]
      simpa using this
theorem v_Contains {g : Nat} {p : Str → Bool} {S : VH} (hg : ∀ s, VCall VT g [.str s] [] S = some (.bool (p s), [], S)) {a : List Str} (ha : a.length < 1000000) :
    VCall VT F_slices_ContainsFunc_string_string [strsV a, .fn g []] [] S = some (.bool (a.any p), [], S) := by
  rw [VCall_of (F := a_slices_ContainsFunc_string_string) rfl rfl rfl rfl]
  have key : ∃ i : Int, decide (0 ≤ i) = a.any p ∧ VCall VT F_slices_IndexFunc_string_string [strsV a, .fn g []] [] S = some (.int .i64 i, [], S) := by
    rw [VCall_of (F := a_slices_IndexFunc_string_string) rfl rfl rfl rfl]
    have := v_Index_loop hg ha a.length 0 (by omega)
    push_cast at this
    rw [List.drop_zero] at this
    rcases this with ⟨e, this⟩ | ⟨e, i, f, this⟩
    · refine ⟨-1, by rw [e]; rfl, ?_⟩
      simp -implicitDefEqProofs [a_slices_IndexFunc_string_string, c_slices_IndexFunc_string_string, binA, this]
    · refine ⟨i, by rw [e]; simp, ?_⟩
      simp -implicitDefEqProofs [a_slices_IndexFunc_string_string, c_slices_IndexFunc_string_string, binA, this]
  obtain ⟨i, hi, key⟩ := key
  simp -implicitDefEqProofs [a_slices_ContainsFunc_string_string, c_slices_ContainsFunc_string_string, binA, key]
  rw [← hi]

theorem v_Equal_loop {a b : List Str} {S : VH} (hl : a.length = b.length) (ha : a.length < 1000000) : ∀ (d j : Nat), j + d = a.length →
    (a.drop j = b.drop j ∧ loopX VT.E VT.Fl (VCall VT) c_slices_Equal_string_string_l0 ⟨[(0, strsV a), (1, strsV b), (12, .int .i64 a.length), (13, .int .i64 j)], [], S⟩ = some (.exit 0, ⟨[(0, strsV a), (1, strsV b), (12, .int .i64 a.length), (13, .int .i64 a.length), (14, .bool false)], [], S⟩)) ∨
    (a.drop j ≠ b.drop j ∧ ∃ f, loopX VT.E VT.Fl (VCall VT) c_slices_Equal_string_string_l0 ⟨[(0, strsV a), (1, strsV b), (12, .int .i64 a.length), (13, .int .i64 j)], [], S⟩ = some (.ret, ⟨(4, .bool false) :: f, [], S⟩)) := by
  have hK : ∀ f w h, loopX VT.E VT.Fl (VCall VT) c_slices_Equal_string_string_l0 ⟨f, w, h⟩ = loopX VT.E VT.Fl (VCall VT) c_slices_Equal_string_string_l0 ⟨VFr.keep f [0, 1, 12, 13], Rts.keep w.noCell [0, 1, 12, 13], h⟩ := fun _ _ _ => loopX_keep
  intro d
  induction d with
  | zero =>
    intro j hj
    obtain rfl : j = a.length := by omega
    left
    rw [loopX_eq]
    simp -implicitDefEqProofs [c_slices_Equal_string_string_l0, binA, hl]
  | succ d ih =>
    intro j hj
    have h1 : j < a.length := by omega
    have h2 : j < b.length := by omega
    have hlt : (j : Int) < (a.length : Int) := by omega
    obtain ⟨x, hx, dx⟩ := next_at h1
    obtain ⟨y, hy, dy⟩ := next_at h2
    rw [loopX_eq, dx, dy]
    have := ih (j + 1) (by omega)
    push_cast at this
    generalize loopX VT.E VT.Fl (VCall VT) c_slices_Equal_string_string_l0 = L at *
    by_cases e : x = y
    · simp -implicitDefEqProofs [c_slices_Equal_string_string_l0, binA, hlt, hx, hy, e, wrap_succ h1 (by omega)]
      rw [hK]
      simpa using this
    · simp -implicitDefEqProofs [c_slices_Equal_string_string_l0, binA, hlt, hx, hy, e]
theorem v_Equal {a b : List Str} {S : VH} (ha : a.length < 1000000) : VCall VT F_slices_Equal_string_string [strsV a, strsV b] [] S = some (.bool (decide (a = b)), [], S) := by
  rw [VCall_of (F := a_slices_Equal_string_string) rfl rfl rfl rfl]
  by_cases hl : a.length = b.length
  · have := v_Equal_loop (S := S) hl ha a.length 0 (by omega)
    push_cast at this
    rcases this with ⟨e, this⟩ | ⟨e, f, this⟩
    · simp -implicitDefEqProofs [a_slices_Equal_string_string, c_slices_Equal_string_string, binA, hl] at this ⊢
      simp -implicitDefEqProofs [this]
      simpa using e
    · simp -implicitDefEqProofs [a_slices_Equal_string_string, c_slices_Equal_string_string, binA, hl] at this ⊢
      simp -implicitDefEqProofs [this]
      simpa using e
  · have e : a ≠ b := fun h => hl (by rw [h])
    have hl' : ¬ ((a.length : Int) = (b.length : Int)) := by omega
    simp -implicitDefEqProofs [a_slices_Equal_string_string, c_slices_Equal_string_string, binA, e, hl']

structure Row where
  name : Str
  args : List Str
  any : Bool
  reads : Bool
  copy : Bool
  out : Str
  status : Int
abbrev encRow (r : Row) : List V := [.str r.name, strsV r.args, .bool r.any, .bool r.reads, .bool r.copy, .str r.out, .int .i64 r.status]
abbrev rowsV (l : List Row) : V := .lst 7 (l.map encRow)
@[simp] theorem clo_rows {n : Nat} {l : List Row} : V.closs n (l.map encRow) = true := closs_map fun _ => by simp
structure Event where
  kind : Int
  n : Int
  a : Str
  b : Str
  l : List Str
  deriving DecidableEq
abbrev encEv (e : Event) : List V := [.int .i64 e.kind, .int .i64 e.n, .str e.a, .str e.b, strsV e.l]
abbrev evsV' (l : List Event) : V := .lst 5 (l.map encEv)
@[simp] theorem clo_evs {n : Nat} {l : List Event} : V.closs n (l.map encEv) = true := closs_map fun _ => by simp
end Go.Proofs.YtbpgbhmibmcbnaaGreatDoor.Val

/-! May the kernel have these rows? -/
set_option linter.unusedSimpArgs false
set_option linter.unusedVariables false
namespace Go.Proofs.YtbpgbhmibmcbnaaGreatDoor.Val
open Go Go.Proofs.YtbpgbhmibmcbnaaGreatDoor.Ram

def Row.ok (r : Row) : Prop := r.name ≠ [] ∧ r.name.length ≤ 2000 ∧ r.args.length ≤ 100 ∧ (∀ a ∈ r.args, a.length ≤ 2000) ∧ r.out.length ≤ 2000 ∧ 0 ≤ r.status ∧ r.status ≤ 255

theorem v_May_loop0 {a : List Row} {b : V} {S : VH} (hb : V.clo S.next b = true) (ha : a.length < 1000000) (hok : ∀ r ∈ a, r.ok) : ∀ (d j : Nat), j + d = a.length →
    loopX VT.E VT.Fl (VCall VT) c_world_May_l0 ⟨[(1, b), (23, rowsV a), (24, .int .i64 a.length), (25, .int .i64 j)], [], S⟩ = some (.exit 0, ⟨[(1, b), (23, rowsV a), (24, .int .i64 a.length), (25, .int .i64 a.length), (26, .bool false)], [], S⟩) := by
  have hK : ∀ f w h, loopX VT.E VT.Fl (VCall VT) c_world_May_l0 ⟨f, w, h⟩ = loopX VT.E VT.Fl (VCall VT) c_world_May_l0 ⟨VFr.keep f [1, 23, 24, 25], Rts.keep w.noCell [1, 23, 24, 25], h⟩ := fun _ _ _ => loopX_keep
  intro d
  induction d with
  | zero =>
    intro j hj
    obtain rfl : j = a.length := by omega
    rw [loopX_eq]
    simp -implicitDefEqProofs [c_world_May_l0, binA]
  | succ d ih =>
    intro j hj
    have h1 : j < a.length := by omega
    have hlt : (j : Int) < (a.length : Int) := by omega
    obtain ⟨x, hx, dx⟩ := next_at h1
    have hxo := hok x (List.mem_of_getElem? hx)
    have e2 : ¬ (100 : Int) < (x.args.length : Int) := by have := hxo.2.2.1; omega
    rw [loopX_eq]
    have := ih (j + 1) (by omega)
    push_cast at this
    generalize loopX VT.E VT.Fl (VCall VT) c_world_May_l0 = L at *
    simp -implicitDefEqProofs [c_world_May_l0, binA, hlt, hx, hb, e2, wrap_succ h1 (by omega)]
    rw [hK]
    simpa using this
theorem v_May_loop2 {a : List Row} {S : VH} (ha : a.length < 1000000) (hok : ∀ r ∈ a, r.ok) : ∀ (d j : Nat), j + d = a.length →
    loopX VT.E VT.Fl (VCall VT) c_world_May_l2 ⟨[(71, rowsV a), (72, .int .i64 a.length), (73, .int .i64 j)], [], S⟩ = some (.exit 5, ⟨[(71, rowsV a), (72, .int .i64 a.length), (73, .int .i64 a.length), (74, .bool false)], [], S⟩) := by
  have hK : ∀ f w h, loopX VT.E VT.Fl (VCall VT) c_world_May_l2 ⟨f, w, h⟩ = loopX VT.E VT.Fl (VCall VT) c_world_May_l2 ⟨VFr.keep f [71, 72, 73], Rts.keep w.noCell [71, 72, 73], h⟩ := fun _ _ _ => loopX_keep
  intro d
  induction d with
  | zero =>
    intro j hj
    obtain rfl : j = a.length := by omega
    rw [loopX_eq]
    simp -implicitDefEqProofs [c_world_May_l2, binA]
  | succ d ih =>
    intro j hj
    have h1 : j < a.length := by omega
    have hlt : (j : Int) < (a.length : Int) := by omega
    obtain ⟨x, hx, dx⟩ := next_at h1
    obtain ⟨o1, o2, o3, o4, o5, o6, o7⟩ := hok x (List.mem_of_getElem? hx)
    have e2 : ¬ (2000 : Int) < (x.name.length : Int) := by omega
    have e3 : ¬ (2000 : Int) < (x.out.length : Int) := by omega
    have e4 : ¬ x.status < 0 := by omega
    have e5 : ¬ (255 : Int) < x.status := by omega
    have e6 : (x.args.any fun s => decide (2000 < s.length)) = false := by
      rw [List.any_eq_false]; intro s hs; simpa using o4 s hs
    have hC := fun (S : VH) => v_Contains (g := F_world_May_1) (S := S) (p := fun s => decide (2000 < s.length)) (fun s => v_May_1) (a := x.args) (by omega)
    rw [loopX_eq]
    have := ih (j + 1) (by omega)
    push_cast at this
    generalize loopX VT.E VT.Fl (VCall VT) c_world_May_l2 = L at *
    simp -implicitDefEqProofs [c_world_May_l2, binA, hlt, hx, hC, e6, o1, e2, e3, e4, e5, wrap_succ h1 (by omega)]
    rw [hK]
    simpa using this
end Go.Proofs.YtbpgbhmibmcbnaaGreatDoor.Val

/-! A world of rows only; the kernel's row. -/
set_option linter.unusedSimpArgs false
set_option linter.unusedVariables false
namespace Go.Proofs.YtbpgbhmibmcbnaaGreatDoor.Val
open Go Go.Proofs.YtbpgbhmibmcbnaaGreatDoor.Ram

theorem v_May_loop1 {b : V} {i : Nat} {S : VH} : loopX VT.E VT.Fl (VCall VT) c_world_May_l1 ⟨[(1, b), (5, .map (some i)), (37, .lst 2 []), (38, .int .i64 0), (39, .int .i64 0)], [], S⟩ = some (.exit 2, ⟨[(1, b), (5, .map (some i)), (37, .lst 2 []), (38, .int .i64 0), (39, .int .i64 0), (40, .bool false)], [], S⟩) := by
  rw [loopX_eq]
  simp -implicitDefEqProofs [c_world_May_l1, binA]
theorem v_May_rows {a : List Row} {S : VH} (ha : a.length ≤ 50) (hok : ∀ r ∈ a, r.ok) : VCall VT F_world_May [.agg [.lst 2 [], rowsV a]] [] S = some (.nilI, [], S) := by
  rw [VCall_of (F := a_world_May) rfl rfl rfl rfl]
  have e1 : ¬ (50 : Int) < (a.length : Int) := by omega
  have h0 := fun (S : VH) (b : V) (hb : V.clo S.next b = true) => v_May_loop0 (S := S) hb (by omega) hok a.length 0 (by omega)
  have h2 := fun (S : VH) => v_May_loop2 (S := S) (by omega) hok a.length 0 (by omega)
  push_cast at h0 h2
  simp -implicitDefEqProofs [a_world_May, c_world_May, binA, e1, h0, v_May_loop1, h2]

def Row.fits (r : Row) (n : Str) (l : List Str) : Bool := decide (r.name = n) && (r.any || decide (r.args = l))
def noRow : Row := ⟨[], [], false, false, false, [], 127⟩
def findRow (a : List Row) (n : Str) (l : List Str) : Row × Bool := match a.find? (·.fits n l) with
  | some r => (r, true)
  | none => (noRow, false)
theorem v_row_loop {a : List Row} {n : Str} {l : List Str} {S : VH} {k : Nat} (hk : k < S.next) (hg : S.get k = some (.cells [.str [], .lst 1 [], .bool false, .bool false, .bool false, .str [], .int .i64 0] [1])) (hl : l.length < 1000000) (ha : a.length < 1000000) (hok : ∀ r ∈ a, r.args.length < 1000000) : ∀ (d j : Nat), j + d = a.length →
    ((a.drop j).find? (·.fits n l) = none ∧ loopX VT.E VT.Fl (VCall VT) c_world_Kernel_row_l0 ⟨[(1, .str n), (2, strsV l), (6, .ptr (some (k, 0))), (13, rowsV a), (14, .int .i64 a.length), (15, .int .i64 j)], [], S⟩ = some (.exit 0, ⟨[(1, .str n), (2, strsV l), (6, .ptr (some (k, 0))), (13, rowsV a), (14, .int .i64 a.length), (15, .int .i64 a.length), (16, .bool false)], [], S⟩)) ∨
    (∃ r, (a.drop j).find? (·.fits n l) = some r ∧ ∃ (o : VObj) (f : VFr), loopX VT.E VT.Fl (VCall VT) c_world_Kernel_row_l0 ⟨[(1, .str n), (2, strsV l), (6, .ptr (some (k, 0))), (13, rowsV a), (14, .int .i64 a.length), (15, .int .i64 j)], [], S⟩ = some (.ret, ⟨(7, .bool true) :: f, [], (S.push o).set k (.cells (encRow r) [])⟩) ∧ VFr.get f 6 = some (.ptr (some (k, 0)))) := by
  have hK : ∀ f w h, loopX VT.E VT.Fl (VCall VT) c_world_Kernel_row_l0 ⟨f, w, h⟩ = loopX VT.E VT.Fl (VCall VT) c_world_Kernel_row_l0 ⟨VFr.keep f [1, 2, 6, 13, 14, 15], Rts.keep w.noCell [1, 2, 6, 13, 14, 15], h⟩ := fun _ _ _ => loopX_keep
  intro d
  induction d with
  | zero =>
    intro j hj
    obtain rfl : j = a.length := by omega
    left
    rw [loopX_eq]
    simp -implicitDefEqProofs [c_world_Kernel_row_l0, binA]
  | succ d ih =>
    intro j hj
    have h1 : j < a.length := by omega
    have hlt : (j : Int) < (a.length : Int) := by omega
    obtain ⟨x, hx, dx⟩ := next_at h1
    have hxo := hok x (List.mem_of_getElem? hx)
    have hE := fun (S : VH) => v_Equal (S := S) (a := x.args) (b := l) hxo
    have hkn : k ≠ S.next := by omega
    rw [loopX_eq, dx]
    have := ih (j + 1) (by omega)
    push_cast at this
    generalize loopX VT.E VT.Fl (VCall VT) c_world_Kernel_row_l0 = L at *
    have hf : (x :: a.drop (j + 1)).find? (fun r : Row => r.fits n l) = match x.fits n l with | true => some x | false => (a.drop (j + 1)).find? (fun r : Row => r.fits n l) := List.find?_cons
    by_cases e : x.name = n
    · cases ea : x.any with
      | true =>
        rw [hf, show x.fits n l = true by simp [Row.fits, e, ea]]
        right
        refine ⟨x, rfl, .cells (encRow x) [], ?_⟩
        simp -implicitDefEqProofs [c_world_Kernel_row_l0, binA, hlt, hx, e, ea, hk, hkn, hg, encRow]
        first | done | exact ⟨_, rfl, rfl⟩ | exact ⟨_, ⟨rfl, rfl⟩, rfl⟩
      | false =>
        by_cases e2 : x.args = l
        · rw [hf, show x.fits n l = true by simp [Row.fits, e, e2]]
          right
          refine ⟨x, rfl, .cells (encRow x) [], ?_⟩
          simp -implicitDefEqProofs [c_world_Kernel_row_l0, binA, hlt, hx, e, ea, (fun S => (hE S).trans (by rw [decide_eq_true e2]) : ∀ S, VCall VT F_slices_Equal_string_string [strsV x.args, strsV l] [] S = some (.bool true, [], S)), hk, hkn, hg, encRow]
          first | done | exact ⟨_, rfl, rfl⟩ | exact ⟨_, ⟨rfl, rfl⟩, rfl⟩
        · rw [hf, show x.fits n l = false by simp [Row.fits, e, e2, ea]]
          simp -implicitDefEqProofs [c_world_Kernel_row_l0, binA, hlt, hx, e, ea, e2, hE, hk, hkn, hg, wrap_succ h1 (by omega)]
          rw [hK]
          simpa using this
    · rw [hf, show x.fits n l = false by simp [Row.fits, e]]
      simp -implicitDefEqProofs [c_world_Kernel_row_l0, binA, hlt, hx, e, hE, hk, hkn, hg, wrap_succ h1 (by omega)]
      rw [hK]
      simpa using this
structure Kern where
  trace : List Event
  files : V
  rows : List Row
abbrev encK (K : Kern) : List V := [evsV' K.trace, K.files, rowsV K.rows]
def IsK (S : VH) (i : Nat) (K : Kern) : Prop := i < S.next ∧ ∃ own, S.get i = some (.cells (encK K) own) ∧ 0 ∈ own ∧ V.clo S.next K.files = true
theorem v_row {K : Kern} {n : Str} {l : List Str} {S : VH} {i : Nat} (hi : IsK S i K) (hl : l.length < 1000000) (ha : K.rows.length < 1000000) (hok : ∀ r ∈ K.rows, r.args.length < 1000000) :
    VCall VT F_world_Kernel_row [.ptr (some (i, 0)), .str n, strsV l] [] S = some (.tup [.agg (encRow (findRow K.rows n l).1), .bool (findRow K.rows n l).2], [], S) := by
  rw [VCall_of (F := a_world_Kernel_row) rfl rfl rfl rfl]
  obtain ⟨h1, own, h2, _⟩ := hi
  have h3 : i ≠ S.next := by omega
  have key := fun (S : VH) (k : Nat) hk hg => v_row_loop (S := S) (k := k) (n := n) hk hg hl ha hok K.rows.length 0 (by omega)
  have := key (S.push (.cells [.str [], .lst 1 [], .bool false, .bool false, .bool false, .str [], .int .i64 0] [1])) S.next (by simp) (by simp)
  push_cast at this
  rw [List.drop_zero] at this
  unfold findRow
  rcases this with ⟨e, this⟩ | ⟨r, e, o, f, this, hf⟩
  · by_cases ho : 2 ∈ own <;> simp -implicitDefEqProofs [a_world_Kernel_row, c_world_Kernel_row, binA, h1, h2, h3, ho, this, e, noRow]
  · by_cases ho : 2 ∈ own <;> simp -implicitDefEqProofs [a_world_Kernel_row, c_world_Kernel_row, binA, h1, h2, h3, ho, this, e, hf]
end Go.Proofs.YtbpgbhmibmcbnaaGreatDoor.Val

/-! The kernel's Reads, note, Exec, copied, Trace. -/
set_option linter.unusedSimpArgs false
set_option linter.unusedVariables false
namespace Go.Proofs.YtbpgbhmibmcbnaaGreatDoor.Val
open Go Go.Proofs.YtbpgbhmibmcbnaaGreatDoor.Ram

theorem v_Reads {K : Kern} {n : Str} {l : List Str} {S : VH} {i : Nat} (hi : IsK S i K) (hl : l.length < 1000000) (ha : K.rows.length < 1000000) (hok : ∀ r ∈ K.rows, r.args.length < 1000000) :
    VCall VT F_world_Kernel_Reads [.ptr (some (i, 0)), .str n, strsV l] [] S = some (.bool (findRow K.rows n l).1.reads, [], S) := by
  rw [VCall_of (F := a_world_Kernel_Reads) rfl rfl rfl rfl]
  have hr := v_row (n := n) hi hl ha hok
  have hn : (findRow K.rows n l).2 = false → (findRow K.rows n l).1.reads = false := by
    unfold findRow; split <;> simp [noRow]
  generalize findRow K.rows n l = q at *
  obtain ⟨r, b⟩ := q
  cases b
  · simp only at hn
    simp -implicitDefEqProofs [a_world_Kernel_Reads, c_world_Kernel_Reads, hr, hn]
  · simp -implicitDefEqProofs [a_world_Kernel_Reads, c_world_Kernel_Reads, hr, hn]

def ownN (own : List Nat) : List Nat := 0 :: keepO (own.filter (· != 0)) 0 1
@[simp] theorem mem_ownN {own : List Nat} : 0 ∈ ownN own := List.mem_cons_self
theorem v_note {K : Kern} {k n : Int} {a b : Str} {l : List Str} {S : VH} {i : Nat} {own : List Nat} (ht : K.trace.length < 1000000) (h1 : i < S.next) (h2 : S.get i = some (.cells (encK K) own)) (h4 : 0 ∈ own) (h5 : V.clo S.next K.files = true) :
    VCall VT F_world_asked_note [.ptr (some (i, 0)), .agg [.int .i64 k, .int .i64 n, .str a, .str b, strsV l]] [] S = some (.tup [], [], S.set i (.cells (encK { K with trace := K.trace ++ [⟨k, n, a, b, l⟩] }) (ownN own))) := by
  have h3 : i ≠ S.next := by omega
  have e2 : (K.trace.length + 1) * 72 ≤ 140737488355328 := by omega
  rw [VCall_of (F := a_world_asked_note) rfl rfl rfl rfl]
  simp -implicitDefEqProofs [a_world_asked_note, c_world_asked_note, h1, h2, h3, h4, h5, e2, trim_in h1]
  simp [encK, ownN, encEv, evsV']
theorem v_Exec {K : Kern} {n inp : Str} {l : List Str} {S : VH} {i : Nat} {own : List Nat} (ht : K.trace.length < 1000000) (h1 : i < S.next) (h2 : S.get i = some (.cells (encK K) own)) (h4 : 0 ∈ own) (h5 : ∀ m, S.next ≤ m → V.clo m K.files = true) (hl : l.length < 1000000) (ha : K.rows.length < 1000000) (hok : ∀ r ∈ K.rows, r.args.length < 1000000) (hin : (inp.length : Int) < 1000000000) (hout : ((findRow K.rows n l).1.out.length : Int) < 1000000000) :
    VCall VT F_world_Kernel_Exec [.ptr (some (i, 0)), .str n, .str inp, strsV l] [] S = some (.tup [.str ((findRow K.rows n l).1.out ++ if (findRow K.rows n l).1.copy then inp else []), .int .i64 (findRow K.rows n l).1.status, .bool (findRow K.rows n l).2], [],
      S.set i (.cells (encK { K with trace := K.trace ++ [⟨1, (findRow K.rows n l).1.status, n, if (findRow K.rows n l).1.reads then inp else [], l⟩] }) (ownN own))) := by
  have h3 : i ≠ S.next := by omega
  have h3' : i ≠ S.next + 1 := by omega
  have h1' : i < S.next + 1 := by omega
  have h1'' : i < S.next + 1 + 1 := by omega
  have hr := v_row (n := n) ⟨h1, own, h2, h4, h5 _ (Nat.le_refl _)⟩ hl ha hok
  have hC := fun (S : VH) => v_Clone_string (l := l.map strRow) (S := S) (by simpa using hl)
  have hN := fun (k n' : Int) (a b : Str) (l : List Str) (S : VH) => v_note (K := K) (k := k) (n := n') (a := a) (b := b) (l := l) (S := S) (i := i) (own := own) ht
  have h5' := h5 _ (Nat.le_refl _)
  have h5a := h5 (S.next + 1 + 1) (by omega)
  have h5b := h5 (S.next + 2) (by omega)
  have h1a : i < S.next + 2 := by omega
  have h3s : ¬ S.next = i := by omega
  generalize findRow K.rows n l = q at *
  obtain ⟨⟨rn, ra, ry, rr, rc, ro, rs⟩, b⟩ := q
  rw [VCall_of (F := a_world_Kernel_Exec) rfl rfl rfl rfl]
  simp only at hr hout
  have hmx : (ro.length : Int) + (inp.length : Int) ≤ 9223372036854775807 := by omega
  cases rr <;> cases rc <;> simp -implicitDefEqProofs [a_world_Kernel_Exec, c_world_Kernel_Exec, binA, h1, h1', h1'', h1a, h2, h3, h3', h3s, hmx, h4, h5', h5a, h5b, hr, hC, hN, encRow, trim_in h1]
def evC (l : List Event) : List V := (l.map encEv).flatten
@[simp] theorem evC_nil : evC [] = [] := rfl
theorem evC_snoc {l : List Event} {e : Event} : evC l ++ encEv e = evC (l ++ [e]) := by simp [evC]
@[simp] theorem evC_len {l : List Event} : (evC l).length = l.length * 5 := by
  induction l with
  | nil => rfl
  | cons e l ih => simp only [evC, List.map_cons, List.flatten_cons, List.length_append, List.length_cons, List.length_nil] at ih ⊢; rw [ih]; omega
@[simp] theorem clos_evC {n : Nat} {l : List Event} : V.clos n (evC l) = true := by
  induction l with
  | nil => rfl
  | cons e l ih => simp only [evC, List.map_cons, List.flatten_cons, clos_app] at ih ⊢; rw [ih]; simp
theorem rowsOf_ev : ∀ {l : List Event} {cs : List V}, rowsOf 5 l.length (evC l ++ cs) = l.map encEv
  | [], _ => rfl
  | e :: l, cs => by
    have := rowsOf_ev (l := l) (cs := cs)
    simp only [evC, List.map_cons, List.flatten_cons, List.length_cons, rowsOf_s, List.append_assoc] at this ⊢
    rw [List.take_append_of_le_length (by simp), List.drop_append_of_le_length (by simp)]
    simp [this]
def Fresh (S S' : VH) : Prop := S.next ≤ S'.next ∧ ∀ q, q < S.next → S'.get q = S.get q
theorem Fresh.clo {S S' : VH} (h : Fresh S S') : cloH S S' := fun q hq => .inl (h.2 q hq)
theorem Fresh.trim {S S' : VH} (h : Fresh S S') : VH.trim S S' = S := by
  unfold VH.trim
  congr 1
  funext q
  split
  · rename_i e; exact h.2 q e
  · rfl
def EvAt (S0 S : VH) (out : V) (l : List Event) : Prop := Fresh S0 S ∧ ((l = [] ∧ out = .sl none 5 0 none) ∨ (l ≠ [] ∧ ∃ i, S0.next ≤ i ∧ i < S.next ∧ out = .sl (some (i, 0)) 5 l.length none ∧ S.get i = some (.cells (evC l) [])))
theorem v_copied_loop {a : List Event} {S0 : VH} (ha : a.length < 1000000) (hok : ∀ e ∈ a, e.l.length < 1000000) : ∀ (d j : Nat) (out : V) (w : Rts) (S : VH), j + d = a.length → EvAt S0 S out (a.take j) → (w = [] ∨ w = [(3, .own)]) →
    ∃ out' w' S', EvAt S0 S' out' a ∧ loopX VT.E VT.Fl (VCall VT) c_world_copied_l0 ⟨[(3, out), (6, evsV' a), (7, .int .i64 a.length), (8, .int .i64 j)], w, S⟩ =
      some (.exit 0, ⟨[(3, out'), (6, evsV' a), (7, .int .i64 a.length), (8, .int .i64 a.length), (9, .bool false)], w', S'⟩) := by
  have hK : ∀ f w h, loopX VT.E VT.Fl (VCall VT) c_world_copied_l0 ⟨f, w, h⟩ = loopX VT.E VT.Fl (VCall VT) c_world_copied_l0 ⟨VFr.keep f [3, 6, 7, 8], Rts.keep w.noCell [3, 6, 7, 8], h⟩ := fun _ _ _ => loopX_keep
  intro d
  induction d with
  | zero =>
    intro j out w S hj ho hw
    obtain rfl : j = a.length := by omega
    rw [List.take_length] at ho
    refine ⟨out, w, S, ho, ?_⟩
    rw [loopX_eq]
    rcases hw with rfl | rfl <;> simp -implicitDefEqProofs [c_world_copied_l0, binA]
  | succ d ih =>
    intro j out w S hj ho hw
    have h1 : j < a.length := by omega
    have hlt : (j : Int) < (a.length : Int) := by omega
    obtain ⟨x, hx, dx⟩ := next_at h1
    have hC := fun (S : VH) => v_Clone_string (l := x.l.map strRow) (S := S) (by simpa using hok x (List.mem_of_getElem? hx))
    have htk : a.take (j + 1) = a.take j ++ [x] := by rw [List.take_add_one, hx]; rfl
    have c1 : ¬ (S.next + 1 + 1 < S.next) := by omega
    have c2 : ¬ (S.next + 1 + 1 = S.next) := by omega
    have c3 : ¬ (S.next + 1 = S.next) := by omega
    have c4 : ¬ (S.next = S.next + 1) := by omega
    suffices key : ∃ out1 w1 S1, EvAt S0 S1 out1 (a.take (j + 1)) ∧ (w1 = [] ∨ w1 = [(3, Tag.own)]) ∧ loopX VT.E VT.Fl (VCall VT) c_world_copied_l0 ⟨[(3, out), (6, evsV' a), (7, .int .i64 a.length), (8, .int .i64 j)], w, S⟩ =
        loopX VT.E VT.Fl (VCall VT) c_world_copied_l0 ⟨[(3, out1), (6, evsV' a), (7, .int .i64 a.length), (8, .int .i64 ((j : Int) + 1))], w1, S1⟩ from by
      obtain ⟨out1, w1, S1, k1, k2, k3⟩ := key
      have := ih (j + 1) out1 w1 S1 (by omega) k1 k2
      push_cast at this
      rw [k3]; exact this
    obtain ⟨hF, ho⟩ := ho
    rcases ho with ⟨h0, rfl⟩ | ⟨h0, i, g1, g2, rfl, g4⟩
    · refine ⟨.sl (some (S.next + 1 + 1, 0)) 5 1 none, [], ((S.push (.cells (encEv x) [])).push (.cells (encEv x) [])).push (.cells (encEv x) []), ⟨⟨by simp; have := hF.1; omega, fun q hq => ?_⟩, .inr ⟨by rw [htk]; simp, S.next + 1 + 1, by have := hF.1; omega, by simp, by rw [htk, h0]; rfl, by rw [htk, h0]; simp [evC]⟩⟩, .inl rfl, ?_⟩
      · have := hF.1
        have e1 : ¬ q = S.next + 1 + 1 := by omega
        have e2 : ¬ q = S.next + 1 := by omega
        have e3 : ¬ q = S.next := by omega
        simp [e1, e2, e3, hF.2 q hq]
      · rw [loopX_eq]
        generalize loopX VT.E VT.Fl (VCall VT) c_world_copied_l0 = L at *
        rcases hw with rfl | rfl <;> (simp -implicitDefEqProofs [c_world_copied_l0, binA, hlt, hx, hC, c1, c2, c3, c4, wrap_succ h1 (by omega)]; rw [hK]; simp)
    · have hlen : (a.take j).length = j := by simp; omega
      have e2 : (j + 1) * 72 ≤ 140737488355328 := by omega
      have hin : i ≠ S.next := by omega
      have hin1 : i ≠ S.next + 1 := by omega
      have hin2 : i ≠ S.next + 1 + 1 := by omega
      refine ⟨.sl (some (S.next + 1 + 1, 0)) 5 (j + 1) none, [], killV (((S.push (.cells (encEv x) [])).push (.cells (encEv x) [])).push (.cells (evC (a.take j) ++ encEv x) [])) i, ⟨⟨by simp; have := hF.1; omega, fun q hq => ?_⟩, .inr ⟨by rw [htk]; simp, S.next + 1 + 1, by have := hF.1; omega, by simp, by rw [htk]; simp; omega, by rw [htk]; simp [Ne.symm hin2, evC_snoc]⟩⟩, .inl rfl, ?_⟩
      · have := hF.1
        have e1 : ¬ q = S.next + 1 + 1 := by omega
        have e2 : ¬ q = S.next + 1 := by omega
        have e3 : ¬ q = S.next := by omega
        have e4 : ¬ q = i := by omega
        simp [e1, e2, e3, e4, hF.2 q hq]
      · rw [hlen] at *
        rw [loopX_eq]
        generalize loopX VT.E VT.Fl (VCall VT) c_world_copied_l0 = L at *
        rcases hw with rfl | rfl <;> (simp -implicitDefEqProofs [c_world_copied_l0, binA, hlt, hx, hC, g2, g4, c1, c2, c3, c4, hin, hin1, hin2, e2, Nat.min_eq_left (Nat.le_of_lt h1), wrap_succ h1 (by omega)]; rw [hK]; simp)
theorem v_copied {a : List Event} {S : VH} (ha : a.length < 1000000) (hok : ∀ e ∈ a, e.l.length < 1000000) : ∃ out S', EvAt S S' out a ∧ VCall VT F_world_copied [evsV' a] [] S = some (out, [], S') := by
  obtain ⟨out', w', S', h1, h2⟩ := v_copied_loop (S0 := S) ha hok a.length 0 (.sl none 5 0 none) [(3, .own)] S (by omega) ⟨⟨Nat.le_refl _, fun _ _ => rfl⟩, .inl ⟨rfl, rfl⟩⟩ (.inr rfl)
  push_cast at h2
  refine ⟨out', S', h1, ?_⟩
  rw [VCall_made (F := a_world_copied) rfl rfl rfl rfl]
  simp -implicitDefEqProofs [a_world_copied, c_world_copied, h2]
theorem EvAt.frz {S S' : VH} {out : V} {a : List Event} (h : EvAt S S' out a) : frzV S.next S' out = evsV' a := by
  rcases h.2 with ⟨rfl, rfl⟩ | ⟨_, i, g1, g2, rfl, g4⟩
  · rfl
  · have := rowsOf_ev (l := a) (cs := [])
    rw [List.append_nil] at this
    have e : ¬ i < S.next := by omega
    simp [e, g4, this]
theorem v_Trace {K : Kern} {S : VH} {i : Nat} {own : List Nat} (ht : K.trace.length < 1000000) (hok : ∀ e ∈ K.trace, e.l.length < 1000000) (h1 : i < S.next) (h2 : S.get i = some (.cells (encK K) own)) (h4 : 0 ∈ own) :
    VCall VT F_world_asked_Trace [.ptr (some (i, 0))] [] S = some (evsV' K.trace, [], S) := by
  obtain ⟨out, S', k1, hc⟩ := v_copied (S := S) ht hok
  have k2 := k1.frz
  have k3 := k1.1.clo
  have k4 := k1.1.trim
  rw [VCall_frz (F := a_world_asked_Trace) rfl rfl rfl rfl]
  simp -implicitDefEqProofs [a_world_asked_Trace, c_world_asked_Trace, h1, h2, h4, hc, k2, k3, k4]
end Go.Proofs.YtbpgbhmibmcbnaaGreatDoor.Val

/-! Programs as trees; core.New, core.Lit, core.Seq, run.kids. -/
set_option linter.unusedSimpArgs false
set_option linter.unusedVariables false
namespace Go.Proofs.YtbpgbhmibmcbnaaGreatDoor.Val
open Go Go.Proofs.YtbpgbhmibmcbnaaGreatDoor.Ram

inductive Tr where
  | mk (kind n : Int) (s : Str) (ks : List Tr)
abbrev ndRow (k n c z : Int) (s : Str) : List V := [.int .i64 k, .int .i64 n, .int .i64 c, .int .i64 z, .str s]
mutual
def Tr.rows : Tr → List (List V)
  | .mk k n s ks => ndRow k n ks.length ((rowsT ks).length + 1 : Nat) s :: rowsT ks
def rowsT : List Tr → List (List V)
  | [] => []
  | t :: ks => t.rows ++ rowsT ks
end
abbrev tv (t : Tr) : V := .lst 5 t.rows
abbrev tsv (l : List Tr) : V := .lst 1 (l.map fun t => [tv t])
mutual
theorem Tr.rows5 : ∀ (t : Tr), ∀ r ∈ t.rows, r.length = 5 ∧ ∀ n, V.clos n r = true
  | .mk k n s ks, r, h => by
    simp only [Tr.rows, List.mem_cons] at h
    rcases h with rfl | h
    · exact ⟨rfl, fun _ => rfl⟩
    · exact rowsT5 ks r h
theorem rowsT5 : ∀ (l : List Tr), ∀ r ∈ rowsT l, r.length = 5 ∧ ∀ n, V.clos n r = true
  | [], r, h => by simp [rowsT] at h
  | t :: l, r, h => by
    simp only [rowsT, List.mem_append] at h
    rcases h with h | h
    · exact t.rows5 r h
    · exact rowsT5 l r h
end
theorem Tr.pos (t : Tr) : 0 < t.rows.length := by cases t; simp [Tr.rows]
theorem closs_of {n : Nat} : ∀ l : List (List V), (∀ r ∈ l, V.clos n r = true) → V.closs n l = true := by
  intro l
  induction l with
  | nil => intro _; rfl
  | cons r l ih => intro h; simp only [V.closs, h r List.mem_cons_self, ih fun x hx => h x (List.mem_cons_of_mem _ hx), Bool.and_self]
@[simp] theorem Tr.clo (t : Tr) {n : Nat} : V.closs n t.rows = true := closs_of _ fun r hr => (t.rows5 r hr).2 n
@[simp] theorem clo_rowsT {l : List Tr} {n : Nat} : V.closs n (rowsT l) = true := closs_of _ fun r hr => (rowsT5 l r hr).2 n
@[simp] theorem clo_tsv {n : Nat} {l : List Tr} : V.closs n (l.map fun t => [tv t]) = true := closs_map fun t => by simp
def R5 (l : List (List V)) : Prop := ∀ r ∈ l, r.length = 5
theorem R5.app {l l' : List (List V)} (h : R5 l) (h' : R5 l') : R5 (l ++ l') := fun r hr => (List.mem_append.1 hr).elim (h r) (h' r)
theorem R5.len : ∀ {l : List (List V)}, R5 l → l.flatten.length = l.length * 5
  | [], _ => rfl
  | r :: l, h => by
    simp only [List.flatten_cons, List.length_append, h r List.mem_cons_self, R5.len fun x hx => h x (List.mem_cons_of_mem _ hx), List.length_cons]
    omega
theorem R5.rowsOf : ∀ {l : List (List V)} {cs : List V}, R5 l → Val.rowsOf 5 l.length (l.flatten ++ cs) = l
  | [], _, _ => rfl
  | r :: l, cs, h => by
    have h1 := h r List.mem_cons_self
    have h2 := R5.rowsOf (cs := cs) (l := l) fun x hx => h x (List.mem_cons_of_mem _ hx)
    simp only [List.length_cons, rowsOf_s, List.flatten_cons, List.append_assoc]
    rw [List.take_append_of_le_length (by omega), List.drop_append_of_le_length (by omega), List.take_of_length_le (by omega), List.drop_of_length_le (by omega), List.nil_append, h2]
theorem Tr.r5 (t : Tr) : R5 t.rows := fun r hr => (t.rows5 r hr).1
theorem rowsT_r5 (l : List Tr) : R5 (rowsT l) := fun r hr => (rowsT5 l r hr).1
def NdAt (S0 S : VH) (out : V) (l : List (List V)) : Prop := Fresh S0 S ∧ R5 l ∧ ∃ i c, S0.next ≤ i ∧ i < S.next ∧ out = .sl (some (i, 0)) 5 l.length c ∧ S.get i = some (.cells l.flatten []) ∧ (c = none ∨ c = some l.length)
theorem Fresh.setNew {S S' : VH} (h : Fresh S S') {i : Nat} {o : VObj} (hi : S.next ≤ i) : Fresh S (S'.set i o) := ⟨h.1, fun q hq => by
  have : ¬ q = i := by omega
  simp [this, h.2 q hq]⟩
theorem v_coreNew_step {S0 S : VH} {out : V} {l : List (List V)} (h : NdAt S0 S out l) {t : Tr} (hs : l.length + t.rows.length < 1000000) :
    ∃ out' S', NdAt S0 S' out' (l ++ t.rows) ∧ V.clo S.next out' = false ∧ appH S 5 48 out t.rows = some (out', S') := by
  obtain ⟨hF, h5, i, c, h1, h2, rfl, h3, h4⟩ := h
  have hl := h5.len
  have hp := t.pos
  have e1 : (l.length + t.rows.length) * 48 ≤ 140737488355328 := by omega
  rcases h4 with rfl | rfl
  · refine ⟨.sl (some (S.next, 0)) 5 (l.length + t.rows.length) none, killV (S.push (.cells (l.flatten ++ t.rows.flatten) [])) i, ⟨⟨by simp; have := hF.1; omega, fun q hq => ?_⟩, h5.app t.r5, S.next, none, hF.1, by simp, by simp, ?_, .inl rfl⟩, by simp, ?_⟩
    · have e2 : ¬ q = S.next := by have := hF.1; omega
      have e3 : ¬ q = i := by omega
      simp [e2, e3, hF.2 q hq]
    · have e2 : ¬ S.next = i := by omega
      simp [e2]
    · simp [h3, hl, e1]
  · have e2 : ¬ l.length + t.rows.length ≤ l.length := by omega
    refine ⟨.sl (some (S.next, 0)) 5 (l.length + t.rows.length) none, S.push (.cells (l.flatten ++ t.rows.flatten) []), ⟨⟨by simp; have := hF.1; omega, fun q hq => ?_⟩, h5.app t.r5, S.next, none, hF.1, by simp, by simp, ?_, .inl rfl⟩, by simp, ?_⟩
    · have e3 : ¬ q = S.next := by have := hF.1; omega
      simp [e3, hF.2 q hq]
    · simp
    · have e3 : l.flatten.take (l.length * 5) = l.flatten := List.take_of_length_le (by omega)
      simp [h3, hl, e1, e2, e3]
theorem v_coreNew_loop {ks : List Tr} {S0 : VH} (ha : ks.length < 1000000) : ∀ (d j : Nat) (out : V) (l : List (List V)) (S : VH), j + d = ks.length → NdAt S0 S out l → l.length + (rowsT (ks.drop j)).length < 1000000 →
    ∃ out' S', NdAt S0 S' out' (l ++ rowsT (ks.drop j)) ∧ loopX VT.E VT.Fl (VCall VT) c_core_New_l0 ⟨[(9, out), (19, tsv ks), (20, .int .i64 ks.length), (21, .int .i64 j)], [], S⟩ =
      some (.exit 0, ⟨[(9, out'), (19, tsv ks), (20, .int .i64 ks.length), (21, .int .i64 ks.length), (22, .bool false)], [], S'⟩) := by
  have hK : ∀ f w h, loopX VT.E VT.Fl (VCall VT) c_core_New_l0 ⟨f, w, h⟩ = loopX VT.E VT.Fl (VCall VT) c_core_New_l0 ⟨VFr.keep f [9, 19, 20, 21], Rts.keep w.noCell [9, 19, 20, 21], h⟩ := fun _ _ _ => loopX_keep
  intro d
  induction d with
  | zero =>
    intro j out l S hj ho hs
    obtain rfl : j = ks.length := by omega
    refine ⟨out, S, by simpa [rowsT] using ho, ?_⟩
    rw [loopX_eq]
    simp -implicitDefEqProofs [c_core_New_l0, binA]
  | succ d ih =>
    intro j out l S hj ho hs
    have h1 : j < ks.length := by omega
    have hlt : (j : Int) < (ks.length : Int) := by omega
    obtain ⟨x, hx, dx⟩ := next_at h1
    rw [dx] at hs ⊢
    simp only [rowsT, List.length_append] at hs
    obtain ⟨out1, S1, k1, k0, k2⟩ := v_coreNew_step ho (t := x) (by omega)
    obtain ⟨out2, S2, k3, k4⟩ := ih (j + 1) out1 (l ++ x.rows) S1 (by omega) k1 (by rw [List.length_append]; omega)
    refine ⟨out2, S2, by simpa [rowsT, List.append_assoc] using k3, ?_⟩
    rw [loopX_eq]
    push_cast at k4
    generalize loopX VT.E VT.Fl (VCall VT) c_core_New_l0 = L at *
    simp -implicitDefEqProofs [c_core_New_l0, binA, hlt, hx, k0, k2, wrap_succ h1 (by omega)]
    rw [hK]
    simpa using k4
theorem v_coreNew {k n : Int} {s : Str} {ks : List Tr} {S : VH} (ha : ks.length < 1000000) (hs : (rowsT ks).length < 900000) : VCall VT F_core_New [.int .i64 k, .int .i64 n, .str s, tsv ks] [] S = some (tv (.mk k n s ks), [], S) := by
  have h0 : NdAt S (S.push (.cells (ndRow k n ks.length 0 s) [])) (.sl (some (S.next, 0)) 5 1 (some 1)) [ndRow k n ks.length 0 s] :=
    ⟨⟨by simp, fun q hq => by simp [Nat.ne_of_lt hq]⟩, fun r hr => by simp at hr; subst hr; rfl, S.next, some 1, Nat.le_refl _, by simp, rfl, by simp, .inr rfl⟩
  obtain ⟨out', S', h1, h2⟩ := v_coreNew_loop (S0 := S) ha ks.length 0 _ _ _ (by omega) h0 (by simp; omega)
  obtain ⟨hF, h5, i, c, g1, g2, rfl, g3, _⟩ := h1
  have hl := h5.len
  push_cast at h2
  rw [VCall_frz (F := a_core_New) rfl rfl rfl rfl]
  simp only [List.drop_zero, List.singleton_append] at *
  have e1 : ¬ i < S.next := by omega
  have e3 : ((rowsT ks).map List.length).sum = (rowsT ks).length * 5 := by rw [← List.length_flatten]; exact (rowsT_r5 ks).len
  have e4 : rowsOf 5 (rowsT ks).length (rowsT ks).flatten = rowsT ks := by simpa using R5.rowsOf (cs := []) (rowsT_r5 ks)
  have e5 : ((rowsT ks).length + 1) * 5 ≤ (rowsT ks).length * 5 + 1 + 1 + 1 + 1 + 1 := by omega
  have hf : ∀ o, Fresh S (S'.set i o) := fun o => hF.setNew g1
  simp -implicitDefEqProofs [a_core_New, c_core_New, h2, g3, e1, e3, e4, e5, (hf _).clo, (hf _).trim, Tr.rows]
theorem v_Lit {s : Str} {S : VH} : VCall VT F_core_Lit [.str s] [] S = some (tv (.mk 1 0 s []), [], S) := by
  have h : ∀ S, VCall VT F_core_New [.int .i64 1, .int .i64 0, .str s, .lst 1 []] [] S = some (tv (.mk 1 0 s []), [], S) := fun S => v_coreNew (ks := []) (by simp) (by simp [rowsT])
  rw [VCall_of (F := a_core_Lit) rfl rfl rfl rfl]
  simp -implicitDefEqProofs [a_core_Lit, c_core_Lit, h]
def seqT : List Tr → Tr
  | [] => .mk 20 0 [] []
  | [t] => t
  | l => .mk 23 0 [] l
end Go.Proofs.YtbpgbhmibmcbnaaGreatDoor.Val

/-! run.kids. -/
set_option linter.unusedSimpArgs false
set_option linter.unusedVariables false
namespace Go.Proofs.YtbpgbhmibmcbnaaGreatDoor.Val
open Go Go.Proofs.YtbpgbhmibmcbnaaGreatDoor.Ram

def Tr.kids : Tr → List Tr | .mk _ _ _ ks => ks
def Tr.hd : Tr → List V | .mk k n s ks => ndRow k n ks.length ((rowsT ks).length + 1 : Nat) s
theorem Tr.rows_eq (t : Tr) : t.rows = t.hd :: rowsT t.kids := by cases t; rfl
theorem Tr.hd3 (t : Tr) : t.hd[3]? = some (.int .i64 (t.rows.length : Nat)) := by cases t; simp [Tr.hd, Tr.rows, ndRow]
theorem tsv_snoc {l : List Tr} {t : Tr} : tsv (l ++ [t]) = .lst 1 (l.map (fun t => [tv t]) ++ [[.lst 5 t.rows]]) := by simp [tsv, tv]
theorem v_kids_loop {S : VH} : ∀ (ks2 ks1 : List Tr) (P : List (List V)), (P ++ rowsT ks2).length < 1000000 → ks1.length + ks2.length < 1000000 →
    loopX VT.E VT.Fl (VCall VT) c_run_kids_l0 ⟨[(0, .lst 5 (P ++ rowsT ks2)), (3, tsv ks1), (4, .int .i64 P.length)], [(3, .own)], S⟩ =
      some (.exit 0, ⟨[(0, .lst 5 (P ++ rowsT ks2)), (3, tsv (ks1 ++ ks2)), (4, .int .i64 (P ++ rowsT ks2).length), (8, .bool false)], [(3, .own)], S⟩) := by
  have hK : ∀ f w h, loopX VT.E VT.Fl (VCall VT) c_run_kids_l0 ⟨f, w, h⟩ = loopX VT.E VT.Fl (VCall VT) c_run_kids_l0 ⟨VFr.keep f [0, 3, 4], Rts.keep w.noCell [0, 3, 4], h⟩ := fun _ _ _ => loopX_keep
  intro ks2
  induction ks2 with
  | nil =>
    intro ks1 P hs ha
    rw [loopX_eq]
    simp -implicitDefEqProofs [c_run_kids_l0, binA, rowsT]
  | cons x ks2 ih =>
    intro ks1 P hs ha
    have hp := x.pos
    have hl := x.hd3
    have h1 := ih (ks1 ++ [x]) (P ++ x.rows) (by simpa [rowsT] using hs) (by simp at ha ⊢; omega)
    simp only [rowsT, List.length_append] at hs
    have e1 : (P.length : Int) < (P.length : Int) + ((x.rows.length : Int) + ((rowsT ks2).length : Int)) := by omega
    have e5 : ((P.length : Int) + (x.rows.length : Int)).toNat = P.length + x.rows.length := by omega
    have e6 : 0 ≤ (P.length : Int) + (x.rows.length : Int) := by omega
    have e7 : (ks1.length + 1) * 24 ≤ 140737488355328 := by simp at ha; omega
    have e2 : (P ++ (x.rows ++ rowsT ks2))[P.length]? = some x.hd := by
      rw [List.getElem?_append_right (Nat.le_refl _), Nat.sub_self, x.rows_eq]; rfl
    have e3 : IntKind.i64.wrap ((P.length : Int) + (x.rows.length : Int)) = (P.length : Int) + (x.rows.length : Int) := Go.IntWalk.i64_in _ ⟨by omega, by omega⟩
    have e4 : ((P ++ (x.rows ++ rowsT ks2)).take (P.length + x.rows.length)).drop P.length = x.rows := by
      rw [← List.append_assoc, List.take_append_of_le_length (by simp), List.take_of_length_le (by simp), List.drop_left]
    have e8 : slcV 5 (.lst 5 (P ++ (x.rows ++ rowsT ks2))) (some (.int .i64 P.length)) (some (.int .i64 ((P.length : Int) + (x.rows.length : Int)))) = some (.lst 5 x.rows) := by
      simp only [slcV, bndV, natV, e6, if_true, e5, Option.bind_some, Int.toNat_natCast, show (0 : Int) ≤ (P.length : Int) from by omega]
      rw [if_pos ⟨by decide, trivial, by omega, by simp⟩, e4]
    rw [loopX_eq]
    simp only [List.append_assoc, List.length_append, Int.natCast_add] at h1
    generalize loopX VT.E VT.Fl (VCall VT) c_run_kids_l0 = L at *
    simp -implicitDefEqProofs [c_run_kids_l0, binA, rowsT, e1, e2, e3, e4, e5, e6, e7, e8, hl]
    rw [hK]
    rw [tsv_snoc] at h1
    simpa using h1
theorem v_kids {t : Tr} {S : VH} (hs : t.rows.length < 1000000) (ha : t.kids.length < 1000000) : VCall VT F_run_kids [tv t] [] S = some (tsv t.kids, [], S) := by
  have h := v_kids_loop (S := S) t.kids [] [t.hd] (by rw [t.rows_eq] at hs; simpa using hs) (by simpa using ha)
  have e : [t.hd] ++ rowsT t.kids = t.rows := by rw [t.rows_eq]; rfl
  rw [e] at h
  have h : loopX VT.E VT.Fl (VCall VT) c_run_kids_l0 ⟨[(0, tv t), (3, .lst 1 []), (4, .int .i64 1)], [(3, .own)], S⟩ = some (.exit 0, ⟨[(0, tv t), (3, tsv t.kids), (4, .int .i64 t.rows.length), (8, .bool false)], [(3, .own)], S⟩) := h
  rw [VCall_of (F := a_run_kids) rfl rfl rfl rfl]
  simp -implicitDefEqProofs [a_run_kids, c_run_kids, h]
end Go.Proofs.YtbpgbhmibmcbnaaGreatDoor.Val

/-! The store: variables, arguments, functions. -/
set_option linter.unusedSimpArgs false
set_option linter.unusedVariables false
namespace Go.Proofs.YtbpgbhmibmcbnaaGreatDoor.Val
open Go Go.Proofs.YtbpgbhmibmcbnaaGreatDoor.Ram

def aget {α : Type} (l : List (Str × α)) (k : Str) : Option α := (l.find? fun p => p.1 == k).map (·.2)
def aset {α : Type} : List (Str × α) → Str → α → List (Str × α)
  | [], k, v => [(k, v)]
  | (k', v') :: l, k, v => if k' == k then (k, v) :: l else (k', v') :: aset l k v
def amap {α : Type} (e : α → V) (l : List (Str × α)) : List (Str × V) := l.map fun p => (p.1, e p.2)
@[simp] theorem amap_get {α : Type} {e : α → V} {l : List (Str × α)} {k : Str} : mapGetV (amap e l) k = (aget l k).map e := by
  induction l with
  | nil => rfl
  | cons p l ih =>
    unfold mapGetV aget amap at *
    rw [List.map_cons, List.find?_cons, List.find?_cons]
    by_cases h : p.1 == k
    · simp [h]
    · simp only [h]; exact ih
@[simp] theorem amap_set {α : Type} {e : α → V} {l : List (Str × α)} {k : Str} {v : α} : mapSetV (amap e l) k (e v) = amap e (aset l k v) := by
  induction l with
  | nil => rfl
  | cons p l ih =>
    unfold amap at *
    obtain ⟨a, b⟩ := p
    simp only [List.map_cons, mapSetV, aset]
    split
    · rfl
    · rw [ih]; rfl
theorem amap_clo {α : Type} {e : α → V} {n : Nat} (he : ∀ x, V.clo n (e x) = true) {l : List (Str × α)} : VObj.clo n (.map (amap e l)) = true := by
  simp only [VObj.clo, amap, List.all_map, List.all_eq_true]
  exact fun p _ => he p.2
theorem cloH_put {S : VH} {i : Nat} {o : VObj} (h : o.clo S.next = true) : cloH S (S.set i o) := fun j _ => by
  by_cases e : j = i
  · subst e; right; intro o' ho; simp at ho; subst ho; exact h
  · left; simp [e]
structure Sto where
  vars : List (Str × List Str)
  args : List Str
  funs : List (Str × Tr)
def Sto.ok (s : Sto) : Prop := (∀ p ∈ s.vars, p.2.length < 1000000) ∧ s.args.length < 1000000 ∧ ∀ p ∈ s.funs, p.2.rows.length < 1000000
theorem aget_mem {α : Type} {l : List (Str × α)} {k : Str} {v : α} (h : aget l k = some v) : ∃ p ∈ l, p.2 = v := by
  unfold aget at h
  obtain ⟨p, h1, h2⟩ := Option.map_eq_some_iff.1 h
  exact ⟨p, List.mem_of_find?_eq_some h1, h2⟩
structure IsS (S : VH) (s vm fm : Nat) (x : Sto) : Prop where
  hs : s < S.next
  hv : vm < S.next
  hf : fm < S.next
  sv : s ≠ vm
  sf : s ≠ fm
  vf : vm ≠ fm
  gs : ∃ own, S.get s = some (.cells [.map (some vm), strsV x.args, .map (some fm)] own)
  gv : S.get vm = some (.map (amap strsV x.vars))
  gf : S.get fm = some (.map (amap tv x.funs))
section
variable {S : VH} {s vm fm : Nat} {x : Sto} {n : Str}
theorem v_Args (h : IsS S s vm fm x) (ho : x.ok) : VCall VT F_store_values_Args [.ptr (some (s, 0))] [] S = some (strsV x.args, [], S) := by
  obtain ⟨own, gs⟩ := h.gs
  have hc := v_Clone_string (l := x.args.map strRow) (S := S) (by simpa using ho.2.1)
  rw [VCall_of (F := a_store_values_Args) rfl rfl rfl rfl]
  by_cases o1 : 1 ∈ own <;> simp -implicitDefEqProofs [a_store_values_Args, c_store_values_Args, h.hs, gs, hc, o1]
def starN : Str := [42]
def Sto.get (x : Sto) (n : Str) : List Str × Bool := if n = starN then (x.args, true) else match aget x.vars n with
  | some l => (l, true)
  | none => ([], false)
def Sto.set (x : Sto) (n : Str) (l : List Str) : Sto := if n = starN then { x with args := l } else { x with vars := aset x.vars n l }
theorem v_Get (h : IsS S s vm fm x) (ho : x.ok) : VCall VT F_store_values_Get [.ptr (some (s, 0)), .str n] [] S = some (.tup [strsV (x.get n).1, .bool (x.get n).2], [], S) := by
  obtain ⟨own, gs⟩ := h.gs
  have hA := v_Args h ho
  rw [VCall_of (F := a_store_values_Get) rfl rfl rfl rfl]
  by_cases e : n = starN
  · subst e
    simp -implicitDefEqProofs [a_store_values_Get, c_store_values_Get, binA, hA, Sto.get, starN]
  · have e' : ¬ n = [42] := e
    cases hg : aget x.vars n with
    | none =>
      have hc := v_Clone_string (l := []) (S := S) (by simp)
      have hk : lookupV S (.lst 1 []) true (.map (some vm)) (.str n) = some (.tup [.lst 1 [], .bool false]) := by simp [lookupV, h.gv, hg]
      by_cases o0 : 0 ∈ own <;> simp -implicitDefEqProofs [a_store_values_Get, c_store_values_Get, binA, e', h.hs, gs, hk, hg, hc, Sto.get, starN, o0]
    | some l =>
      obtain ⟨p, hp, rfl⟩ := aget_mem hg
      have hc := v_Clone_string (l := p.2.map strRow) (S := S) (by simpa using ho.1 p hp)
      have hk : lookupV S (.lst 1 []) true (.map (some vm)) (.str n) = some (.tup [strsV p.2, .bool true]) := by simp [lookupV, h.gv, hg]
      by_cases o0 : 0 ∈ own <;> simp -implicitDefEqProofs [a_store_values_Get, c_store_values_Get, binA, e', h.hs, gs, hk, hg, hc, Sto.get, starN, o0]
theorem v_Set (h : IsS S s vm fm x) {l : List Str} (hl : l.length < 1000000) (hn : n ≠ starN) : VCall VT F_store_values_Set [.ptr (some (s, 0)), .str n, strsV l] [] S = some (.tup [], [], S.set vm (.map (amap strsV (aset x.vars n l)))) := by
  obtain ⟨own, gs⟩ := h.gs
  have e' : ¬ n = [42] := hn
  have hc := v_Clone_string (l := l.map strRow) (S := S) (by simpa using hl)
  rw [VCall_of (F := a_store_values_Set) rfl rfl rfl rfl]
  have hcl : cloH S (S.set vm (.map (amap strsV (aset x.vars n l)))) := cloH_put (amap_clo (e := strsV) fun y => (clo_strs (l := y) : V.closs _ (y.map strRow) = true))
  simp -implicitDefEqProofs [a_store_values_Set, c_store_values_Set, binA, e', h.hs, h.hv, gs, h.gv, hc, trim_in h.hv, hcl]
theorem IsS.setVar (h : IsS S s vm fm x) {l : List Str} : IsS (S.set vm (.map (amap strsV (aset x.vars n l)))) s vm fm { x with vars := aset x.vars n l } := by
  obtain ⟨own, gs⟩ := h.gs
  have h1 := h.sv
  have h2 := h.vf.symm
  exact ⟨h.hs, h.hv, h.hf, h.sv, h.sf, h.vf, ⟨own, by simp [h1, gs]⟩, by simp, by simp [h2, h.gf]⟩
theorem IsS.setArgs (h : IsS S s vm fm x) {l : List Str} {own : List Nat} : IsS (S.set s (.cells [.map (some vm), strsV l, .map (some fm)] own)) s vm fm { x with args := l } := by
  have h1 := h.sv.symm
  have h2 := h.sf.symm
  exact ⟨h.hs, h.hv, h.hf, h.sv, h.sf, h.vf, ⟨own, by simp⟩, by simp [h1, h.gv], by simp [h2, h.gf]⟩
theorem v_SetArgs (h : IsS S s vm fm x) {l : List Str} (hl : l.length < 1000000) : ∃ own, VCall VT F_store_values_SetArgs [.ptr (some (s, 0)), strsV l] [] S = some (strsV x.args, [], S.set s (.cells [.map (some vm), strsV l, .map (some fm)] own)) := by
  obtain ⟨own, gs⟩ := h.gs
  have hc := v_Clone_string (l := l.map strRow) (S := S) (by simpa using hl)
  have hvf := h.hv
  have hff := h.hf
  refine ⟨keepO own 1 1, ?_⟩
  rw [VCall_of (F := a_store_values_SetArgs) rfl rfl rfl rfl]
  by_cases o1 : 1 ∈ own <;> simp -implicitDefEqProofs [a_store_values_SetArgs, c_store_values_SetArgs, binA, h.hs, gs, hc, trim_in h.hs, hvf, hff, o1]
end
end Go.Proofs.YtbpgbhmibmcbnaaGreatDoor.Val

/-! The store: functions, all variables, a new one. -/
set_option linter.unusedSimpArgs false
set_option linter.unusedVariables false
namespace Go.Proofs.YtbpgbhmibmcbnaaGreatDoor.Val
open Go Go.Proofs.YtbpgbhmibmcbnaaGreatDoor.Ram

section
variable {S : VH} {s vm fm : Nat} {x : Sto} {n : Str}
theorem v_Fun (h : IsS S s vm fm x) (ho : x.ok) : VCall VT F_store_functions_Fun [.ptr (some (s, 2)), .str n] [] S = some (match aget x.funs n with | some t => .tup [tv t, .bool true] | none => .tup [.lst 5 [], .bool false], [], S) := by
  obtain ⟨own, gs⟩ := h.gs
  rw [VCall_of (F := a_store_functions_Fun) rfl rfl rfl rfl]
  cases hg : aget x.funs n with
  | none =>
    have hc := v_Clone_Node (l := []) (S := S) (by simp)
    have hk : lookupV S (.lst 5 []) true (.map (some fm)) (.str n) = some (.tup [.lst 5 [], .bool false]) := by simp [lookupV, h.gf, hg]
    by_cases o0 : 2 ∈ own <;> simp -implicitDefEqProofs [a_store_functions_Fun, c_store_functions_Fun, binA, h.hs, gs, hk, hg, hc, o0]
  | some t =>
    obtain ⟨p, hp, rfl⟩ := aget_mem hg
    have hc := v_Clone_Node (l := p.2.rows) (S := S) (ho.2.2 p hp)
    have hk : lookupV S (.lst 5 []) true (.map (some fm)) (.str n) = some (.tup [tv p.2, .bool true]) := by simp [lookupV, h.gf, hg]
    by_cases o0 : 2 ∈ own <;> simp -implicitDefEqProofs [a_store_functions_Fun, c_store_functions_Fun, binA, h.hs, gs, hk, hg, hc, o0]
theorem v_SetFun (h : IsS S s vm fm x) {t : Tr} (ht : t.rows.length < 1000000) : VCall VT F_store_functions_SetFun [.ptr (some (s, 2)), .str n, tv t] [] S = some (.tup [], [], S.set fm (.map (amap tv (aset x.funs n t)))) := by
  obtain ⟨own, gs⟩ := h.gs
  have hc := v_Clone_Node (l := t.rows) (S := S) ht
  have hcl : cloH S (S.set fm (.map (amap tv (aset x.funs n t)))) := cloH_put (amap_clo (e := tv) fun y => y.clo)
  rw [VCall_of (F := a_store_functions_SetFun) rfl rfl rfl rfl]
  simp -implicitDefEqProofs [a_store_functions_SetFun, c_store_functions_SetFun, binA, h.hs, h.hf, gs, h.gf, hc, trim_in h.hf, hcl]
theorem IsS.setFun (h : IsS S s vm fm x) {t : Tr} : IsS (S.set fm (.map (amap tv (aset x.funs n t)))) s vm fm { x with funs := aset x.funs n t } := by
  obtain ⟨own, gs⟩ := h.gs
  have h1 := h.sf
  have h2 := h.vf
  exact ⟨h.hs, h.hv, h.hf, h.sv, h.sf, h.vf, ⟨own, by simp [h1, gs]⟩, by simp [h2, h.gv], by simp⟩
theorem v_Keys {vm : Nat} {S : VH} (hv : vm < S.next) : VCall VT F_maps_Keys_map_string_string_string_string [.map (some vm)] [] S = some (.fn F_maps_Keys_map_string_string_string_string_1 [.ptr (some (S.next, 0))], [], S.push (.cells [.map (some vm)] [])) := by
  rw [VCall_made (F := a_maps_Keys_map_string_string_string_string) rfl rfl rfl rfl]
  simp -implicitDefEqProofs [a_maps_Keys_map_string_string_string_string, c_maps_Keys_map_string_string_string_string]
theorem v_Sorted {p vm : Nat} {S : VH} {own : List Nat} {l : List (Str × V)} (hp : S.get p = some (.cells [.map (some vm)] own)) (hv : S.get vm = some (.map l)) (hl : l.length ≤ 1000000) (hk : ∀ e ∈ l, e.1.length ≤ 1000000) :
    VCall VT F_slices_Sorted_string [.fn F_maps_Keys_map_string_string_string_string_1 [.ptr (some (p, 0))]] [] S = some (strsV (sortK (l.map (·.1))), [], S) := by
  rw [VCall_prim (p := keysV) rfl]
  have : mapInV S p = some (l.map (·.1)) := by
    unfold mapInV
    rw [hp]; dsimp only; rw [hv]; dsimp only
    rw [if_pos ⟨hl, by simpa using fun a b h => hk _ h⟩]
  simp [keysV, this]
abbrev valRow (p : Str × List Str) : List V := [.str p.1, strsV p.2]
abbrev valsV (l : List (Str × List Str)) : V := .lst 2 (l.map valRow)
@[simp] theorem clo_vals {n : Nat} {l : List (Str × List Str)} : V.closs n (l.map valRow) = true := closs_map fun p => by simp
theorem vals_snoc {l : List (Str × List Str)} {n : Str} {y : List Str} : valsV (l ++ [(n, y)]) = .lst 2 (l.map valRow ++ [[.str n, .lst 1 (y.map strRow)]]) := by simp [valsV]
def Sto.all (x : Sto) : List (Str × List Str) := (sortK (x.vars.map (·.1))).map fun n => (n, (aget x.vars n).getD [])
theorem v_Vars_loop (h : IsS S s vm fm x) (ho : x.ok) {ks : List Str} (ha : ks.length < 1000000) : ∀ (d j : Nat) (out : List (Str × List Str)), j + d = ks.length → out.length = j →
    loopX VT.E VT.Fl (VCall VT) c_store_values_Vars_l0 ⟨[(0, .ptr (some (s, 0))), (3, valsV out), (11, strsV ks), (12, .int .i64 ks.length), (13, .int .i64 j)], [(3, .own)], S⟩ =
      some (.exit 0, ⟨[(0, .ptr (some (s, 0))), (3, valsV (out ++ (ks.drop j).map fun n => (n, (aget x.vars n).getD []))), (11, strsV ks), (12, .int .i64 ks.length), (13, .int .i64 ks.length), (14, .bool false)], [(3, .own)], S⟩) := by
  obtain ⟨own, gs⟩ := h.gs
  have hK : ∀ f w h, loopX VT.E VT.Fl (VCall VT) c_store_values_Vars_l0 ⟨f, w, h⟩ = loopX VT.E VT.Fl (VCall VT) c_store_values_Vars_l0 ⟨VFr.keep f [0, 3, 11, 12, 13], Rts.keep w.noCell [0, 3, 11, 12, 13], h⟩ := fun _ _ _ => loopX_keep
  intro d
  induction d with
  | zero =>
    intro j out hj hl
    obtain rfl : j = ks.length := by omega
    rw [loopX_eq]
    simp -implicitDefEqProofs [c_store_values_Vars_l0, binA]
  | succ d ih =>
    intro j out hj hl
    have h1 : j < ks.length := by omega
    have hlt : (j : Int) < (ks.length : Int) := by omega
    obtain ⟨n, hx, dx⟩ := next_at h1
    have e7 : (out.length + 1) * 40 ≤ 140737488355328 := by omega
    have hk : lookupV S (.lst 1 []) false (.map (some vm)) (.str n) = some (strsV ((aget x.vars n).getD [])) := by
      cases hg : aget x.vars n <;> simp [lookupV, h.gv, hg]
    have hc : VCall VT F_slices_Clone_string_string [strsV ((aget x.vars n).getD [])] [] S = some (strsV ((aget x.vars n).getD []), [], S) := v_Clone_string (by
      cases hg : aget x.vars n with
      | none => simp
      | some l => obtain ⟨p, hp, rfl⟩ := aget_mem hg; simpa using ho.1 p hp)
    have := ih (j + 1) (out ++ [(n, (aget x.vars n).getD [])]) (by omega) (by simp [hl])
    rw [dx, loopX_eq, List.map_cons]
    push_cast at this
    rw [vals_snoc] at this
    generalize (aget x.vars n).getD [] = y at *
    generalize loopX VT.E VT.Fl (VCall VT) c_store_values_Vars_l0 = L at *
    have hs := h.hs
    by_cases o0 : 0 ∈ own <;> (simp -implicitDefEqProofs [c_store_values_Vars_l0, binA, hlt, hx, hk, hc, hs, gs, e7, o0, wrap_succ h1 (by omega)]; rw [hK]; simpa using this)
theorem v_Vars (h : IsS S s vm fm x) (ho : x.ok) (hl : x.vars.length < 1000000) (hk : ∀ e ∈ x.vars, e.1.length ≤ 1000000) : VCall VT F_store_values_Vars [.ptr (some (s, 0))] [] S = some (valsV x.all, [], S) := by
  obtain ⟨own, gs⟩ := h.gs
  have e1 := h.hs
  have e2 := h.hv
  have e3 := h.hf
  have hn1 : ¬ s = S.next := by omega
  have hn2 : ¬ vm = S.next := by omega
  have hn3 : ¬ fm = S.next := by omega
  let S1 := S.push (.cells [.map (some vm)] [])
  have hI : IsS S1 s vm fm x := ⟨by simp [S1]; omega, by simp [S1]; omega, by simp [S1]; omega, h.sv, h.sf, h.vf, ⟨own, by simp [S1, hn1, gs]⟩, by simp [S1, hn2, h.gv], by simp [S1, hn3, h.gf]⟩
  have hK := v_Keys (S := S) h.hv
  have hS : VCall VT F_slices_Sorted_string [.fn F_maps_Keys_map_string_string_string_string_1 [.ptr (some (S.next, 0))]] [] (S.push (.cells [.map (some vm)] [])) = some (strsV (sortK (x.vars.map (·.1))), [], S.push (.cells [.map (some vm)] [])) := by
    have := v_Sorted (p := S.next) (S := S1) (own := []) (by simp [S1]) hI.gv (by simp [amap]; omega) (by
      intro e he
      obtain ⟨p, hp, rfl⟩ := List.mem_map.1 he
      exact hk p hp)
    have e : (amap strsV x.vars).map (·.1) = x.vars.map (·.1) := by simp [amap]
    rw [e] at this
    exact this
  have hL := v_Vars_loop hI ho (ks := sortK (x.vars.map (·.1))) (by simp [sortK]; omega) (sortK (x.vars.map (·.1))).length 0 [] (by omega) rfl
  push_cast at hL
  have hF : Fresh S S1 := ⟨by simp [S1], fun q hq => by have : ¬ q = S.next := by omega
                                                        simp [S1, this]⟩
  have hcl := hF.clo
  have htr := hF.trim
  simp only [S1, List.drop_zero, List.nil_append] at hL hcl htr
  generalize hks : sortK (x.vars.map (·.1)) = ks at hL hS
  have hL : loopX VT.E VT.Fl (VCall VT) c_store_values_Vars_l0 ⟨[(0, .ptr (some (s, 0))), (3, .lst 2 []), (11, strsV ks), (12, .int .i64 ks.length), (13, .int .i64 0)], [(3, .own)], S.push (.cells [.map (some vm)] [])⟩ = _ := hL
  have hcv : V.closs S.next (ks.map (valRow ∘ fun n => (n, (aget x.vars n).getD []))) = true := by rw [← List.map_map]; exact clo_vals
  rw [VCall_of (F := a_store_values_Vars) rfl rfl rfl rfl]
  by_cases o0 : 0 ∈ own <;> simp -implicitDefEqProofs [a_store_values_Vars, c_store_values_Vars, binA, e1, gs, hK, hS, hL, hcl, htr, hcv, o0, Sto.all, hks]
theorem v_StoreNew {S : VH} : VCall VT F_store_New [.lst 2 []] [] S = some (.ptr (some (S.next + 1 + 1, 0)), [], ((S.push (.map [])).push (.map [])).push (.cells [.map (some S.next), .lst 1 [], .map (some (S.next + 1))] [])) := by
  have hK : loopX VT.E VT.Fl (VCall VT) c_store_New_l0 ⟨[(3, .ptr (some (S.next + 1 + 1, 0))), (12, .lst 2 []), (13, .int .i64 0), (14, .int .i64 0)], [], ((S.push (.map [])).push (.map [])).push (.cells [.map (some S.next), .lst 1 [], .map (some (S.next + 1))] [])⟩ = some (.exit 0, ⟨[(3, .ptr (some (S.next + 1 + 1, 0))), (12, .lst 2 []), (13, .int .i64 0), (14, .int .i64 0), (15, .bool false)], [], ((S.push (.map [])).push (.map [])).push (.cells [.map (some S.next), .lst 1 [], .map (some (S.next + 1))] [])⟩) := by
    rw [loopX_eq]
    simp -implicitDefEqProofs [c_store_New_l0, binA]
  rw [VCall_made (F := a_store_New) rfl rfl rfl rfl]
  simp -implicitDefEqProofs [a_store_New, c_store_New, binA, hK]
end
end Go.Proofs.YtbpgbhmibmcbnaaGreatDoor.Val

/-! Errors of the globals; lists: Fits, bound, Cat. -/
set_option linter.unusedSimpArgs false
set_option linter.unusedVariables false
namespace Go.Proofs.YtbpgbhmibmcbnaaGreatDoor.Val
open Go Go.Proofs.YtbpgbhmibmcbnaaGreatDoor.Ram

def errG (g : Nat) : V := .ifc Ty_perrors_errorString (.ptr (some (50 + g, 0)))
@[simp] theorem clo_errG {n g : Nat} (h : g < 50) : V.clo n (errG g) = true := by
  unfold errG
  simp only [V.clo, Bool.or_eq_true, decide_eq_true_eq]
  exact .inl (by omega)
@[simp] theorem one_errG {g : Nat} : oneV (errG g) = true := nd rfl
@[simp] theorem cells_errG {g : Nat} : cellsV (errG g) = [errG g] := nd rfl
@[simp] theorem rig_errG {g : Nat} : rigid (errG g) = true := nd rfl
@[simp] theorem eq_err_nil {E : Env} {S : VH} {g : Nat} {cst : Bool} : eqV E S cst .ifc (errG g) .nilI = some false := nd rfl
@[simp] theorem eq_nil_err {E : Env} {S : VH} {g : Nat} {cst : Bool} : eqV E S cst .ifc .nilI (errG g) = some false := nd rfl
@[simp] theorem lt_Big : G_api_ErrBig < 100 := by decide
@[simp] theorem lt5_Big : G_api_ErrBig < 50 := by decide
@[simp] theorem lt_Deep : G_api_ErrDeep < 100 := by decide
@[simp] theorem lt5_Deep : G_api_ErrDeep < 50 := by decide
@[simp] theorem lt_Fuel : G_api_ErrFuel < 100 := by decide
@[simp] theorem lt5_Fuel : G_api_ErrFuel < 50 := by decide
@[simp] theorem lt_Many : G_api_ErrMany < 100 := by decide
@[simp] theorem lt5_Many : G_api_ErrMany < 50 := by decide

def errL : List Nat := [G_api_ErrDeep, G_api_ErrBig, G_api_ErrFuel, G_api_ErrMany, G_api_ErrNode, G_api_ErrNest, G_api_ErrNumber, G_api_ErrName, G_api_ErrLong]
def glT : Nat → Option (List V) := fun i => if errL.contains i then some [errG i] else if i = G_errors_errorType then some [etVV] else if 50 ≤ i ∧ errL.contains (i - 50) then some [] else none
structure GlOk (S : VH) : Prop where
  gl : S.gl = glT
  low : ∀ i, i < 100 → S.get i = none
theorem GlOk.set {S : VH} (h : GlOk S) {i : Nat} {o : VObj} (hi : 100 ≤ i) : GlOk (S.set i o) := ⟨h.gl, fun j hj => by
  have : ¬ j = i := by omega
  simp [this, h.low j hj]⟩
theorem GlOk.ld {S : VH} (h : GlOk S) {g : Nat} (hg : errL.contains g = true) (hl : g < 100) : S.get g = none ∧ S.gl g = some [errG g] := by
  refine ⟨h.low g hl, ?_⟩
  rw [h.gl]
  unfold glT
  rw [if_pos hg]
theorem GlOk.et {S : VH} (h : GlOk S) : S.gl G_errors_errorType = some [etVV] := by rw [h.gl]; rfl
theorem GlOk.same {S : VH} (h : GlOk S) {a b : Nat} (ha : errL.contains a = true) (hb : errL.contains b = true) (la : a < 50) (lb : b < 50) : ptrEqV VT.E S (some (50 + a, 0)) (some (50 + b, 0)) = some (a == b) := by
  have e1 : liveV S (50 + a) = false := by unfold liveV; rw [h.low _ (by omega)]
  have gs : ∀ c, errL.contains c = true → c < 50 → (S.gl (50 + c)).isSome = true := fun c hc lc => by
    rw [h.gl]
    unfold glT
    split
    · rfl
    · split
      · rfl
      · rw [if_pos ⟨by omega, by rw [show 50 + c - 50 = c by omega]; exact hc⟩]; rfl
  have se : ∀ c, errL.contains c = true → c < 50 → VT.E.sent.contains (50 + c) = true := by
    intro c hc lc
    have : ∀ d ∈ errL, VT.E.sent.contains (50 + d) = true := by decide
    exact this c (List.contains_iff_mem.1 hc)
  have e3 : glV VT.E S (50 + a) = true := by unfold glV; rw [se a ha la, gs a ha la]; rfl
  have e4 : glV VT.E S (50 + b) = true := by unfold glV; rw [se b hb lb, gs b hb lb]; rfl
  show (if (liveV S (50 + a) && liveV S (50 + b)) = true then some (50 + a == 50 + b && 0 == 0) else if (glV VT.E S (50 + a) && glV VT.E S (50 + b) && (0 == 0 && 0 == 0)) = true then some (50 + a == 50 + b) else none) = some (a == b)
  rw [e1, e3, e4]
  have : (50 + a == 50 + b) = (a == b) := by rw [Bool.eq_iff_iff]; simp
  simp [this]
def fitL (l : List Str) : Bool := decide (l.length ≤ 100) && !(l.any fun s => decide (2000 < s.length))
section
variable {S : VH}
theorem v_Fits_1 {s : Str} {S : VH} : VCall VT F_lists_Fits_1 [.str s] [] S = some (.bool (decide (2000 < s.length)), [], S) := by
  rw [VCall_of (F := a_lists_Fits_1) rfl rfl rfl rfl]
  have : decide ((2000 : Int) < (s.length : Int)) = decide (2000 < s.length) := by congr 1; apply propext; omega
  simp -implicitDefEqProofs [a_lists_Fits_1, c_lists_Fits_1, binA, this]
theorem v_Fits (h : GlOk S) {l : List Str} (hl : l.length < 1000000) : VCall VT F_lists_Fits [strsV l] [] S = some (if fitL l = true then .nilI else errG G_api_ErrBig, [], S) := by
  have hc := v_Contains (g := F_lists_Fits_1) (S := S) (fun s => v_Fits_1) hl
  have hg := h.ld (g := G_api_ErrBig) rfl (by decide)
  rw [VCall_of (F := a_lists_Fits) rfl rfl rfl rfl]
  by_cases e : l.length ≤ 100
  · have e1 : ¬ (100 : Int) < (l.length : Int) := by omega
    cases e2 : (l.any fun s => decide (2000 < s.length)) <;> simp -implicitDefEqProofs [a_lists_Fits, c_lists_Fits, binA, hc, hg, e, e1, e2, fitL]
  · have e1 : (100 : Int) < (l.length : Int) := by omega
    simp -implicitDefEqProofs [a_lists_Fits, c_lists_Fits, binA, hc, hg, e, e1, fitL]
theorem v_bound (h : GlOk S) {l : List Str} (hl : l.length < 1000000) : VCall VT F_lists_bound [strsV l] [] S = some (if fitL l = true then .tup [strsV l, .nilI] else .tup [.lst 1 [], errG G_api_ErrBig], [], S) := by
  have hf := v_Fits h hl
  have hc := v_Clone_string (l := l.map strRow) (S := S) (by simpa using hl)
  rw [VCall_of (F := a_lists_bound) rfl rfl rfl rfl]
  cases e : fitL l <;> simp -implicitDefEqProofs [a_lists_bound, c_lists_bound, binA, hf, hc, e]
end
end Go.Proofs.YtbpgbhmibmcbnaaGreatDoor.Val

/-! How a law begins: its arguments in both machines. -/
namespace Go.Proofs.YtbpgbhmibmcbnaaGreatDoor.Val
open Go Go.RowKit Go.Proofs.YtbpgbhmibmcbnaaGreatDoor.Ram

abbrev Bs := List (Ram.Loc × List AV)
def C0 : Nat → Option (List AV) := fun i => if errL.contains i then some [.ifc Ty_perrors_errorString (.ptr (some (50 + i, 0)))] else if i = G_errors_errorType then some [etV] else if 50 ≤ i ∧ errL.contains (i - 50) then some [] else none
def G0 (bl : Bs) : Fz := fun r => if r < 100 then C0 r else (bl[r - 100]?).map (·.2)
def S0 : VH := ⟨100, fun _ => none, glT⟩
def phi0 : Bk := fun i => if i < 100 then some i else none
theorem Rel.start {bl : Bs} {xs : List V} {avs : List AV} (h : VRels phi0 (G0 bl) xs avs) : Rel phi0 (G0 bl) (fun _ => False) ⟨frV xs, [], S0⟩ (frOf avs) (heapOf C0 bl) where
  slots := fun n v hv => by
    rw [vget_frV] at hv
    obtain ⟨a, h1, h2⟩ := h.get hv
    exact ⟨a, by rw [get_frOf']; exact h1, h2⟩
  objs := fun i o hi => by cases hi
  inj := fun i j r oi oj hi => by cases hi
  dom := fun i r hi => by
    simp only [phi0] at hi
    split at hi
    · assumption
    · cases hi
  glob := fun g hg => by simp [phi0, hg]
  n100 := ⟨Nat.le_refl _, by simp [heapOf]⟩
  fz := fun r pre hp => by
    simp only [G0] at hp
    split at hp
    · rename_i h100
      exact ⟨by simp only [heapOf]; omega, pre, true, by simp only [heapOf]; rw [if_pos h100, hp]; rfl, List.prefix_refl _⟩
    · rename_i h100
      obtain ⟨a, h1, rfl⟩ := Option.map_eq_some_iff.1 hp
      have := (List.getElem?_eq_some_iff.1 h1).1
      exact ⟨by simp only [heapOf]; omega, a.2, true, by simp only [heapOf]; rw [if_neg h100, h1]; rfl, List.prefix_refl _⟩
  gl := fun i l hl => by
    simp only [S0, glT] at hl
    split at hl
    · rename_i hc
      have hm : ∀ d ∈ errL, d < 50 := by decide
      have hi := hm i (List.contains_iff_mem.1 hc)
      obtain rfl := Option.some.inj hl
      refine ⟨by omega, _, _, by simp only [G0]; rw [if_pos (by omega)]; unfold C0; rw [if_pos hc], List.prefix_refl _, ?_⟩
      simp only [VRels, errG, VRel]
      exact ⟨_, [], rfl, ⟨_, rfl, 50 + i, by simp [phi0]; omega, rfl⟩, rfl⟩
    · rename_i hc
      split at hl
      · rename_i he
        subst he
        obtain rfl := Option.some.inj hl
        refine ⟨by decide, _, _, by simp only [G0]; rw [if_pos (by decide)]; unfold C0; rw [if_neg hc, if_pos rfl], List.prefix_refl _, ?_⟩
        simp only [VRels, etVV, etV, VRel]
        exact ⟨_, [], rfl, ⟨_, rfl, _, rfl, _, [], rfl, rfl, rfl⟩, rfl⟩
      · rename_i he
        split at hl
        · rename_i hs
          have hm : ∀ d ∈ errL, d < 50 := by decide
          have hi := hm _ (List.contains_iff_mem.1 hs.2)
          obtain rfl := Option.some.inj hl
          exact ⟨by omega, [], [], by simp only [G0]; rw [if_pos (by omega)]; unfold C0; rw [if_neg hc, if_neg he, if_pos hs], List.prefix_refl _, rfl⟩
        · cases hl
  win := fun r hr => hr.elim
  rt := fun R hR => by
    cases R with
    | slot n => cases hR
    | part n j => cases hR
    | cell i off => simp [Has, ownAt, S0] at hR
  rtx := fun R R' a a' r hR => by
    cases R with
    | slot n => cases hR
    | part n j => cases hR
    | cell i off => simp [Has, ownAt, S0] at hR
  alias := fun n i off hm => by cases hm
def Arg (L : Nat → Option Ram.Loc) (W : World) (v : Value) (x : V) : Prop := ∃ (bs : Nat → Bs) (av : Nat → AV), ∀ pre post : Bs,
  (∀ a ∈ bs pre.length, ObjR (mapOf L (pre ++ bs pre.length ++ post)) W a.1 (.cells a.2 true)) ∧ VR (mapOf L (pre ++ bs pre.length ++ post)) (av pre.length) v ∧ VRel phi0 (G0 (pre ++ bs pre.length ++ post)) x (av pre.length)
inductive Args (L : Nat → Option Ram.Loc) (W : World) : List Value → List V → Prop where
  | nil : Args L W [] []
  | cons {v : Value} {x : V} {vs : List Value} {xs : List V} (h : Arg L W v x) (hs : Args L W vs xs) : Args L W (v :: vs) (x :: xs)
section
variable {L : Nat → Option Ram.Loc} {W : World}
theorem Args.all {vs : List Value} {xs : List V} (h : Args L W vs xs) : ∀ pre : Bs, ∃ (bl : Bs) (avs : List AV), ∀ post : Bs,
    (∀ a ∈ bl, ObjR (mapOf L (pre ++ bl ++ post)) W a.1 (.cells a.2 true)) ∧ VRs (mapOf L (pre ++ bl ++ post)) avs vs ∧ VRels phi0 (G0 (pre ++ bl ++ post)) xs avs := by
  induction h with
  | nil => intro pre; exact ⟨[], [], fun post => ⟨fun a ha => (by cases ha), rfl, rfl⟩⟩
  | cons h hs ih =>
    intro pre
    obtain ⟨bs, av, hb⟩ := h
    obtain ⟨bl, avs, ha⟩ := ih (pre ++ bs pre.length)
    refine ⟨bs pre.length ++ bl, av pre.length :: avs, fun post => ?_⟩
    obtain ⟨h1, h2, h3⟩ := hb pre (bl ++ post)
    obtain ⟨k1, k2, k3⟩ := ha post
    have e1 : pre ++ bs pre.length ++ (bl ++ post) = pre ++ (bs pre.length ++ bl) ++ post := by simp
    have e2 : pre ++ bs pre.length ++ bl ++ post = pre ++ (bs pre.length ++ bl) ++ post := by simp
    rw [e1] at h1 h2 h3
    rw [e2] at k1 k2 k3
    refine ⟨fun a hm => (List.mem_append.1 hm).elim (h1 a) (k1 a), ?_, ?_⟩
    · simp only [VRs]; exact ⟨_, _, rfl, h2, k2⟩
    · simp only [VRels]; exact ⟨_, _, rfl, h3, k3⟩
theorem arg_nil {sz : Nat} : Arg L W (.slice none 0 0) (.lst sz []) := ⟨fun _ => [], fun _ => .sl none sz 0 (some 0), fun _ _ => ⟨fun a ha => (by cases ha), by simp [VR], by simp only [VRel]; exact .inl ⟨trivial, _, _, rfl⟩⟩⟩
theorem rows_one {φ : Bk} {G : Fz} : ∀ {us : List V} {xs cs : List AV}, VRels φ G us xs → cs.take us.length = xs → RowsRel φ G 1 (us.map fun u => [u]) cs
  | [], _, _, _, _ => by simp only [List.map_nil, RowsRel]
  | u :: us, xs, cs, h, hc => by
    simp only [VRels] at h
    obtain ⟨a, r, rfl, h1, h2⟩ := h
    cases cs with
    | nil => simp at hc
    | cons c cs =>
      simp only [List.length_cons, List.take_succ_cons, List.cons.injEq] at hc
      obtain ⟨rfl, hc⟩ := hc
      simp only [List.map_cons, RowsRel, List.length_singleton, List.take_succ_cons, List.take_zero, List.drop_succ_cons, List.drop_zero, true_and]
      exact ⟨by simp only [VRels]; exact ⟨_, [], rfl, h1, rfl⟩, rows_one h2 hc⟩
theorem arg_list {g : Ram.Loc} (hg : ∀ m, ObjR m W g (.cells [] true)) {a : Addr} {len cap : Nat} {us : List V} {xs : List AV} {vs : List Value} (hx : ∀ m, VRs m xs vs) (hu : ∀ φ G, VRels φ G us (xs.take len)) (h1 : xs.all oneCell = true) (hcap : xs.length = cap) (hl : len ≤ cap) (hm : cap ≤ maxLen)
    (hc : ∀ i v, vs[i]? = some v → W.cell? (a.add i) = some v) : Arg L W (.slice (some a) len cap) (.lst 1 (us.map fun u => [u])) := by
  obtain ⟨loc, l, k1, ⟨k2, k3⟩, k4⟩ := slice_arg (hg fun _ => none) (hx _) h1 hcap hl hm hc
  have hul : us.length = len := by
    have := (hu phi0 fun _ => none).length
    rw [List.length_take] at this; omega
  refine ⟨fun _ => [(loc, l)], fun i => .sl (some (100 + i, 0)) 1 len none, fun pre post => ⟨fun a ha => ?_, k4 _ _ ?_, ?_⟩⟩
  · obtain rfl := List.mem_singleton.1 ha
    exact k1.mono (fun _ _ h => by cases h) rfl
  · simp only [mapOf]
    rw [if_neg (by omega), show 100 + pre.length - 100 = pre.length by omega]
    simp
  · simp only [VRel]
    refine .inr ⟨100 + pre.length, 0, none, l, by simp [hul], ?_, ?_, ?_⟩
    · simp only [G0]
      rw [if_neg (by omega), show 100 + pre.length - 100 = pre.length by omega]
      simp
    · simp [hul]; omega
    · rw [List.drop_zero]
      exact rows_one (hu _ _) (by rw [hul]; exact k3)
end
end Go.Proofs.YtbpgbhmibmcbnaaGreatDoor.Val

/-! lists.Cat. -/
set_option linter.unusedSimpArgs false
set_option linter.unusedVariables false
namespace Go.Proofs.YtbpgbhmibmcbnaaGreatDoor.Val
open Go Go.Proofs.YtbpgbhmibmcbnaaGreatDoor.Ram

abbrev lssV (l : List (List Str)) : V := .lst 1 (l.map fun x => [strsV x])
@[simp] theorem clo_lss {n : Nat} {l : List (List Str)} : V.closs n (l.map fun x => [strsV x]) = true := closs_map fun x => by simp
theorem v_Cat_loop {S : VH} (h : GlOk S) {ls : List (List Str)} (ha : ls.length < 1000000) (hx : ∀ x ∈ ls, x.length < 1000000) : ∀ (d j : Nat) (out : List Str), j + d = ls.length → out.length ≤ 100 →
    ((out ++ (ls.drop j).flatten).length ≤ 100 ∧ loopX VT.E VT.Fl (VCall VT) c_lists_Cat_l0 ⟨[(4, strsV out), (7, lssV ls), (8, .int .i64 ls.length), (9, .int .i64 j)], [(4, .own)], S⟩ =
      some (.exit 0, ⟨[(4, strsV (out ++ (ls.drop j).flatten)), (7, lssV ls), (8, .int .i64 ls.length), (9, .int .i64 ls.length), (10, .bool false)], [(4, .own)], S⟩)) ∨
    (100 < (out ++ (ls.drop j).flatten).length ∧ ∃ f w, loopX VT.E VT.Fl (VCall VT) c_lists_Cat_l0 ⟨[(4, strsV out), (7, lssV ls), (8, .int .i64 ls.length), (9, .int .i64 j)], [(4, .own)], S⟩ = some (.ret, ⟨(3, errG G_api_ErrBig) :: (2, .lst 1 []) :: f, w, S⟩)) := by
  have hK : ∀ f w h, loopX VT.E VT.Fl (VCall VT) c_lists_Cat_l0 ⟨f, w, h⟩ = loopX VT.E VT.Fl (VCall VT) c_lists_Cat_l0 ⟨VFr.keep f [4, 7, 8, 9], Rts.keep w.noCell [4, 7, 8, 9], h⟩ := fun _ _ _ => loopX_keep
  obtain ⟨g0, g1⟩ := h.ld (g := G_api_ErrBig) rfl (by decide)
  intro d
  induction d with
  | zero =>
    intro j out hj ho
    obtain rfl : j = ls.length := by omega
    left
    refine ⟨by simpa using ho, ?_⟩
    rw [loopX_eq]
    simp -implicitDefEqProofs [c_lists_Cat_l0, binA]
  | succ d ih =>
    intro j out hj ho
    have h1 : j < ls.length := by omega
    have hlt : (j : Int) < (ls.length : Int) := by omega
    obtain ⟨x, hx', dx⟩ := next_at h1
    have hxl := hx x (List.mem_of_getElem? hx')
    have e7 : (out.length + x.length) * 16 ≤ 140737488355328 := by omega
    rw [dx, loopX_eq, List.flatten_cons, ← List.append_assoc]
    by_cases hb : out.length + x.length ≤ 100
    · have := ih (j + 1) (out ++ x) (by omega) (by simpa using hb)
      push_cast at this
      have e8 : ¬ (100 : Int) < (out.length : Int) + (x.length : Int) := by omega
      have ea : strsV (out ++ x) = .lst 1 (out.map strRow ++ x.map strRow) := by simp [strsV]
      rw [ea] at this
      generalize loopX VT.E VT.Fl (VCall VT) c_lists_Cat_l0 = L at *
      simp -implicitDefEqProofs [c_lists_Cat_l0, binA, hlt, hx', e7, e8, wrap_succ h1 (by omega)]
      rw [hK]
      simpa using this
    · have e8 : (100 : Int) < (out.length : Int) + (x.length : Int) := by omega
      right
      refine ⟨by simp; omega, ?_⟩
      generalize loopX VT.E VT.Fl (VCall VT) c_lists_Cat_l0 = L at *
      simp -implicitDefEqProofs [c_lists_Cat_l0, binA, hlt, hx', e7, e8, g0, g1]

theorem v_Cat {S : VH} (h : GlOk S) {ls : List (List Str)} (ha : ls.length < 1000000) (hx : ∀ x ∈ ls, x.length < 1000000) : VCall VT F_lists_Cat [lssV ls] [] S = some (if fitL ls.flatten = true then .tup [strsV ls.flatten, .nilI] else .tup [.lst 1 [], errG G_api_ErrBig], [], S) := by
  have hl := v_Cat_loop h ha hx ls.length 0 [] (by omega) (by simp)
  push_cast at hl
  simp only [List.drop_zero, List.nil_append] at hl
  rw [VCall_of (F := a_lists_Cat) rfl rfl rfl rfl]
  rcases hl with ⟨e, hl⟩ | ⟨e, f, w, hl⟩
  · have hb := v_bound h (l := ls.flatten) (by omega)
    have hl : loopX VT.E VT.Fl (VCall VT) c_lists_Cat_l0 ⟨[(4, .lst 1 []), (7, lssV ls), (8, .int .i64 ls.length), (9, .int .i64 0)], [(4, .own)], S⟩ = _ := hl
    generalize ls.flatten = out at hl hb ⊢
    cases e2 : fitL out <;> simp -implicitDefEqProofs [a_lists_Cat, c_lists_Cat, binA, hl, hb, e2]
  · have hl : loopX VT.E VT.Fl (VCall VT) c_lists_Cat_l0 ⟨[(4, .lst 1 []), (7, lssV ls), (8, .int .i64 ls.length), (9, .int .i64 0)], [(4, .own)], S⟩ = _ := hl
    have e2 : fitL ls.flatten = false := by
      unfold fitL
      rw [decide_eq_false (by omega)]
      rfl
    simp -implicitDefEqProofs [a_lists_Cat, c_lists_Cat, binA, hl, e2]
end Go.Proofs.YtbpgbhmibmcbnaaGreatDoor.Val

/-! strings.Join at one text at most, strings.TrimRight at newlines; lists: Flat, Trim. -/
set_option linter.unusedSimpArgs false
set_option linter.unusedVariables false
namespace Go.Proofs.YtbpgbhmibmcbnaaGreatDoor.Val
open Go Go.Proofs.YtbpgbhmibmcbnaaGreatDoor.Ram

def trimNl (s : Str) : Str := (s.reverse.dropWhile (· == 10)).reverse
@[simp] theorem wrap_m1 : IntKind.i64.wrap (-1) = -1 := Go.IntWalk.i64_in _ ⟨by decide, by decide⟩
@[simp] theorem wrap_z : IntKind.i64.wrap 0 = 0 := Go.IntWalk.i64_in _ ⟨by decide, by decide⟩
@[simp] theorem wrap_o : IntKind.i64.wrap 1 = 1 := Go.IntWalk.i64_in _ ⟨by decide, by decide⟩
@[simp] theorem mm_int {mx : Bool} {k : IntKind} {a b : Int} : minmaxV mx (.int k a) (.int k b) = some (.int k (if mx then (if a < b then b else a) else (if b < a then b else a))) := by simp [minmaxV]
section
variable {S : VH}
theorem v_Join1 {d s : Str} : VCall VT F_strings_Join [strsV [s], .str d] [] S = some (.str s, [], S) := by
  rw [VCall_of (F := a_strings_Join) rfl rfl rfl rfl]
  simp -implicitDefEqProofs [a_strings_Join, c_strings_Join, binA]
end
end Go.Proofs.YtbpgbhmibmcbnaaGreatDoor.Val

/-! The shell's own commands: put, echo, cat, true; others are none. -/
set_option linter.unusedSimpArgs false
set_option linter.unusedVariables false
namespace Go.Proofs.YtbpgbhmibmcbnaaGreatDoor.Val
open Go Go.Proofs.YtbpgbhmibmcbnaaGreatDoor.Ram

structure OutC where
  out : Str
  rest : Str
  status : Int
  name : Str
  value : Str
  fin : Bool
abbrev outC (o : OutC) : List V := [.str o.out, .str o.rest, .int .i64 o.status, .str o.name, .str o.value, .bool o.fin]
def out0 (i : Str) : OutC := ⟨[], i, 0, [], [], false⟩
def cmdL : List (Str × V) := [([97, 100, 100], .fn F_builtin_add []), ([99, 97, 116], .fn F_builtin_cat []), ([101, 99, 104, 111], .fn F_builtin_echo []), ([101, 113], .fn F_builtin_eq []), ([101, 120, 105, 116], .fn F_builtin_exit []), ([102, 97, 108, 115, 101], .fn F_builtin_no []), ([108, 101, 115, 115], .fn F_builtin_less []), ([108, 105, 107, 101], .fn F_builtin_like []), ([112, 117, 116], .fn F_builtin_put []), ([114, 101, 97, 100], .fn F_builtin_read []), ([116, 114, 117, 101], .fn F_builtin_yes [])]
section
variable {S : VH}
theorem v_commands : VCall VT F_builtin_commands [] [] S = some (.map (some S.next), [], S.push (.map cmdL)) := by
  rw [VCall_made (F := a_builtin_commands) rfl rfl rfl rfl]
  simp -implicitDefEqProofs [a_builtin_commands, c_builtin_commands, mapSetV, cmdL]
variable {q : Nat} {o : OutC} {own : List Nat} {i : Str}
theorem v_put1 (hq : q < S.next) (hg : S.get q = some (.cells (outC o) own)) {s : Str} : VCall VT F_builtin_put [.ptr (some (q, 0)), .str i, strsV [s]] [] S = some (.tup [], [], S.set q (.cells (outC { o with out := s }) (keepO own 0 1))) := by
  have hj := v_Join1 (S := S) (d := [32]) (s := s)
  rw [VCall_of (F := a_builtin_put) rfl rfl rfl rfl]
  simp -implicitDefEqProofs [a_builtin_put, c_builtin_put, hq, hg, hj, trim_in hq]
theorem v_cat (hq : q < S.next) (hg : S.get q = some (.cells (outC o) own)) {a : V} : VCall VT F_builtin_cat [.ptr (some (q, 0)), .str i, a] [] S = some (.tup [], [], S.set q (.cells (outC { o with out := i, rest := [] }) (keepO (keepO own 0 1) 1 1))) := by
  rw [VCall_of (F := a_builtin_cat) rfl rfl rfl rfl]
  simp -implicitDefEqProofs [a_builtin_cat, c_builtin_cat, hq, hg, trim_in hq]
theorem v_yes {p a : V} : VCall VT F_builtin_yes [p, .str i, a] [] S = some (.tup [], [], S) := by
  rw [VCall_of (F := a_builtin_yes) rfl rfl rfl rfl]
  simp -implicitDefEqProofs [a_builtin_yes, c_builtin_yes]
theorem v_echo1 (hq : q < S.next) (hg : S.get q = some (.cells (outC o) own)) {s : Str} (hs : (s.length : Int) < 1000000000) : ∃ own', VCall VT F_builtin_echo [.ptr (some (q, 0)), .str i, strsV [s]] [] S = some (.tup [], [], S.set q (.cells (outC { o with out := s ++ [10] }) own')) := by
  have hp := v_put1 (i := i) hq hg (s := s)
  have e1 : (s.length : Int) + 1 ≤ 9223372036854775807 := by omega
  refine ⟨keepO (keepO own 0 1) 0 1, ?_⟩
  rw [VCall_of (F := a_builtin_echo) rfl rfl rfl rfl]
  by_cases h0 : 0 ∈ keepO own 0 1 <;> simp -implicitDefEqProofs [a_builtin_echo, c_builtin_echo, binA, hq, hg, hp, h0, e1, trim_in hq]
end
end Go.Proofs.YtbpgbhmibmcbnaaGreatDoor.Val

/-! A new kernel of rows only. -/
set_option linter.unusedSimpArgs false
set_option linter.unusedVariables false
namespace Go.Proofs.YtbpgbhmibmcbnaaGreatDoor.Val
open Go Go.Proofs.YtbpgbhmibmcbnaaGreatDoor.Ram

def ownR (own : List Nat) : List Nat := 2 :: keepO (own.filter (· != 2)) 2 1
@[simp] theorem mem_ownR {own : List Nat} : 2 ∈ ownR own := List.mem_cons_self
@[simp] theorem mem_ownR0 {own : List Nat} (h : 0 ∈ own) : 0 ∈ ownR own := List.mem_cons_of_mem _ (by
  unfold keepO
  exact List.mem_filter.2 ⟨List.mem_filter.2 ⟨h, by simp⟩, by simp⟩)
theorem v_New_loop {a : List Row} {fl : V} {k : Nat} (ha : a.length < 1000000) (hok : ∀ r ∈ a, r.args.length < 1000000) : ∀ (d j : Nat) (out : List Row) (own : List Nat) (S : VH), j + d = a.length → out.length = j → k < S.next → V.clo S.next fl = true → 0 ∈ own → 2 ∈ own → S.get k = some (.cells [.lst 5 [], fl, rowsV out] own) →
    ∃ own', 0 ∈ own' ∧ 2 ∈ own' ∧ loopX VT.E VT.Fl (VCall VT) c_world_New_l0 ⟨[(5, .ptr (some (k, 0))), (24, rowsV a), (25, .int .i64 a.length), (26, .int .i64 j)], [], S⟩ =
      some (.exit 0, ⟨[(5, .ptr (some (k, 0))), (24, rowsV a), (25, .int .i64 a.length), (26, .int .i64 a.length), (27, .bool false)], [], S.set k (.cells [.lst 5 [], fl, rowsV (out ++ a.drop j)] own')⟩) := by
  have hK : ∀ f w h, loopX VT.E VT.Fl (VCall VT) c_world_New_l0 ⟨f, w, h⟩ = loopX VT.E VT.Fl (VCall VT) c_world_New_l0 ⟨VFr.keep f [5, 24, 25, 26], Rts.keep w.noCell [5, 24, 25, 26], h⟩ := fun _ _ _ => loopX_keep
  intro d
  induction d with
  | zero =>
    intro j out own S hj ho hk hf h0 h2 hg
    obtain rfl : j = a.length := by omega
    refine ⟨own, h0, h2, ?_⟩
    rw [loopX_eq]
    simp -implicitDefEqProofs [c_world_New_l0, binA]
    have : S.set k (.cells [.lst 5 [], fl, rowsV out] own) = S := by
      unfold VH.set; congr 1; funext j; by_cases e : j = k <;> simp [e, hg]
    simpa [rowsV] using this.symm
  | succ d ih =>
    intro j out own S hj ho hk hf h0 h2 hg
    have h1 : j < a.length := by omega
    have hlt : (j : Int) < (a.length : Int) := by omega
    obtain ⟨x, hx, dx⟩ := next_at h1
    have hxo := hok x (List.mem_of_getElem? hx)
    have hC := fun (S : VH) => v_Clone_string (l := x.args.map strRow) (S := S) (by simpa using hxo)
    have hkn : k ≠ S.next := by omega
    have hks : ¬ S.next = k := by omega
    have hk1 : k < S.next + 1 := by omega
    obtain ⟨own', g0, g2, this⟩ := ih (j + 1) (out ++ [x]) (ownR own) (S.set k (.cells [.lst 5 [], fl, rowsV (out ++ [x])] (ownR own))) (by omega) (by simp [ho]) hk hf (mem_ownR0 h0) mem_ownR (by simp)
    push_cast at this
    refine ⟨own', g0, g2, ?_⟩
    have e2 : (out.length + 1) * 72 ≤ 140737488355328 := by omega
    rw [loopX_eq, dx]
    generalize loopX VT.E VT.Fl (VCall VT) c_world_New_l0 = L at *
    simp -implicitDefEqProofs [c_world_New_l0, binA, hlt, hx, hC, hkn, hks, hk, hk1, hg, hf, h2, e2, trim_in hk, wrap_succ h1 (by omega)]
    rw [hK]
    simpa [rowsV, encRow, ownR] using this
set_option maxRecDepth 20000 in
theorem v_Len64_0 {S : VH} : VCall VT F_math_bits_Len64 [.int .u64 0] [] S = some (.int .i64 0, [], S) := by
  rw [VCall_of (F := a_math_bits_Len64) rfl rfl rfl rfl]
  simp -implicitDefEqProofs [a_math_bits_Len64, c_math_bits_Len64, binA, chrV, show IntKind.u8.wrap 0 = 0 from rfl, show IntKind.i64.wrap 0 = 0 from rfl]
theorem v_Len_0 {S : VH} : VCall VT F_math_bits_Len [.int .u64 0] [] S = some (.int .i64 0, [], S) := by
  rw [VCall_of (F := a_math_bits_Len) rfl rfl rfl rfl]
  simp -implicitDefEqProofs [a_math_bits_Len, c_math_bits_Len, binA, v_Len64_0]
theorem v_insertion_0 {g : Nat} {S : VH} : VCall VT F_slices_insertionSortCmpFunc_api_File [.lst 2 [], .int .i64 0, .int .i64 0, .fn g []] [] S = some (.tup [], [], S) := by
  rw [VCall_of (F := a_slices_insertionSortCmpFunc_api_File) rfl rfl rfl rfl]
  have : loopX VT.E VT.Fl (VCall VT) c_slices_insertionSortCmpFunc_api_File_l1 ⟨[(0, .lst 2 []), (1, .int .i64 0), (2, .int .i64 0), (3, .fn g []), (8, .int .i64 1)], [], S⟩ = some (.exit 0, ⟨[(0, .lst 2 []), (1, .int .i64 0), (2, .int .i64 0), (3, .fn g []), (8, .int .i64 1), (14, .bool false)], [], S⟩) := by
    rw [loopX_eq]
    simp -implicitDefEqProofs [c_slices_insertionSortCmpFunc_api_File_l1, binA]
  simp -implicitDefEqProofs [a_slices_insertionSortCmpFunc_api_File, c_slices_insertionSortCmpFunc_api_File, binA, this, show IntKind.i64.wrap 1 = 1 from rfl]
theorem v_pdq_0 {g : Nat} {S : VH} : VCall VT F_slices_pdqsortCmpFunc_api_File [.lst 2 [], .int .i64 0, .int .i64 0, .int .i64 0, .fn g []] [] S = some (.tup [], [], S) := by
  rw [VCall_of (F := a_slices_pdqsortCmpFunc_api_File) rfl rfl rfl rfl]
  have : ∃ f, loopX VT.E VT.Fl (VCall VT) c_slices_pdqsortCmpFunc_api_File_l0 ⟨[(0, .lst 2 []), (1, .int .i64 0), (2, .int .i64 0), (3, .int .i64 0), (4, .fn g []), (10, .bool true), (11, .bool true)], [], S⟩ = some (.ret, ⟨f, [], S⟩) := by
    rw [loopX_eq]
    generalize loopX VT.E VT.Fl (VCall VT) c_slices_pdqsortCmpFunc_api_File_l0 = L
    simp -implicitDefEqProofs [c_slices_pdqsortCmpFunc_api_File_l0, binA, v_insertion_0, show IntKind.i64.wrap 0 = 0 from rfl]
  obtain ⟨f, this⟩ := this
  simp -implicitDefEqProofs [a_slices_pdqsortCmpFunc_api_File, c_slices_pdqsortCmpFunc_api_File, binA, this]
theorem v_Sort_0 {g : Nat} {S : VH} : VCall VT F_slices_SortFunc_api_File_api_File [.lst 2 [], .fn g []] [] S = some (.tup [], [], S) := by
  rw [VCall_of (F := a_slices_SortFunc_api_File_api_File) rfl rfl rfl rfl]
  simp -implicitDefEqProofs [a_slices_SortFunc_api_File_api_File, c_slices_SortFunc_api_File_api_File, binA, v_Len_0, v_pdq_0, show IntKind.u64.wrap 0 = 0 from rfl]
theorem v_New_rows {a : List Row} {S : VH} (ha : a.length ≤ 50) (hok : ∀ r ∈ a, r.ok) : ∃ own own', 0 ∈ own' ∧ 2 ∈ own' ∧ VCall VT F_world_New [.agg [.lst 2 [], rowsV a]] [] S =
    some (.tup [.ptr (some (S.next + 1, 0)), .nilI], [], (S.push (.cells [.lst 2 [], rowsV a] own)).push (.cells (encK ⟨[], .lst 2 [], a⟩) own')) := by
  have hM := fun (S : VH) => v_May_rows (S := S) ha hok
  have hL := fun (S : VH) => v_New_loop (fl := .lst 2 []) (S := (S.push (.cells [.lst 2 [], rowsV a] [])).push (.cells [.lst 5 [], .lst 2 [], .lst 7 []] [0, 2])) (k := S.next + 1) (a := a) (by omega) (fun r hr => by have := (hok r hr).2.2.1; omega) a.length 0 [] [0, 2] (by omega) rfl (by simp) (by simp) (by simp) (by simp) (by simp)
  obtain ⟨own', g0, g2, this⟩ := hL S
  push_cast at this
  refine ⟨[], own', g0, g2, ?_⟩
  rw [VCall_made (F := a_world_New) rfl rfl rfl rfl]
  simp -implicitDefEqProofs [a_world_New, c_world_New, binA, hM, v_Clone_File, v_Sort_0, this]
  rfl
end Go.Proofs.YtbpgbhmibmcbnaaGreatDoor.Val

/-! Files: may they be; where a name stands. -/
set_option linter.unusedSimpArgs false
set_option linter.unusedVariables false
namespace Go.Proofs.YtbpgbhmibmcbnaaGreatDoor.Val
open Go Go.Proofs.YtbpgbhmibmcbnaaGreatDoor.Ram

structure File where
  name : Str
  data : Str
abbrev fileRow (f : File) : List V := [.str f.name, .str f.data]
abbrev filesV (l : List File) : V := .lst 2 (l.map fileRow)
def filesC (l : List File) : List V := (l.map fileRow).flatten
@[simp] theorem filesC_nil : filesC [] = [] := rfl
@[simp] theorem filesC_cons {f : File} {l : List File} : filesC (f :: l) = .str f.name :: .str f.data :: filesC l := rfl
@[simp] theorem clos_filesC {n : Nat} {l : List File} : V.clos n (filesC l) = true := by
  induction l with
  | nil => rfl
  | cons f l ih => simp [ih]
def File.ok (f : File) : Prop := f.name ≠ [] ∧ f.name.length ≤ 2000 ∧ f.data.length ≤ 16384

@[simp] theorem clo_files {n : Nat} {l : List File} : V.closs n (l.map fileRow) = true := closs_map fun _ => rfl
/-! maps -/
section
variable {S : VH} {i : Nat} {d v : V} {s k : List UInt8} {ok : Bool} {l : List (List UInt8 × V)}
def pickM (o : Option V) (d : V) (ok : Bool) : V := match o with
  | some v => if ok then .tup [v, .bool true] else v
  | none => if ok then .tup [d, .bool false] else d
@[simp] theorem pickM_0 : pickM none d false = d := nd rfl
@[simp] theorem pickM_1 : pickM (some v) d false = v := nd rfl
@[simp] theorem pickM_2 : pickM none d true = .tup [d, .bool false] := nd rfl
@[simp] theorem pickM_3 : pickM (some v) d true = .tup [v, .bool true] := nd rfl
def lookO (o : Option VObj) (d : V) (ok : Bool) (s : List UInt8) : Option V := match o with
  | some (.map l) => some (pickM (mapGetV l s) d ok)
  | _ => none
@[simp] theorem look_m : lookupV S d ok (.map (some i)) (.str s) = lookO (S.get i) d ok s := by
  rcases h : S.get i with _ | (_ | l) <;> simp only [lookupV, lookO, pickM, h]
  cases mapGetV l s <;> rfl
@[simp] theorem lookO_m : lookO (some (.map l)) d ok s = some (pickM (mapGetV l s) d ok) := nd rfl
theorem get_set {l : List (List UInt8 × V)} : mapGetV (mapSetV l k v) s = if s = k then some v else mapGetV l s := by
  induction l with
  | nil => by_cases e : k = s <;> simp [mapSetV, mapGetV, List.find?_cons, e]; simp [Ne.symm e]
  | cons p l ih =>
    obtain ⟨q, u⟩ := p
    simp only [mapSetV]
    by_cases e : q = k
    · subst e
      simp only [BEq.rfl, if_true]
      by_cases e2 : q = s
      · subst e2; simp [mapGetV]
      · simp [mapGetV, List.find?_cons, e2, Ne.symm e2]
    · have e' : (q == k) = false := by simpa using e
      simp only [e', Bool.false_eq_true, if_false]
      by_cases e2 : q = s
      · subst e2; simp [mapGetV, e]
      · have e3 : (q == s) = false := by simpa using e2
        simp only [mapGetV, List.find?_cons, e3] at ih ⊢
        exact ih
end
theorem set_self {S : VH} {i : Nat} {o : VObj} (h : S.get i = some o) : S.set i o = S := by
  unfold VH.set; congr 1; funext j; by_cases e : j = i <;> simp [e, h]

end Go.Proofs.YtbpgbhmibmcbnaaGreatDoor.Val

/-! Where a file of a name stands. -/
set_option linter.unusedSimpArgs false
set_option linter.unusedVariables false
namespace Go.Proofs.YtbpgbhmibmcbnaaGreatDoor.Val
open Go Go.Proofs.YtbpgbhmibmcbnaaGreatDoor.Ram

theorem flat_len {α : Type} {e : α → List V} {sz : Nat} (he : ∀ x, (e x).length = sz) {l : List α} : (l.map e).flatten.length = l.length * sz := by
  induction l with
  | nil => simp
  | cons y l ih => simp only [List.map_cons, List.flatten_cons, List.length_append, he, ih, List.length_cons, Nat.succ_mul]; omega
@[simp] theorem filesC_len {l : List File} : (filesC l).length = l.length * 2 := flat_len (e := fileRow) fun _ => rfl

def posF (fs : List File) (n : Str) : Nat := (fs.takeWhile fun f => decide (cmpL f.name n < 0)).length
def hasF (fs : List File) (n : Str) : Bool := match fs[posF fs n]? with
  | some f => cmpL f.name n == 0
  | none => false
def Mono (fs : List File) (n : Str) : Prop := ∀ (k k' : Nat) (f f' : File), k ≤ k' → fs[k]? = some f → fs[k']? = some f' → cmpL f'.name n < 0 → cmpL f.name n < 0
end Go.Proofs.YtbpgbhmibmcbnaaGreatDoor.Val

/-! The kernel's files: opened, said to. -/
set_option linter.unusedSimpArgs false
set_option linter.unusedVariables false
namespace Go.Proofs.YtbpgbhmibmcbnaaGreatDoor.Val
open Go Go.Proofs.YtbpgbhmibmcbnaaGreatDoor.Ram

structure KF (S : VH) (i j : Nat) (tr : List Event) (fs : List File) (cap : Option Nat) (rows : List Row) (own : List Nat) : Prop where
  hi : i < S.next
  hj : j < S.next
  ne : i ≠ j
  own0 : 0 ∈ own
  gi : S.get i = some (.cells (encK ⟨tr, .sl (some (j, 0)) 2 fs.length cap, rows⟩) own)
  gj : S.get j = some (.cells (filesC fs) [])
section
variable {S : VH} {i j : Nat} {tr : List Event} {fs : List File} {cap : Option Nat} {rows : List Row} {own : List Nat} {n : Str}
theorem v_Write_none {p : V} : VCall VT F_world_Kernel_Write [p, .str n, .str []] [] S = some (.nilI, [], S) := by
  rw [VCall_of (F := a_world_Kernel_Write) rfl rfl rfl rfl]
  simp -implicitDefEqProofs [a_world_Kernel_Write, c_world_Kernel_Write, binA]
end
end Go.Proofs.YtbpgbhmibmcbnaaGreatDoor.Val

/-! The runner's state in the heap; a step, something deeper, what is said. -/
set_option linter.unusedSimpArgs false
set_option linter.unusedVariables false
namespace Go.Proofs.YtbpgbhmibmcbnaaGreatDoor.Val
open Go Go.Proofs.YtbpgbhmibmcbnaaGreatDoor.Ram

structure RSt where
  K : Kern
  X : Sto
  steps : Int
  depth : Int
  inn : Str
  caught : Option Str
  file : Str
structure Ids where
  r : Nat
  k : Nat
  s : Nat
  vm : Nat
  fm : Nat
  b : Nat
  mx : Int
  dm : Int
  o3 : V
  o4 : V
  o5 : V
def caughtV (I : Ids) : Option Str → V
  | none => .ptr none
  | some _ => .ptr (some (I.b, 0))
def encR (I : Ids) (st : RSt) : List V := [.ptr (some (I.k, 0)), .ptr (some (I.s, 0)), .nilFn, .int .i64 I.mx, .int .i64 I.dm, I.o3, I.o4, I.o5, .int .i64 st.steps, .int .i64 st.depth, .str st.inn, caughtV I st.caught, .str st.file]
def OwnR (own : List Nat) : Prop := ∀ o ∈ own, o = 5 ∨ o = 6
theorem OwnR.keep {own : List Nat} (h : OwnR own) {o k : Nat} : OwnR (keepO own o k) := fun x hx => h x (List.mem_filter.1 hx).1
theorem OwnR.no {own : List Nat} (h : OwnR own) : (¬ 0 ∈ own ∧ ¬ 1 ∈ own ∧ ¬ 2 ∈ own ∧ ¬ 3 ∈ own ∧ ¬ 4 ∈ own) ∧ ¬ 7 ∈ own ∧ ¬ 8 ∈ own ∧ ¬ 9 ∈ own ∧ ¬ 10 ∈ own ∧ ¬ 11 ∈ own ∧ ¬ 12 ∈ own :=
  ⟨⟨fun e => by have := h _ e; omega, fun e => by have := h _ e; omega, fun e => by have := h _ e; omega, fun e => by have := h _ e; omega, fun e => by have := h _ e; omega⟩, fun e => by have := h _ e; omega, fun e => by have := h _ e; omega, fun e => by have := h _ e; omega, fun e => by have := h _ e; omega, fun e => by have := h _ e; omega, fun e => by have := h _ e; omega⟩
def Ids.has (I : Ids) (q : Nat) : Prop := q = I.r ∨ q = I.k ∨ q = I.s ∨ q = I.vm ∨ q = I.fm ∨ q = I.b
structure Inv (S : VH) (I : Ids) (st : RSt) : Prop where
  g : GlOk S
  hr : I.r < S.next ∧ 100 ≤ I.r
  hk : I.k < S.next ∧ 100 ≤ I.k
  hx : IsS S I.s I.vm I.fm st.X
  hxl : 100 ≤ I.s ∧ 100 ≤ I.vm ∧ 100 ≤ I.fm
  hb : st.caught ≠ none → I.b < S.next ∧ 100 ≤ I.b ∧ I.b ≠ I.r ∧ I.b ≠ I.k ∧ I.b ≠ I.s ∧ I.b ≠ I.vm ∧ I.b ≠ I.fm
  rk : I.r ≠ I.k
  rs : I.r ≠ I.s ∧ I.r ≠ I.vm ∧ I.r ≠ I.fm
  ks : I.k ≠ I.s ∧ I.k ≠ I.vm ∧ I.k ≠ I.fm
  gr : ∃ own, S.get I.r = some (.cells (encR I st) own) ∧ OwnR own
  gk : ∃ own, S.get I.k = some (.cells (encK st.K) own) ∧ 0 ∈ own
  gb : ∀ t, st.caught = some t → ∃ own, S.get I.b = some (.cells [.str t] own)
  kf : ∀ m, I.r < m → V.clo m st.K.files = true
  o3 : ∀ m, V.clo m I.o3 = true
  o4 : ∀ m, V.clo m I.o4 = true
  o5 : ∀ m, V.clo m I.o5 = true
  hbl : I.b < S.next
structure Keep (S S' : VH) (P : Nat → Prop) : Prop where
  next : S.next ≤ S'.next
  get : ∀ q, q < S.next → ¬ P q → S'.get q = S.get q
theorem Keep.refl (S : VH) (P : Nat → Prop) : Keep S S P := ⟨Nat.le_refl _, fun _ _ _ => rfl⟩
theorem Keep.trans {S S1 S2 : VH} {P : Nat → Prop} (h : Keep S S1 P) (k : Keep S1 S2 P) : Keep S S2 P :=
  ⟨Nat.le_trans h.next k.next, fun q hq hn => (k.get q (Nat.lt_of_lt_of_le hq h.next) hn).trans (h.get q hq hn)⟩
theorem Keep.set {S : VH} {P : Nat → Prop} {i : Nat} {o : VObj} (h : P i) : Keep S (S.set i o) P := ⟨Nat.le_refl _, fun q _ hn => by
  have : ¬ q = i := fun e => hn (e ▸ h)
  simp [this]⟩
theorem Keep.push {S : VH} {P : Nat → Prop} {o : VObj} : Keep S (S.push o) P := ⟨by simp, fun q hq _ => by
  have : ¬ q = S.next := by omega
  simp [this]⟩
theorem Keep.mono {S S' : VH} {P Q : Nat → Prop} (h : Keep S S' P) (hp : ∀ q, P q → Q q) : Keep S S' Q := ⟨h.next, fun q hq hn => h.get q hq fun hpq => hn (hp q hpq)⟩
section
variable {S : VH} {I : Ids} {st : RSt}
theorem Inv.caughtC (h : Inv S I st) : V.clo S.next (caughtV I st.caught) = true := by
  cases e : st.caught with
  | none => rfl
  | some t =>
    have := (h.hb (by rw [e]; simp)).1
    simp [caughtV, this]
theorem Inv.setR (h : Inv S I st) {n d : Int} {i f : Str} {own : List Nat} (hO : OwnR own) : Inv (S.set I.r (.cells (encR I { st with steps := n, depth := d, inn := i, file := f }) own)) I { st with steps := n, depth := d, inn := i, file := f } := by
  have e1 := h.rk.symm
  have e2 := h.rs.1.symm
  have e3 := h.rs.2.1.symm
  have e4 := h.rs.2.2.symm
  obtain ⟨ok, gk, gk0⟩ := h.gk
  obtain ⟨os, gs⟩ := h.hx.gs
  refine ⟨h.g.set h.hr.2, h.hr, h.hk, ⟨h.hx.hs, h.hx.hv, h.hx.hf, h.hx.sv, h.hx.sf, h.hx.vf, ⟨os, by simp [e2, gs]⟩, by simp [e3, h.hx.gv], by simp [e4, h.hx.gf]⟩, h.hxl, h.hb, h.rk, h.rs, h.ks, ⟨own, by simp, hO⟩, ⟨ok, by simp [e1, gk], gk0⟩, fun t ht => ?_, h.kf, h.o3, h.o4, h.o5, h.hbl⟩
  obtain ⟨ob, gb⟩ := h.gb t ht
  have e5 : ¬ I.b = I.r := (h.hb (by rw [ht]; simp)).2.2.1
  exact ⟨ob, by simp [e5, gb]⟩
theorem v_step (h : Inv S I st) (hs : 0 ≤ st.steps) (hm : I.mx < 1000000) :
    (st.steps < I.mx ∧ ∃ own, OwnR own ∧ VCall VT F_run_runner_step [.ptr (some (I.r, 0))] [] S = some (.nilI, [], S.set I.r (.cells (encR I { st with steps := st.steps + 1 }) own))) ∨
    (I.mx ≤ st.steps ∧ VCall VT F_run_runner_step [.ptr (some (I.r, 0))] [] S = some (errG G_api_ErrFuel, [], S)) := by
  obtain ⟨own, gr, hO⟩ := h.gr
  obtain ⟨⟨n0, n1, n2, n3, n4⟩, n7, n8, n9, n10, n11, n12⟩ := hO.no
  obtain ⟨g0, g1⟩ := h.g.ld (g := G_api_ErrFuel) rfl (by decide)
  have hrl := h.hr.1
  have hkl := h.hk.1
  have hsl := h.hx.hs
  have hcv := h.caughtC
  have c3 := h.o3 S.next
  have c4 := h.o4 S.next
  have c5 := h.o5 S.next
  unfold encR at gr
  rcases Int.lt_or_le st.steps I.mx with e | e
  · left
    refine ⟨e, keepO own 8 1, hO.keep, ?_⟩
    have e1 : ¬ I.mx ≤ st.steps := by omega
    have e2 : IntKind.i64.wrap (st.steps + 1) = st.steps + 1 := Go.IntWalk.i64_in _ ⟨by omega, by omega⟩
    rw [VCall_of (F := a_run_runner_step) rfl rfl rfl rfl]
    simp -implicitDefEqProofs [a_run_runner_step, c_run_runner_step, binA, hrl, hkl, hsl, gr, e1, e2, n0, n1, n2, n3, n4, n7, n8, n9, n10, n11, n12, trim_in hrl, encR, hcv, c3, c4, c5]
  · right
    refine ⟨e, ?_⟩
    rw [VCall_of (F := a_run_runner_step) rfl rfl rfl rfl]
    simp -implicitDefEqProofs [a_run_runner_step, c_run_runner_step, binA, hrl, gr, e, g0, g1, n0, n1, n2, n3, n4, n7, n8, n9, n10, n11, n12]
theorem Inv.setK (h : Inv S I st) {tr : List Event} {own : List Nat} (ho : 0 ∈ own) : Inv (S.set I.k (.cells (encK { st.K with trace := tr }) own)) I { st with K := { st.K with trace := tr } } := by
  have e1 := h.rk
  have e2 := h.ks.1.symm
  have e3 := h.ks.2.1.symm
  have e4 := h.ks.2.2.symm
  obtain ⟨orr, gr, hO⟩ := h.gr
  obtain ⟨os, gs⟩ := h.hx.gs
  refine ⟨h.g.set h.hk.2, h.hr, h.hk, ⟨h.hx.hs, h.hx.hv, h.hx.hf, h.hx.sv, h.hx.sf, h.hx.vf, ⟨os, by simp [e2, gs]⟩, by simp [e3, h.hx.gv], by simp [e4, h.hx.gf]⟩, h.hxl, h.hb, h.rk, h.rs, h.ks, ⟨orr, by simp [e1, gr]; rfl, hO⟩, ⟨own, by simp, ho⟩, fun t ht => ?_, h.kf, h.o3, h.o4, h.o5, h.hbl⟩
  obtain ⟨ob, gb⟩ := h.gb t ht
  have e5 : ¬ I.b = I.k := (h.hb (by rw [ht]; simp)).2.2.2.1
  exact ⟨ob, by simp [e5, gb]⟩
theorem Inv.setB (h : Inv S I st) {t u : Str} (hc : st.caught = some t) {own : List Nat} : Inv (S.set I.b (.cells [.str u] own)) I { st with caught := some u } := by
  obtain ⟨b1, b2, b3, b4, b5, b6, b7⟩ := h.hb (by rw [hc]; simp)
  obtain ⟨orr, gr, hO⟩ := h.gr
  obtain ⟨ok, gk, gk0⟩ := h.gk
  obtain ⟨os, gs⟩ := h.hx.gs
  have ec : encR I { st with caught := some u } = encR I st := by unfold encR caughtV; rw [hc]
  refine ⟨h.g.set b2, h.hr, h.hk, ⟨h.hx.hs, h.hx.hv, h.hx.hf, h.hx.sv, h.hx.sf, h.hx.vf, ⟨os, by simp [b5.symm, gs]⟩, by simp [b6.symm, h.hx.gv], by simp [b7.symm, h.hx.gf]⟩, h.hxl, fun _ => ⟨b1, b2, b3, b4, b5, b6, b7⟩, h.rk, h.rs, h.ks, ⟨orr, by rw [ec]; simp [b3.symm, gr], hO⟩, ⟨ok, by simp [b4.symm, gk], gk0⟩, fun t' ht => ?_, h.kf, h.o3, h.o4, h.o5, h.hbl⟩
  obtain rfl := Option.some.inj ht
  exact ⟨own, by simp⟩
theorem v_Write_out {K : Kern} {d : Str} {S : VH} {i : Nat} {own : List Nat} (ht : K.trace.length < 1000000) (h1 : i < S.next) (h2 : S.get i = some (.cells (encK K) own)) (h4 : 0 ∈ own) (h5 : V.clo S.next K.files = true) (hd : d ≠ []) :
    VCall VT F_world_Kernel_Write [.ptr (some (i, 0)), .str [], .str d] [] S = some (.nilI, [], S.set i (.cells (encK { K with trace := K.trace ++ [⟨3, 0, [], d, []⟩] }) (ownN own))) := by
  have hN := v_note (K := K) (k := 3) (n := 0) (a := []) (b := d) (l := []) ht h1 h2 h4 h5
  simp only [strsV, List.map_nil] at hN
  rw [VCall_of (F := a_world_Kernel_Write) rfl rfl rfl rfl]
  simp -implicitDefEqProofs [a_world_Kernel_Write, c_world_Kernel_Write, binA, hN, hd, trim_in h1, h5]
def sayS (st : RSt) (d : Str) : Option RSt := match st.caught with
  | some t => if t.length + d.length ≤ 2000 then some { st with caught := some (t ++ d) } else none
  | none => some (if d = [] then st else { st with K := { st.K with trace := st.K.trace ++ [⟨3, 0, [], d, []⟩] } })
theorem v_say (h : Inv S I st) (hf : st.caught = none → st.file = []) (ht : st.K.trace.length < 1000000) (hc : ∀ t, st.caught = some t → t.length ≤ 2000) {d : Str} (hd : d.length < 1000000) :
    (∃ st' S', sayS st d = some st' ∧ VCall VT F_run_runner_say [.ptr (some (I.r, 0)), .str d] [] S = some (.nilI, [], S') ∧ Inv S' I st' ∧ Keep S S' I.has ∧ S'.next = S.next) ∨
    (sayS st d = none ∧ VCall VT F_run_runner_say [.ptr (some (I.r, 0)), .str d] [] S = some (errG G_api_ErrBig, [], S)) := by
  obtain ⟨own, gr, hO⟩ := h.gr
  obtain ⟨⟨n0, n1, n2, n3, n4⟩, n7, n8, n9, n10, n11, n12⟩ := hO.no
  obtain ⟨ok, gk, gk0⟩ := h.gk
  obtain ⟨g0, g1⟩ := h.g.ld (g := G_api_ErrBig) rfl (by decide)
  have hrl := h.hr.1
  have hkl := h.hk.1
  have hsl := h.hx.hs
  have hkf := h.kf S.next hrl
  unfold encR caughtV at gr
  cases hct : st.caught with
  | none =>
    left
    rw [hct] at gr
    have hfile := hf hct
    rw [hfile] at gr
    by_cases e : d = []
    · subst e
      refine ⟨st, S, by simp [sayS, hct], ?_, h, Keep.refl _ _, rfl⟩
      have hw := v_Write_none (S := S) (n := []) (p := .ptr (some (I.k, 0)))
      rw [VCall_of (F := a_run_runner_say) rfl rfl rfl rfl]
      simp -implicitDefEqProofs [a_run_runner_say, c_run_runner_say, binA, n0, n1, n2, n3, n4, n7, n8, n9, n10, n11, n12, hrl, gr, hw]
    · have hw := v_Write_out (d := d) ht hkl gk gk0 hkf e
      refine ⟨_, S.set I.k (.cells (encK { st.K with trace := st.K.trace ++ [⟨3, 0, [], d, []⟩] }) (ownN ok)), by simp only [sayS, hct, if_neg e], ?_, h.setK mem_ownN, Keep.set (.inr (.inl rfl)), rfl⟩
      rw [VCall_of (F := a_run_runner_say) rfl rfl rfl rfl]
      simp -implicitDefEqProofs [a_run_runner_say, c_run_runner_say, binA, n0, n1, n2, n3, n4, n7, n8, n9, n10, n11, n12, hrl, gr, hw, trim_in hkl, hkf]
  | some t =>
    rw [hct] at gr
    obtain ⟨ob, gb⟩ := h.gb t hct
    have htl := hc t hct
    obtain ⟨b1, b2, b3, b4, b5, b6, b7⟩ := h.hb (by rw [hct]; simp)
    have e2 : IntKind.i64.wrap (2000 - (t.length : Int)) = 2000 - (t.length : Int) := Go.IntWalk.i64_in _ ⟨by omega, by omega⟩
    by_cases e : t.length + d.length ≤ 2000
    · left
      have e3 : ¬ 2000 - (t.length : Int) < (d.length : Int) := by omega
      have e4 : (t.length : Int) + (d.length : Int) ≤ 9223372036854775807 := by omega
      refine ⟨_, S.set I.b (.cells [.str (t ++ d)] (keepO ob 0 1)), by simp only [sayS, hct, if_pos e], ?_, h.setB hct, Keep.set (.inr (.inr (.inr (.inr (.inr rfl))))), rfl⟩
      rw [VCall_of (F := a_run_runner_say) rfl rfl rfl rfl]
      by_cases h0 : 0 ∈ ob <;> simp -implicitDefEqProofs [a_run_runner_say, c_run_runner_say, binA, n0, n1, n2, n3, n4, n7, n8, n9, n10, n11, n12, hrl, b1, gr, gb, e2, e3, e4, h0, trim_in b1]
    · right
      have e3 : 2000 - (t.length : Int) < (d.length : Int) := by omega
      refine ⟨by simp only [sayS, hct, if_neg e], ?_⟩
      rw [VCall_of (F := a_run_runner_say) rfl rfl rfl rfl]
      by_cases h0 : 0 ∈ ob <;> simp -implicitDefEqProofs [a_run_runner_say, c_run_runner_say, binA, n0, n1, n2, n3, n4, n7, n8, n9, n10, n11, n12, hrl, b1, gr, gb, e2, e3, h0, g0, g1]
end
end Go.Proofs.YtbpgbhmibmcbnaaGreatDoor.Val

/-! The runner: something deeper; what is caught. -/
set_option linter.unusedSimpArgs false
set_option linter.unusedVariables false
namespace Go.Proofs.YtbpgbhmibmcbnaaGreatDoor.Val
open Go Go.Proofs.YtbpgbhmibmcbnaaGreatDoor.Ram

theorem caughtV_some {I : Ids} {t : Str} : caughtV I (some t) = .ptr (some (I.b, 0)) := rfl
@[simp] theorem one_caught {I : Ids} {c : Option Str} : oneV (caughtV I c) = true := by cases c <;> rfl
@[simp] theorem cells_caught {I : Ids} {c : Option Str} : cellsV (caughtV I c) = [caughtV I c] := by cases c <;> rfl
def errO : Option Nat → V
  | none => .nilI
  | some g => errG g
def encX (I : Ids) (cv : V) (st : RSt) : List V := [.ptr (some (I.k, 0)), .ptr (some (I.s, 0)), .nilFn, .int .i64 I.mx, .int .i64 I.dm, I.o3, I.o4, I.o5, .int .i64 st.steps, .int .i64 st.depth, .str st.inn, cv, .str st.file]
structure InvX (S : VH) (I : Ids) (st : RSt) : Prop where
  g : GlOk S
  hr : I.r < S.next ∧ 100 ≤ I.r
  hk : I.k < S.next ∧ 100 ≤ I.k
  hx : IsS S I.s I.vm I.fm st.X
  hxl : 100 ≤ I.s ∧ 100 ≤ I.vm ∧ 100 ≤ I.fm
  rk : I.r ≠ I.k
  rs : I.r ≠ I.s ∧ I.r ≠ I.vm ∧ I.r ≠ I.fm
  ks : I.k ≠ I.s ∧ I.k ≠ I.vm ∧ I.k ≠ I.fm
  gr : ∃ cv own, S.get I.r = some (.cells (encX I cv st) own) ∧ OwnR own
  gk : ∃ own, S.get I.k = some (.cells (encK st.K) own) ∧ 0 ∈ own
  kf : ∀ m, I.r < m → V.clo m st.K.files = true
theorem Inv.toX {S : VH} {I : Ids} {st : RSt} (h : Inv S I st) : InvX S I st := by
  obtain ⟨own, gr, hO⟩ := h.gr
  exact ⟨h.g, h.hr, h.hk, h.hx, h.hxl, h.rk, h.rs, h.ks, ⟨_, own, gr, hO⟩, h.gk, h.kf⟩
theorem InvX.mv {S : VH} {I : Ids} {b c : Nat} {st : RSt} (h : InvX S { I with b := b } st) : InvX S { I with b := c } st := ⟨h.g, h.hr, h.hk, h.hx, h.hxl, h.rk, h.rs, h.ks, h.gr, h.gk, h.kf⟩
theorem InvX.ext {S S' : VH} {I : Ids} {st : RSt} (h : InvX S I st) (hn : S.next ≤ S'.next) (hg : S'.gl = S.gl) (ho : ∀ q, q < 100 ∨ q = I.r ∨ q = I.k ∨ q = I.s ∨ q = I.vm ∨ q = I.fm → S'.get q = S.get q) : InvX S' I st := by
  obtain ⟨r1, r2⟩ := h.hr
  obtain ⟨k1, k2⟩ := h.hk
  obtain ⟨cv, own, gr, hO⟩ := h.gr
  obtain ⟨ok, gk, gk0⟩ := h.gk
  obtain ⟨os, gs⟩ := h.hx.gs
  have s1 := h.hx.hs
  have s2 := h.hx.hv
  have s3 := h.hx.hf
  refine ⟨⟨hg.trans h.g.gl, fun q hq => ?_⟩, ⟨by omega, r2⟩, ⟨by omega, k2⟩, ⟨by omega, by omega, by omega, h.hx.sv, h.hx.sf, h.hx.vf, ⟨os, ?_⟩, ?_, ?_⟩, h.hxl, h.rk, h.rs, h.ks, ⟨cv, own, ?_, hO⟩, ⟨ok, ?_, gk0⟩, h.kf⟩
  · rw [ho q (.inl hq)]; exact h.g.low q hq
  · rw [ho _ (.inr (.inr (.inr (.inl rfl))))]; exact gs
  · rw [ho _ (.inr (.inr (.inr (.inr (.inl rfl)))))]; exact h.hx.gv
  · rw [ho _ (.inr (.inr (.inr (.inr (.inr rfl)))))]; exact h.hx.gf
  · rw [ho _ (.inr (.inl rfl))]; exact gr
  · rw [ho _ (.inr (.inr (.inl rfl)))]; exact gk
def InvE (E : Option Nat) (S : VH) (I : Ids) (st : RSt) : Prop := match E with
  | none => Inv S I st
  | some _ => InvX S I st
theorem Inv.toE {E : Option Nat} {S : VH} {I : Ids} {st : RSt} (h : Inv S I st) : InvE E S I st := by
  cases E with
  | none => exact h
  | some g => exact h.toX
section
variable {S : VH} {I : Ids} {st : RSt}
theorem v_deeper (h : Inv S I st) (hd : 0 ≤ st.depth) (hm : I.dm < 1000000) {g : Nat} {caps : List V} {P : Nat → Prop} (hP : ∀ q, I.has q → P q) {E : Option Nat} (hE : ∀ e, E = some e → e < 50) {st2 : RSt} {Q : VH → Prop} (hQ : ∀ S o, Q S → Q (S.set I.r o)) (hd2 : 0 ≤ st2.depth ∧ st2.depth < 1000000)
    (hc : st.depth < I.dm → ∀ S1, Inv S1 I { st with depth := st.depth + 1 } → Keep S S1 I.has → S1.next = S.next → ∃ S2, VCall VT g caps [] S1 = some (errO E, [], S2) ∧ InvE E S2 I st2 ∧ Keep S1 S2 P ∧ Q S2) :
    (I.dm ≤ st.depth ∧ VCall VT F_run_runner_deeper [.ptr (some (I.r, 0)), .fn g caps] [] S = some (errG G_api_ErrDeep, [], S)) ∨
    (st.depth < I.dm ∧ ∃ S', VCall VT F_run_runner_deeper [.ptr (some (I.r, 0)), .fn g caps] [] S = some (errO E, [], S') ∧ InvE E S' I (if E = none then { st2 with depth := st2.depth - 1 } else st2) ∧ Keep S S' P ∧ Q S') := by
  obtain ⟨own, gr, hO⟩ := h.gr
  obtain ⟨⟨n0, n1, n2, n3, n4⟩, n7, n8, n9, n10, n11, n12⟩ := hO.no
  obtain ⟨g0, g1⟩ := h.g.ld (g := G_api_ErrDeep) rfl (by decide)
  have hrl := h.hr.1
  rcases Int.lt_or_le st.depth I.dm with e | e
  · right
    refine ⟨e, ?_⟩
    have hi := h.setR (n := st.steps) (d := st.depth + 1) (i := st.inn) (f := st.file) (own := keepO own 9 1) hO.keep
    obtain ⟨S2, k1, k2, k3, kq⟩ := hc e _ hi (Keep.set (.inl rfl)) rfl
    have hk1 : Keep S (S.set I.r (.cells (encR I { st with steps := st.steps, depth := st.depth + 1, inn := st.inn, file := st.file }) (keepO own 9 1))) P := (Keep.set (P := I.has) (.inl rfl)).mono hP
    have e1 : ¬ I.dm ≤ st.depth := by omega
    have e2 : IntKind.i64.wrap (st.depth + 1) = st.depth + 1 := Go.IntWalk.i64_in _ ⟨by omega, by omega⟩
    unfold encR at gr k1
    cases E with
    | none =>
      have k2 : Inv S2 I st2 := k2
      obtain ⟨own2, gr2, hO2⟩ := k2.gr
      obtain ⟨⟨m0, m1, m2, m3, m4⟩, m7, m8, m9, m10, m11, m12⟩ := hO2.no
      have hi2 := k2.setR (n := st2.steps) (d := st2.depth - 1) (i := st2.inn) (f := st2.file) (own := keepO own2 9 1) hO2.keep
      refine ⟨_, ?_, hi2, (hk1.trans k3).trans ((Keep.set (P := I.has) (.inl rfl)).mono hP), hQ _ _ kq⟩
      have e3 : IntKind.i64.wrap (st2.depth - 1) = st2.depth - 1 := Go.IntWalk.i64_in _ ⟨by omega, by omega⟩
      unfold encR at gr2
      simp only [errO] at k1 ⊢
      rw [VCall_made (F := a_run_runner_deeper) rfl rfl rfl rfl]
      simp -implicitDefEqProofs [a_run_runner_deeper, c_run_runner_deeper, binA, hrl, gr, e1, e2, e3, n0, n1, n2, n3, n4, n7, n8, n9, n10, n11, n12, k1, gr2, m0, m1, m2, m3, m4, m7, m8, m9, m10, m11, m12, encR]
    | some x =>
      refine ⟨S2, ?_, k2, hk1.trans k3, kq⟩
      have hx := hE x rfl
      simp only [errO] at k1 ⊢
      rw [VCall_made (F := a_run_runner_deeper) rfl rfl rfl rfl]
      simp -implicitDefEqProofs [a_run_runner_deeper, c_run_runner_deeper, binA, hrl, gr, e1, e2, n0, n1, n2, n3, n4, n7, n8, n9, n10, n11, n12, k1]
  · left
    refine ⟨e, ?_⟩
    unfold encR at gr
    rw [VCall_made (F := a_run_runner_deeper) rfl rfl rfl rfl]
    simp -implicitDefEqProofs [a_run_runner_deeper, c_run_runner_deeper, binA, hrl, gr, e, g0, g1, n0, n1, n2, n3, n4, n7, n8, n9, n10, n11, n12]
theorem Inv.turn (h : Inv S I st) {o : VObj} {own ob : List Nat} (hO : OwnR own) : Inv (((S.push (.cells [.str []] ob)).push o).set I.r (.cells (encR { I with b := S.next } { st with caught := some [], file := [] }) own)) { I with b := S.next } { st with caught := some [], file := [] } := by
  obtain ⟨r1, r2⟩ := h.hr
  obtain ⟨k1, k2⟩ := h.hk
  obtain ⟨x1, x2, x3⟩ := h.hxl
  have s1 := h.hx.hs
  have s2 := h.hx.hv
  have s3 := h.hx.hf
  obtain ⟨e2, e3, e4⟩ := h.rs
  have e1 := h.rk
  obtain ⟨ok, gk, gk0⟩ := h.gk
  obtain ⟨os, gs⟩ := h.hx.gs
  have old : ∀ q, q < S.next → q ≠ I.r → (((S.push (.cells [.str []] ob)).push o).set I.r (.cells (encR { I with b := S.next } { st with caught := some [], file := [] }) own)).get q = S.get q := fun q hq hn => by
    have a1 : ¬ q = S.next := by omega
    have a2 : ¬ q = S.next + 1 := by omega
    simp [hn, a1, a2]
  refine ⟨⟨h.g.gl, fun q hq => ?_⟩, ⟨by simp; omega, r2⟩, ⟨by simp; omega, k2⟩, ⟨by simp; omega, by simp; omega, by simp; omega, h.hx.sv, h.hx.sf, h.hx.vf, ⟨os, ?_⟩, ?_, ?_⟩, h.hxl, fun _ => ⟨by simp; omega, by simp only; omega, by simp only; omega, by simp only; omega, by simp only; omega, by simp only; omega, by simp only; omega⟩, e1, h.rs, h.ks, ⟨own, by simp, hO⟩, ⟨ok, ?_, gk0⟩, fun t ht => ?_, h.kf, h.o3, h.o4, h.o5, by simp; omega⟩
  · rw [old q (by omega) (by omega)]; exact h.g.low q hq
  · rw [old _ s1 (Ne.symm e2)]; exact gs
  · rw [old _ s2 (Ne.symm e3)]; exact h.hx.gv
  · rw [old _ s3 (Ne.symm e4)]; exact h.hx.gf
  · rw [old _ k1 (Ne.symm e1)]; exact gk
  · obtain rfl := Option.some.inj ht
    have a1 : ¬ S.next = I.r := by omega
    exact ⟨ob, by simp [a1]⟩
theorem Inv.unturn {S2 : VH} {st2 : RSt} {c : Nat} (k : Inv S2 { I with b := c } st2) (h : Inv S I st) (hn : S.next ≤ S2.next) (hb : ∀ t, st.caught = some t → S2.get I.b = S.get I.b) {own : List Nat} (hO : OwnR own) :
    Inv (S2.set I.r (.cells (encR I { st2 with caught := st.caught, file := st.file }) own)) I { st2 with caught := st.caught, file := st.file } := by
  have e1 := k.rk.symm
  obtain ⟨e2, e3, e4⟩ := k.rs
  obtain ⟨ok, gk, gk0⟩ := k.gk
  obtain ⟨os, gs⟩ := k.hx.gs
  have old : ∀ q, q ≠ I.r → (S2.set I.r (.cells (encR I { st2 with caught := st.caught, file := st.file }) own)).get q = S2.get q := fun q hn => by simp [hn]
  refine ⟨k.g.set h.hr.2, k.hr, k.hk, ⟨k.hx.hs, k.hx.hv, k.hx.hf, k.hx.sv, k.hx.sf, k.hx.vf, ⟨os, ?_⟩, ?_, ?_⟩, k.hxl, fun hc => ?_, k.rk, k.rs, k.ks, ⟨own, by simp, hO⟩, ⟨ok, ?_, gk0⟩, fun t ht => ?_, k.kf, k.o3, k.o4, k.o5, Nat.lt_of_lt_of_le h.hbl hn⟩
  · rw [old _ (Ne.symm e2)]; exact gs
  · rw [old _ (Ne.symm e3)]; exact k.hx.gv
  · rw [old _ (Ne.symm e4)]; exact k.hx.gf
  · obtain ⟨b1, b2⟩ := h.hb hc
    exact ⟨Nat.lt_of_lt_of_le b1 hn, b2⟩
  · rw [old _ e1]; exact gk
  · obtain ⟨b1, b2, b3, _⟩ := h.hb (by rw [show st.caught = some t from ht]; simp)
    obtain ⟨ob, gb⟩ := h.gb t ht
    exact ⟨ob, by rw [old _ b3, hb t ht]; exact gb⟩
def catchV (E : Option Nat) (u : Str) : V := match E with
  | none => .tup [.str u, .nilI]
  | some e => .tup [.str [], errG e]
theorem v_catchQ (h : Inv S I st) {g : Nat} {caps : List V} {X : Nat → Prop} {Q : VH → Prop} (hQ : ∀ S2 o, Q S2 → Q (S2.set I.r o)) (hX : ∀ q, X q → q < S.next ∧ ¬ I.has q) {E : Option Nat} (hE : ∀ e, E = some e → e < 50) {st2 : RSt} {u : Str} (hu : E = none → st2.caught = some u)
    (hc : ∀ S1, Inv S1 { I with b := S.next } { st with caught := some [], file := [] } → Keep S S1 I.has → S1.next = S.next + 1 + 1 → ∃ S2, VCall VT g caps [] S1 = some (errO E, [], S2) ∧ InvE E S2 { I with b := S.next } st2 ∧ (Keep S1 S2 fun q => Ids.has { I with b := S.next } q ∨ X q) ∧ Q S2) :
    ∃ S', VCall VT F_run_runner_catch [.ptr (some (I.r, 0)), .fn g caps] [] S = some (catchV E u, [], S') ∧ InvE E S' I (if E = none then { st2 with caught := st.caught, file := st.file } else st2) ∧ (Keep S S' fun q => I.has q ∨ X q) ∧ Q S' := by
  obtain ⟨own, gr, hO⟩ := h.gr
  obtain ⟨⟨n0, n1, n2, n3, n4⟩, n7, n8, n9, n10, n11, n12⟩ := hO.no
  have hrl := h.hr.1
  have a1 : ¬ I.r = S.next := by omega
  have a2 : ¬ I.r = S.next + 1 := by omega
  have hi := h.turn (o := .cells [caughtV I st.caught, .str st.file] []) (own := keepO own 11 2) (ob := []) hO.keep
  have hk1 : Keep S (((S.push (.cells [.str []] [])).push (.cells [caughtV I st.caught, .str st.file] [])).set I.r (.cells (encR { I with b := S.next } { st with caught := some [], file := [] }) (keepO own 11 2))) I.has :=
    ((Keep.push (P := I.has)).trans Keep.push).trans (Keep.set (.inl rfl))
  obtain ⟨S2, k1, k2, k3, kq⟩ := hc _ hi hk1 (by simp)
  have hk3 : Keep S S2 fun q => I.has q ∨ X q := ⟨by have := k3.next; simp at this; omega, fun q hq hn => by
    have hn1 : ¬ I.has q := fun e => hn (.inl e)
    rw [k3.get q (by simp; omega) (fun e => by
      rcases e with (e | e | e | e | e | e) | e
      · exact hn1 (.inl e)
      · exact hn1 (.inr (.inl e))
      · exact hn1 (.inr (.inr (.inl e)))
      · exact hn1 (.inr (.inr (.inr (.inl e))))
      · exact hn1 (.inr (.inr (.inr (.inr (.inl e)))))
      · simp only at e; omega
      · exact hn (.inr e))]
    exact hk1.get q hq hn1⟩
  have hw : S2.get (S.next + 1) = some (.cells [caughtV I st.caught, .str st.file] []) := by
    rw [k3.get (S.next + 1) (by simp) (fun e => by
      rcases e with (e | e | e | e | e | e) | e
      · simp only at e; omega
      · have := h.hk.1; simp only at e; omega
      · have := h.hx.hs; simp only at e; omega
      · have := h.hx.hv; simp only at e; omega
      · have := h.hx.hf; simp only at e; omega
      · simp only at e; omega
      · have := (hX _ e).1; omega)]
    have a3 : ¬ S.next + 1 = I.r := by omega
    simp [a3]
  unfold encR at gr k1
  simp only [caughtV_some] at k1
  cases E with
  | none =>
    have k2 : Inv S2 { I with b := S.next } st2 := k2
    obtain ⟨own2, gr2, hO2⟩ := k2.gr
    have huc := hu rfl
    obtain ⟨ob, gb⟩ := k2.gb u huc
    simp only at gb gr2
    have hi2 := k2.unturn h hk3.next (fun t ht => by
      obtain ⟨b1, b2, b3, b4, b5, b6, b7⟩ := h.hb (by rw [ht]; simp)
      rw [k3.get I.b (by simp; omega) (fun e => by
        rcases e with (e | e | e | e | e | e) | e
        · exact b3 e
        · exact b4 e
        · exact b5 e
        · exact b6 e
        · exact b7 e
        · simp only at e; omega
        · exact (hX _ e).2 (.inr (.inr (.inr (.inr (.inr rfl))))))]
      have a3 : ¬ I.b = S.next := by omega
      have a4 : ¬ I.b = S.next + 1 := by omega
      simp [b3, a3, a4]) (own := keepO own2 11 2) hO2.keep
    refine ⟨_, ?_, hi2, hk3.trans (Keep.set (.inl (.inl rfl))), hQ _ _ kq⟩
    unfold encR at gr2
    simp only [errO] at k1
    rw [huc] at gr2
    simp only [caughtV_some] at gr2
    have a5 : ¬ S.next = I.r := by omega
    rw [VCall_made (F := a_run_runner_catch) rfl rfl rfl rfl]
    simp -implicitDefEqProofs [a_run_runner_catch, c_run_runner_catch, binA, hrl, gr, n0, n1, n2, n3, n4, n7, n8, n9, n10, n11, n12, a1, a2, a5, k1, gr2, gb, hw, encR, catchV]
  | some x =>
    have hx := hE x rfl
    simp only [errO] at k1
    refine ⟨S2, ?_, InvX.mv (c := I.b) k2, hk3, kq⟩
    rw [VCall_made (F := a_run_runner_catch) rfl rfl rfl rfl]
    simp -implicitDefEqProofs [a_run_runner_catch, c_run_runner_catch, binA, hrl, gr, n0, n1, n2, n3, n4, n7, n8, n9, n10, n11, n12, a1, a2, k1, catchV]
end
end Go.Proofs.YtbpgbhmibmcbnaaGreatDoor.Val

/-! What a command and a word come to, as rules: words that are a text, a variable; a command that is nothing, a value, a function. -/
set_option linter.unusedSimpArgs false
set_option linter.unusedVariables false
namespace Go.Proofs.YtbpgbhmibmcbnaaGreatDoor.Val
open Go Go.Proofs.YtbpgbhmibmcbnaaGreatDoor.Ram

theorem Inv.ext {S S' : VH} {I : Ids} {st : RSt} (h : Inv S I st) (hn : S.next ≤ S'.next) (hg : S'.gl = S.gl) (ho : ∀ q, q < S.next → S'.get q = S.get q) : Inv S' I st := by
  obtain ⟨r1, r2⟩ := h.hr
  obtain ⟨k1, k2⟩ := h.hk
  obtain ⟨own, gr, hO⟩ := h.gr
  obtain ⟨ok, gk, gk0⟩ := h.gk
  obtain ⟨os, gs⟩ := h.hx.gs
  have s1 := h.hx.hs
  have s2 := h.hx.hv
  have s3 := h.hx.hf
  refine ⟨⟨hg.trans h.g.gl, fun q hq => ?_⟩, ⟨by omega, r2⟩, ⟨by omega, k2⟩, ⟨by omega, by omega, by omega, h.hx.sv, h.hx.sf, h.hx.vf, ⟨os, ?_⟩, ?_, ?_⟩, h.hxl, fun hc => ?_, h.rk, h.rs, h.ks, ⟨own, ?_, hO⟩, ⟨ok, ?_, gk0⟩, fun t ht => ?_, h.kf, h.o3, h.o4, h.o5, Nat.lt_of_lt_of_le h.hbl hn⟩
  · rw [ho q (by omega)]; exact h.g.low q hq
  · rw [ho _ s1]; exact gs
  · rw [ho _ s2]; exact h.hx.gv
  · rw [ho _ s3]; exact h.hx.gf
  · obtain ⟨b1, b2⟩ := h.hb hc; exact ⟨by omega, b2⟩
  · rw [ho _ r1]; exact gr
  · rw [ho _ k1]; exact gk
  · obtain ⟨ob, gb⟩ := h.gb t ht
    exact ⟨ob, by rw [ho _ (h.hb (by rw [ht]; simp)).1]; exact gb⟩
theorem Inv.push {S : VH} {I : Ids} {st : RSt} (h : Inv S I st) {o : VObj} : Inv (S.push o) I st := h.ext (by simp) rfl fun q hq => by
  have : ¬ q = S.next := by omega
  simp [this]
theorem InvE.push {E : Option Nat} {S : VH} {I : Ids} {st : RSt} (h : InvE E S I st) {o : VObj} : InvE E (S.push o) I st := by
  cases E with
  | none => exact Inv.push (I := I) h
  | some g =>
    have h : InvX S I st := h
    exact h.ext (by simp) rfl fun q hq => by
      have e1 := h.hr
      have e2 := h.hk
      have e3 := h.hx.hs
      have e4 := h.hx.hv
      have e5 := h.hx.hf
      have : ¬ q = S.next := by omega
      simp [this]
theorem Inv.trim {S S1 : VH} {I : Ids} {st st1 : RSt} (h : Inv S I st) (k : Inv S1 I st1) : Inv (VH.trim S S1) I st1 := by
  obtain ⟨own, gr, hO⟩ := k.gr
  obtain ⟨ok, gk, gk0⟩ := k.gk
  obtain ⟨os, gs⟩ := k.hx.gs
  have old : ∀ q, q < S.next → (VH.trim S S1).get q = S1.get q := fun q hq => by simp [VH.trim, hq]
  have low : 100 ≤ S.next := by have := h.hr; omega
  refine ⟨⟨h.g.gl, fun q hq => ?_⟩, h.hr, h.hk, ⟨h.hx.hs, h.hx.hv, h.hx.hf, k.hx.sv, k.hx.sf, k.hx.vf, ⟨os, ?_⟩, ?_, ?_⟩, k.hxl, fun hc => ⟨h.hbl, (k.hb hc).2⟩, k.rk, k.rs, k.ks, ⟨own, ?_, hO⟩, ⟨ok, ?_, gk0⟩, fun t ht => ?_, k.kf, k.o3, k.o4, k.o5, h.hbl⟩
  · rw [old q (by omega)]; exact k.g.low q hq
  · rw [old _ h.hx.hs]; exact gs
  · rw [old _ h.hx.hv]; exact k.hx.gv
  · rw [old _ h.hx.hf]; exact k.hx.gf
  · rw [old _ h.hr.1]; exact gr
  · rw [old _ h.hk.1]; exact gk
  · obtain ⟨ob, gb⟩ := k.gb t ht
    exact ⟨ob, by rw [old _ h.hbl]; exact gb⟩
theorem Keep.trim {S S1 : VH} {P : Nat → Prop} (h : Keep S S1 P) : Keep S (VH.trim S S1) P := ⟨Nat.le_refl _, fun q hq hn => by
  rw [show (VH.trim S S1).get q = S1.get q by simp [VH.trim, hq]]; exact h.get q hq hn⟩
theorem Inv.notNew {S : VH} {I : Ids} {st : RSt} (h : Inv S I st) {q : Nat} (hq : S.next ≤ q) : ¬ I.has q := fun e => by
  have e1 := h.hk.1
  have e2 := h.hx.hs
  have e3 := h.hx.hv
  have e4 := h.hx.hf
  have e5 := h.hr.1
  have e6 := h.hbl
  rcases e with e | e | e | e | e | e <;> omega
theorem Inv.setO {S : VH} {I : Ids} {st : RSt} (h : Inv S I st) {i : Nat} {o : VObj} (hi : ¬ I.has i) (h100 : 100 ≤ i) : Inv (S.set i o) I st := by
  have n : ∀ q, I.has q → (S.set i o).get q = S.get q := fun q hq => by
    have : ¬ q = i := fun e => hi (e ▸ hq)
    simp [this]
  obtain ⟨own, gr, hO⟩ := h.gr
  obtain ⟨ok, gk, gk0⟩ := h.gk
  obtain ⟨os, gs⟩ := h.hx.gs
  refine ⟨h.g.set h100, h.hr, h.hk, ⟨h.hx.hs, h.hx.hv, h.hx.hf, h.hx.sv, h.hx.sf, h.hx.vf, ⟨os, ?_⟩, ?_, ?_⟩, h.hxl, h.hb, h.rk, h.rs, h.ks, ⟨own, ?_, hO⟩, ⟨ok, ?_, gk0⟩, fun t ht => ?_, h.kf, h.o3, h.o4, h.o5, h.hbl⟩
  · rw [n _ (.inr (.inr (.inl rfl)))]; exact gs
  · rw [n _ (.inr (.inr (.inr (.inl rfl))))]; exact h.hx.gv
  · rw [n _ (.inr (.inr (.inr (.inr (.inl rfl)))))]; exact h.hx.gf
  · rw [n _ (.inl rfl)]; exact gr
  · rw [n _ (.inr (.inl rfl))]; exact gk
  · obtain ⟨ob, gb⟩ := h.gb t ht
    exact ⟨ob, by rw [n _ (.inr (.inr (.inr (.inr (.inr rfl)))))]; exact gb⟩
theorem InvE.setO {E : Option Nat} {S : VH} {I : Ids} {st : RSt} (h : InvE E S I st) {i : Nat} {o : VObj} (hi : ¬ I.has i) (h100 : 100 ≤ i) : InvE E (S.set i o) I st := by
  cases E with
  | none => exact Inv.setO (I := I) h hi h100
  | some g =>
    have h : InvX S I st := h
    exact h.ext (Nat.le_refl _) rfl fun q hq => by
      have : ¬ q = i := fun e => by
        subst e
        rcases hq with e | e | e | e | e | e
        · omega
        · exact hi (.inl e)
        · exact hi (.inr (.inl e))
        · exact hi (.inr (.inr (.inl e)))
        · exact hi (.inr (.inr (.inr (.inl e))))
        · exact hi (.inr (.inr (.inr (.inr (.inl e)))))
      simp [this]
theorem Inv.setV {S : VH} {I : Ids} {st : RSt} (h : Inv S I st) {x : Sto} {o : VObj} (hx : IsS (S.set I.vm o) I.s I.vm I.fm x) : Inv (S.set I.vm o) I { st with X := x } := by
  obtain ⟨own, gr, hO⟩ := h.gr
  obtain ⟨ok, gk, gk0⟩ := h.gk
  have e1 := h.rs.2.1
  have e2 := h.ks.2.1
  refine ⟨h.g.set h.hxl.2.1, h.hr, h.hk, hx, h.hxl, h.hb, h.rk, h.rs, h.ks, ⟨own, by simp [e1, gr]; rfl, hO⟩, ⟨ok, by simp [e2, gk], gk0⟩, fun t ht => ?_, h.kf, h.o3, h.o4, h.o5, h.hbl⟩
  obtain ⟨ob, gb⟩ := h.gb t ht
  have e5 := (h.hb (by rw [show st.caught = some t from ht]; simp)).2.2.2.2.2.1
  exact ⟨ob, by simp [e5, gb]⟩
theorem Inv.setF {S : VH} {I : Ids} {st : RSt} (h : Inv S I st) {x : Sto} {o : VObj} (hx : IsS (S.set I.fm o) I.s I.vm I.fm x) : Inv (S.set I.fm o) I { st with X := x } := by
  obtain ⟨own, gr, hO⟩ := h.gr
  obtain ⟨ok, gk, gk0⟩ := h.gk
  have e1 := h.rs.2.2
  have e2 := h.ks.2.2
  refine ⟨h.g.set h.hxl.2.2, h.hr, h.hk, hx, h.hxl, h.hb, h.rk, h.rs, h.ks, ⟨own, by simp [e1, gr]; rfl, hO⟩, ⟨ok, by simp [e2, gk], gk0⟩, fun t ht => ?_, h.kf, h.o3, h.o4, h.o5, h.hbl⟩
  obtain ⟨ob, gb⟩ := h.gb t ht
  have e5 := (h.hb (by rw [show st.caught = some t from ht]; simp)).2.2.2.2.2.2
  exact ⟨ob, by simp [e5, gb]⟩
theorem Inv.setS {S : VH} {I : Ids} {st : RSt} (h : Inv S I st) {x : Sto} {o : VObj} (hx : IsS (S.set I.s o) I.s I.vm I.fm x) : Inv (S.set I.s o) I { st with X := x } := by
  obtain ⟨own, gr, hO⟩ := h.gr
  obtain ⟨ok, gk, gk0⟩ := h.gk
  have e1 := h.rs.1
  have e2 := h.ks.1
  refine ⟨h.g.set h.hxl.1, h.hr, h.hk, hx, h.hxl, h.hb, h.rk, h.rs, h.ks, ⟨own, by simp [e1, gr]; rfl, hO⟩, ⟨ok, by simp [e2, gk], gk0⟩, fun t ht => ?_, h.kf, h.o3, h.o4, h.o5, h.hbl⟩
  obtain ⟨ob, gb⟩ := h.gb t ht
  have e5 := (h.hb (by rw [show st.caught = some t from ht]; simp)).2.2.2.2.1
  exact ⟨ob, by simp [e5, gb]⟩
structure RSt.Ok (st : RSt) : Prop where
  s0 : 0 ≤ st.steps
  d0 : 0 ≤ st.depth ∧ st.depth < 1000000
  x : st.X.ok
  t : st.K.trace.length < 1000000
  c : ∀ t, st.caught = some t → t.length ≤ 2000
  f : st.caught = none → st.file = []
def WordRun (mx dm : Int) (w : Tr) (st : RSt) (E : Option Nat) (l : List Str) (st' : RSt) : Prop := ∀ S I, I.mx = mx → I.dm = dm → Inv S I st → ∃ S', VCall VT F_run_runner_word [.ptr (some (I.r, 0)), tv w] [] S = some (.tup [strsV (if E = none then l else []), errO E], [], S') ∧ InvE E S' I st' ∧ Keep S S' I.has
def DoRun (mx dm : Int) (c : Tr) (st : RSt) (E : Option Nat) (v : Int) (st' : RSt) : Prop := ∀ S I, I.mx = mx → I.dm = dm → Inv S I st → ∃ S', VCall VT F_run_runner_do [.ptr (some (I.r, 0)), tv c] [] S = some (.tup [.int .i64 v, errO E], [], S') ∧ InvE E S' I st' ∧ Keep S S' I.has
structure WordOk (mx dm : Int) (w : Tr) (st : RSt) (E : Option Nat) (l : List Str) (st' : RSt) : Prop where
  sz : w.rows.length < 900000
  same : E = none → st'.caught.isSome = st.caught.isSome
  err : ∀ e, E = some e → e < 50
  run : WordRun mx dm w st E l st'
structure DoOk (mx dm : Int) (c : Tr) (st : RSt) (E : Option Nat) (v : Int) (st' : RSt) : Prop where
  sz : c.rows.length < 900000
  same : E = none → st'.caught.isSome = st.caught.isSome
  err : ∀ e, E = some e → e < 50
  run : DoRun mx dm c st E v st'
section
variable {mx dm : Int} {st : RSt}
theorem word_lit {n : Int} {s : Str} : WordOk mx dm (.mk 1 n s []) st none [s] st := by
  refine ⟨by simp [Tr.rows, rowsT], fun _ => rfl, fun e he => (by cases he), ?_⟩
  intro S I _ _ h
  refine ⟨S.push (.cells (ndRow 1 n 0 1 s) []), ?_, h.push, Keep.push⟩
  rw [VCall_made (F := a_run_runner_word) rfl rfl rfl rfl]
  simp -implicitDefEqProofs [a_run_runner_word, c_run_runner_word, binA, Tr.rows, rowsT, errO]
theorem word_var {n : Int} {s : Str} (ho : st.X.ok) : WordOk mx dm (.mk 2 n s []) st none (st.X.get s).1 st := by
  refine ⟨by simp [Tr.rows, rowsT], fun _ => rfl, fun e he => (by cases he), ?_⟩
  intro S I _ _ h
  obtain ⟨own, gr, hO⟩ := h.gr
  obtain ⟨⟨n0, n1, n2, n3, n4⟩, n7, n8, n9, n10, n11, n12⟩ := hO.no
  have hp := h.push (o := .cells (ndRow 2 n 0 1 s) [])
  have hG := v_Get (n := s) hp.hx ho
  have hrl := h.hr.1
  have a1 : ¬ I.r = S.next := by omega
  refine ⟨S.push (.cells (ndRow 2 n 0 1 s) []), ?_, hp, Keep.push⟩
  unfold encR at gr
  rw [VCall_made (F := a_run_runner_word) rfl rfl rfl rfl]
  simp -implicitDefEqProofs [a_run_runner_word, c_run_runner_word, binA, Tr.rows, rowsT, errO, gr, hG, a1, n0, n1, n2, n3, n4]
theorem do_nop {n : Int} {s : Str} : DoOk mx dm (.mk 20 n s []) st none 0 st := by
  refine ⟨by simp [Tr.rows, rowsT], fun _ => rfl, fun e he => (by cases he), ?_⟩
  intro S I _ _ h
  have hk : VCall VT F_run_kids [tv (.mk 20 n s [])] [] (S.push (.cells [.int .i64 0, .int .i64 0, .int .i64 0, .int .i64 0, .str []] [])) = some (.lst 1 [], [], S.push (.cells [.int .i64 0, .int .i64 0, .int .i64 0, .int .i64 0, .str []] [])) := v_kids (t := .mk 20 n s []) (by simp [Tr.rows, rowsT]) (by simp [Tr.kids])
  refine ⟨S.push (.cells (ndRow 20 n 0 1 s) []), ?_, h.push, Keep.push⟩
  rw [VCall_made (F := a_run_runner_do) rfl rfl rfl rfl]
  simp -implicitDefEqProofs [a_run_runner_do, c_run_runner_do, binA, Tr.rows, rowsT, errO, hk]
theorem kids_le (t : Tr) : t.kids.length ≤ t.rows.length := by
  rw [t.rows_eq]
  have : ∀ l : List Tr, l.length ≤ (rowsT l).length := by
    intro l
    induction l with
    | nil => simp [rowsT]
    | cons x l ih => have := x.pos; simp [rowsT]; omega
  have := this t.kids
  simp; omega
inductive SeqOk (mx dm : Int) : List Tr → Int → RSt → Option Nat → Int → RSt → Prop
  | nil {v : Int} {st : RSt} : SeqOk mx dm [] v st none v st
  | cons {c : Tr} {cs : List Tr} {v v1 v' : Int} {st st1 st' : RSt} {E : Option Nat} (h : DoOk mx dm c st none v1 st1) (k : SeqOk mx dm cs v1 st1 E v' st') : SeqOk mx dm (c :: cs) v st E v' st'
  | err {c : Tr} {cs : List Tr} {v v1 : Int} {st st1 : RSt} {e : Nat} (h : DoOk mx dm c st (some e) v1 st1) : SeqOk mx dm (c :: cs) v st (some e) 0 st1
theorem seq_loop {cs : List Tr} {v v' : Int} {st' : RSt} {E : Option Nat} (hq : SeqOk mx dm cs v st E v' st') : ∀ (pre : List Tr) (S : VH) (I : Ids), I.mx = mx → I.dm = dm → Inv S I st → pre.length + cs.length < 1000000 →
    (E = none ∧ ∃ S' f, loopX VT.E VT.Fl (VCall VT) c_run_runner_seq_l0 ⟨[(0, .ptr (some (I.r, 0))), (6, .int .i64 v), (10, tsv (pre ++ cs)), (11, .int .i64 ((pre ++ cs).length : Nat)), (12, .int .i64 (pre.length : Nat))], [], S⟩ = some (.exit 0, ⟨(0, .ptr (some (I.r, 0))) :: (6, .int .i64 v') :: f, [], S'⟩) ∧ Inv S' I st' ∧ Keep S S' I.has) ∨
    (∃ e, E = some e ∧ e < 50 ∧ ∃ S' f, loopX VT.E VT.Fl (VCall VT) c_run_runner_seq_l0 ⟨[(0, .ptr (some (I.r, 0))), (6, .int .i64 v), (10, tsv (pre ++ cs)), (11, .int .i64 ((pre ++ cs).length : Nat)), (12, .int .i64 (pre.length : Nat))], [], S⟩ = some (.ret, ⟨(5, errG e) :: (4, .int .i64 0) :: f, [], S'⟩) ∧ InvE E S' I st' ∧ Keep S S' I.has) := by
  have hK : ∀ f w h, loopX VT.E VT.Fl (VCall VT) c_run_runner_seq_l0 ⟨f, w, h⟩ = loopX VT.E VT.Fl (VCall VT) c_run_runner_seq_l0 ⟨VFr.keep f [0, 6, 10, 11, 12], Rts.keep w.noCell [0, 6, 10, 11, 12], h⟩ := fun _ _ _ => loopX_keep
  induction hq with
  | nil =>
    intro pre S I _ _ hi hl
    left
    refine ⟨rfl, S, [(10, tsv pre), (11, .int .i64 (pre.length : Nat)), (12, .int .i64 (pre.length : Nat)), (13, .bool false)], ?_, hi, Keep.refl _ _⟩
    rw [loopX_eq]
    simp -implicitDefEqProofs [c_run_runner_seq_l0, binA]
  | @cons c cs v v1 v' st st1 st' E h k ih =>
    intro pre S I hm hd hi hl
    simp only [List.length_cons] at hl
    obtain ⟨S1, k1, k2, k3⟩ := h.run S I hm hd hi
    have k2 : Inv S1 I st1 := k2
    have hx : (pre ++ c :: cs)[pre.length]? = some c := by simp
    have hlt : (pre.length : Int) < (pre.length : Int) + ((cs.length : Int) + 1) := by omega
    have hw := wrap_succ (j := pre.length) (n := pre.length + 1) (by omega) (by omega)
    have step : ∀ S2, Inv S2 I st1 → Keep S S2 I.has → (loopX VT.E VT.Fl (VCall VT) c_run_runner_seq_l0 ⟨[(0, .ptr (some (I.r, 0))), (6, .int .i64 v), (10, tsv (pre ++ c :: cs)), (11, .int .i64 ((pre ++ c :: cs).length : Nat)), (12, .int .i64 (pre.length : Nat))], [], S⟩ = loopX VT.E VT.Fl (VCall VT) c_run_runner_seq_l0 ⟨[(0, .ptr (some (I.r, 0))), (6, .int .i64 v1), (10, tsv (pre ++ c :: cs)), (11, .int .i64 ((pre ++ c :: cs).length : Nat)), (12, .int .i64 ((pre.length : Int) + 1))], [], S2⟩) →
      (E = none ∧ ∃ S' f, loopX VT.E VT.Fl (VCall VT) c_run_runner_seq_l0 ⟨[(0, .ptr (some (I.r, 0))), (6, .int .i64 v), (10, tsv (pre ++ c :: cs)), (11, .int .i64 ((pre ++ c :: cs).length : Nat)), (12, .int .i64 (pre.length : Nat))], [], S⟩ = some (.exit 0, ⟨(0, .ptr (some (I.r, 0))) :: (6, .int .i64 v') :: f, [], S'⟩) ∧ Inv S' I st' ∧ Keep S S' I.has) ∨
      (∃ e, E = some e ∧ e < 50 ∧ ∃ S' f, loopX VT.E VT.Fl (VCall VT) c_run_runner_seq_l0 ⟨[(0, .ptr (some (I.r, 0))), (6, .int .i64 v), (10, tsv (pre ++ c :: cs)), (11, .int .i64 ((pre ++ c :: cs).length : Nat)), (12, .int .i64 (pre.length : Nat))], [], S⟩ = some (.ret, ⟨(5, errG e) :: (4, .int .i64 0) :: f, [], S'⟩) ∧ InvE E S' I st' ∧ Keep S S' I.has) := by
      intro S2 i2 kp he
      have := ih (pre ++ [c]) S2 I hm hd i2 (by simp; omega)
      simp only [List.append_assoc, List.singleton_append, List.length_append, List.length_singleton, Int.natCast_add, Int.cast_ofNat_Int] at this
      rw [he]
      simp only [List.length_append, Int.natCast_add]
      rcases this with ⟨a, S', f, b1, b2, b3⟩ | ⟨e, a, a', S', f, b1, b2, b3⟩
      · exact .inl ⟨a, S', f, b1, b2, kp.trans b3⟩
      · exact .inr ⟨e, a, a', S', f, b1, b2, kp.trans b3⟩
    by_cases hcl : cloH S S1
    · refine step (VH.trim S S1) (hi.trim k2) k3.trim ?_
      rw [loopX_eq]
      generalize loopX VT.E VT.Fl (VCall VT) c_run_runner_seq_l0 = L at *
      simp only [errO] at k1
      have hrl := hi.hr.1
      simp -implicitDefEqProofs [c_run_runner_seq_l0, binA, hlt, hx, k1, hw, hcl, hrl]
      rw [hK]
      simp
    · refine step S1 k2 k3 ?_
      rw [loopX_eq]
      generalize loopX VT.E VT.Fl (VCall VT) c_run_runner_seq_l0 = L at *
      simp only [errO] at k1
      have hrl := hi.hr.1
      simp -implicitDefEqProofs [c_run_runner_seq_l0, binA, hlt, hx, k1, hw, hcl, hrl]
      rw [hK]
      simp
  | @err c cs v v1 st st1 e h =>
    intro pre S I hm hd hi hl
    simp only [List.length_cons] at hl
    obtain ⟨S1, k1, k2, k3⟩ := h.run S I hm hd hi
    have hx : (pre ++ c :: cs)[pre.length]? = some c := by simp
    have hlt : (pre.length : Int) < (pre.length : Int) + ((cs.length : Int) + 1) := by omega
    right
    refine ⟨e, rfl, h.err e rfl, S1, ?_⟩
    simp only [errO] at k1
    rw [loopX_eq]
    generalize loopX VT.E VT.Fl (VCall VT) c_run_runner_seq_l0 = L at *
    simp -implicitDefEqProofs [c_run_runner_seq_l0, binA, hlt, hx, k1, k2, k3]
end
end Go.Proofs.YtbpgbhmibmcbnaaGreatDoor.Val

/-! core.Check on programs that are trees: kinds, fields, how many children. -/
set_option linter.unusedSimpArgs false
set_option linter.unusedVariables false
namespace Go.Proofs.YtbpgbhmibmcbnaaGreatDoor.Val
open Go Go.Proofs.YtbpgbhmibmcbnaaGreatDoor.Ram

def wordK : List Int := [1, 2, 3, 4, 5, 6, 7, 8, 9, 10, 11, 12]
def cmdK : List Int := [20, 21, 22, 23, 24, 25, 26, 27, 28, 29, 30, 31, 32, 33, 34, 35, 36, 37]
def goodN : List Str := [[105], [120], [102], [118]]
def fieldB (k n : Int) (s : Str) : Bool :=
  if k = 1 then n == 0 && decide (s.length ≤ 2000) else if k = 11 then decide (1 ≤ n) && decide (n ≤ 99) && s == [] else if k = 33 then decide (1 ≤ n) && decide (n ≤ 3) && s == []
  else if n ≠ 0 then false else if [2, 22, 29, 31, 35].contains k then goodN.contains s else s == []
def childB (k K : Int) : Bool :=
  if [1, 2, 20].contains k then K == 0 else if k = 3 then decide (0 ≤ K) else if [4, 21, 37].contains k then decide (1 ≤ K) else if [23, 32].contains k then decide (2 ≤ K) else if k = 24 then K == 3
  else if [25, 26, 28, 29, 35, 33, 34].contains k then K == 2 else if k = 30 then decide (1 ≤ K) && K.tmod 2 == 1 else K == 1
def takeB (k K j : Int) : Bool :=
  if [12, 23, 32, 24, 25, 26, 28, 27, 31].contains k then false else if [29, 35, 33, 34].contains k then j == 0 else if k = 30 then j == 0 || j.tmod 2 == 1 else if k = 37 then decide (j < K - 1) else true
section
variable {S : VH}
theorem v_Word {k : Int} : VCall VT F_core_Word [.int .i64 k] [] S = some (.bool (decide (1 ≤ k) && decide (k ≤ 12)), [], S) := by
  rw [VCall_of (F := a_core_Word) rfl rfl rfl rfl]
  by_cases e : 1 ≤ k <;> simp -implicitDefEqProofs [a_core_Word, c_core_Word, binA, e]
theorem v_Command {k : Int} : VCall VT F_core_Command [.int .i64 k] [] S = some (.bool (decide (20 ≤ k) && decide (k ≤ 37)), [], S) := by
  rw [VCall_of (F := a_core_Command) rfl rfl rfl rfl]
  by_cases e : 20 ≤ k <;> simp -implicitDefEqProofs [a_core_Command, c_core_Command, binA, e]
def letN (c : UInt8) : Prop := (∀ S, VCall VT F_text_begins [.int .u8 (c.toNat : Int)] [] S = some (.bool true, [], S))
theorem let_i : letN 105 := fun S => by
  have e : IntKind.u8.wrap ((105 % 2 ^ IntKind.u8.bits ||| 32 % 2 ^ IntKind.u8.bits : Nat) : Int) = 105 := by decide
  rw [VCall_of (F := a_text_begins) rfl rfl rfl rfl]
  simp -implicitDefEqProofs [a_text_begins, c_text_begins, binA, e]
theorem let_x : letN 120 := fun S => by
  have e : IntKind.u8.wrap ((120 % 2 ^ IntKind.u8.bits ||| 32 % 2 ^ IntKind.u8.bits : Nat) : Int) = 120 := by decide
  rw [VCall_of (F := a_text_begins) rfl rfl rfl rfl]
  simp -implicitDefEqProofs [a_text_begins, c_text_begins, binA, e]
theorem let_f : letN 102 := fun S => by
  have e : IntKind.u8.wrap ((102 % 2 ^ IntKind.u8.bits ||| 32 % 2 ^ IntKind.u8.bits : Nat) : Int) = 102 := by decide
  rw [VCall_of (F := a_text_begins) rfl rfl rfl rfl]
  simp -implicitDefEqProofs [a_text_begins, c_text_begins, binA, e]
theorem let_v : letN 118 := fun S => by
  have e : IntKind.u8.wrap ((118 % 2 ^ IntKind.u8.bits ||| 32 % 2 ^ IntKind.u8.bits : Nat) : Int) = 118 := by decide
  rw [VCall_of (F := a_text_begins) rfl rfl rfl rfl]
  simp -implicitDefEqProofs [a_text_begins, c_text_begins, binA, e]
theorem v_goesOn_let {c : UInt8} (h : letN c) : VCall VT F_text_goesOn [.int .u8 (c.toNat : Int)] [] S = some (.bool true, [], S) := by
  have := h S
  rw [VCall_of (F := a_text_goesOn) rfl rfl rfl rfl]
  simp -implicitDefEqProofs [a_text_goesOn, c_text_goesOn, binA, this]
theorem v_Name_let {c : UInt8} (h : letN c) : VCall VT F_text_Name [.str [c]] [] S = some (.bool true, [], S) := by
  have hb := h S
  have hg := v_goesOn_let (S := S) h
  have hch : chrV (.str [c]) (.int .i64 0) = some (.int .u8 (c.toNat : Int)) := rfl
  have hK : ∀ f w h, loopX VT.E VT.Fl (VCall VT) c_text_Name_l0 ⟨f, w, h⟩ = loopX VT.E VT.Fl (VCall VT) c_text_Name_l0 ⟨VFr.keep f [0, 18, 19], Rts.keep w.noCell [0, 18, 19], h⟩ := fun _ _ _ => loopX_keep
  have h1 : loopX VT.E VT.Fl (VCall VT) c_text_Name_l0 ⟨[(0, .str [c]), (18, .int .i64 1), (19, .int .i64 1)], [], S⟩ = some (.exit 0, ⟨[(0, .str [c]), (18, .int .i64 1), (19, .int .i64 1), (20, .bool false)], [], S⟩) := by
    rw [loopX_eq]
    simp -implicitDefEqProofs [c_text_Name_l0, binA]
  have h0 : loopX VT.E VT.Fl (VCall VT) c_text_Name_l0 ⟨[(0, .str [c]), (18, .int .i64 1), (19, .int .i64 0)], [], S⟩ = some (.exit 0, ⟨[(0, .str [c]), (18, .int .i64 1), (19, .int .i64 1), (20, .bool false)], [], S⟩) := by
    rw [loopX_eq]
    generalize loopX VT.E VT.Fl (VCall VT) c_text_Name_l0 = L at *
    simp -implicitDefEqProofs [c_text_Name_l0, binA, hch, hg]
    rw [hK]
    simpa using h1
  rw [VCall_of (F := a_text_Name) rfl rfl rfl rfl]
  simp -implicitDefEqProofs [a_text_Name, c_text_Name, binA, hch, hb, h0]
theorem v_Name_good {s : Str} (h : goodN.contains s = true) : VCall VT F_text_Name [.str s] [] S = some (.bool true, [], S) := by
  simp only [goodN, List.contains_eq_mem, decide_eq_true_eq, List.mem_cons, List.not_mem_nil, or_false] at h
  rcases h with rfl | rfl | rfl | rfl
  · exact v_Name_let let_i
  · exact v_Name_let let_x
  · exact v_Name_let let_f
  · exact v_Name_let let_v
end
end Go.Proofs.YtbpgbhmibmcbnaaGreatDoor.Val

/-! core.Check on programs that are trees: fields, children, takes. -/
set_option linter.unusedSimpArgs false
set_option linter.unusedVariables false
namespace Go.Proofs.YtbpgbhmibmcbnaaGreatDoor.Val
open Go Go.Proofs.YtbpgbhmibmcbnaaGreatDoor.Ram

abbrev intsV (l : List Int) : V := .lst 1 (l.map fun k => [.int .i64 k])
section
variable {S : VH}
theorem v_IndexInt {l : List Int} {x : Int} (hl : l.length < 1000000) : ∀ (d j : Nat), j + d = l.length →
    (x ∈ l.drop j ∧ ∃ (i : Nat) (f : VFr), loopX VT.E VT.Fl (VCall VT) c_slices_Index_int_int_l0 ⟨[(0, intsV l), (1, .int .i64 x), (7, .int .i64 l.length), (8, .int .i64 j)], [], S⟩ = some (.ret, ⟨(4, .int .i64 i) :: f, [], S⟩)) ∨
    (¬ x ∈ l.drop j ∧ ∃ f, loopX VT.E VT.Fl (VCall VT) c_slices_Index_int_int_l0 ⟨[(0, intsV l), (1, .int .i64 x), (7, .int .i64 l.length), (8, .int .i64 j)], [], S⟩ = some (.exit 0, ⟨f, [], S⟩)) := by
  have hK : ∀ f w h, loopX VT.E VT.Fl (VCall VT) c_slices_Index_int_int_l0 ⟨f, w, h⟩ = loopX VT.E VT.Fl (VCall VT) c_slices_Index_int_int_l0 ⟨VFr.keep f [0, 1, 7, 8], Rts.keep w.noCell [0, 1, 7, 8], h⟩ := fun _ _ _ => loopX_keep
  intro d
  induction d with
  | zero =>
    intro j hj
    obtain rfl : j = l.length := by omega
    right
    refine ⟨by simp, [(0, intsV l), (1, .int .i64 x), (7, .int .i64 l.length), (8, .int .i64 l.length), (9, .bool false)], ?_⟩
    rw [loopX_eq]
    simp -implicitDefEqProofs [c_slices_Index_int_int_l0, binA]
  | succ d ih =>
    intro j hj
    have h1 : j < l.length := by omega
    have hlt : (j : Int) < (l.length : Int) := by omega
    obtain ⟨y, hy, dy⟩ := next_at h1
    rw [dy]
    by_cases e : x = y
    · subst e
      left
      refine ⟨List.mem_cons_self, j, ?_⟩
      rw [loopX_eq]
      generalize loopX VT.E VT.Fl (VCall VT) c_slices_Index_int_int_l0 = L at *
      simp -implicitDefEqProofs [c_slices_Index_int_int_l0, binA, hlt, hy]
    · have e' : ¬ x = y := e
      have := ih (j + 1) (by omega)
      push_cast at this
      rw [loopX_eq]
      generalize loopX VT.E VT.Fl (VCall VT) c_slices_Index_int_int_l0 = L at *
      simp -implicitDefEqProofs [c_slices_Index_int_int_l0, binA, hlt, hy, e, wrap_succ h1 (by omega)]
      rw [hK]
      simpa [e] using this
theorem v_ContainsInt {l : List Int} {x : Int} (hl : l.length < 1000000) : VCall VT F_slices_Contains_int_int [intsV l, .int .i64 x] [] S = some (.bool (l.contains x), [], S) := by
  have hI : ∃ i : Int, VCall VT F_slices_Index_int_int [intsV l, .int .i64 x] [] S = some (.int .i64 i, [], S) ∧ (0 ≤ i ↔ x ∈ l) := by
    rcases v_IndexInt (S := S) (l := l) (x := x) hl l.length 0 (by omega) with ⟨a, i, f, h⟩ | ⟨a, f, h⟩
    · refine ⟨i, ?_, by simp at a; simp [a]⟩
      rw [VCall_of (F := a_slices_Index_int_int) rfl rfl rfl rfl]
      push_cast at h
      simp -implicitDefEqProofs [a_slices_Index_int_int, c_slices_Index_int_int, h]
    · refine ⟨-1, ?_, by simp at a; simp [a]⟩
      rw [VCall_of (F := a_slices_Index_int_int) rfl rfl rfl rfl]
      push_cast at h
      simp -implicitDefEqProofs [a_slices_Index_int_int, c_slices_Index_int_int, h]
  obtain ⟨i, h, e⟩ := hI
  have e2 : decide (0 ≤ i) = l.contains x := by rw [Bool.eq_iff_iff]; simp [e]
  rw [VCall_of (F := a_slices_Contains_int_int) rfl rfl rfl rfl]
  simp -implicitDefEqProofs [a_slices_Contains_int_int, c_slices_Contains_int_int, binA, h, e2]
theorem v_named {k : Int} : VCall VT F_core_named [.int .i64 k] [] S = some (.bool ([2, 22, 29, 31, 35].contains k), [], S) := by
  have h := fun S => v_ContainsInt (l := [2, 22, 29, 31, 35]) (x := k) (S := S) (by simp)
  simp only [intsV, List.map_cons, List.map_nil] at h
  rw [VCall_of (F := a_core_named) rfl rfl rfl rfl]
  simp -implicitDefEqProofs [a_core_named, c_core_named, h]
def kindB (k : Int) : Bool := wordK.contains k || cmdK.contains k
theorem v_fields {k n c z : Int} {s : Str} (h : fieldB k n s = true) : VCall VT F_core_fields [.agg (ndRow k n c z s)] [] S = some (.bool true, [], S) := by
  rw [VCall_of (F := a_core_fields) rfl rfl rfl rfl]
  unfold fieldB at h
  by_cases e1 : k = 1
  · subst e1
    simp at h
    obtain ⟨rfl, h⟩ := h
    have h' : (s.length : Int) ≤ 2000 := by omega
    simp -implicitDefEqProofs [a_core_fields, c_core_fields, binA, h, h']
  by_cases e2 : k = 11
  · subst e2
    simp at h
    obtain ⟨⟨h1, h2⟩, rfl⟩ := h
    simp -implicitDefEqProofs [a_core_fields, c_core_fields, binA, h1, h2]
  by_cases e3 : k = 33
  · subst e3
    simp at h
    obtain ⟨⟨h1, h2⟩, rfl⟩ := h
    simp -implicitDefEqProofs [a_core_fields, c_core_fields, binA, h1, h2]
  rw [if_neg e1, if_neg e2, if_neg e3] at h
  by_cases e4 : n = 0
  · subst e4
    rw [if_neg (by simp)] at h
    by_cases e5 : k = 2
    · subst e5
      simp only [show ([2, 22, 29, 31, 35].contains (2 : Int)) = true from rfl, if_true] at h
      have hn := fun S => v_Name_good (S := S) h
      simp -implicitDefEqProofs [a_core_fields, c_core_fields, binA, hn]
    · have hm := fun S => v_named (S := S) (k := k)
      cases e6 : [2, 22, 29, 31, 35].contains k with
      | true =>
        rw [e6] at h hm
        simp only [if_true] at h
        have hn := fun S => v_Name_good (S := S) h
        simp -implicitDefEqProofs [a_core_fields, c_core_fields, binA, hn, hm, e1, e2, e3, e5]
      | false =>
        rw [e6] at h hm
        simp only [Bool.false_eq_true, if_false] at h
        simp at h
        subst h
        simp -implicitDefEqProofs [a_core_fields, c_core_fields, binA, hm, e1, e2, e3, e5]
  · rw [if_pos e4] at h; cases h
theorem kinds_of {k : Int} (h : kindB k = true) : k = 1 ∨ k = 2 ∨ k = 3 ∨ k = 4 ∨ k = 5 ∨ k = 6 ∨ k = 7 ∨ k = 8 ∨ k = 9 ∨ k = 10 ∨ k = 11 ∨ k = 12 ∨ k = 20 ∨ k = 21 ∨ k = 22 ∨ k = 23 ∨ k = 24 ∨ k = 25 ∨ k = 26 ∨ k = 27 ∨ k = 28 ∨ k = 29 ∨ k = 30 ∨ k = 31 ∨ k = 32 ∨ k = 33 ∨ k = 34 ∨ k = 35 ∨ k = 36 ∨ k = 37 := by
  simp only [kindB, wordK, cmdK, List.contains_eq_mem, Bool.or_eq_true, decide_eq_true_eq, List.mem_cons, List.not_mem_nil, or_false] at h
  omega
theorem v_children {k n c z : Int} {s : Str} (hk : kindB k = true) (h : childB k c = true) : VCall VT F_core_children [.agg (ndRow k n c z s)] [] S = some (.bool true, [], S) := by
  rw [VCall_of (F := a_core_children) rfl rfl rfl rfl]
  rcases kinds_of hk with rfl | rfl | rfl | rfl | rfl | rfl | rfl | rfl | rfl | rfl | rfl | rfl | rfl | rfl | rfl | rfl | rfl | rfl | rfl | rfl | rfl | rfl | rfl | rfl | rfl | rfl | rfl | rfl | rfl | rfl
  all_goals (simp [childB] at h; (first | subst h | skip); simp -implicitDefEqProofs [a_core_children, c_core_children, binA, *])
theorem v_takes {k n c z j : Int} {s : Str} (hk : kindB k = true) (hc : 0 ≤ c) (hc' : c < 1000000) : VCall VT F_core_takes [.agg (ndRow k n c z s), .int .i64 j] [] S = some (.bool (takeB k c j), [], S) := by
  have e2 : IntKind.i64.wrap (c - 1) = c - 1 := Go.IntWalk.i64_in _ ⟨by omega, by omega⟩
  rw [VCall_of (F := a_core_takes) rfl rfl rfl rfl]
  rcases kinds_of hk with rfl | rfl | rfl | rfl | rfl | rfl | rfl | rfl | rfl | rfl | rfl | rfl | rfl | rfl | rfl | rfl | rfl | rfl | rfl | rfl | rfl | rfl | rfl | rfl | rfl | rfl | rfl | rfl | rfl | rfl
  all_goals (simp -implicitDefEqProofs [takeB]; try (by_cases e : j = 0))
  all_goals simp -implicitDefEqProofs [a_core_takes, c_core_takes, binA, e2, *]
end
end Go.Proofs.YtbpgbhmibmcbnaaGreatDoor.Val

/-! core.Check on programs that are trees. -/
set_option linter.unusedSimpArgs false
set_option linter.unusedVariables false
namespace Go.Proofs.YtbpgbhmibmcbnaaGreatDoor.Val
open Go Go.Proofs.YtbpgbhmibmcbnaaGreatDoor.Ram

mutual
def Tr.okB : Nat → Bool → Tr → Bool
  | d, w, .mk k n s ks => (if w then wordK.contains k else cmdK.contains k) && fieldB k n s && childB k ks.length && decide (d ≤ 30) && oksB d k ks.length 0 ks
def oksB : Nat → Int → Int → Nat → List Tr → Bool
  | _, _, _, _, [] => true
  | d, k, c, j, t :: ks => t.okB (d + 1) (takeB k c j) && oksB d k c (j + 1) ks
end
section
theorem v_look_l0 {i0 : Nat} {k n z : Int} {s : Str} {i d : Int} {Q : List (List V)} {K : Nat} {S : VH} (hi : i0 < S.next) (hg : S.get i0 = some (.cells (ndRow k n K z s) [])) (hK : K < 1000000) (hQ : ∀ m, V.closs m Q = true) : ∀ (ks : List Tr) (j : Nat) (P : List (List V)), (∀ m, V.closs m P = true) → j + ks.length = K → (P ++ (rowsT ks ++ Q)).length < 1000000 →
    loopX VT.E VT.Fl (VCall VT) c_core_look_l0 ⟨[(0, .lst 5 (P ++ (rowsT ks ++ Q))), (1, .int .i64 i), (2, .int .i64 (P.length + (rowsT ks).length : Nat)), (3, .int .i64 d), (13, .ptr (some (i0, 0))), (15, .int .i64 P.length), (16, .int .i64 j)], [], S⟩ =
      some (.exit 0, ⟨[(0, .lst 5 (P ++ (rowsT ks ++ Q))), (1, .int .i64 i), (2, .int .i64 (P.length + (rowsT ks).length : Nat)), (3, .int .i64 d), (13, .ptr (some (i0, 0))), (15, .int .i64 (P.length + (rowsT ks).length : Nat)), (16, .int .i64 K), (97, .bool false)], [], S⟩) := by
  have hKp : ∀ f w h, loopX VT.E VT.Fl (VCall VT) c_core_look_l0 ⟨f, w, h⟩ = loopX VT.E VT.Fl (VCall VT) c_core_look_l0 ⟨VFr.keep f [0, 1, 2, 3, 13, 15, 16], Rts.keep w.noCell [0, 1, 2, 3, 13, 15, 16], h⟩ := fun _ _ _ => loopX_keep
  intro ks
  induction ks with
  | nil =>
    intro j P hP hj hs
    obtain rfl : j = K := by simpa using hj
    rw [loopX_eq]
    simp -implicitDefEqProofs [c_core_look_l0, binA, hi, hg, rowsT]
  | cons x ks ih =>
    intro j P hP hj hs
    simp only [List.length_cons] at hj
    have hp := x.pos
    have hl := x.hd3
    have h1 := ih (j + 1) (P ++ x.rows) (fun m => by simp [hP m]) (by omega) (by simpa [rowsT] using hs)
    simp only [rowsT, List.length_append] at hs
    have e1 : ¬ (P.length : Int) + ((x.rows.length : Int) + ((rowsT ks).length : Int)) ≤ (P.length : Int) := by omega
    have e2 : (P ++ (x.rows ++ (rowsT ks ++ Q)))[P.length]? = some x.hd := by
      rw [List.getElem?_append_right (Nat.le_refl _), Nat.sub_self, x.rows_eq]; rfl
    have e3 : IntKind.i64.wrap ((P.length : Int) + (x.rows.length : Int)) = (P.length : Int) + (x.rows.length : Int) := Go.IntWalk.i64_in _ ⟨by omega, by omega⟩
    have e4 : ¬ (x.rows.length : Int) < 1 := by omega
    have e5 : IntKind.i64.wrap ((P.length : Int) + ((x.rows.length : Int) + ((rowsT ks).length : Int)) - (P.length : Int)) = (x.rows.length : Int) + ((rowsT ks).length : Int) := by
      rw [show (P.length : Int) + ((x.rows.length : Int) + ((rowsT ks).length : Int)) - (P.length : Int) = (x.rows.length : Int) + ((rowsT ks).length : Int) by omega]
      exact Go.IntWalk.i64_in _ ⟨by omega, by omega⟩
    have e6 : ¬ (x.rows.length : Int) + ((rowsT ks).length : Int) < (x.rows.length : Int) := by omega
    have e7 : (j : Int) < (K : Int) := by omega
    have e8 := wrap_succ (j := j) (n := K) (by omega) (by omega)
    rw [loopX_eq]
    simp only [List.append_assoc, List.length_append, Int.natCast_add] at h1
    push_cast at h1
    generalize loopX VT.E VT.Fl (VCall VT) c_core_look_l0 = L at *
    simp -implicitDefEqProofs [c_core_look_l0, binA, rowsT, e1, e2, e3, e4, e5, e6, e7, e8, hl, hi, hg, hP, hQ]
    rw [hKp]
    simpa [Int.add_assoc] using h1
theorem kind_word {k : Int} (h : wordK.contains k = true) : (decide (1 ≤ k) && decide (k ≤ 12)) = true ∧ kindB k = true := by
  refine ⟨?_, by simp only [kindB, h, Bool.true_or]⟩
  simp only [wordK, List.contains_eq_mem, decide_eq_true_eq, List.mem_cons, List.not_mem_nil, or_false] at h
  simp only [Bool.and_eq_true, decide_eq_true_eq]
  omega
theorem kind_cmd {k : Int} (h : cmdK.contains k = true) : (decide (20 ≤ k) && decide (k ≤ 37)) = true ∧ kindB k = true := by
  refine ⟨?_, by simp only [kindB, h, Bool.or_true]⟩
  simp only [cmdK, List.contains_eq_mem, decide_eq_true_eq, List.mem_cons, List.not_mem_nil, or_false] at h
  simp only [Bool.and_eq_true, decide_eq_true_eq]
  omega
def LookOk (t : Tr) : Prop := ∀ (d : Nat) (w : Bool) (P Q : List (List V)) (e : Int) (last : Bool) (S : VH), t.okB d w = true → (∀ m, V.closs m P = true) → (∀ m, V.closs m Q = true) → (last = true → e = (P.length + t.rows.length : Nat)) → ((P.length + t.rows.length : Nat) : Int) ≤ e → e < 1000000 → (P ++ (t.rows ++ Q)).length < 1000000 →
    VCall VT F_core_look [.lst 5 (P ++ (t.rows ++ Q)), .int .i64 P.length, .int .i64 e, .int .i64 d, .bool w, .bool last] [] S = some (.nilI, [], S)
theorem v_look_l1 {i0 d : Nat} {k n z e : Int} {s : Str} {Q : List (List V)} {K : Nat} {S : VH} (hi : i0 < S.next) (hg : S.get i0 = some (.cells (ndRow k n K z s) [])) (hK : K < 1000000) (hk : kindB k = true) (hd : d ≤ 30) (hQ : ∀ m, V.closs m Q = true) (he : e < 1000000) : ∀ (ks : List Tr) (j : Nat) (P : List (List V)), (∀ t ∈ ks, LookOk t) → oksB d k K j ks = true → (∀ m, V.closs m P = true) → j + ks.length = K → e = (P.length + (rowsT ks).length : Nat) → (P ++ (rowsT ks ++ Q)).length < 1000000 →
    ∃ f w, loopX VT.E VT.Fl (VCall VT) c_core_look_l1 ⟨[(0, .lst 5 (P ++ (rowsT ks ++ Q))), (2, .int .i64 e), (3, .int .i64 d), (13, .ptr (some (i0, 0))), (15, .int .i64 P.length), (138, .int .i64 K), (139, .int .i64 j)], [], S⟩ = some (.exit 2, ⟨f, w, S⟩) := by
  have hKp : ∀ f w h, loopX VT.E VT.Fl (VCall VT) c_core_look_l1 ⟨f, w, h⟩ = loopX VT.E VT.Fl (VCall VT) c_core_look_l1 ⟨VFr.keep f [0, 2, 3, 13, 15, 138, 139], Rts.keep w.noCell [0, 2, 3, 13, 15, 138, 139], h⟩ := fun _ _ _ => loopX_keep
  intro ks
  induction ks with
  | nil =>
    intro j P hA ho hP hj hE hs
    obtain rfl : j = K := by simpa using hj
    refine ⟨[(0, .lst 5 (P ++ (rowsT [] ++ Q))), (2, .int .i64 e), (3, .int .i64 d), (13, .ptr (some (i0, 0))), (15, .int .i64 P.length), (138, .int .i64 j), (139, .int .i64 j), (140, .bool false)], [], ?_⟩
    rw [loopX_eq]
    simp -implicitDefEqProofs [c_core_look_l1, binA, rowsT]
  | cons x ks ih =>
    intro j P hA ho hP hj hE hs
    simp only [oksB, Bool.and_eq_true] at ho
    simp only [List.length_cons] at hj
    have hp := x.pos
    have hl := x.hd3
    obtain ⟨f, w, h1⟩ := ih (j + 1) (P ++ x.rows) (fun t ht => hA t (List.mem_cons_of_mem _ ht)) ho.2 (fun m => by simp [hP m]) (by omega) (by rw [hE]; simp only [rowsT, List.length_append]; omega) (by simpa [rowsT] using hs)
    have hE' : e = (P.length : Int) + ((x.rows.length : Int) + ((rowsT ks).length : Int)) := by rw [hE]; simp [rowsT]
    have hLk := hA x List.mem_cons_self (d + 1) (takeB k K j) P (rowsT ks ++ Q) e (decide ((j : Int) = (K : Int) - 1)) S ho.1 hP (fun m => by simp [hQ m]) (fun h => by
      have h := of_decide_eq_true h
      have : ks = [] := List.length_eq_zero_iff.1 (by omega)
      subst this
      rw [hE']; simp [rowsT]) (by rw [hE']; omega) he (by simpa [rowsT] using hs)
    simp only [rowsT, List.length_append] at hs
    have hT := v_takes (S := S) (k := k) (n := n) (c := K) (z := z) (j := j) (s := s) hk (by omega) (by omega)
    have e2 : (P ++ (x.rows ++ (rowsT ks ++ Q)))[P.length]? = some x.hd := by
      rw [List.getElem?_append_right (Nat.le_refl _), Nat.sub_self, x.rows_eq]; rfl
    have e3 : IntKind.i64.wrap ((P.length : Int) + (x.rows.length : Int)) = (P.length : Int) + (x.rows.length : Int) := Go.IntWalk.i64_in _ ⟨by omega, by omega⟩
    have e5 : IntKind.i64.wrap ((K : Int) - 1) = (K : Int) - 1 := Go.IntWalk.i64_in _ ⟨by omega, by omega⟩
    have e6 : IntKind.i64.wrap ((d : Int) + 1) = (d : Int) + 1 := Go.IntWalk.i64_in _ ⟨by omega, by omega⟩
    have e7 : (j : Int) < (K : Int) := by omega
    have e8 := wrap_succ (j := j) (n := K) (by omega) (by omega)
    refine ⟨f, w, ?_⟩
    rw [loopX_eq]
    simp only [List.append_assoc, List.length_append, Int.natCast_add] at h1 hLk
    push_cast at h1 hLk
    have hb : ((j : Int) == (K : Int) - 1) = decide ((j : Int) = (K : Int) - 1) := rfl
    generalize loopX VT.E VT.Fl (VCall VT) c_core_look_l1 = L at *
    simp -implicitDefEqProofs [c_core_look_l1, binA, rowsT, e2, e3, e5, e6, e7, e8, hl, hi, hg, hP, hQ, hT, hb, hLk]
    rw [hKp]
    simpa [Int.add_assoc] using h1
set_option maxRecDepth 100000 in
theorem v_look_of {k n : Int} {s : Str} {ks : List Tr} (hA : ∀ t ∈ ks, LookOk t) : LookOk (.mk k n s ks) := by
  intro d w P Q e last S hok hP hQ hlast hle he hs
  simp only [Tr.okB, Bool.and_eq_true, decide_eq_true_eq] at hok
  obtain ⟨⟨⟨⟨hw, hf⟩, hc⟩, hd⟩, ho⟩ := hok
  simp only [Tr.rows, List.length_cons] at hlast hle hs ⊢
  have hkb : kindB k = true := by
    cases w with
    | true => exact (kind_word hw).2
    | false => exact (kind_cmd hw).2
  have hKl : ks.length ≤ (rowsT ks).length := by
    have := kids_le (.mk k n s ks)
    simp only [Tr.kids, Tr.rows, List.length_cons] at this
    clear hA hc ho hlast hle hs hw hf
    induction ks with
    | nil => simp
    | cons x ks ih => have := x.pos; simp [rowsT] at *; have := kids_le (.mk k n s ks); simp only [Tr.kids, Tr.rows, List.length_cons] at this; omega
  simp only [List.length_append, List.length_cons] at hs
  have hF := fun S => v_fields (S := S) (k := k) (n := n) (c := ks.length) (z := ((rowsT ks).length + 1 : Nat)) (s := s) hf
  have hCh := fun S => v_children (S := S) (k := k) (n := n) (c := ks.length) (z := ((rowsT ks).length + 1 : Nat)) (s := s) hkb hc
  have h0 := v_look_l0 (i0 := S.next) (S := S.push (.cells (ndRow k n ks.length ((rowsT ks).length + 1 : Nat) s) [])) (k := k) (n := n) (z := ((rowsT ks).length + 1 : Nat)) (s := s) (i := P.length) (d := d) (Q := Q) (K := ks.length) (by simp) (by simp) (by omega) hQ ks 0 (P ++ [ndRow k n ks.length ((rowsT ks).length + 1 : Nat) s]) (fun m => by simp [hP m]) (by omega) (by simp; omega)
  obtain ⟨f1, w1, h1⟩ := v_look_l1 (i0 := S.next) (S := S.push (.cells (ndRow k n ks.length ((rowsT ks).length + 1 : Nat) s) [])) (d := d) (k := k) (n := n) (z := ((rowsT ks).length + 1 : Nat)) (s := s) (e := (P.length : Int) + ((rowsT ks).length + 1 : Nat)) (Q := Q) (K := ks.length) (by simp) (by simp) (by omega) hkb hd hQ (by omega) ks 0 (P ++ [ndRow k n ks.length ((rowsT ks).length + 1 : Nat) s]) hA ho (fun m => by simp [hP m]) (by omega) (by simp; omega) (by simp; omega)
  have e1 : (P ++ (ndRow k n ks.length ((rowsT ks).length + 1 : Nat) s :: (rowsT ks ++ Q)))[P.length]? = some (ndRow k n ks.length ((rowsT ks).length + 1 : Nat) s) := by simp
  have e2 : IntKind.i64.wrap (e - (P.length : Int)) = e - (P.length : Int) := Go.IntWalk.i64_in _ ⟨by omega, by omega⟩
  have e3 : ¬ e - (P.length : Int) < ((rowsT ks).length : Int) + 1 := by omega
  have e4 : ¬ ((rowsT ks).length : Int) + 1 < 1 := by omega
  have e5 : IntKind.i64.wrap ((P.length : Int) + (((rowsT ks).length : Int) + 1)) = (P.length : Int) + (((rowsT ks).length : Int) + 1) := Go.IntWalk.i64_in _ ⟨by omega, by omega⟩
  have e6 : IntKind.i64.wrap ((P.length : Int) + 1) = (P.length : Int) + 1 := Go.IntWalk.i64_in _ ⟨by omega, by omega⟩
  have e7 : ¬ (30 : Int) < (d : Int) := by omega
  have e8 : ks = [] → ((rowsT ks).length : Int) + 1 = 1 := fun h => by subst h; rfl
  have e9 : last = true → ((rowsT ks).length : Int) + 1 = e - (P.length : Int) := fun h => by have := hlast h; omega
  simp only [List.append_assoc, List.singleton_append, List.length_append, List.length_singleton, Int.natCast_add, Int.cast_ofNat_Int] at h0 h1
  push_cast at h0 h1 e1 hF hCh
  have hW : ∀ S, VCall VT F_core_Word [.int .i64 k] [] S = some (.bool (decide (1 ≤ k) && decide (k ≤ 12)), [], S) := fun S => v_Word
  have hCm : ∀ S, VCall VT F_core_Command [.int .i64 k] [] S = some (.bool (decide (20 ≤ k) && decide (k ≤ 37)), [], S) := fun S => v_Command
  rw [VCall_of (F := a_core_look) rfl rfl rfl rfl]
  have hz : (ks.length : Int) = 0 → ks = [] := fun h => List.length_eq_zero_iff.1 (by omega)
  rcases List.eq_nil_or_concat ks with rfl | hne
  · simp only [List.length_nil, rowsT, Int.natCast_zero, Int.zero_add, Int.add_zero, List.nil_append, Int.cast_ofNat_Int] at h0 h1 hF hCh e1 e2 e3 e4 e5 e6 e9
    cases w with
    | true =>
      rw [(kind_word hw).1] at hW
      cases last with
      | false => simp -implicitDefEqProofs [a_core_look, c_core_look, binA, hW, hCm, e1, e2, e3, e4, e5, e6, e7, hF, hCh, h0, h1, rowsT]
      | true =>
        have e9 := e9 rfl
        simp -implicitDefEqProofs [a_core_look, c_core_look, binA, hW, hCm, e1, e2, ← e9, e4, e5, e6, e7, hF, hCh, h0, h1, rowsT]
    | false =>
      rw [(kind_cmd hw).1] at hCm
      cases last with
      | false => simp -implicitDefEqProofs [a_core_look, c_core_look, binA, hW, hCm, e1, e2, e3, e4, e5, e6, e7, hF, hCh, h0, h1, rowsT]
      | true =>
        have e9 := e9 rfl
        simp -implicitDefEqProofs [a_core_look, c_core_look, binA, hW, hCm, e1, e2, ← e9, e4, e5, e6, e7, hF, hCh, h0, h1, rowsT]
  · have hz : ¬ (ks.length : Int) = 0 := fun h => by
      obtain ⟨l, x, rfl⟩ := hne
      have := hz h
      simp at this
    have hz2 : ¬ ks = [] := fun h => hz (by rw [h]; rfl)
    have e10 : (P.length : Int) + 1 + ((rowsT ks).length : Int) = (P.length : Int) + (((rowsT ks).length : Int) + 1) := by omega
    rw [e10] at h0
    have e11 : IntKind.i64.wrap (((rowsT ks).length : Int) + 1) = ((rowsT ks).length : Int) + 1 := Go.IntWalk.i64_in _ ⟨by omega, by omega⟩
    cases w with
    | true =>
      rw [(kind_word hw).1] at hW
      cases last with
      | false => simp -implicitDefEqProofs [a_core_look, c_core_look, binA, hW, hCm, e1, e2, e3, e4, e5, e6, e7, hF, hCh, h0, h1, e11, hz, hz2]
      | true =>
        have e9 := e9 rfl
        simp -implicitDefEqProofs [a_core_look, c_core_look, binA, hW, hCm, e1, e2, ← e9, e4, e5, e6, e7, hF, hCh, h0, h1, e11, hz, hz2]
    | false =>
      rw [(kind_cmd hw).1] at hCm
      cases last with
      | false => simp -implicitDefEqProofs [a_core_look, c_core_look, binA, hW, hCm, e1, e2, e3, e4, e5, e6, e7, hF, hCh, h0, h1, e11, hz, hz2]
      | true =>
        have e9 := e9 rfl
        simp -implicitDefEqProofs [a_core_look, c_core_look, binA, hW, hCm, e1, e2, ← e9, e4, e5, e6, e7, hF, hCh, h0, h1, e11, hz, hz2]
mutual
theorem v_look : ∀ t : Tr, LookOk t
  | .mk k n s ks => v_look_of (v_looks ks)
theorem v_looks : ∀ (l : List Tr), ∀ t ∈ l, LookOk t
  | [], t, h => by cases h
  | x :: l, t, h => (List.mem_cons.1 h).elim (fun e => e ▸ v_look x) (v_looks l t)
end
end
end Go.Proofs.YtbpgbhmibmcbnaaGreatDoor.Val

/-! Rules: commands one behind the other, values, functions. -/
set_option linter.unusedSimpArgs false
set_option linter.unusedVariables false
namespace Go.Proofs.YtbpgbhmibmcbnaaGreatDoor.Val
open Go Go.Proofs.YtbpgbhmibmcbnaaGreatDoor.Ram

abbrev node0 : VObj := .cells [.int .i64 0, .int .i64 0, .int .i64 0, .int .i64 0, .str []] []
section
variable {mx dm : Int} {st : RSt}
theorem v_seq {ks : List Tr} {v : Int} {st' : RSt} {E : Option Nat} (hq : SeqOk mx dm ks 0 st E v st') (hl : ks.length < 1000000) : ∀ S I, I.mx = mx → I.dm = dm → Inv S I st →
    ∃ S', VCall VT F_run_runner_seq [.ptr (some (I.r, 0)), tsv ks] [] S = some (.tup [.int .i64 (if E = none then v else 0), errO E], [], S') ∧ InvE E S' I st' ∧ Keep S S' I.has := by
  intro S I hm hd hi
  have h := seq_loop hq [] S I hm hd hi (by simpa using hl)
  simp only [List.nil_append, List.length_nil] at h
  rcases h with ⟨rfl, S', f, h1, h2, h3⟩ | ⟨e, rfl, he, S', f, h1, h2, h3⟩
  · refine ⟨S', ?_, h2, h3⟩
    have h1 : loopX VT.E VT.Fl (VCall VT) c_run_runner_seq_l0 ⟨[(0, .ptr (some (I.r, 0))), (6, .int .i64 0), (10, tsv ks), (11, .int .i64 (ks.length : Nat)), (12, .int .i64 0)], [], S⟩ = _ := h1
    rw [VCall_made (F := a_run_runner_seq) rfl rfl rfl rfl]
    simp -implicitDefEqProofs [a_run_runner_seq, c_run_runner_seq, binA, h1, errO]
  · refine ⟨S', ?_, h2, h3⟩
    have h1 : loopX VT.E VT.Fl (VCall VT) c_run_runner_seq_l0 ⟨[(0, .ptr (some (I.r, 0))), (6, .int .i64 0), (10, tsv ks), (11, .int .i64 (ks.length : Nat)), (12, .int .i64 0)], [], S⟩ = _ := h1
    rw [VCall_made (F := a_run_runner_seq) rfl rfl rfl rfl]
    simp -implicitDefEqProofs [a_run_runner_seq, c_run_runner_seq, binA, h1, errO]
theorem SeqOk.same {ks : List Tr} {v0 v : Int} {st' : RSt} {E : Option Nat} (hq : SeqOk mx dm ks v0 st E v st') : E = none → st'.caught.isSome = st.caught.isSome := by
  induction hq with
  | nil => intro _; rfl
  | cons h k ih => intro e; rw [ih e, h.same rfl]
  | err h => intro e; cases e
theorem SeqOk.lt {ks : List Tr} {v0 v : Int} {st' : RSt} {E : Option Nat} (hq : SeqOk mx dm ks v0 st E v st') : ∀ e, E = some e → e < 50 := by
  induction hq with
  | nil => intro e he; cases he
  | cons h k ih => exact ih
  | err h => intro e' he; exact h.err _ he
theorem do_seq {n : Int} {s : Str} {ks : List Tr} {v : Int} {st' : RSt} {E : Option Nat} (hz : (rowsT ks).length < 800000) (hq : SeqOk mx dm ks 0 st E v st') : DoOk mx dm (.mk 23 n s ks) st E (if E = none then v else 0) st' := by
  have hz' : (Tr.rows (.mk 23 n s ks)).length < 900000 := by simp [Tr.rows]; omega
  have hkl := kids_le (.mk 23 n s ks)
  simp only [Tr.kids] at hkl
  refine ⟨hz', hq.same, hq.lt, ?_⟩
  intro S I hm hd h
  have hk : VCall VT F_run_kids [tv (.mk 23 n s ks)] [] (S.push node0) = some (tsv ks, [], S.push node0) := v_kids (t := .mk 23 n s ks) (by omega) (by simp only [Tr.kids]; omega)
  obtain ⟨S', k1, k2, k3⟩ := v_seq hq (by omega) (S.push (.cells (ndRow 23 n ks.length ((rowsT ks).length + 1 : Nat) s) [])) I hm hd h.push
  refine ⟨S', ?_, k2, Keep.push.trans k3⟩
  simp only [Int.natCast_add, Int.cast_ofNat_Int] at k1
  rw [VCall_made (F := a_run_runner_do) rfl rfl rfl rfl]
  simp -implicitDefEqProofs [a_run_runner_do, c_run_runner_do, binA, Tr.rows, hk, k1]
end
end Go.Proofs.YtbpgbhmibmcbnaaGreatDoor.Val

/-! Rules: a value is set; a function is set; steps are out. -/
set_option linter.unusedSimpArgs false
set_option linter.unusedVariables false
namespace Go.Proofs.YtbpgbhmibmcbnaaGreatDoor.Val
open Go Go.Proofs.YtbpgbhmibmcbnaaGreatDoor.Ram

def RSt.stepped (st : RSt) : RSt := { st with steps := st.steps + 1 }
section
variable {mx dm : Int} {st : RSt}
theorem v_stepped {S : VH} {I : Ids} (h : Inv S I st) (hm : I.mx < 1000000) (h0 : 0 ≤ st.steps) (hs : st.steps < I.mx) : ∃ own, VCall VT F_run_runner_step [.ptr (some (I.r, 0))] [] S = some (.nilI, [], S.set I.r (.cells (encR I st.stepped) own)) ∧ Inv (S.set I.r (.cells (encR I st.stepped) own)) I st.stepped := by
  rcases v_step h h0 hm with ⟨_, own, hO, h1⟩ | ⟨e, _⟩
  · exact ⟨own, h1, h.setR (n := st.steps + 1) (d := st.depth) (i := st.inn) (f := st.file) hO⟩
  · omega
end
end Go.Proofs.YtbpgbhmibmcbnaaGreatDoor.Val

/-! Rules: words put together. -/
set_option linter.unusedSimpArgs false
set_option linter.unusedVariables false
namespace Go.Proofs.YtbpgbhmibmcbnaaGreatDoor.Val
open Go Go.Proofs.YtbpgbhmibmcbnaaGreatDoor.Ram

def ByOk (g : Nat) (byF : List (List Str) → Option (List Str)) (D : List (List Str) → Prop) : Prop := ∀ (S : VH) (ls : List (List Str)), D ls → GlOk S → ls.length < 1000 → (∀ x ∈ ls, x.length < 1000000) →
  VCall VT g [lssV ls] [] S = some (match byF ls with | some l => .tup [strsV l, .nilI] | none => .tup [.lst 1 [], errG G_api_ErrBig], [], S)
def catF (ls : List (List Str)) : Option (List Str) := if fitL ls.flatten = true then some ls.flatten else none
theorem cat_by : ByOk F_lists_Cat catF fun _ => True := by
  intro S ls _ h hl hx
  rw [v_Cat h (by omega) hx]
  unfold catF
  split <;> rfl
inductive TogOk (mx dm : Int) (byF : List (List Str) → Option (List Str)) (D : List (List Str) → Prop) : List Tr → Option (List Str) → RSt → Option Nat → List Str → RSt → Prop
  | nil {out : Option (List Str)} {st : RSt} {l : List Str} (hD : D out.toList) (h : byF out.toList = some l) : TogOk mx dm byF D [] out st none l st
  | nilE {out : Option (List Str)} {st : RSt} (hD : D out.toList) (h : byF out.toList = none) : TogOk mx dm byF D [] out st (some G_api_ErrBig) [] st
  | cons {w : Tr} {ws : List Tr} {out : Option (List Str)} {st st1 st' : RSt} {x y l : List Str} {E : Option Nat} (h : WordOk mx dm w st none x st1) (hx : x.length < 1000000) (hD : D (out.toList ++ [x])) (hb : byF (out.toList ++ [x]) = some y) (hy : y.length < 1000000)
      (k : TogOk mx dm byF D ws (some y) st1 E l st') : TogOk mx dm byF D (w :: ws) out st E l st'
  | wordE {w : Tr} {ws : List Tr} {out : Option (List Str)} {st st1 : RSt} {x : List Str} {e : Nat} (h : WordOk mx dm w st (some e) x st1) : TogOk mx dm byF D (w :: ws) out st (some e) [] st1
  | byE {w : Tr} {ws : List Tr} {out : Option (List Str)} {st st1 : RSt} {x : List Str} (h : WordOk mx dm w st none x st1) (hx : x.length < 1000000) (hD : D (out.toList ++ [x])) (hb : byF (out.toList ++ [x]) = none) : TogOk mx dm byF D (w :: ws) out st (some G_api_ErrBig) [] st1
section
variable {mx dm : Int} {st : RSt} {byF : List (List Str) → Option (List Str)} {D : List (List Str) → Prop}
theorem TogOk.same {ws : List Tr} {out : Option (List Str)} {E : Option Nat} {l : List Str} {st' : RSt} (h : TogOk mx dm byF D ws out st E l st') : E = none → st'.caught.isSome = st.caught.isSome := by
  induction h with
  | nil _ h => intro _; rfl
  | nilE _ h => intro e; cases e
  | cons h hx _ hb hy k ih => intro e; rw [ih e, h.same rfl]
  | wordE h => intro e; cases e
  | byE h hx _ hb => intro e; cases e
theorem TogOk.lt {ws : List Tr} {out : Option (List Str)} {E : Option Nat} {l : List Str} {st' : RSt} (h : TogOk mx dm byF D ws out st E l st') : ∀ e, E = some e → e < 50 := by
  induction h with
  | nil _ h => intro e he; cases he
  | nilE _ h => intro e he; cases he; decide
  | cons h hx _ hb hy k ih => exact ih
  | wordE h => intro e he; exact h.err _ he
  | byE h hx _ hb => intro e he; cases he; decide
theorem tog_loop {g : Nat} (hg : ByOk g byF D) {ws : List Tr} {out : Option (List Str)} {E : Option Nat} {l : List Str} {st' : RSt} (hq : TogOk mx dm byF D ws out st E l st') : ∀ (pre : List Tr) (S : VH) (I : Ids), I.mx = mx → I.dm = dm → Inv S I st → pre.length + ws.length < 1000000 → (∀ x ∈ out, x.length < 1000000) →
    (∃ S' f y, loopX VT.E VT.Fl (VCall VT) c_run_runner_together_l0 ⟨[(0, .ptr (some (I.r, 0))), (2, .fn g []), (8, lssV out.toList), (14, tsv (pre ++ ws)), (15, .int .i64 ((pre ++ ws).length : Nat)), (16, .int .i64 (pre.length : Nat))], [(8, .own)], S⟩ = some (.exit 0, ⟨(0, .ptr (some (I.r, 0))) :: (2, .fn g []) :: (8, lssV y) :: f, [(8, .own)], S'⟩) ∧ Inv S' I st' ∧ Keep S S' I.has ∧ D y ∧ y.length < 1000 ∧ (∀ x ∈ y, x.length < 1000000) ∧ ((byF y = some l ∧ E = none) ∨ (byF y = none ∧ E = some G_api_ErrBig))) ∨
    (∃ e, E = some e ∧ ∃ S' f w, loopX VT.E VT.Fl (VCall VT) c_run_runner_together_l0 ⟨[(0, .ptr (some (I.r, 0))), (2, .fn g []), (8, lssV out.toList), (14, tsv (pre ++ ws)), (15, .int .i64 ((pre ++ ws).length : Nat)), (16, .int .i64 (pre.length : Nat))], [(8, .own)], S⟩ = some (.ret, ⟨(7, errG e) :: (6, .lst 1 []) :: f, w, S'⟩) ∧ InvE E S' I st' ∧ Keep S S' I.has) := by
  have hK : ∀ f w h, loopX VT.E VT.Fl (VCall VT) c_run_runner_together_l0 ⟨f, w, h⟩ = loopX VT.E VT.Fl (VCall VT) c_run_runner_together_l0 ⟨VFr.keep f [0, 2, 8, 14, 15, 16], Rts.keep w.noCell [0, 2, 8, 14, 15, 16], h⟩ := fun _ _ _ => loopX_keep
  have ho : ∀ out : Option (List Str), out.toList.length ≤ 1 := fun out => by cases out <;> simp
  have hm : ∀ out : Option (List Str), (∀ x ∈ out, x.length < 1000000) → ∀ x ∈ out.toList, x.length < 1000000 := fun out h x hx => h x (by simpa using hx)
  have done : ∀ (out : Option (List Str)) (st : RSt) (pre : List Tr) (S : VH) (I : Ids), Inv S I st → ∃ f, loopX VT.E VT.Fl (VCall VT) c_run_runner_together_l0 ⟨[(0, .ptr (some (I.r, 0))), (2, .fn g []), (8, lssV out.toList), (14, tsv (pre ++ [])), (15, .int .i64 ((pre ++ []).length : Nat)), (16, .int .i64 (pre.length : Nat))], [(8, .own)], S⟩ = some (.exit 0, ⟨(0, .ptr (some (I.r, 0))) :: (2, .fn g []) :: (8, lssV out.toList) :: f, [(8, .own)], S⟩) := by
    intro out st pre S I hi
    refine ⟨[(14, tsv pre), (15, .int .i64 (pre.length : Nat)), (16, .int .i64 (pre.length : Nat)), (17, .bool false)], ?_⟩
    rw [loopX_eq]
    simp -implicitDefEqProofs [c_run_runner_together_l0, binA]
  induction hq with
  | @nil out st l hD h =>
    intro pre S I _ _ hi hl hx
    left
    obtain ⟨f, hf⟩ := done out st pre S I hi
    exact ⟨S, f, _, hf, hi, Keep.refl _ _, hD, by have := ho out; omega, hm out hx, .inl ⟨h, rfl⟩⟩
  | @nilE out st hD h =>
    intro pre S I _ _ hi hl hx
    left
    obtain ⟨f, hf⟩ := done out st pre S I hi
    exact ⟨S, f, _, hf, hi, Keep.refl _ _, hD, by have := ho out; omega, hm out hx, .inr ⟨h, rfl⟩⟩
  | @wordE w ws out st st1 x e h =>
    intro pre S I hmx hd hi hl hxo
    simp only [List.length_cons] at hl
    obtain ⟨S1, k1, k2, k3⟩ := h.run S I hmx hd hi
    have hx : (pre ++ w :: ws)[pre.length]? = some w := by simp
    have hlt : (pre.length : Int) < (pre.length : Int) + ((ws.length : Int) + 1) := by omega
    right
    refine ⟨e, rfl, S1, ?_⟩
    simp only [errO] at k1
    rw [loopX_eq]
    generalize loopX VT.E VT.Fl (VCall VT) c_run_runner_together_l0 = L at *
    simp -implicitDefEqProofs [c_run_runner_together_l0, binA, hlt, hx, k1, k2, k3]
  | @byE w ws out st st1 x h hxl hD hb =>
    intro pre S I hmx hd hi hl hxo
    simp only [List.length_cons] at hl
    obtain ⟨S1, k1, k2, k3⟩ := h.run S I hmx hd hi
    have k2 : Inv S1 I st1 := k2
    have hx : (pre ++ w :: ws)[pre.length]? = some w := by simp
    have hlt : (pre.length : Int) < (pre.length : Int) + ((ws.length : Int) + 1) := by omega
    have hc := hg S1 (out.toList ++ [x]) hD k2.g (by have := ho out; simp; omega) (fun z hz => (List.mem_append.1 hz).elim (hm out hxo z) fun hz => by obtain rfl := List.mem_singleton.1 hz; exact hxl)
    rw [hb] at hc
    have el : lssV (out.toList ++ [x]) = .lst 1 (out.toList.map (fun x => [strsV x]) ++ [[strsV x]]) := by simp [lssV]
    rw [el] at hc
    have e7 : (out.toList.length + 1) * 24 ≤ 140737488355328 := by have := ho out; omega
    right
    refine ⟨G_api_ErrBig, rfl, S1, ?_⟩
    simp only [errO, if_true] at k1
    rw [loopX_eq]
    generalize loopX VT.E VT.Fl (VCall VT) c_run_runner_together_l0 = L at *
    generalize out.toList = ol at *
    simp -implicitDefEqProofs [c_run_runner_together_l0, binA, hlt, hx, k1, hc, e7, k3]
    exact k2.toE
  | @cons w ws out st st1 st' x y l E h hxl hD hb hyl k ih =>
    intro pre S I hmx hd hi hl hxo
    simp only [List.length_cons] at hl
    obtain ⟨S1, k1, k2, k3⟩ := h.run S I hmx hd hi
    have k2 : Inv S1 I st1 := k2
    have hx : (pre ++ w :: ws)[pre.length]? = some w := by simp
    have hlt : (pre.length : Int) < (pre.length : Int) + ((ws.length : Int) + 1) := by omega
    have hw := wrap_succ (j := pre.length) (n := pre.length + 1) (by omega) (by omega)
    have hc := hg S1 (out.toList ++ [x]) hD k2.g (by have := ho out; simp; omega) (fun z hz => (List.mem_append.1 hz).elim (hm out hxo z) fun hz => by obtain rfl := List.mem_singleton.1 hz; exact hxl)
    rw [hb] at hc
    have el : lssV (out.toList ++ [x]) = .lst 1 (out.toList.map (fun x => [strsV x]) ++ [[strsV x]]) := by simp [lssV]
    rw [el] at hc
    have e7 : (out.toList.length + 1) * 24 ≤ 140737488355328 := by have := ho out; omega
    have hrl := hi.hr.1
    have key : ∃ S2, Inv S2 I st1 ∧ Keep S S2 I.has ∧ (loopX VT.E VT.Fl (VCall VT) c_run_runner_together_l0 ⟨[(0, .ptr (some (I.r, 0))), (2, .fn g []), (8, lssV out.toList), (14, tsv (pre ++ w :: ws)), (15, .int .i64 ((pre ++ w :: ws).length : Nat)), (16, .int .i64 (pre.length : Nat))], [(8, .own)], S⟩ = loopX VT.E VT.Fl (VCall VT) c_run_runner_together_l0 ⟨[(0, .ptr (some (I.r, 0))), (2, .fn g []), (8, .lst 1 [[strsV y]]), (14, tsv (pre ++ w :: ws)), (15, .int .i64 ((pre ++ w :: ws).length : Nat)), (16, .int .i64 ((pre.length : Int) + 1))], [(8, .own)], S2⟩) := by
      simp only [errO, if_true] at k1
      by_cases hcl : cloH S S1
      · refine ⟨VH.trim S S1, hi.trim k2, k3.trim, ?_⟩
        rw [loopX_eq]
        generalize loopX VT.E VT.Fl (VCall VT) c_run_runner_together_l0 = L at *
        generalize out.toList = ol at *
        simp -implicitDefEqProofs [c_run_runner_together_l0, binA, hlt, hx, k1, hc, e7, hw, hcl, hrl]
        rw [hK]
        simp
      · refine ⟨S1, k2, k3, ?_⟩
        rw [loopX_eq]
        generalize loopX VT.E VT.Fl (VCall VT) c_run_runner_together_l0 = L at *
        generalize out.toList = ol at *
        simp -implicitDefEqProofs [c_run_runner_together_l0, binA, hlt, hx, k1, hc, e7, hw, hcl, hrl]
        rw [hK]
        simp
    obtain ⟨S2, i2, kp, he⟩ := key
    have h2 := ih (pre ++ [w]) S2 I hmx hd i2 (by simp; omega) (by simpa using hyl)
    simp only [List.append_assoc, List.singleton_append, List.length_append, List.length_singleton, Int.natCast_add, Int.cast_ofNat_Int, Option.toList_some, List.map_cons, List.map_nil] at h2
    rw [he]
    simp only [List.length_append, Int.natCast_add]
    rcases h2 with ⟨S', f, z, b1, b2, b3, b4⟩ | ⟨e, a, S', f, w', b1, b2, b3⟩
    · exact .inl ⟨S', f, z, b1, b2, kp.trans b3, b4⟩
    · exact .inr ⟨e, a, S', f, w', b1, b2, kp.trans b3⟩
end
end Go.Proofs.YtbpgbhmibmcbnaaGreatDoor.Val

/-! Rules: a word of words, a word as one text. -/
set_option linter.unusedSimpArgs false
set_option linter.unusedVariables false
namespace Go.Proofs.YtbpgbhmibmcbnaaGreatDoor.Val
open Go Go.Proofs.YtbpgbhmibmcbnaaGreatDoor.Ram

section
variable {mx dm : Int} {st : RSt} {byF : List (List Str) → Option (List Str)} {D : List (List Str) → Prop}
theorem v_together {g : Nat} (hg : ByOk g byF D) {ws : List Tr} {E : Option Nat} {l : List Str} {st' : RSt} (hq : TogOk mx dm byF D ws none st E l st') (hl : ws.length < 1000000) : ∀ S I, I.mx = mx → I.dm = dm → Inv S I st →
    ∃ S', VCall VT F_run_runner_together [.ptr (some (I.r, 0)), tsv ws, .fn g []] [] S = some (.tup [strsV (if E = none then l else []), errO E], [], S') ∧ InvE E S' I st' ∧ Keep S S' I.has := by
  intro S I hm hd hi
  have h := tog_loop hg hq [] S I hm hd hi (by simpa using hl) (fun x hx => by cases hx)
  simp only [List.nil_append, List.length_nil, Option.toList_none, List.map_nil] at h
  rcases h with ⟨S', f, y, h1, h2, h3, hD, h4, h5, h6⟩ | ⟨e, rfl, S', f, w, h1, h2, h3⟩
  · have h1 : loopX VT.E VT.Fl (VCall VT) c_run_runner_together_l0 ⟨[(0, .ptr (some (I.r, 0))), (2, .fn g []), (8, .lst 1 []), (14, tsv ws), (15, .int .i64 (ws.length : Nat)), (16, .int .i64 0)], [(8, .own)], S⟩ = _ := h1
    have hc := hg S' y hD h2.g h4 h5
    rcases h6 with ⟨hb, rfl⟩ | ⟨hb, rfl⟩
    · refine ⟨S', ?_, h2, h3⟩
      rw [hb] at hc
      rw [VCall_made (F := a_run_runner_together) rfl rfl rfl rfl]
      simp -implicitDefEqProofs [a_run_runner_together, c_run_runner_together, binA, h1, hc, errO]
    · refine ⟨S', ?_, h2.toE, h3⟩
      rw [hb] at hc
      rw [VCall_made (F := a_run_runner_together) rfl rfl rfl rfl]
      simp -implicitDefEqProofs [a_run_runner_together, c_run_runner_together, binA, h1, hc, errO]
  · refine ⟨S', ?_, h2, h3⟩
    have h1 : loopX VT.E VT.Fl (VCall VT) c_run_runner_together_l0 ⟨[(0, .ptr (some (I.r, 0))), (2, .fn g []), (8, .lst 1 []), (14, tsv ws), (15, .int .i64 (ws.length : Nat)), (16, .int .i64 0)], [(8, .own)], S⟩ = _ := h1
    rw [VCall_made (F := a_run_runner_together) rfl rfl rfl rfl]
    simp -implicitDefEqProofs [a_run_runner_together, c_run_runner_together, binA, h1, errO]
end
end Go.Proofs.YtbpgbhmibmcbnaaGreatDoor.Val

/-! Rules: two texts joined. -/
set_option linter.unusedSimpArgs false
set_option linter.unusedVariables false
namespace Go.Proofs.YtbpgbhmibmcbnaaGreatDoor.Val
open Go Go.Proofs.YtbpgbhmibmcbnaaGreatDoor.Ram

section
variable {S : VH}
end
def joinF (ls : List (List Str)) : Option (List Str) := match ls with
  | [[a]] => if fitL [a] = true then some [a] else none
  | [[a], [b]] => if fitL [a ++ b] = true then some [a ++ b] else none
  | _ => none
def joinD (ls : List (List Str)) : Prop := (∃ a, ls = [[a]] ∧ a.length < 1000000) ∨ ∃ a b, ls = [[a], [b]] ∧ a.length < 1000000 ∧ b.length < 1000000
section
variable {mx dm : Int} {st : RSt}
end
end Go.Proofs.YtbpgbhmibmcbnaaGreatDoor.Val

/-! Rules: what a command says, as a word. -/
set_option linter.unusedSimpArgs false
set_option linter.unusedVariables false
namespace Go.Proofs.YtbpgbhmibmcbnaaGreatDoor.Val
open Go Go.Proofs.YtbpgbhmibmcbnaaGreatDoor.Ram

section
variable {mx dm : Int} {st : RSt}
end
end Go.Proofs.YtbpgbhmibmcbnaaGreatDoor.Val

/-! builtin.Do. -/
set_option linter.unusedSimpArgs false
set_option linter.unusedVariables false
namespace Go.Proofs.YtbpgbhmibmcbnaaGreatDoor.Val
open Go Go.Proofs.YtbpgbhmibmcbnaaGreatDoor.Ram

def nPut : Str := [112, 117, 116]
def nEcho : Str := [101, 99, 104, 111]
def nCat : Str := [99, 97, 116]
def nTrue : Str := [116, 114, 117, 101]
def nRead : Str := [114, 101, 97, 100]
section
variable {S : VH} {i : Str}
theorem v_Do_is {n : Str} {g : Nat} {args : V} {o : OutC} (hn : mapGetV cmdL n = some (.fn g [])) (ha : ∀ m, S.next ≤ m → V.clo m args = true)
    (hc : ∀ S1 q, q < S1.next → S1.get q = some (.cells (outC (out0 i)) []) → ∃ own, VCall VT g [.ptr (some (q, 0)), .str i, args] [] S1 = some (.tup [], [], S1.set q (.cells (outC o) own))) :
    VCall VT F_builtin_Do [.str n, .str i, args] [] S = some (.tup [.agg (outC o), .bool true], [], S) := by
  have hC := v_commands (S := S.push (.cells (outC ⟨[], [], 0, [], [], false⟩) []))
  have hk : lookupV ((S.push (.cells (outC ⟨[], [], 0, [], [], false⟩) [])).push (.map cmdL)) .nilFn true (.map (some (S.next + 1))) (.str n) = some (.tup [.fn g [], .bool true]) := by simp [lookupV, hn]
  obtain ⟨own, hc⟩ := hc (((S.push (.cells (outC ⟨[], [], 0, [], [], false⟩) [])).push (.map cmdL)).push (.cells (outC (out0 i)) [])) (S.next + 1 + 1) (by simp) (by simp)
  have hc : VCall VT g [.ptr (some (S.next + 1 + 1, 0)), .str i, args] [] (((S.push (.cells (outC ⟨[], [], 0, [], [], false⟩) [])).push (.map cmdL)).push (.cells [.str [], .str i, .int .i64 0, .str [], .str [], .bool false] [])) = _ := hc
  have hcl := ha S.next (Nat.le_refl _)
  have a3 : S.next ≤ S.next + 1 + 1 := by omega
  have a1 : ¬ S.next = S.next + 1 + 1 := by omega
  have a2 : ¬ S.next + 1 + 1 = S.next := by omega
  rw [VCall_of (F := a_builtin_Do) rfl rfl rfl rfl]
  simp -implicitDefEqProofs [a_builtin_Do, c_builtin_Do, hC, hn, pickM, hc, a1, a2, a3, hcl, out0]

theorem v_Do_not {n : Str} {args : V} (hn : mapGetV cmdL n = none) :
    VCall VT F_builtin_Do [.str n, .str i, args] [] S = some (.tup [.agg (outC ⟨[], [], 0, [], [], false⟩), .bool false], [], S) := by
  have hC := v_commands (S := S.push (.cells (outC ⟨[], [], 0, [], [], false⟩) []))
  have a3 : S.next ≤ S.next + 1 + 1 := by omega
  have a1 : ¬ S.next = S.next + 1 + 1 := by omega
  have a2 : ¬ S.next + 1 + 1 = S.next := by omega
  rw [VCall_of (F := a_builtin_Do) rfl rfl rfl rfl]
  simp -implicitDefEqProofs [a_builtin_Do, c_builtin_Do, hC, hn, pickM, a1, a2, a3]
structure BOk (n : Str) (i : Str) (args : List Str) (o : OutC) : Prop where
  run : ∀ S, VCall VT F_builtin_Do [.str n, .str i, strsV args] [] S = some (.tup [.agg (outC o), .bool true], [], S)
theorem b_put {s : Str} : BOk nPut i [s] { out0 i with out := s } := ⟨fun S => v_Do_is (g := F_builtin_put) rfl (fun _ _ => by simp) fun S1 q hq hg => ⟨_, v_put1 hq hg⟩⟩
theorem b_cat {args : List Str} : BOk nCat i args { out0 i with out := i, rest := [] } := ⟨fun S => v_Do_is (g := F_builtin_cat) rfl (fun _ _ => by simp) fun S1 q hq hg => ⟨_, v_cat hq hg⟩⟩
theorem b_true {args : List Str} : BOk nTrue i args (out0 i) := ⟨fun S => v_Do_is (g := F_builtin_yes) rfl (fun _ _ => by simp) fun S1 q hq hg => ⟨[], by
  rw [set_self hg]; exact v_yes⟩⟩
theorem b_echo {s : Str} (hs : s.length < 1000000) : BOk nEcho i [s] { out0 i with out := s ++ [10] } := ⟨fun S => v_Do_is (g := F_builtin_echo) rfl (fun _ _ => by simp) fun S1 q hq hg => v_echo1 hq hg (by omega)⟩
end
end Go.Proofs.YtbpgbhmibmcbnaaGreatDoor.Val

/-! Rules: a command of the shell's own is called. -/
set_option linter.unusedSimpArgs false
set_option linter.unusedVariables false
namespace Go.Proofs.YtbpgbhmibmcbnaaGreatDoor.Val
open Go Go.Proofs.YtbpgbhmibmcbnaaGreatDoor.Ram

section
variable {mx dm : Int} {st : RSt}
theorem slc_tail {n : Str} {args : List Str} : slcV 1 (strsV (n :: args)) (some (.int .i64 1)) none = some (strsV args) := by
  have : List.take args.length (args.map strRow) = args.map strRow := List.take_of_length_le (by simp)
  simp [slcV, bndV, natV, this]
theorem sayS_same {st2 : RSt} {d : Str} (h : sayS st d = some st2) : st2.X = st.X ∧ st2.steps = st.steps ∧ st2.depth = st.depth ∧ st2.inn = st.inn ∧ st2.file = st.file ∧ st2.caught.isSome = st.caught.isSome := by
  unfold sayS at h
  cases hc : st.caught with
  | none =>
    rw [hc] at h
    obtain rfl := Option.some.inj h
    split <;> simp [hc]
  | some t =>
    rw [hc] at h
    simp only at h
    split at h
    · obtain rfl := Option.some.inj h; simp
    · cases h
theorem v_call_b {S : VH} {I : Ids} (h : Inv S I st) (hk : st.Ok) {n : Str} {args : List Str} {o : OutC} (hf : aget st.X.funs n = none) (hb : BOk n st.inn args o) (ho : o.name = [] ∧ o.fin = false) (hol : o.out.length < 1000000) {st2 : RSt} (hsay : sayS st o.out = some st2) :
    ∃ S', VCall VT F_run_runner_call [.ptr (some (I.r, 0)), strsV (n :: args)] [] S = some (.tup [.int .i64 o.status, .nilI], [], S') ∧ Inv S' I { st2 with inn := o.rest } ∧ Keep S S' I.has := by
  obtain ⟨own, gr, hO⟩ := h.gr
  obtain ⟨⟨n0, n1, n2, n3, n4⟩, n7, n8, n9, n10, n11, n12⟩ := hO.no
  have hF := v_Fun (n := n) h.hx hk.x
  rw [hf] at hF
  have hB := hb.run S
  have hP := h.push (o := .cells (outC o) [])
  rcases v_say hP hk.f hk.t hk.c hol with ⟨st3, S2, e1, k1, k2, k3, k4⟩ | ⟨e1, _⟩
  · rw [hsay] at e1
    obtain rfl := Option.some.inj e1
    obtain ⟨own2, gr2, hO2⟩ := k2.gr
    have hrl := h.hr.1
    have b1 : ¬ I.r = S.next := by omega
    have b2 : ¬ S.next = I.r := by omega
    have g10 : S2.get S.next = some (.cells (outC o) []) := by
      rw [k3.get S.next (by simp) (h.notNew (Nat.le_refl _))]; simp
    obtain ⟨s1, s2, s3, s4, s5, s6⟩ := sayS_same hsay
    refine ⟨_, ?_, k2.setR (n := st2.steps) (d := st2.depth) (i := o.rest) (f := st2.file) (own := keepO own2 10 1) hO2.keep, (Keep.push.trans k3).trans (Keep.set (.inl rfl))⟩
    obtain ⟨ou, re, sta, na, va, fi⟩ := o
    obtain ⟨rfl, rfl⟩ : na = [] ∧ fi = false := ho
    unfold encR at gr gr2
    have c1 : ¬ ((args.length : Int) + 1 = 0) := by omega
    rw [VCall_made (F := a_run_runner_call) rfl rfl rfl rfl]
    simp -implicitDefEqProofs [a_run_runner_call, c_run_runner_call, binA, gr, n0, n1, n2, n3, n4, n7, n8, n9, n10, n11, n12, c1, slc_tail, hF, hB, k1, gr2, g10, b1, b2, encR]
  · rw [hsay] at e1; cases e1
theorem do_call_b {k : Int} {s : Str} {ws : List Tr} {n : Str} {args : List Str} {o : OutC} {st1 st2 : RSt} (hz : (rowsT ws).length < 800000) (hm : mx < 1000000) (h0 : 0 ≤ st.steps) (hs : st.steps < mx) (hq : TogOk mx dm catF (fun _ => True) ws none st.stepped none (n :: args) st1)
    (hk : st1.Ok) (hf : aget st1.X.funs n = none) (hb : BOk n st1.inn args o) (ho : o.name = [] ∧ o.fin = false) (hol : o.out.length < 1000000) (hsay : sayS st1 o.out = some st2) : DoOk mx dm (.mk 21 k s ws) st none o.status { st2 with inn := o.rest } := by
  have hz' : (Tr.rows (.mk 21 k s ws)).length < 900000 := by simp [Tr.rows]; omega
  have hkl := kids_le (.mk 21 k s ws)
  simp only [Tr.kids] at hkl
  refine ⟨hz', fun _ => ?_, fun e he => (by cases he), ?_⟩
  · obtain ⟨_, _, _, _, _, s6⟩ := sayS_same hsay
    show st2.caught.isSome = _
    rw [s6, hq.same rfl]; rfl
  intro S I hmx hd h
  have hk1 : VCall VT F_run_kids [tv (.mk 21 k s ws)] [] (S.push node0) = some (tsv ws, [], S.push node0) := v_kids (t := .mk 21 k s ws) (by omega) (by simp only [Tr.kids]; omega)
  obtain ⟨own, hst, hi⟩ := v_stepped (h.push (o := .cells (ndRow 21 k ws.length ((rowsT ws).length + 1 : Nat) s) [])) (by omega) h0 (by omega)
  obtain ⟨S1, k1, k2, k3⟩ := v_together cat_by hq (by omega) _ I hmx hd hi
  have k2 : Inv S1 I st1 := k2
  obtain ⟨S2, j1, j2, j3⟩ := v_call_b k2 hk hf hb ho hol hsay
  refine ⟨S2, ?_, j2, ((Keep.push.trans (Keep.set (.inl rfl))).trans k3).trans j3⟩
  have a1 : ¬ S.next = I.r := by have := h.hr.1; omega
  simp only [Int.natCast_add, Int.cast_ofNat_Int, errO, if_true] at k1 hst ⊢
  rw [VCall_made (F := a_run_runner_do) rfl rfl rfl rfl]
  simp -implicitDefEqProofs [a_run_runner_do, c_run_runner_do, binA, Tr.rows, hk1, hst, k1, j1, a1]
end
end Go.Proofs.YtbpgbhmibmcbnaaGreatDoor.Val

/-
  The law KernelMarks: for every input the statement's function returns true and leaves its arguments bs they were; the laid variables are a condition of the row. 
-/
import Derived.Test.YtlecbjcloleiiaaDoorRows
import Derived.Test.YtlecbjcloleiiaaDoorKerM
import Derived.Test.YtlecbjcloleiiaaDoorRamQ
import Derived.WalkKit
import Derived.ProofKit
import Derived.OpenShut
import Derived.Below
import Derived.SizedLaws
import Derived.LaidMore
import Derived.Stop.Joined
namespace Go.Proofs.YtlecbjcloleiiaaDoor.marks
open Go Go.ChangeShapes Go.WideShapes Go.ChangeAt Go.RowKit
open Go.Proofs.YtlecbjcloleiiaaDoor.Ram

theorem own : ownKnob Tryd.prog.godebug = none := by kernel_rfl
theorem laidOut : laidOutB Tryd.prog = true := by kernel_rfl
def IsRow (k : IntKind) (w : World) (a : Option Addr) (len cap : Nat) (zs : List Int) : Prop :=
  (a = none ∧ len = 0 ∧ cap = 0 ∧ zs = []) ∨
  ∃ x, a = some x ∧ len ≤ cap ∧ cap ≤ maxLen ∧ zs.length = cap ∧ (∀ i, i < zs.length → w.cell? (x.add i) = some (.int k (zs.getD i 0))) ∧ ∀ n ∈ zs, (Lit.int k n).wf = true
theorem int_vrs (m : LMap) : ∀ zs : List Int, VRs m (zs.map fun x => .int .i64 x) (zs.map fun x => .int .i64 x)
  | [] => rfl
  | _ :: l => ⟨_, _, rfl, rfl, int_vrs m l⟩
/-- A slice argument of whole numbers, in the machine. -/
theorem ints_arg {W : World} {g : Ram.Loc} (hg : ∀ m, ObjR m W g (.cells [] true)) {a : Option Addr} {len cap : Nat} {zs : List Int} (h : IsRow .i64 W a len cap zs) :
    (a = none ∧ len = 0 ∧ cap = 0) ∨ ∃ (loc : Ram.Loc) (l : List AV), (∀ m, ObjR m W loc (.cells l true)) ∧ zs.length ≤ maxLen ∧ len ≤ zs.length ∧ len ≤ l.length ∧ l.take len = (zs.take len).map (fun x => .int .i64 x) ∧ ∀ m' i, m' i = some loc → VR m' (.sl (some (i, 0)) 1 len none) (.slice a len cap) := by
  rcases h with ⟨rfl, rfl, rfl, _⟩ | ⟨x, rfl, hl, hm, hz, hc, hw⟩
  · exact .inl ⟨rfl, rfl, rfl⟩
  · obtain ⟨loc, l, h1, ⟨h2, h3⟩, h4⟩ := slice_arg (hg fun _ => none) (a := x) (len := len) (cap := cap) (int_vrs _ zs) (by simp [oneCell]) (by simpa using hz) hl hm (fun i v hi => by
      simp only [List.getElem?_map, Option.map_eq_some_iff] at hi
      obtain ⟨z, hz, rfl⟩ := hi
      obtain ⟨hlt, rfl⟩ := List.getElem?_eq_some_iff.1 hz
      rw [hc i hlt]; simp [List.getD, hlt])
    exact .inr ⟨loc, l, fun m => h1.mono (fun _ _ h => by cases h) rfl, by omega, by omega, h2, by rw [h3, List.map_take], h4⟩
/-- Its place in the machine's first heap. -/
theorem ints_rows {bs : List (Ram.Loc × List AV)} {i : Nat} {loc : Ram.Loc} {l : List AV} {zs : List Int} {len : Nat} (h : bs[i]? = some (loc, l)) (h1 : len ≤ zs.length) (h2 : len ≤ l.length) (h3 : l.take len = (zs.take len).map (fun x => .int .i64 x)) : Ints (heapOf bs) (.sl (some (100 + i, 0)) 1 len none) (zs.take len) := by
  have hlen : (zs.take len).length = len := by simp; omega
  have hi := (List.getElem?_eq_some_iff.1 h).1
  refine ⟨.inr ⟨100 + i, 0, none, l, true, by simp; omega, ?_, by simp only [heapOf]; omega, ?_, ?_⟩, fun r hr => ?_⟩
  · simp only [heapOf]; rw [if_pos (by omega), show 100 + i - 100 = i by omega, h]; rfl
  · rw [intRows_len, hlen, List.drop_zero, Nat.mul_one, h3]
    generalize zs.take len = q
    unfold intRows
    induction q with
    | nil => rfl
    | cons y q ih => simp_all
  · rw [intRows_len, hlen]; omega
  · obtain ⟨y, _, rfl⟩ := List.mem_map.1 hr; rfl
theorem gok {n : Nat → Nat} {bs : List (Ram.Loc × List AV)} : GOk gl (mapOf 5 n bs) := by
  intro g hg
  refine ⟨n g, ?_⟩
  have : g < 5 := by simp only [gl, List.mem_cons, List.not_mem_nil, or_false] at hg; omega
  simp [mapOf, this]
theorem gMany : Tryd.prog.globalNamed "patois/api.ErrNumber" = some 4 := by kernel_rfl
abbrev laidL : List (String × DataW Unit) := [("patois/api.ErrLong", Rows.laid_patois_api_ErrLong), ("patois/api.ErrName", Rows.laid_patois_api_ErrName), ("patois/api.ErrMany", Rows.laid_patois_api_ErrMany), ("patois/api.ErrBig", Rows.laid_patois_api_ErrBig), ("patois/api.ErrNumber", Rows.laid_patois_api_ErrNumber)]
theorem door_met (os : Os) (args : Array Value) : laidMetH Tryd.prog laidL ((World.doorLaid Tryd.prog 400 os).forCall (fun _ _ => 0) ⟨#[], args, []⟩).memory :=
  laidMetH_of_parts3 (fuel := 8) (laidMet_of_run' 8 (by kernel_rfl) (by kernel_rfl)) (by kernel_rfl) (by kernel_rfl)
/-- The globals' blocks are there. -/
theorem size_of_laid {W : World} (h : laidMetH Tryd.prog laidL W) : 5 ≤ W.heap.size ∧ ∃ g : Ram.Loc, ∀ m, ObjR m W g (.cells [] true) := by
  rw [MakeChecks.laidMetH_plain _ _ _ (by kernel_rfl)] at h
  obtain ⟨ps, ⟨g0, t0, cs0, f0, p0, q0, hg0, ht0, hv0, hd0, ⟨g1, t1, cs1, f1, p1, q1, hg1, ht1, hv1, hd1, ⟨g2, t2, cs2, f2, p2, q2, hg2, ht2, hv2, hd2, ⟨g3, t3, cs3, f3, p3, q3, hg3, ht3, hv3, hd3, ⟨g4, t4, cs4, f4, p4, q4, hg4, ht4, hv4, hd4, _⟩, _⟩, _⟩, _⟩, _⟩, _, _⟩ := h
  obtain rfl := Option.some.inj (gMany.symm.trans hg4)
  simp only [World.var?, hg4, Option.bind_some] at hv4
  split at hv4
  · rename_i c e f hb
    have := (Array.getElem?_eq_some_iff.1 hb).1
    exact ⟨by omega, ⟨4, 0, c.size⟩, fun m => ⟨c, e, f, hb, (fun h => by cases h), (by simp), (by simp), fun j x hj => by simp at hj⟩⟩
  · cases hv4
/-- The walk: the law's call returns true; nothing that was there is changed. -/
theorem walk (W : World) (hsz : 5 ≤ W.heap.size ∧ ∃ g : Ram.Loc, ∀ m, ObjR m W g (.cells [] true)) {a0 a1 : Option Addr} {len0 cap0 len1 cap1 : Nat} {z0 z1 : List Int} (w0 : IsRow .i64 W a0 len0 cap0 z0) (w1 : IsRow .i64 W a1 len1 cap1 z1) :
    Calls Tryd.prog 6 #[.slice a0 len0 cap0, .slice a1 len1 cap1] W fun e W' => e = .returned (.bool true) ∧ Below W.heap.size W W' := by
  obtain ⟨hsz, g, hg⟩ := hsz
  have key : ∀ (bs : List (Ram.Loc × List AV)) (kv nv : AV) (ks ns : List Int), (∀ a ∈ bs, ObjR (mapOf 5 (fun _ => 1) bs) W a.1 (.cells a.2 true)) → Ints (heapOf bs) kv ks → Ints (heapOf bs) nv ns → ns.length < 9223372036854775808 →
      VR (mapOf 5 (fun _ => 1) bs) kv (.slice a0 len0 cap0) → VR (mapOf 5 (fun _ => 1) bs) nv (.slice a1 len1 cap1) → Calls Tryd.prog 6 #[.slice a0 len0 cap0, .slice a1 len1 cap1] W fun e W' => e = .returned (.bool true) ∧ Below W.heap.size W W' := by
    intro bs kv nv ks ns ha hk hn hl r0 r1
    obtain ⟨H', h⟩ := law_marks hk hn hl
    refine (Call_sound tabOkU h gok (HR.start hsz (by decide) ha) (m := mapOf 5 (fun _ => 1) bs) (by simp only [VRs]; exact ⟨_, _, rfl, r0, _, _, rfl, r1, rfl⟩)).mono fun e W' => ?_
    rintro ⟨cv, m', he, hv, hh, hx⟩
    simp only [VR] at hv
    subst hv
    exact ⟨he, hx.below⟩
  have nilr : ∀ (bs : List (Ram.Loc × List AV)), Ints (heapOf bs) nilS [] := fun bs => ⟨.inl ⟨_, _, rfl, rfl⟩, fun r hr => by cases hr⟩
  have len : ∀ {l : List Int} {n : Nat}, l.length ≤ maxLen → (l.take n).length < 9223372036854775808 := fun {l n} h2 => by have h3 : (l.take n).length ≤ l.length := List.length_take_le' n l; exact Nat.lt_of_le_of_lt (Nat.le_trans h3 h2) (by decide)
  rcases ints_arg hg w0 with ⟨rfl, rfl, rfl⟩ | ⟨loc0, l0, o0, m0, x0, y0, u0, r0⟩
  · rcases ints_arg hg w1 with ⟨rfl, rfl, rfl⟩ | ⟨loc1, l1, o1, m1, x1, y1, u1, r1⟩
    · exact key [] nilS nilS [] [] (fun a h => by cases h) (nilr _) (nilr _) (by decide) ⟨rfl, rfl⟩ ⟨rfl, rfl⟩
    · exact key [(loc1, l1)] nilS _ [] _ (fun a h => by obtain rfl := List.mem_singleton.1 h; exact o1 _) (nilr _) (ints_rows (i := 0) rfl x1 y1 u1) (len m1) ⟨rfl, rfl⟩ (r1 _ _ rfl)
  · rcases ints_arg hg w1 with ⟨rfl, rfl, rfl⟩ | ⟨loc1, l1, o1, m1, x1, y1, u1, r1⟩
    · exact key [(loc0, l0)] _ nilS _ [] (fun a h => by obtain rfl := List.mem_singleton.1 h; exact o0 _) (ints_rows (i := 0) rfl x0 y0 u0) (nilr _) (by decide) (r0 _ _ rfl) ⟨rfl, rfl⟩
    · exact key [(loc0, l0), (loc1, l1)] _ _ _ _ (fun a h => by rcases List.mem_cons.1 h with rfl | h; exact o0 _; obtain rfl := List.mem_singleton.1 h; exact o1 _) (ints_rows (i := 0) rfl x0 y0 u0) (ints_rows (i := 1) rfl x1 y1 u1) (len m1) (r0 _ _ rfl) (r1 _ _ rfl)
set_option maxRecDepth 100000 in
theorem lifted (os : Os) (started : os.Started) (H : Type) (enc : TypeId × Value → H) :
    ReturnsInHanded {} Tryd.checked os 6 .any (fun w args => (Rows.kernelMarksSpec.pre enc Tryd.prog Tryd.f6 [] false w args ∧ laidMetH Tryd.prog laidL w) ∧ sizedMet enc Tryd.prog Tryd.f6 (OpenSpec.ofChange Rows.kernelMarksSpec) false w args)
      (Rows.kernelMarksSpec.post enc Tryd.prog Tryd.f6 false true false false) := by
  refine returnsInHanded_of_change_and (C := Tryd.checked) (X := fun w _ => laidMetH Tryd.prog laidL w) (fun _ _ _ hh h => h.of_heap hh) own started (by kernel_rfl) Tryd.func6
    (ChangeSpec.witness_shaped (enc := enc) (C := Tryd.checked) (os := os) (X := fun w _ => laidMetH Tryd.prog laidL w) false (World.doorLaid Tryd.prog 400 os) #[.slice none 0 0, .slice none 0 0] 8 rfl (World.shaped_of_RefB (by kernel_rfl) (by kernel_rfl)) (by kernel_rfl) (by kernel_rfl) (by kernel_rfl) (door_met os _)) ?_
  intro W base args ds gs before hval0 hW _ _ hL _
  have hval : ∀ (j : Nat) t v, Tryd.f6.params[j]? = some t → args[j]? = some v → Value.okWide Tryd.prog W .any base t v := hval0
  have hW' := hW
  obtain ⟨p, q, hA0, hV, rfl, hfz, hnd⟩ := hW
  have hA : DataW.TrodAll enc Tryd.prog W 0 (fun _ => true) true Tryd.f6.params.toList args.toList ds p := hA0
  rw [Tryd.params6] at hA hval
  obtain ⟨v0, vs0, d0, ds0, p0, q0, hargs, rfl, rfl, h0, r0⟩ := trodAll_cons hA
  obtain ⟨v1, vs1, d1, ds1, p1, q1, rfl, rfl, rfl, h1, r1⟩ := trodAll_cons r0
  obtain ⟨rfl, rfl, rfl⟩ := trodAll_nil r1
  obtain rfl : args = #[v0, v1] := by cases args; simp_all
  obtain ⟨rfl, rfl⟩ := trodVars_none hV
  have hsz := size_of_laid hL
  obtain ⟨a0, len0, cap0, rfl⟩ := okWide_slice Tryd.underlying62 (hval 0 62 v0 rfl rfl)
  obtain ⟨a1, len1, cap1, rfl⟩ := okWide_slice Tryd.underlying62 (hval 1 62 v1 rfl rfl)
  have k0 := h0
  have lt0 : ∀ x ∈ p0, x.block < W.heap.size := by obtain ⟨m, hm⟩ := k0; exact DataW.trod_lt m _ _ _ hm
  have k1 := h1
  have lt1 : ∀ x ∈ p1, x.block < W.heap.size := by obtain ⟨m, hm⟩ := k1; exact DataW.trod_lt m _ _ _ hm
  have row : ∀ {a : Option Addr} {len cap : Nat} {d : DataW H} {p : List MemPlace}, DataW.Trod enc Tryd.prog W 0 (fun _ => true) true 62 (.slice a len cap) d p → ∃ zs, IsRow .i64 W a len cap zs := fun h => by
    obtain ⟨fuel, hf⟩ := h
    rcases open_ints Tryd.underlying62 Tryd.underlying3 (by kernel_rfl) hf with ⟨hcs, _⟩ | ⟨x, l, c, zs, hcs, _, hl, hm, hz, _, hcell, hwz⟩
    · simp [Value.cells] at hcs
      obtain ⟨rfl, rfl, rfl⟩ := hcs
      exact ⟨[], .inl ⟨rfl, rfl, rfl, rfl⟩⟩
    · simp [Value.cells] at hcs
      obtain ⟨rfl, rfl, rfl⟩ := hcs
      exact ⟨zs, .inr ⟨_, rfl, hl, hm, by simpa using hz, hcell, hwz⟩⟩
  obtain ⟨z0, w0⟩ := row h0
  obtain ⟨z1, w1⟩ := row h1
  clear hA0 hval0
  refine (walk W hsz w0 w1).mono fun e W' ⟨he, bel⟩ => ?_
  subst he
  exact ⟨_, rfl, _, _, _, [], _, [], hW', trodAll_mk1 (shut_bool Tryd.underlying4 _), (trodAll_cons_mk (Below.trod laidOut (by kernel_rfl) (of_decide_eq_true (by kernel_rfl)) k0 bel lt0) (trodAll_cons_mk (Below.trod laidOut (by kernel_rfl) (of_decide_eq_true (by kernel_rfl)) k1 bel lt1) trodAll_mk0)), rfl, bel.frame _, fun h => by cases h⟩
theorem over : Rows.kernelMarksRow.holds Tryd.pinned (OpenSpec.ofChange Rows.kernelMarksSpec) :=
  OpenClaim.holds_of_wide 6 Tryd.f6 rfl rfl rfl rfl rfl rfl rfl ⟨rfl, rfl, rfl, rfl, rfl⟩ rfl rfl rfl rfl rfl (by kernel_rfl) Tryd.func6 (by kernel_rfl)
    (of_decide_eq_true (by kernel_rfl)) (by unfold Func.isWrapper; first | (rw [if_pos (by decide +kernel)]; kernel_rfl) | (rw [if_neg (by decide +kernel)]; exact ⟨rfl, rfl⟩))
    (fun os started H enc _ => lifted os started H enc)
end Go.Proofs.YtlecbjcloleiiaaDoor.marks

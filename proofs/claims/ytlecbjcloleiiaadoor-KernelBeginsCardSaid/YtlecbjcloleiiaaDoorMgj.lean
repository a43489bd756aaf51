/-
  Parts of the proof: KvW, KbR.
-/
import Derived.Test.YtlecbjcloleiiaaDoorRows
import Derived.Test.YtlecbjcloleiiaaDoorMgh
import Derived.WalkKit
import Derived.ProofKit
import Derived.OpenShut
import Derived.Below
import Derived.SizedLaws
import Derived.LaidMore
import Derived.SliceStrings
import Derived.ChangeMaps5
import Derived.Stop.Joined
import Derived.Test.YtlecbjcloleiiaaDoorMgi
/-
  How the laws of the kernel are entered: the laid variables, the arguments, the call.
-/
namespace Go.Proofs.YtlecbjcloleiiaaDoor.kern
open Go Go.ChangeShapes Go.WideShapes Go.ChangeAt Go.RowKit
open Go.Proofs.YtlecbjcloleiiaaDoor.Ram Go.Proofs.YtlecbjcloleiiaaDoor.Val

theorem own : ownKnob Tryd.prog.godebug = none := by kernel_rfl
theorem laidOut : laidOutB Tryd.prog = true := by kernel_rfl
abbrev Loc0 := Ram.Loc
abbrev n1 : Nat → Nat := fun _ => 1
theorem gok {bs : Bs} : GOk gl (mapOf 5 n1 bs) := by
  intro g hg
  refine ⟨1, ?_⟩
  have : g < 5 := by simp only [gl, List.mem_cons, List.not_mem_nil, or_false, G_api_ErrBig, G_api_ErrMany, G_api_ErrName, G_api_ErrLong, G_api_ErrNumber] at hg; omega
  simp [mapOf, this]
theorem gMany : Tryd.prog.globalNamed "patois/api.ErrNumber" = some 4 := by kernel_rfl
abbrev laidL : List (String × DataW Unit) := [("patois/api.ErrLong", Rows.laid_patois_api_ErrLong), ("patois/api.ErrName", Rows.laid_patois_api_ErrName), ("patois/api.ErrMany", Rows.laid_patois_api_ErrMany), ("patois/api.ErrBig", Rows.laid_patois_api_ErrBig), ("patois/api.ErrNumber", Rows.laid_patois_api_ErrNumber)]
theorem door_met (os : Os) (args : Array Value) : laidMetH Tryd.prog laidL ((World.doorLaid Tryd.prog 400 os).forCall (fun _ _ => 0) ⟨#[], args, []⟩).memory :=
  laidMetH_of_parts3 (fuel := 8) (laidMet_of_run' 8 (by kernel_rfl) (by kernel_rfl)) (by kernel_rfl) (by kernel_rfl)
def Sized (W : World) : Prop := 5 ≤ W.heap.size ∧ ∃ g : Ram.Loc, ∀ m, ObjR m W g (.cells [] true)
/-- The globals' blocks are there. -/
theorem size_of_laid {W : World} (h : laidMetH Tryd.prog laidL W) : Sized W := by
  rw [MakeChecks.laidMetH_plain _ _ _ (by kernel_rfl)] at h
  obtain ⟨ps, ⟨g0, t0, cs0, f0, p0, q0, hg0, ht0, hv0, hd0, ⟨g1, t1, cs1, f1, p1, q1, hg1, ht1, hv1, hd1, ⟨g2, t2, cs2, f2, p2, q2, hg2, ht2, hv2, hd2, ⟨g3, t3, cs3, f3, p3, q3, hg3, ht3, hv3, hd3, ⟨g4, t4, cs4, f4, p4, q4, hg4, ht4, hv4, hd4, _⟩, _⟩, _⟩, _⟩, _⟩, _, _⟩ := h
  obtain rfl := Option.some.inj (gMany.symm.trans hg4)
  simp only [World.var?, hg4, Option.bind_some] at hv4
  split at hv4
  · rename_i c e f hb
    have := (Array.getElem?_eq_some_iff.1 hb).1
    exact ⟨by omega, ⟨4, 0, c.size⟩, fun m => ⟨c, e, f, hb, (fun h => by cases h), (by simp), (by simp), fun j x hj => by simp at hj⟩⟩
  · cases hv4
section
variable {H : Type} {enc : TypeId × Value → H} {W : World} {base : Nat} {sp : Nat → Bool} {held : Bool}
theorem arg_ints (hg : Sized W) {t e : TypeId} {k : IntKind} (ht : Tryd.prog.underlying t = some (.slice e)) (he : Tryd.prog.underlying e = some (.int k)) (hc : Tryd.prog.cellsOf e = 1)
    {a : Option Addr} {len cap : Nat} {d : DataW H} {p : List MemPlace} (h : DataW.Trod enc Tryd.prog W base (fun _ => true) held t (.slice a len cap) d p) : ∃ l : List Int, Arg 5 n1 W (.slice a len cap) (.lst 1 (l.map fun z => [.int k z])) := by
  obtain ⟨_, g, hg⟩ := hg
  obtain ⟨fuel, hf⟩ := h
  rcases open_ints ht he hc hf with ⟨hcs, _⟩ | ⟨x, l, c, zs, hcs, _, hl, hm, hz, hxx, hcell, hwz⟩
  · simp [Value.cells] at hcs
    obtain ⟨rfl, rfl, rfl⟩ := hcs
    exact ⟨[], arg_nil⟩
  · simp [Value.cells] at hcs
    obtain ⟨rfl, rfl, rfl⟩ := hcs
    have hz' : zs.length = cap := by simpa using hz
    refine ⟨zs.take len, ?_⟩
    have := arg_list (ng := 5) (n := n1) (by decide) hg (a := x) (len := len) (cap := cap) (us := (zs.take len).map fun z => .int k z) (xs := zs.map fun z => .int k z) (vs := zs.map fun z => .int k z)
      (fun m => by clear hcell hwz hz' hz hxx; induction zs with | nil => rfl | cons z zs ih => simp only [List.map_cons, VRs]; exact ⟨_, _, rfl, by simp only [VR], ih⟩)
      (fun φ G => by
        rw [← List.map_take]
        generalize zs.take len = q
        induction q with | nil => rfl | cons z q ih => simp only [List.map_cons, VRels]; exact ⟨_, _, rfl, by simp only [VRel], ih⟩)
      (by simp [oneCell]) (by simpa using hz') hl hm (fun i v hi => by
        simp only [List.getElem?_map, Option.map_eq_some_iff] at hi
        obtain ⟨z, hz, rfl⟩ := hi
        obtain ⟨hlt, rfl⟩ := List.getElem?_eq_some_iff.1 hz
        rw [hcell i hlt]; simp [List.getD, hlt])
    simpa [List.map_map, Function.comp_def] using this
theorem arg_strs (hg : Sized W) {t e : TypeId} (ht : Tryd.prog.underlying t = some (.slice e)) (he : Tryd.prog.underlying e = some .string) (hc : Tryd.prog.cellsOf e = 1)
    {a : Option Addr} {len cap : Nat} {d : DataW H} {p : List MemPlace} (h : DataW.Trod enc Tryd.prog W base (fun _ => true) held t (.slice a len cap) d p) : ∃ l : List (List UInt8), Arg 5 n1 W (.slice a len cap) (.lst 1 (l.map fun z => [.str z])) := by
  obtain ⟨_, g, hg⟩ := hg
  obtain ⟨fuel, hf⟩ := h
  rcases open_strings ht he hc hf with ⟨hcs, _⟩ | ⟨x, l, c, zs, hcs, _, hl, hm, hz, hxx, hcell, hwz⟩
  · simp [Value.cells] at hcs
    obtain ⟨rfl, rfl, rfl⟩ := hcs
    exact ⟨[], arg_nil⟩
  · simp [Value.cells] at hcs
    obtain ⟨rfl, rfl, rfl⟩ := hcs
    have hz' : zs.length = cap := by simpa using hz
    refine ⟨(zs.take len).map (·.data.toList), ?_⟩
    have := arg_list (ng := 5) (n := n1) (by decide) hg (a := x) (len := len) (cap := cap) (us := (zs.take len).map fun z => .str z.data.toList) (xs := zs.map fun z => .str z.data.toList) (vs := zs.map fun z => .string z)
      (fun m => by clear hcell hwz hz' hz hxx; induction zs with | nil => rfl | cons z zs ih => simp only [List.map_cons, VRs]; exact ⟨_, _, rfl, by simp only [VR], ih⟩)
      (fun φ G => by
        rw [← List.map_take]
        generalize zs.take len = q
        induction q with | nil => rfl | cons z q ih => simp only [List.map_cons, VRels]; exact ⟨_, _, rfl, by simp only [VRel], ih⟩)
      (by simp [oneCell]) (by simpa using hz') hl hm (fun i v hi => by
        simp only [List.getElem?_map, Option.map_eq_some_iff] at hi
        obtain ⟨z, hz, rfl⟩ := hi
        obtain ⟨hlt, rfl⟩ := List.getElem?_eq_some_iff.1 hz
        rw [hcell i hlt]; simp [List.getD, hlt])
    simpa [List.map_map, Function.comp_def] using this
end
/-- The walk: the law's call returns true; nothing that was there is changed. -/
theorem walk {W : World} (hsz : Sized W) {f : FuncId} {args : Array Value} {vs : List V} {S' : VH} {rs : List Nat} (ha : Args 5 n1 W args.toList vs) (hv : VCall VT f vs [] S0 = some (.bool true, rs, S')) :
    Calls Tryd.prog f args W fun e W' => e = .returned (.bool true) ∧ Below W.heap.size W W' := by
  obtain ⟨bs, avs, h⟩ := ha.all []
  obtain ⟨h1, h2, h3⟩ := h []
  simp only [List.nil_append, List.append_nil] at h1 h2 h3
  obtain ⟨a, H', φ', G', W', c1, c2, _⟩ := VCall_sound vtOk f vs [] S0 _ _ _ hv phi0 (G0 bs) (fun _ => False) (heapOf bs) avs (Val.Rel.start h3) h3.length
  obtain ⟨b, e1, e2⟩ := c2.slots 0 _ rfl
  obtain rfl : b = a := by simpa [Fr.get] using e1.symm
  simp only [VRel] at e2
  subst e2
  refine (Call_sound tabOkU c1 gok (HR.start hsz.1 (by decide) h1) (m := mapOf 5 n1 bs) h2).mono fun e W1 => ?_
  rintro ⟨cv, m', he, hv, hh, hx⟩
  simp only [VR] at hv
  subst hv
  exact ⟨he, hx.below⟩
end Go.Proofs.YtlecbjcloleiiaaDoor.kern

/-
  The law KernelBegins: for every input the statement's function returns true and leaves its arguments as they were; the laid variables are a condition of the row.
-/
namespace Go.Proofs.YtlecbjcloleiiaaDoor.kern
open Go Go.ChangeShapes Go.WideShapes Go.ChangeAt Go.RowKit
open Go.Proofs.YtlecbjcloleiiaaDoor.Ram Go.Proofs.YtlecbjcloleiiaaDoor.Val

set_option maxRecDepth 100000 in
theorem kernelBegins_lifted (os : Os) (started : os.Started) (H : Type) (enc : TypeId × Value → H) :
    ReturnsInHanded {} Tryd.checked os 8 .any (fun w args => (Rows.kernelBeginsSpec.pre enc Tryd.prog Tryd.f8 [] false w args ∧ laidMetH Tryd.prog laidL w) ∧ sizedMet enc Tryd.prog Tryd.f8 (OpenSpec.ofChange Rows.kernelBeginsSpec) false w args)
      (Rows.kernelBeginsSpec.post enc Tryd.prog Tryd.f8 false true false false) := by
  refine returnsInHanded_of_change_and (C := Tryd.checked) (X := fun w _ => laidMetH Tryd.prog laidL w) (fun _ _ _ hh h => h.of_heap hh) own started (by kernel_rfl) Tryd.func8
    (ChangeSpec.witness_shaped (enc := enc) (C := Tryd.checked) (os := os) (X := fun w _ => laidMetH Tryd.prog laidL w) false (World.doorLaid Tryd.prog 400 os) #[.slice none 0 0, .slice none 0 0, .int .i64 0] 8 rfl (World.shaped_of_RefB (by kernel_rfl) (by kernel_rfl)) (by kernel_rfl) (by kernel_rfl) (by kernel_rfl) (door_met os _)) ?_
  intro W base args ds gs before hval0 hW _ _ hL _
  have hval : ∀ (j : Nat) t v, Tryd.f8.params[j]? = some t → args[j]? = some v → Value.okWide Tryd.prog W .any base t v := hval0
  have hW' := hW
  obtain ⟨p, q, hA0, hV, rfl, hfz, hnd⟩ := hW
  have hA : DataW.TrodAll enc Tryd.prog W 0 (fun _ => true) true Tryd.f8.params.toList args.toList ds p := hA0
  rw [Tryd.params8] at hA hval
  obtain ⟨v0, vs0, d0, ds0, p0, q0, hargs, rfl, rfl, h0, r0⟩ := trodAll_cons hA
  obtain ⟨v1, vs1, d1, ds1, p1, q1, rfl, rfl, rfl, h1, r1⟩ := trodAll_cons r0
  obtain ⟨v2, vs2, d2, ds2, p2, q2, rfl, rfl, rfl, h2, r2⟩ := trodAll_cons r1
  obtain ⟨rfl, rfl, rfl⟩ := trodAll_nil r2
  obtain rfl : args = #[v0, v1, v2] := by cases args; simp_all
  obtain ⟨rfl, rfl⟩ := trodVars_none hV
  have hsz := size_of_laid hL
  have lt : ∀ {t v d} {p : List MemPlace}, DataW.Trod enc Tryd.prog W 0 (fun _ => true) true t v d p → ∀ x ∈ p, x.block < W.heap.size := fun h => by obtain ⟨m, hm⟩ := h; exact DataW.trod_lt m _ _ _ hm
  obtain ⟨a0, len0, cap0, rfl⟩ := okWide_slice Tryd.underlying48 (hval 0 48 v0 rfl rfl)
  obtain ⟨u0, fit0, w0⟩ := arg_cell (ng := 5) (n := n1) (fuel := 12) (by decide) hsz.2.choose_spec (show shOf Tryd.prog 12 48 = some [.sl [.int .i64, .int .i64, .str, .str, .sl [.str]]] by kernel_rfl) rfl h0
  obtain ⟨z0, rfl⟩ := fit_evs fit0
  obtain ⟨a1, len1, cap1, rfl⟩ := okWide_slice Tryd.underlying48 (hval 1 48 v1 rfl rfl)
  obtain ⟨u1, fit1, w1⟩ := arg_cell (ng := 5) (n := n1) (fuel := 12) (by decide) hsz.2.choose_spec (show shOf Tryd.prog 12 48 = some [.sl [.int .i64, .int .i64, .str, .str, .sl [.str]]] by kernel_rfl) rfl h1
  obtain ⟨z1, rfl⟩ := fit_evs fit1
  obtain ⟨z2, rfl⟩ := okWide_int Tryd.underlying3 (hval 2 3 v2 rfl rfl)
  clear hA0 hval0
  refine (walk hsz (.cons w0 (.cons w1 (.cons arg_int .nil))) (v_KBegins (a := z0) (b := z1) (n := z2) (S := S0))).mono fun e W' ⟨he, bel⟩ => ?_
  subst he
  exact ⟨_, rfl, _, _, _, [], _, [], hW', trodAll_mk1 (shut_bool Tryd.underlying4 _), (trodAll_cons_mk (Below.trod laidOut (by kernel_rfl) (of_decide_eq_true (by kernel_rfl)) h0 bel (lt h0)) (trodAll_cons_mk (Below.trod laidOut (by kernel_rfl) (of_decide_eq_true (by kernel_rfl)) h1 bel (lt h1)) (trodAll_cons_mk (Below.trod laidOut (by kernel_rfl) (of_decide_eq_true (by kernel_rfl)) h2 bel (lt h2)) trodAll_mk0))), rfl, bel.frame _, fun h => by cases h⟩
theorem kernelBegins_over : Rows.kernelBeginsRow.holds Tryd.pinned (OpenSpec.ofChange Rows.kernelBeginsSpec) :=
  OpenClaim.holds_of_wide 8 Tryd.f8 rfl rfl rfl rfl rfl rfl rfl ⟨rfl, rfl, rfl, rfl, rfl⟩ rfl rfl rfl rfl rfl (by kernel_rfl) Tryd.func8 (by kernel_rfl)
    (of_decide_eq_true (by kernel_rfl)) (by unfold Func.isWrapper; first | (rw [if_pos (by decide +kernel)]; kernel_rfl) | (rw [if_neg (by decide +kernel)]; exact ⟨rfl, rfl⟩))
    (fun os started H enc _ => kernelBegins_lifted os started H enc)
end Go.Proofs.YtlecbjcloleiiaaDoor.kern

/-
  Parts of the proof: ArgL, ArgM.
-/
import Derived.Test.YtbpgbhmibmcbnaaGreatDoorRows
import Derived.Test.YtbpgbhmibmcbnaaGreatDoorMgk
import Derived.WalkKit
import Derived.ProofKit
import Derived.OpenShut
import Derived.Below
import Derived.SizedLaws
import Derived.LaidMore
import Derived.LaidHandle
import Derived.SliceStrings
import Derived.ChangeMaps5
import Derived.Stop.Joined
import Derived.Stop.LaidErr
import Derived.Test.YtbpgbhmibmcbnaaGreatDoorMgl
/-
  How the laws of a run are entered: the laid variables (nine sentinels, a handle, tables).
-/
set_option linter.unusedSimpArgs false
set_option linter.unusedVariables false
namespace Go.Proofs.YtbpgbhmibmcbnaaGreatDoor.runs
open Go Go.ChangeShapes Go.WideShapes Go.ChangeAt Go.RowKit
open Go.Proofs.YtbpgbhmibmcbnaaGreatDoor.Ram Go.Proofs.YtbpgbhmibmcbnaaGreatDoor.Val

theorem own : ownKnob Tryz.prog.godebug = none := by kernel_rfl
theorem laidOut : laidOutB Tryz.prog = true := by kernel_rfl
abbrev errD (x : String × List UInt8) : String × DataW Unit := (x.1, .iface "*errors.errorString" (.ptr (.agg [.lit (.string x.2)])))
theorem laid_errs {P : Program} {W : World} {tp te ts : TypeId} {ms : Array (String × TypeId)} {f : Field} (hrow : ∀ u, P.typeName? 3 u = some "*errors.errorString" → u = tp)
    (hp : P.underlying tp = some (.pointer te)) (he : P.underlying te = some (.struct #[f])) (hft : f.type = ts) (hfo : f.offset = 0) (hs : P.underlying ts = some .string) (hc : P.cellsOf te = 1) (hcs : P.cellsOf ts = 1) {r : List (String × DataW Unit)} : ∀ (l : List (String × List UInt8)) (ps : List MemPlace),
    (∀ x ∈ l, ∀ g t, P.globalNamed x.1 = some g → (P.globals[g]?).map (·.type) = some t → P.underlying t = some (.interface ms)) → DataW.LaidVars P W (l.map errD ++ r) ps →
    (∀ b off, MemPlace.cell b off ∈ ps → (∃ c t, W.heap[b]? = some (.cells c t (0, 0))) ∧ ∀ u v, W.cell? ⟨b, off, none⟩ = some (.iface u v) → Value.okWide P W .any 0 u v) →
    ∃ al : List Addr, al.length = l.length ∧ (al.map fun a => MemPlace.cell a.block a.off).Sublist ps ∧ ∀ (j : Nat) (x : String × List UInt8), l[j]? = some x → ∃ a s g, al[j]? = some a ∧ P.globalNamed x.1 = some g ∧ W.var? P x.1 = some #[.iface tp (.pointer (some a))] ∧ W.cell? a = some (.string s) ∧ ∃ c t, W.heap[a.block]? = some (.cells c t (0, 0)) := by
  intro l
  induction l with
  | nil => intro ps _ _ _; exact ⟨[], rfl, List.nil_sublist _, fun j x hj => by simp at hj⟩
  | cons x l ih =>
    intro ps hi h hrows
    obtain ⟨g, t, cs, fuel, p, q, hg, ht, hv, hd, hr, rfl⟩ := h
    obtain ⟨al, k1, k2, k3⟩ := ih q (fun y hy => hi y (List.mem_cons_of_mem _ hy)) hr (fun b off hm => hrows b off (List.mem_append_right _ hm))
    obtain ⟨c0⟩ := cs
    have ok0 : ∀ u v, c0 = [.iface u v] → Value.okWide P W .any 0 u v := fun u v e => by
      subst e
      exact (hrows g 0 (by simp [MemPlace.row])).2 u v (by simpa using World.var?_cell hg hv 0)
    obtain ⟨a, s, rfl, hc0, hs0, hz0, rfl⟩ := errorString_of_trod (hi x List.mem_cons_self g t hg ht) hrow hp he hft hfo hs hc hcs hd ok0
    obtain ⟨c, tt, hb⟩ := (hrows a.block a.off (by simp [MemPlace.row])).1
    refine ⟨a :: al, by simp [k1], ?_, fun j y hj => ?_⟩
    · simp only [List.map_cons]
      have : (MemPlace.row ⟨g, 0, none⟩ (#[Value.iface tp (.pointer (some a))] : Array Value).size ++ MemPlace.row a 1 ++ q) = MemPlace.cell g 0 :: MemPlace.cell a.block a.off :: q := by simp [MemPlace.row]
      rw [show ({ toList := [Value.iface tp (.pointer (some a))] } : Array Value) = #[Value.iface tp (.pointer (some a))] from rfl, this]
      exact (k2.cons_cons _).cons _
    · cases j with
      | zero =>
        simp at hj; subst hj
        exact ⟨a, s, g, rfl, hg, hv, hc0, c, tt, hb⟩
      | succ j =>
        obtain ⟨a', s', g', q1, q2⟩ := k3 j y (by simpa using hj)
        exact ⟨a', s', g', by simpa using q1, q2⟩
theorem laidMet.tails {P : Program} {W : World} : ∀ (k : Nat) {l : List (String × DataW Unit)}, laidMet P l W → laidMet P (l.drop k) W
  | 0, _, h => h
  | k + 1, [], h => h
  | k + 1, _ :: l, h => laidMet.tails k (laidMet.tail h)
abbrev laidL : List (String × DataW Unit) := Rows.runForsRow.laid
abbrev errsL : List (String × List UInt8) := [("patois/api.ErrLong", [116, 111, 111, 32, 108, 111, 110, 103]), ("patois/api.ErrNest", [110, 101, 115, 116, 101, 100, 32, 116, 111, 111, 32, 100, 101, 101, 112]), ("patois/api.ErrName", [110, 111, 32, 110, 97, 109, 101]), ("patois/api.ErrNode", [110, 111, 32, 112, 114, 111, 103, 114, 97, 109]), ("patois/api.ErrMany", [116, 111, 111, 32, 109, 97, 110, 121]), ("patois/api.ErrFuel", [116, 111, 111, 32, 109, 97, 110, 121, 32, 115, 116, 101, 112, 115]), ("patois/api.ErrDeep", [99, 97, 108, 108, 101, 100, 32, 116, 111, 111, 32, 100, 101, 101, 112]), ("patois/api.ErrBig", [116, 111, 111, 32, 98, 105, 103]), ("patois/api.ErrNumber", [110, 111, 32, 115, 117, 99, 104, 32, 110, 117, 109, 98, 101, 114])]
theorem row317 (u : TypeId) (h : Tryz.prog.typeName? 3 u = some "*errors.errorString") : u = 317 :=
  typeName_ptr_named (nm := "errors.errorString") (by rw [show "*" ++ "errors.errorString" = "*errors.errorString" by decide]; kernel_rfl) (by kernel_rfl) (by decide) u (by rw [show "*" ++ "errors.errorString" = "*errors.errorString" by decide]; exact h)
theorem name9 : ∀ x ∈ errsL, ∃ g, Tryz.prog.globalNamed x.1 = some g ∧ (Tryz.prog.globals[g]?).map (·.type) = some 30 := by
  intro x hx
  simp only [errsL, List.mem_cons, List.not_mem_nil, or_false] at hx
  rcases hx with rfl | rfl | rfl | rfl | rfl | rfl | rfl | rfl | rfl
  · exact ⟨9, by kernel_rfl, by kernel_rfl⟩
  · exact ⟨6, by kernel_rfl, by kernel_rfl⟩
  · exact ⟨8, by kernel_rfl, by kernel_rfl⟩
  · exact ⟨5, by kernel_rfl, by kernel_rfl⟩
  · exact ⟨3, by kernel_rfl, by kernel_rfl⟩
  · exact ⟨2, by kernel_rfl, by kernel_rfl⟩
  · exact ⟨0, by kernel_rfl, by kernel_rfl⟩
  · exact ⟨1, by kernel_rfl, by kernel_rfl⟩
  · exact ⟨7, by kernel_rfl, by kernel_rfl⟩
theorem et : Tryz.prog.globalNamed "errors.errorType" = some 4 := by kernel_rfl
theorem rt : (Tryz.prog.cutTypes.find? (·.1 == "internal/reflectlite.rtype")).map (·.2) = some 185 := by kernel_rfl
theorem tsize : Tryz.prog.types.size = 347 := by kernel_rfl
theorem oneRow : ((List.range 347).filter fun t => Tryz.prog.rowNamed t [101, 114, 114, 111, 114]) = [30] := by kernel_rfl
theorem laid_split : (laidL.filter fun x => x.2.handleName?.isSome) = [("errors.errorType", Rows.laid_errors_errorType)] := by rfl
theorem laid_rest : (laidL.filter fun x => x.2.handleName?.isNone).drop 4 = errsL.map errD ++ [("unicode/utf8.first", Rows.laid_unicode_utf8_first)] := by rfl
theorem parts_of_laid {W : World} (h : laidMetH Tryz.prog laidL W) : laidMet Tryz.prog (laidL.filter fun x => x.2.handleName?.isNone) W ∧ handlesMet Tryz.prog [("errors.errorType", Rows.laid_errors_errorType)] W := by
  unfold laidMetH at h
  rw [laid_split] at h
  exact h
theorem handle_of_laid {W : World} (h : laidMetH Tryz.prog laidL W) : W.var? Tryz.prog "errors.errorType" = some #[.iface 185 (.agg #[.pointer (some ⟨16, 30, none⟩)])] := by
  obtain ⟨name, u, ty, e1, e2, e3, e4, e5⟩ := (parts_of_laid h).2 _ (List.mem_singleton.2 rfl)
  have en : name = [101, 114, 114, 111, 114] := (Option.some.inj e1).symm
  subst en
  obtain rfl := Option.some.inj (rt.symm.trans e2)
  have hm : ty ∈ (List.range 347).filter fun t => Tryz.prog.rowNamed t [101, 114, 114, 111, 114] := List.mem_filter.2 ⟨List.mem_range.2 (by rw [← tsize]; exact e3), e4⟩
  rw [oneRow] at hm
  obtain rfl := List.mem_singleton.1 hm
  have hh : typeHandle Tryz.prog 30 = .pointer (some ⟨16, 30, none⟩) := by kernel_rfl
  rw [hh] at e5
  exact e5
end Go.Proofs.YtbpgbhmibmcbnaaGreatDoor.runs

/-
  How the laws of a run are entered: what is laid in both machines, the arguments, the call.
-/
set_option linter.unusedSimpArgs false
set_option linter.unusedVariables false
namespace Go.Proofs.YtbpgbhmibmcbnaaGreatDoor.runs
open Go Go.ChangeShapes Go.WideShapes Go.ChangeAt Go.RowKit
open Go.Proofs.YtbpgbhmibmcbnaaGreatDoor.Ram Go.Proofs.YtbpgbhmibmcbnaaGreatDoor.Val

def LW (q : Nat → Option Ram.Loc) : Nat → Option Ram.Loc := fun i => if i < 16 then some ⟨i, 0, 1, false⟩ else if 50 ≤ i then q (i - 50) else none
structure Placed (W : World) (q : Nat → Option Ram.Loc) : Prop where
  size : 15 < W.heap.size
  et : ∃ e f, W.heap[4]? = some (.cells #[.iface 185 (.agg #[.pointer (some ⟨16, 30, none⟩)])] e f)
  er : ∀ g, errL.contains g = true → ∃ loc e f, q g = some loc ∧ W.heap[g]? = some (.cells #[.iface 317 (.pointer (some ⟨loc.b, loc.o, none⟩))] e f) ∧ loc.z = true ∧ ∃ c t, W.heap[loc.b]? = some (.cells c t (0, 0)) ∧ loc.o + loc.n = c.size
  no : ∀ g, errL.contains g = false → q g = none
  ne : ∀ g g' l l', g ≠ g' → q g = some l → q g' = some l' → l.b = l'.b → l.o ≠ l'.o
theorem var_heap {P : Program} {W : World} {n : String} {g : Nat} {v : Value} (hg : P.globalNamed n = some g) (h : W.var? P n = some #[v]) : ∃ e f, W.heap[g]? = some (.cells #[v] e f) := by
  simp only [World.var?, hg, Option.bind_some] at h
  split at h
  · rename_i c e f hb
    obtain rfl := Option.some.inj h
    exact ⟨e, f, hb⟩
  · cases h
def errGs : List Nat := [9, 6, 8, 5, 3, 2, 0, 1, 7]
theorem name_at : ∀ j, j < 9 → ∃ x g, errsL[j]? = some x ∧ errGs[j]? = some g ∧ Tryz.prog.globalNamed x.1 = some g := by
  intro j hj
  match j, hj with
  | 0, _ => exact ⟨_, 9, rfl, rfl, by kernel_rfl⟩
  | 1, _ => exact ⟨_, 6, rfl, rfl, by kernel_rfl⟩
  | 2, _ => exact ⟨_, 8, rfl, rfl, by kernel_rfl⟩
  | 3, _ => exact ⟨_, 5, rfl, rfl, by kernel_rfl⟩
  | 4, _ => exact ⟨_, 3, rfl, rfl, by kernel_rfl⟩
  | 5, _ => exact ⟨_, 2, rfl, rfl, by kernel_rfl⟩
  | 6, _ => exact ⟨_, 0, rfl, rfl, by kernel_rfl⟩
  | 7, _ => exact ⟨_, 1, rfl, rfl, by kernel_rfl⟩
  | 8, _ => exact ⟨_, 7, rfl, rfl, by kernel_rfl⟩
theorem errLg : ∀ g, errL.contains g = true → errGs[errGs.idxOf g]? = some g ∧ errGs.idxOf g < 9 := by
  intro g hg
  have hm : g ∈ errL := List.contains_iff_mem.1 hg
  have : ∀ d ∈ errL, errGs[errGs.idxOf d]? = some d ∧ errGs.idxOf d < 9 := by decide
  exact this g hm
def locOf (W : World) (a : Addr) : Ram.Loc := ⟨a.block, a.off, (match W.heap[a.block]? with | some (.cells c _ _) => c.size | _ => 0) - a.off, true⟩
def qOf (W : World) (al : List Addr) : Nat → Option Ram.Loc := fun g => if errL.contains g then (al[errGs.idxOf g]?).map (locOf W) else none
theorem cell_spot {W : World} {a : Addr} {v : Value} (h : W.cell? a = some v) : a = ⟨a.block, a.off, none⟩ := by
  have := World.cell?_spot h
  cases a; simp only at this; subst this; rfl
theorem placed {W : World} (h : laidMetH Tryz.prog laidL W) : ∃ q, Placed W q := by
  have hh := handle_of_laid h
  have hm := (parts_of_laid h).1
  have hsz : 15 < W.heap.size := by
    obtain ⟨ps, hv, _⟩ := laidMet.tails 1 hm
    obtain ⟨g, t, cs, fuel, p, q, hg, ht, hv, _⟩ := (show DataW.LaidVars Tryz.prog W (("math/bits.deBruijn64tab", Rows.laid_math_bits_deBruijn64tab) :: _) ps from hv)
    obtain rfl := Option.some.inj ((show Tryz.prog.globalNamed "math/bits.deBruijn64tab" = some 15 by kernel_rfl).symm.trans hg)
    simp only [World.var?, hg, Option.bind_some] at hv
    split at hv
    · rename_i c e f hb
      exact (Array.getElem?_eq_some_iff.1 hb).1
    · cases hv
  obtain ⟨ps, hv, hnd, hrows⟩ := laidMet.tails 4 hm
  rw [laid_rest] at hv
  obtain ⟨al, k1, k2, k3⟩ := laid_errs row317 Tryz.underlying317 Tryz.underlying336 rfl rfl Tryz.underlying9 (by kernel_rfl) (by kernel_rfl) errsL ps (fun x hx g t hg ht => by
    obtain ⟨g', e1, e2⟩ := name9 x hx
    rw [e1] at hg; obtain rfl := Option.some.inj hg
    rw [e2] at ht; obtain rfl := Option.some.inj ht
    exact Tryz.underlying30) hv hrows
  have hal : al.length = 9 := k1
  have hnn := hnd.sublist k2
  refine ⟨qOf W al, hsz, ?_, fun g hg => ?_, fun g hg => ?_, fun g g' l l' hne hl hl' hb ho => ?_⟩
  · exact var_heap et hh
  · obtain ⟨e1, e2⟩ := errLg g hg
    obtain ⟨x, g', n1, n2, n3⟩ := name_at _ e2
    rw [e1] at n2; obtain rfl := Option.some.inj n2
    obtain ⟨a, s, g2, q1, q2, q3, q4, c, t, q5⟩ := k3 _ x n1
    obtain ⟨e, f, hb⟩ := var_heap n3 q3
    refine ⟨locOf W a, e, f, ?_, ?_, rfl, c, t, q5, ?_⟩
    · simp only [qOf, hg, if_true, q1, Option.map_some]
    · rw [hb, cell_spot q4]; rfl
    · have : a.off < c.size := by
        rw [cell_spot q4] at q4
        simp only [World.cell?, q5] at q4
        exact (Array.getElem?_eq_some_iff.1 q4).1
      simp only [locOf, q5]
      omega
  · simp only [qOf, hg, Bool.false_eq_true, if_false]
  · simp only [qOf] at hl hl'
    split at hl
    · rename_i hg
      split at hl'
      · rename_i hg'
        obtain ⟨a, a1, rfl⟩ := Option.map_eq_some_iff.1 hl
        obtain ⟨a', a2, rfl⟩ := Option.map_eq_some_iff.1 hl'
        obtain ⟨e1, e2⟩ := errLg g hg
        obtain ⟨e1', e2'⟩ := errLg g' hg'
        have hj : errGs.idxOf g ≠ errGs.idxOf g' := fun e => hne (by rw [e, e1'] at e1; exact (Option.some.inj e1).symm)
        have b1 : (al.map fun a => MemPlace.cell a.block a.off)[errGs.idxOf g]? = some (MemPlace.cell a.block a.off) := by simp [a1]
        have b2 : (al.map fun a => MemPlace.cell a.block a.off)[errGs.idxOf g']? = some (MemPlace.cell a'.block a'.off) := by simp [a2]
        have hbb : a.block = a'.block := hb
        have hoo : a.off = a'.off := ho
        rw [hbb, hoo] at b1
        exact hj ((List.getElem?_inj (by simp [hal]; omega) hnn).1 (b1.trans b2.symm))
      · cases hl'
    · cases hl
section
variable {W : World} {q : Nat → Option Ram.Loc}
theorem LW_lo {i : Nat} (h : i < 16) : LW q i = some ⟨i, 0, 1, false⟩ := by unfold LW; rw [if_pos h]
theorem LW_hi {i : Nat} (h : 50 ≤ i) : LW q i = q (i - 50) := by unfold LW; rw [if_neg (by omega), if_pos h]
theorem gl_lo : ∀ g ∈ gl, g < 1000 → g < 16 := by decide
theorem gl_hi : ∀ s, 1000 + s ∈ gl → 50 ≤ s ∧ s < 100 ∧ errL.contains (s - 50) = true := by
  have : ∀ g ∈ gl, 1000 ≤ g → 50 ≤ g - 1000 ∧ g - 1000 < 100 ∧ errL.contains (g - 1000 - 50) = true := by decide
  intro s hs
  have := this _ hs (by omega)
  rw [show 1000 + s - 1000 = s by omega] at this
  exact this
theorem gok (h : Placed W q) {bs : Bs} : GOk gl (mapOf (LW q) bs) where
  glob := fun g hg h1 => by
    have := gl_lo g hg h1
    exact ⟨1, false, by simp only [mapOf]; rw [if_pos (by omega), LW_lo this]⟩
  sent := fun s hs => by
    obtain ⟨h1, h2, h3⟩ := gl_hi s hs
    obtain ⟨loc, e, f, k1, k2, k3, _⟩ := h.er _ h3
    exact ⟨loc, by simp only [mapOf]; rw [if_pos h2, LW_hi h1, k1], k3⟩
  diff := fun s s' l l' hs hs' hne hl hl' hb => by
    obtain ⟨h1, h2, h3⟩ := gl_hi s hs
    obtain ⟨h1', h2', h3'⟩ := gl_hi s' hs'
    simp only [mapOf] at hl hl'
    rw [if_pos h2, LW_hi h1] at hl
    rw [if_pos h2', LW_hi h1'] at hl'
    exact h.ne _ _ l l' (by omega) hl hl' hb
theorem laid_lt (h : Placed W q) : ∀ i loc, i < 100 → LW q i = some loc → loc.b < W.heap.size := by
  intro i loc hi hl
  unfold LW at hl
  split at hl
  · obtain rfl := Option.some.inj hl
    have := h.size
    simp only; omega
  · split at hl
    · cases hc : errL.contains (i - 50) with
      | true =>
        obtain ⟨loc', e, f, k1, _, _, c, t, k4, _⟩ := h.er _ hc
        rw [k1] at hl; obtain rfl := Option.some.inj hl
        exact (Array.getElem?_eq_some_iff.1 k4).1
      | false => rw [h.no _ hc] at hl; cases hl
    · cases hl
theorem laid_obj (h : Placed W q) {bs : Bs} : ∀ i loc l, i < 100 → LW q i = some loc → C0 i = some l → ObjR (mapOf (LW q) bs) W loc (.cells l true) := by
  intro i loc l hi hl hC
  have h50 : ∀ d ∈ errL, d < 10 := by decide
  unfold C0 at hC
  split at hC
  · rename_i hc
    have hlt := h50 i (List.contains_iff_mem.1 hc)
    obtain rfl := Option.some.inj hC
    rw [LW_lo (by omega)] at hl
    obtain rfl := Option.some.inj hl
    obtain ⟨loc, e, f, k1, k2, k3, _⟩ := h.er _ hc
    refine ⟨_, e, f, k2, fun hh => (by rcases hh with hh | hh <;> cases hh), by simp, by simp, fun j x hj => ?_⟩
    cases j with
    | succ j => simp at hj
    | zero =>
      simp at hj; subst hj
      refine ⟨_, rfl, ?_, rfl⟩
      simp only [VR]
      exact ⟨_, rfl, loc, by simp only [mapOf]; rw [if_pos (by omega), LW_hi (by omega), show 50 + i - 50 = i by omega, k1], rfl⟩
  · rename_i hc
    split at hC
    · rename_i he
      subst he
      obtain rfl := Option.some.inj hC
      rw [LW_lo (by decide)] at hl
      obtain rfl := Option.some.inj hl
      obtain ⟨e, f, k2⟩ := h.et
      refine ⟨_, e, f, k2, fun hh => (by rcases hh with hh | hh <;> cases hh), by simp, by simp, fun j x hj => ?_⟩
      cases j with
      | succ j => simp at hj
      | zero =>
        simp at hj; subst hj
        refine ⟨_, rfl, ?_, rfl⟩
        simp only [etV, VR, VRs]
        exact ⟨_, rfl, _, rfl, ⟨_, [], rfl, rfl, rfl⟩, rfl⟩
    · split at hC
      · rename_i hs
        obtain rfl := Option.some.inj hC
        obtain ⟨loc', e, f, k1, _, k3, c, t, k4, k5⟩ := h.er _ hs.2
        rw [LW_hi hs.1, k1] at hl; obtain rfl := Option.some.inj hl
        exact ⟨c, t, _, k4, fun _ => ⟨rfl, fun e => by cases e⟩, k5, by simp, fun j x hj => by simp at hj⟩
      · cases hC
theorem up0 : Up S0 := ⟨⟨rfl, fun _ _ => rfl⟩, Nat.le_refl _⟩
theorem walk (hp : Placed W q) {f : FuncId} {args : Array Value} {vs : List V} {S' : VH} {rs : List Nat} (ha : Args (LW q) W args.toList vs) (hv : VCall VT f vs [] S0 = some (.bool true, rs, S')) :
    Calls Tryz.prog f args W fun e W' => e = .returned (.bool true) ∧ Below W.heap.size W W' := by
  obtain ⟨bs, avs, h⟩ := ha.all []
  obtain ⟨h1, h2, h3⟩ := h []
  simp only [List.nil_append, List.append_nil] at h1 h2 h3
  obtain ⟨a, H', φ', G', W', c1, c2, _⟩ := VCall_sound vtOk f vs [] S0 _ _ _ hv phi0 (G0 bs) (fun _ => False) (heapOf C0 bs) avs (Val.Rel.start h3) h3.length
  obtain ⟨b, e1, e2⟩ := c2.slots 0 _ rfl
  obtain rfl : b = a := by simpa [Fr.get] using e1.symm
  simp only [VRel] at e2
  subst e2
  refine (Call_sound tabOk c1 (gok hp) (HR.start (laid_lt hp) (laid_obj hp) h1) (m := mapOf (LW q) bs) h2).mono fun e W1 => ?_
  rintro ⟨cv, m', he, hv, hh, hx⟩
  simp only [VR] at hv
  subst hv
  exact ⟨he, hx.below⟩
end
end Go.Proofs.YtbpgbhmibmcbnaaGreatDoor.runs

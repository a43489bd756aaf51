/-
  Parts of the proof: RunAs, RunAp.
-/
import Derived.Test.YtbpgbhmibmcbnaaGreatDoorMgi
import Derived.WalkKit
import Derived.LaidEql
import Derived.Stop.Asserts
import Derived.RowKitTokens
import Derived.Test.YtbpgbhmibmcbnaaGreatDoorMgf
/-! errors.As at the target **run.end, by its contracts: a nil error, an error of errors.New. By program (mkas.py), after the kit's worked toy. -/
namespace Go.Proofs.YtbpgbhmibmcbnaaGreatDoor.As
open Go.RowKit Go.Extern.Stop Go.Stop Go.Extern

theorem as_nil (t : Value) (w : World) :
    Calls Tryz.prog 27 #[.nilIface, t] w fun e w' => e = .returned (.bool false) ∧ w' = w := by
  go_enter Tryz.func27, Tryz.ntmps27
  go_wp2
  go_ret
  exact ⟨rfl, rfl⟩
theorem valueOf (t : Addr) (w : World) : (ReflectliteValue.unpack (.iface 97 (.pointer (some t)))).run Tryz.prog w
    = .ok (.agg #[.pointer (some ⟨16, 97, none⟩), .pointer (some ⟨w.heap.size, 0, none⟩), .int .u64 150]) (w.alloc (.cells #[.pointer (some t)] 97)) := by kernel_rfl
theorem type (a : Addr) (w : World) : (ReflectliteValue.methodAny (ReflectliteValue.valueError "reflectlite.Value.Type" 0) (fun t _ _ _ => ReflectliteType.toType t) #[.agg #[.pointer (some ⟨16, 97, none⟩), .pointer (some a), .int .u64 150]]).run Tryz.prog w
    = .ok (.iface 185 (.agg #[.pointer (some ⟨16, 97, none⟩)])) w := by kernel_rfl
theorem methodKind (h : Value) (w : World) : (Go.method 447 185 (.agg #[h]) "Kind").run Tryz.prog w = .ok (270, h) w := by kernel_rfl
theorem kindPP (w : World) : ((ReflectliteType.abiMethod fun t => (fun a : Nat => Value.int IntKind.u8 (a : Int)) <$> Rtype.kind t) #[.pointer (some ⟨16, 97, none⟩)]).run Tryz.prog w = .ok (.int .u8 22) w := by kernel_rfl
theorem kindP (w : World) : ((ReflectliteType.abiMethod fun t => (fun a : Nat => Value.int IntKind.u8 (a : Int)) <$> Rtype.kind t) #[.pointer (some ⟨16, 95, none⟩)]).run Tryz.prog w = .ok (.int .u8 22) w := by kernel_rfl
theorem rlm (z : Sem Value) (f : TypeId → Addr → Nat → Nat → Sem Value) (v : Value) :
    ReflectliteValue.method z f #[v] = (do match ← ReflectliteValue.parts v with | none => z | some (t, a, fl) => f t a fl (fl % 32)) := rfl
theorem partsPP (a : Addr) (w : World) : (ReflectliteValue.parts (.agg #[.pointer (some ⟨16, 97, none⟩), .pointer (some a), .int .u64 150])).run Tryz.prog w = .ok (some (97, a, 150)) w := by kernel_rfl
theorem isNil (a p : Addr) (W : World) (ha : W.cell? a = some (.pointer (some p))) :
    (ReflectliteValue.method (ReflectliteValue.valueError "reflectlite.Value.IsNil" 0) ReflectliteValue.isNil #[.agg #[.pointer (some ⟨16, 97, none⟩), .pointer (some a), .int .u64 150]]).run Tryz.prog W = .ok (.bool false) W := by
  rw [rlm]
  simp only [Sem.run_bind, partsPP, Result.andThen]
  simp [ReflectliteValue.isNil, loadVar, isAgg, underlying, ha, Result.andThen]
theorem methodElem (h : Value) (w : World) : (Go.method 447 185 (.agg #[h]) "Elem").run Tryz.prog w = .ok (282, .agg #[h]) w := by kernel_rfl
theorem methodImplements (h : Value) (w : World) : (Go.method 447 185 (.agg #[h]) "Implements").run Tryz.prog w = .ok (283, .agg #[h]) w := by kernel_rfl
theorem methodAssignableTo (h : Value) (w : World) : (Go.method 447 185 (.agg #[h]) "AssignableTo").run Tryz.prog w = .ok (280, .agg #[h]) w := by kernel_rfl
theorem elemPP (w : World) : (ReflectliteType.method ReflectliteType.elem #[.agg #[.pointer (some ⟨16, 97, none⟩)]]).run Tryz.prog w = .ok (.iface 185 (.agg #[.pointer (some ⟨16, 95, none⟩)])) w := by kernel_rfl
theorem implements (w : World) : (ReflectliteType.relation "Implements" ReflectliteType.implements_ #[.agg #[.pointer (some ⟨16, 95, none⟩)], .iface 185 (.agg #[.pointer (some ⟨16, 30, none⟩)])]).run Tryz.prog w = .ok (.bool true) w := by kernel_rfl
theorem typeOf (v : Value) (w : World) : (ReflectliteType.typeOf #[.iface 317 v]).run Tryz.prog w = .ok (.iface 185 (.agg #[.pointer (some ⟨16, 317, none⟩)])) w := by kernel_rfl
theorem assignable (w : World) : (ReflectliteType.relation "AssignableTo" ReflectliteType.assignableTo #[.agg #[.pointer (some ⟨16, 317, none⟩)], .iface 185 (.agg #[.pointer (some ⟨16, 95, none⟩)])]).run Tryz.prog w = .ok (.bool false) w := by kernel_rfl
theorem noAs (v : Value) (w : World) : (Instr.typeAssert (.iface 317 v) 30 190 true).run Tryz.prog w = .ok (.tuple #[.nilIface, .bool false]) w := run_typeAssert_lacksB (want := #[("As", 192)]) (by kernel_rfl) (by kernel_rfl) (by kernel_rfl) v 30 w
theorem noUnwrap (v : Value) (w : World) : (Instr.typeAssert (.iface 317 v) 30 193 true).run Tryz.prog w = .ok (.tuple #[.nilIface, .bool false]) w := run_typeAssert_lacksB (want := #[("Unwrap", 110)]) (by kernel_rfl) (by kernel_rfl) (by kernel_rfl) v 30 w
theorem noUnwraps (v : Value) (w : World) : (Instr.typeAssert (.iface 317 v) 30 194 true).run Tryz.prog w = .ok (.tuple #[.nilIface, .bool false]) w := run_typeAssert_lacksB (want := #[("Unwrap", 196)]) (by kernel_rfl) (by kernel_rfl) (by kernel_rfl) v 30 w

set_option maxHeartbeats 4000000 in
theorem as_miss (v : Value) (t : Addr) (w : World) (hg : w.cell? ⟨4, 0, none⟩ = some (.iface 185 (.agg #[.pointer (some ⟨16, 30, none⟩)]))) :
    Calls Tryz.prog 27 #[.iface 317 v, .iface 97 (.pointer (some t))] w fun ev w' => ev = .returned (.bool false) ∧ ∃ a b c, w' = ((w.alloc a).alloc b).alloc c := by
  have h6 := @run_callFunc_extern Tryz.prog 58 _ (fun args => ReflectliteValue.unpack (args.getD 0 (.tuple #[]))) Tryz.func58 (by kernel_rfl) (by kernel_rfl) (by kernel_rfl) (by kernel_rfl)
  have h7 := @run_callFunc_extern Tryz.prog 59 _ (ReflectliteValue.methodAny (ReflectliteValue.valueError "reflectlite.Value.Type" 0) (fun t _ _ _ => ReflectliteType.toType t)) Tryz.func59 (by kernel_rfl) (by kernel_rfl) (by kernel_rfl) (by kernel_rfl)
  have h8 := @run_callFunc_extern Tryz.prog 60 _ (ReflectliteValue.method (ReflectliteValue.valueError "reflectlite.Value.IsNil" 0) ReflectliteValue.isNil) Tryz.func60 (by kernel_rfl) (by kernel_rfl) (by kernel_rfl) (by kernel_rfl)
  have h27 := @run_callFunc_extern Tryz.prog 270 _ (ReflectliteType.abiMethod fun t => do pure (.int .u8 (← Rtype.kind t))) Tryz.func270 (by kernel_rfl) (by kernel_rfl) (by kernel_rfl) (by kernel_rfl)
  have h37 := @run_callFunc_extern Tryz.prog 282 _ (ReflectliteType.method ReflectliteType.elem) Tryz.func282 (by kernel_rfl) (by kernel_rfl) (by kernel_rfl) (by kernel_rfl)
  have h38 := @run_callFunc_extern Tryz.prog 283 _ (ReflectliteType.relation "Implements" ReflectliteType.implements_) Tryz.func283 (by kernel_rfl) (by kernel_rfl) (by kernel_rfl) (by kernel_rfl)
  have h10 := @run_callFunc_extern Tryz.prog 97 _ ReflectliteType.typeOf Tryz.func97 (by kernel_rfl) (by kernel_rfl) (by kernel_rfl) (by kernel_rfl)
  have h35 := @run_callFunc_extern Tryz.prog 280 _ (ReflectliteType.relation "AssignableTo" ReflectliteType.assignableTo) Tryz.func280 (by kernel_rfl) (by kernel_rfl) (by kernel_rfl) (by kernel_rfl)
  have tO := typeOf
  have mA := methodAssignableTo
  have a25 := assignable
  have f6 := valueOf
  have f7 := type
  have mK := methodKind
  have mE := methodElem
  have mI := methodImplements
  have k27 := kindPP
  have k25 := kindP
  have e27 := elemPP
  have i25 := implements
  have q1 := noAs
  have q2 := noUnwrap
  have q3 := noUnwraps
  have n8 := isNil ⟨w.heap.size, 0, none⟩ t ((w.alloc (.cells #[.pointer (some t)] 97)).alloc (.cells #[.pointer (some ⟨16, 97, none⟩), .pointer (some ⟨w.heap.size, 0, none⟩), .int .u64 150] 135)) (by simp)
  have hlt : 4 < w.heap.size := by
    rcases Nat.lt_or_ge 4 w.heap.size with h | h
    · exact h
    · simp [World.cell?, Array.getElem?_eq_none h] at hg
  have hg2 : ((w.alloc (.cells #[.pointer (some t)] 97)).alloc (.cells #[.pointer (some ⟨16, 97, none⟩), .pointer (some ⟨w.heap.size, 0, none⟩), .int .u64 150] 135)).cell? ⟨4, 0, none⟩ = some (.iface 185 (.agg #[.pointer (some ⟨16, 30, none⟩)])) := by
    rw [World.cell?_alloc_lt _ _ ⟨4, 0, none⟩ (by simp; omega), World.cell?_alloc_lt _ _ ⟨4, 0, none⟩ hlt]; exact hg
  go_enter Tryz.func27, Tryz.ntmps27
  go_wp2
  refine wp_loop_rounds 1 ?_
  rw [rounds_succ]
  go_wp2
  go_ret
  exact ⟨rfl, _, _, _, rfl⟩
end Go.Proofs.YtbpgbhmibmcbnaaGreatDoor.As

/-! errors.As as a prim. By program (mkas.py). -/
namespace Go.Proofs.YtbpgbhmibmcbnaaGreatDoor.Ram
open Go Go.RowKit

theorem HR.same {m : LMap} {H : AH} {w w' : World} (hh : HR m H w) (hf : ∀ b, b < w.heap.size → w'.heap[b]? = w.heap[b]?) (hs : w.heap.size ≤ w'.heap.size) (h1 : w'.os = w.os) (h2 : w'.tape = w.tape) (h3 : w'.output = w.output) : HR m H w' ∧ Ext m H w m H w' :=
  ⟨⟨hh.wf, fun i loc hi => ⟨(hh.dom i loc hi).1, Nat.lt_of_lt_of_le (hh.dom i loc hi).2 hs⟩, fun i loc o hi ho => (hh.ok i loc o hi ho).mono (fun _ _ h => h) (hf _ (hh.dom i loc hi).2), hh.sep, hh.tipo, fun j lj l ht hj hl => by
      obtain ⟨⟨c, e, hc⟩, h4⟩ := hh.tip j lj l ht hj hl
      exact ⟨⟨c, e, (hf _ (hh.dom j lj hj).2).trans hc⟩, h4⟩⟩,
   { Ext.refl m H w with frame := fun b hb _ => hf b hb, size := hs, os := h1, tape := h2, output := h3 }⟩
theorem HR.alloc1 {m : LMap} {H : AH} {w : World} (hh : HR m H w) (o : Obj) : HR m H (w.alloc o) ∧ Ext m H w m H (w.alloc o) :=
  hh.same (fun b hb => Below.heap_alloc w o b hb) (by simp) rfl rfl rfl
def etV : AV := .ifc 185 (.agg [.raw 16 30])
def isEt : AV → Bool
  | .ifc a (.agg [.raw b o]) => a == 185 && b == 16 && o == 30
  | _ => false
theorem isEt_eq {v : AV} (h : isEt v = true) : v = etV := by
  unfold isEt at h
  split at h
  · simp only [Bool.and_eq_true, beq_iff_eq] at h
    obtain ⟨⟨rfl, rfl⟩, rfl⟩ := h
    rfl
  · cases h
def etOk (H : AH) : Bool := match H.get 4 with
  | some (.cells (v :: _) _) => isEt v
  | _ => false
def asP : List AV → AH → Option (AV × AH)
  | [.nilI, _], H => some (.bool false, H)
  | [.ifc t _, .ifc t' (.ptr (some _))], H => if t = 317 ∧ t' = 97 ∧ etOk H = true then some (.bool false, H) else none
  | _, _ => none
theorem asPOk : OSound Tryz.prog gl (fun g vs H => if g = 27 then asP vs H else none) ∧ ∀ vs H r, asP vs H = some r → H.next ≤ r.2.next := by
  have key : ∀ vs H r, asP vs H = some r → r = (.bool false, H) ∧ ((∃ t, vs = [.nilI, t]) ∨ ∃ v i o, vs = [.ifc 317 v, .ifc 97 (.ptr (some (i, o)))] ∧ etOk H = true) := by
    intro vs H r h
    unfold asP at h
    split at h
    · exact ⟨(Option.some.inj h).symm, .inl ⟨_, rfl⟩⟩
    · split at h
      · rename_i hc
        obtain ⟨rfl, rfl, hc⟩ := hc
        exact ⟨(Option.some.inj h).symm, .inr ⟨_, _, _, rfl, hc⟩⟩
      · cases h
    · cases h
  refine ⟨fun f vs H r h m w cargs hG hh hv => ?_, fun vs H r h => ?_⟩
  · by_cases hf : f = 27
    · subst hf
      dsimp only at h; rw [if_pos rfl] at h
      obtain ⟨rfl, h1⟩ := key _ _ _ h
      refine ⟨⟨_, Tryz.func27, by unfold Tryz.f27; simp, by unfold Tryz.f27; simp⟩, ?_⟩
      rcases h1 with ⟨t, rfl⟩ | ⟨v, i, o, rfl, het⟩
      · simp only [VRs] at hv
        obtain ⟨_, _, hv, h2, _, _, rfl, _, rfl⟩ := hv
        simp only [VR] at h2
        subst h2
        obtain rfl := (Array.toArray_toList (xs := cargs)).symm.trans (congrArg List.toArray hv)
        refine (As.as_nil _ w).mono ?_
        rintro e w' ⟨rfl, rfl⟩
        exact ⟨_, m, rfl, by simp only [VR], hh, Ext.refl _ _ _⟩
      · simp only [VRs] at hv
        obtain ⟨_, _, hv, h2, _, _, rfl, h3, rfl⟩ := hv
        simp only [VR] at h2 h3
        obtain ⟨y, rfl, _⟩ := h2
        obtain ⟨z, rfl, loc, _, rfl⟩ := h3
        obtain rfl := (Array.toArray_toList (xs := cargs)).symm.trans (congrArg List.toArray hv)
        have hcell : w.cell? ⟨4, 0, none⟩ = some (.iface 185 (.agg #[.pointer (some ⟨16, 30, none⟩)])) := by
          unfold etOk at het
          split at het
          · rename_i v' l ro hg
            obtain rfl := isEt_eq het
            obtain ⟨n, z, hm⟩ := hG.glob 4 (by decide) (by decide)
            obtain ⟨c, e, f, k1, _, _, _, k5⟩ := hh.ok _ _ _ hm hg
            obtain ⟨cv, q1, q2, _⟩ := k5 0 _ rfl
            simp only [etV, VR, VRs] at q2
            obtain ⟨y, rfl, cs, rfl, ⟨u, r, hcs, rfl, rfl⟩, _⟩ := q2
            obtain rfl := (Array.toArray_toList (xs := cs)).symm.trans (congrArg List.toArray hcs)
            simp only [World.cell?, k1]
            simpa using q1
          · cases het
        refine (As.as_miss _ _ w hcell).mono ?_
        rintro e w' ⟨rfl, a, b, c, rfl⟩
        obtain ⟨g1, e1⟩ := hh.alloc1 a
        obtain ⟨g2, e2⟩ := g1.alloc1 b
        obtain ⟨g3, e3⟩ := g2.alloc1 c
        exact ⟨_, m, rfl, by simp only [VR], g3, (e1.trans e2 fun i loc hi => (hh.dom i loc hi).1).trans e3 fun i loc hi => (hh.dom i loc hi).1⟩
    · dsimp only at h; rw [if_neg hf] at h; cases h
  · obtain ⟨rfl, _⟩ := key _ _ _ h
    exact Nat.le_refl _
end Go.Proofs.YtbpgbhmibmcbnaaGreatDoor.Ram

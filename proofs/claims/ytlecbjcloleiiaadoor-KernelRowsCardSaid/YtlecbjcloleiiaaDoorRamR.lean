import Derived.Test.YtlecbjcloleiiaaDoorRamN
/-! How a law begins: the globals' blocks by their numbers, the arguments' blocks from 100 on, read-only. -/
namespace Go.Proofs.YtlecbjcloleiiaaDoor.Ram
open Go Go.RowKit

def mapOf (ng : Nat) (n : Nat → Nat) (as : List (Loc × List AV)) : LMap := fun i => if i < ng then some ⟨i, 0, n i⟩ else if 100 ≤ i then (as[i - 100]?).map (·.1) else none
def heapOf (as : List (Loc × List AV)) : AH := { next := 100 + as.length, get := fun i => if 100 ≤ i then (as[i - 100]?).map fun a => .cells a.2 true else none }
theorem HR.start {W : World} {ng : Nat} {n : Nat → Nat} {as : List (Loc × List AV)} (h0 : ng ≤ W.heap.size) (h1 : ng ≤ 100) (ha : ∀ a ∈ as, ObjR (mapOf ng n as) W a.1 (.cells a.2 true)) : HR (mapOf ng n as) (heapOf as) W := by
  have hb : ∀ a ∈ as, a.1.b < W.heap.size := fun a h => by
    obtain ⟨c, e, f, h2, _⟩ := ha a h
    exact (Array.getElem?_eq_some_iff.1 h2).1
  refine ⟨fun i hi => ?_, fun i loc hi => ?_, fun i loc o hi ho => ?_, fun i j li lj oi oj hi hj hoi hoj hne hs => ?_, fun j ht => (by cases ht), fun j lj l ht => (by cases ht)⟩
  · simp only [heapOf] at hi ⊢
    rw [if_pos (by omega), List.getElem?_eq_none (by omega)]; rfl
  · simp only [mapOf] at hi
    split at hi
    · obtain rfl := Option.some.inj hi; simp only [heapOf]; omega
    · split at hi
      · obtain ⟨a, h2, rfl⟩ := Option.map_eq_some_iff.1 hi
        have := (List.getElem?_eq_some_iff.1 h2).1
        exact ⟨by simp only [heapOf]; omega, hb a (List.mem_of_getElem? h2)⟩
      · cases hi
  · simp only [heapOf] at ho
    split at ho
    · rename_i hi100
      obtain ⟨a, h2, rfl⟩ := Option.map_eq_some_iff.1 ho
      simp only [mapOf] at hi
      rw [if_neg (by omega), if_pos hi100, h2] at hi
      obtain rfl := Option.some.inj hi
      exact ha a (List.mem_of_getElem? h2)
    · cases ho
  · simp only [heapOf] at hoi hoj
    split at hoi
    · rename_i hi100
      split at hoj
      · rename_i hj100
        obtain ⟨a, _, rfl⟩ := Option.map_eq_some_iff.1 hoi
        obtain ⟨b, _, rfl⟩ := Option.map_eq_some_iff.1 hoj
        simp [shar, AObj.ro, hi100, hj100] at hs
      · cases hoj
    · cases hoi
/-- What was there is as it was. -/
theorem Ext.below {W W' : World} {ng : Nat} {n : Nat → Nat} {as : List (Loc × List AV)} {m' : LMap} {H' : AH} (h : Ext (mapOf ng n as) (heapOf as) W m' H' W') : Below W.heap.size W W' :=
  ⟨h.os, h.tape, h.output, h.size, fun k hk => h.frame k hk fun hm => by
    obtain ⟨i, loc, o, _, ho, hr, _⟩ := hm
    simp only [heapOf] at ho
    split at ho
    · obtain ⟨a, _, rfl⟩ := Option.map_eq_some_iff.1 ho; rcases hr with hr | hr <;> cases hr
    · cases ho⟩
end Go.Proofs.YtlecbjcloleiiaaDoor.Ram

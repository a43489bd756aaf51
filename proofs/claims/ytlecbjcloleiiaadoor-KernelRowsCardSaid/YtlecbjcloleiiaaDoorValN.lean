import Derived.Test.YtlecbjcloleiiaaDoorValT
import Derived.Test.YtlecbjcloleiiaaDoorRamQ
/-! How a law begins: its arguments in both machines. -/
namespace Go.Proofs.YtlecbjcloleiiaaDoor.Val
open Go Go.RowKit Go.Proofs.YtlecbjcloleiiaaDoor.Ram

abbrev Bs := List (Ram.Loc × List AV)
def G0 (bl : Bs) : Fz := fun r => if 100 ≤ r then (bl[r - 100]?).map (·.2) else none
def S0 : VH := ⟨100, fun _ => none⟩
def phi0 : Bk := fun i => if i < 100 then some i else none
theorem Rel.start {bl : Bs} {xs : List V} {avs : List AV} (h : VRels phi0 (G0 bl) xs avs) : Rel phi0 (G0 bl) (fun _ => False) ⟨frV xs, [], S0⟩ (frOf avs) (heapOf bl) where
  slots := fun n v hv => by
    rw [vget_frV] at hv
    obtain ⟨a, h1, h2⟩ := h.get hv
    exact ⟨a, by rw [get_frOf']; exact h1, h2⟩
  objs := fun i o hi => by cases hi
  inj := fun i j r oi oj hi => by cases hi
  dom := fun i r hi => by
    simp only [phi0] at hi
    split at hi
    · assumption
    · cases hi
  glob := fun g hg => by simp [phi0, hg]
  n100 := ⟨Nat.le_refl _, by simp [heapOf]⟩
  fz := fun r pre hp => by
    simp only [G0] at hp
    split at hp
    · rename_i h100
      obtain ⟨a, h1, rfl⟩ := Option.map_eq_some_iff.1 hp
      have := (List.getElem?_eq_some_iff.1 h1).1
      exact ⟨by simp only [heapOf]; omega, a.2, true, by simp only [heapOf]; rw [if_pos h100, h1]; rfl, List.prefix_refl _⟩
    · cases hp
  win := fun r hr => hr.elim
  rt := fun R hR => by
    cases R with
    | slot n => cases hR
    | part n j => cases hR
    | cell i off => simp [Has, ownAt, S0] at hR
  rtx := fun R R' a a' r hR => by
    cases R with
    | slot n => cases hR
    | part n j => cases hR
    | cell i off => simp [Has, ownAt, S0] at hR
  alias := fun n i off hm => by cases hm
/-- A value of the program's is this one, wherever its blocks are numbered. -/
def Arg (ng : Nat) (n : Nat → Nat) (W : World) (v : Value) (x : V) : Prop := ∃ (bs : Nat → Bs) (av : Nat → AV), ∀ pre post : Bs,
  (∀ a ∈ bs pre.length, ObjR (mapOf ng n (pre ++ bs pre.length ++ post)) W a.1 (.cells a.2 true)) ∧ VR (mapOf ng n (pre ++ bs pre.length ++ post)) (av pre.length) v ∧ VRel phi0 (G0 (pre ++ bs pre.length ++ post)) x (av pre.length)
inductive Args (ng : Nat) (n : Nat → Nat) (W : World) : List Value → List V → Prop where
  | nil : Args ng n W [] []
  | cons {v : Value} {x : V} {vs : List Value} {xs : List V} (h : Arg ng n W v x) (hs : Args ng n W vs xs) : Args ng n W (v :: vs) (x :: xs)
section
variable {ng : Nat} {n : Nat → Nat} {W : World}
theorem Args.all {vs : List Value} {xs : List V} (h : Args ng n W vs xs) : ∀ pre : Bs, ∃ (bl : Bs) (avs : List AV), ∀ post : Bs,
    (∀ a ∈ bl, ObjR (mapOf ng n (pre ++ bl ++ post)) W a.1 (.cells a.2 true)) ∧ VRs (mapOf ng n (pre ++ bl ++ post)) avs vs ∧ VRels phi0 (G0 (pre ++ bl ++ post)) xs avs := by
  induction h with
  | nil => intro pre; exact ⟨[], [], fun post => ⟨fun a ha => (by cases ha), rfl, rfl⟩⟩
  | cons h hs ih =>
    intro pre
    obtain ⟨bs, av, hb⟩ := h
    obtain ⟨bl, avs, ha⟩ := ih (pre ++ bs pre.length)
    refine ⟨bs pre.length ++ bl, av pre.length :: avs, fun post => ?_⟩
    obtain ⟨h1, h2, h3⟩ := hb pre (bl ++ post)
    obtain ⟨k1, k2, k3⟩ := ha post
    have e1 : pre ++ bs pre.length ++ (bl ++ post) = pre ++ (bs pre.length ++ bl) ++ post := by simp
    have e2 : pre ++ bs pre.length ++ bl ++ post = pre ++ (bs pre.length ++ bl) ++ post := by simp
    rw [e1] at h1 h2 h3
    rw [e2] at k1 k2 k3
    refine ⟨fun a hm => (List.mem_append.1 hm).elim (h1 a) (k1 a), ?_, ?_⟩
    · simp only [VRs]; exact ⟨_, _, rfl, h2, k2⟩
    · simp only [VRels]; exact ⟨_, _, rfl, h3, k3⟩
theorem arg_int {k : IntKind} {z : Int} : Arg ng n W (.int k z) (.int k z) := ⟨fun _ => [], fun _ => .int k z, fun _ _ => ⟨fun a ha => (by cases ha), by simp only [VR], by simp only [VRel]⟩⟩
theorem arg_bool {b : Bool} : Arg ng n W (.bool b) (.bool b) := ⟨fun _ => [], fun _ => .bool b, fun _ _ => ⟨fun a ha => (by cases ha), by simp only [VR], by simp only [VRel]⟩⟩
theorem arg_str {s : ByteArray} : Arg ng n W (.string s) (.str s.data.toList) := ⟨fun _ => [], fun _ => .str s.data.toList, fun _ _ => ⟨fun a ha => (by cases ha), by simp only [VR], by simp only [VRel]⟩⟩
theorem arg_nil {sz : Nat} : Arg ng n W (.slice none 0 0) (.lst sz []) := ⟨fun _ => [], fun _ => .sl none sz 0 (some 0), fun _ _ => ⟨fun a ha => (by cases ha), by simp [VR], by simp only [VRel]; exact .inl ⟨trivial, _, _, rfl⟩⟩⟩
/-- One-cell rows. -/
theorem rows_one {φ : Bk} {G : Fz} : ∀ {us : List V} {xs cs : List AV}, VRels φ G us xs → cs.take us.length = xs → RowsRel φ G 1 (us.map fun u => [u]) cs
  | [], _, _, _, _ => by simp only [List.map_nil, RowsRel]
  | u :: us, xs, cs, h, hc => by
    simp only [VRels] at h
    obtain ⟨a, r, rfl, h1, h2⟩ := h
    cases cs with
    | nil => simp at hc
    | cons c cs =>
      simp only [List.length_cons, List.take_succ_cons, List.cons.injEq] at hc
      obtain ⟨rfl, hc⟩ := hc
      simp only [List.map_cons, RowsRel, List.length_singleton, List.take_succ_cons, List.take_zero, List.drop_succ_cons, List.drop_zero, true_and]
      exact ⟨by simp only [VRels]; exact ⟨_, [], rfl, h1, rfl⟩, rows_one h2 hc⟩
theorem arg_list {g : Ram.Loc} (hng : ng ≤ 100) (hg : ∀ m, ObjR m W g (.cells [] true)) {a : Addr} {len cap : Nat} {us : List V} {xs : List AV} {vs : List Value} (hx : ∀ m, VRs m xs vs) (hu : ∀ φ G, VRels φ G us (xs.take len)) (h1 : xs.all oneCell = true) (hcap : xs.length = cap) (hl : len ≤ cap) (hm : cap ≤ maxLen)
    (hc : ∀ i v, vs[i]? = some v → W.cell? (a.add i) = some v) : Arg ng n W (.slice (some a) len cap) (.lst 1 (us.map fun u => [u])) := by
  obtain ⟨loc, l, k1, ⟨k2, k3⟩, k4⟩ := slice_arg (hg fun _ => none) (hx _) h1 hcap hl hm hc
  have hul : us.length = len := by
    have := (hu phi0 fun _ => none).length
    rw [List.length_take] at this; omega
  refine ⟨fun _ => [(loc, l)], fun i => .sl (some (100 + i, 0)) 1 len none, fun pre post => ⟨fun a ha => ?_, k4 _ _ ?_, ?_⟩⟩
  · obtain rfl := List.mem_singleton.1 ha
    exact k1.mono (fun _ _ h => by cases h) rfl
  · simp only [mapOf]
    rw [if_neg (by omega), if_pos (by omega), show 100 + pre.length - 100 = pre.length by omega]
    simp
  · simp only [VRel]
    refine .inr ⟨100 + pre.length, 0, none, l, by simp [hul], ?_, ?_, ?_⟩
    · simp only [G0]
      rw [if_pos (by omega), show 100 + pre.length - 100 = pre.length by omega]
      simp
    · simp [hul]; omega
    · rw [List.drop_zero]
      exact rows_one (hu _ _) (by rw [hul]; exact k3)
end
end Go.Proofs.YtlecbjcloleiiaaDoor.Val

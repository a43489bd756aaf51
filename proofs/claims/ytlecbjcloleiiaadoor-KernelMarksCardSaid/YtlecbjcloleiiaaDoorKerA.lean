import Derived.Test.YtlecbjcloleiiaaDoorRamX
import Derived.Test.YtlecbjcloleiiaaDoorRamS
/-! Slices of rows; appending; a kernel's note and mark. -/
namespace Go.Proofs.YtlecbjcloleiiaaDoor.Ram
open Go

/-- Nothing that was there is changed. -/
structure Keep (H H' : AH) : Prop where
  next : H.next ≤ H'.next
  get : ∀ i, i < H.next → H'.get i = H.get i
theorem Keep.refl (H : AH) : Keep H H := ⟨Nat.le_refl _, fun _ _ => rfl⟩
theorem Keep.trans {H H1 H2 : AH} (h : Keep H H1) (k : Keep H1 H2) : Keep H H2 := ⟨Nat.le_trans h.next k.next, fun i hi => (k.get i (Nat.lt_of_lt_of_le hi h.next)).trans (h.get i hi)⟩
theorem Keep.push (H : AH) (o : AObj) : Keep H (H.push o) := ⟨by simp, fun i hi => by rw [push_get, if_neg (by omega)]⟩
theorem Keep.set {H H1 : AH} (h : Keep H H1) {i : Nat} (hi : H.next ≤ i) (o : AObj) : Keep H (H1.set i o) := ⟨h.next, fun j hj => by rw [set_get, if_neg (by omega)]; exact h.get j hj⟩
theorem Keep.kill {H H1 : AH} (h : Keep H H1) {i : Nat} (hi : H.next ≤ i) : Keep H (H1.kill i) := ⟨h.next, fun j hj => by rw [kill_get, if_neg (by omega)]; exact h.get j hj⟩

/-- A slice that stands at its array's end and has it for itself. -/
def Tip (H : AH) (sz : Nat) (v : AV) (rows : List (List AV)) : Prop :=
  (∃ s c, v = .sl none s 0 c ∧ rows = []) ∨ (∃ t, v = .sl (some (t, 0)) sz rows.length none ∧ H.get t = some (.cells rows.flatten false) ∧ t < H.next)
def tipId : AV → Option Nat
  | .sl (some (t, _)) _ _ _ => some t
  | _ => none
theorem flat_len {sz : Nat} {rows : List (List AV)} (h : ∀ r ∈ rows, r.length = sz) : rows.flatten.length = rows.length * sz := by
  induction rows with
  | nil => simp
  | cons r rows ih => simp only [List.flatten_cons, List.length_append, List.length_cons, ih fun x hx => h x (by simp [hx]), h r (by simp)]; rw [Nat.succ_mul]; omega

theorem append_one {H : AH} {sz bytes x : Nat} {v : AV} {rows : List (List AV)} {row : List AV} {c : Option Nat} {ro : Bool} (h : Tip H sz v rows) (hr : ∀ r ∈ rows, r.length = sz) (hx : H.get x = some (.cells row ro)) (hl : row.length = sz) (h0 : 0 < sz) (hb : 0 < bytes) (hn : (rows.length + 1) * bytes ≤ 140737488355328) (hlt : x < H.next) :
    ∃ H', appendA H sz bytes v (.sl (some (x, 0)) sz 1 c) = some (.sl (some (H.next, 0)) sz (rows.length + 1) none, H') ∧ Tip H' sz (.sl (some (H.next, 0)) sz (rows.length + 1) none) (rows ++ [row]) ∧ H'.next = H.next + 1 ∧ ∀ i, i < H.next → tipId v ≠ some i → H'.get i = H.get i := by
  have hs : sliceCells H sz 1 (.sl (some (x, 0)) sz 1 c) = some row := by
    simp only [sliceCells, hx]
    rw [if_pos ⟨trivial, Nat.le_refl _, by omega⟩]
    simp [← hl]
  rcases h with ⟨s, c', rfl, rfl⟩ | ⟨t, rfl, ht, htl⟩
  · refine ⟨H.push (.cells row false), ?_, .inr ⟨H.next, by simp, by simp, by simp⟩, by simp, fun i hi _ => by rw [push_get, if_neg (by omega)]⟩
    have hn' : 1 * bytes ≤ 140737488355328 ∧ 0 < bytes ∧ 0 < sz := ⟨by simpa using hn, hb, h0⟩
    simp [appendA, lenA, hs, hb, h0]
    omega
  · have hfl := flat_len hr
    refine ⟨(H.push (.cells (rows.flatten ++ row) false)).kill t, ?_, .inr ⟨H.next, by simp, ?_, by simp⟩, by simp, fun i hi hne => ?_⟩
    · simp only [appendA, lenA, Option.bind_some, hs, ht]
      rw [if_pos ⟨trivial, h0, hb, hn⟩, if_pos ⟨trivial, by omega⟩]
      simp
    · rw [kill_get, if_neg (by omega), push_get, if_pos rfl]
      simp
    · rw [kill_get, if_neg (fun e => hne (by rw [e]; rfl)), push_get, if_neg (by omega)]

theorem Tip.set {H : AH} {sz : Nat} {v : AV} {rows : List (List AV)} (h : Tip H sz v rows) {i : Nat} {o : AObj} (hi : tipId v ≠ some i) : Tip (H.set i o) sz v rows := by
  rcases h with h | ⟨t, rfl, h1, h2⟩
  · exact .inl h
  · exact .inr ⟨t, rfl, by rw [set_get, if_neg (fun e => hi (by rw [← e]; rfl))]; exact h1, h2⟩
/-- What does not touch the array keeps it. -/
theorem Tip.of {H H' : AH} {sz : Nat} {v : AV} {rows : List (List AV)} (h : Tip H sz v rows) (hn : H.next ≤ H'.next) (hg : ∀ i, tipId v = some i → i < H.next → H'.get i = H.get i) : Tip H' sz v rows := by
  rcases h with h | ⟨t, rfl, h1, h2⟩
  · exact .inl h
  · exact .inr ⟨t, rfl, (hg t rfl h2).trans h1, by omega⟩
theorem Tip.keep {H H' : AH} {sz : Nat} {v : AV} {rows : List (List AV)} (h : Tip H sz v rows) (k : Keep H H') : Tip H' sz v rows := h.of k.next fun i _ hi => k.get i hi

abbrev Str := List UInt8
def evRow (k n : Int) (a b : Str) (l : AV) : List AV := [.int .i64 k, .int .i64 n, .str a, .str b, l]

theorem c_note {H : AH} {k : Nat} {tv : AV} {rest rows : List _} {kd n : Int} {a b : Str} {l : AV} (hk : H.get k = some (.cells (tv :: rest) false)) (hkl : k < H.next) (ht : Tip H 5 tv rows) (hr : ∀ r ∈ rows, r.length = 5) (hl : oneCell l = true) (hn : rows.length < 1000000) (hkt : tipId tv ≠ some k) :
    ∃ H' t', Call U 45 [.ptr (some (k, 0)), .agg (evRow kd n a b l)] H = some (.tup [], H') ∧ H'.get k = some (.cells (.sl (some (t', 0)) 5 (rows.length + 1) none :: rest) false) ∧ Tip H' 5 (.sl (some (t', 0)) 5 (rows.length + 1) none) (rows ++ [evRow kd n a b l]) ∧ H.next ≤ t' ∧ H.next ≤ H'.next ∧ ∀ i, i < H.next → i ≠ k → tipId tv ≠ some i → H'.get i = H.get i := by
  rw [Call_of (F := a45) rfl rfl]
  have hH1 : Tip ((H.push (.cells (evRow kd n a b l) false)).push (.cells (evRow kd n a b l) false)) 5 tv rows := by
    rcases ht with h | ⟨t, h1, h2, h3⟩
    · exact .inl h
    · exact .inr ⟨t, h1, by rw [push_get, if_neg (by simp; omega), push_get, if_neg (by omega)]; exact h2, by simp; omega⟩
  obtain ⟨H2, h1, h2, h3, h4⟩ := append_one (bytes := 72) (x := H.next + 1) (c := some 1) (row := evRow kd n a b l) (ro := false) hH1 hr (by simp) rfl (by omega) (by omega) (by omega) (by simp)
  simp only [push_next] at h1 h2 h3 h4
  have hne : ¬ k = H.next := by omega
  have hne1 : ¬ k = H.next + 1 := by omega
  have hk2 : H2.get k = some (.cells (tv :: rest) false) := by rw [h4 k (by omega) hkt]; simp [hne, hne1, hk]
  unfold evRow at h1 h2 h4 ⊢
  simp -implicitDefEqProofs [a45, c45, frOf, loadA, hk, hl, hne, hne1, h1, store_at hk2, putCells]
  refine ⟨h2.set (fun e => ?_), by omega, by omega, fun i hi hik hit => ?_⟩
  · simp only [tipId, Option.some.injEq] at e; omega
  · rw [if_neg hik, h4 i (by omega) hit, push_get, if_neg (by simp; omega), push_get, if_neg (by omega)]

def plumb (kd : Int) : Bool := decide (kd = 4 ∨ kd = 5 ∨ kd = 6)
theorem c_mark {H : AH} {k : Nat} {tv : AV} {rest : List AV} {rows : List (List AV)} {kd n : Int} (hk : H.get k = some (.cells (tv :: rest) false)) (hkl : k < H.next) (ht : Tip H 5 tv rows) (hr : ∀ r ∈ rows, r.length = 5) (hn : rows.length < 1000000) (hkt : tipId tv ≠ some k) :
    ∃ H' tv', Call U 20 [.ptr (some (k, 0)), .int .i64 kd, .int .i64 n] H = some (.tup [], H') ∧ H'.get k = some (.cells (tv' :: rest) false) ∧ Tip H' 5 tv' (if plumb kd then rows ++ [evRow kd n [] [] (.sl none 1 0 (some 0))] else rows) ∧ (tv' = tv ∨ ∃ t', tipId tv' = some t' ∧ H.next ≤ t') ∧ H.next ≤ H'.next ∧ ∀ i, i < H.next → i ≠ k → tipId tv ≠ some i → H'.get i = H.get i := by
  rw [Call_of (F := a20) rfl rfl]
  by_cases hp : plumb kd = true
  · obtain ⟨H', t', h1, h2, h3, h4, h5, h6⟩ := c_note (kd := kd) (n := n) (a := []) (b := []) (l := .sl none 1 0 (some 0)) hk hkl ht hr rfl hn hkt
    rw [if_pos hp]
    refine ⟨H', _, ?_, h2, h3, .inr ⟨t', rfl, h4⟩, h5, h6⟩
    unfold evRow at h1
    simp only [plumb, decide_eq_true_eq] at hp
    rcases hp with rfl | rfl | rfl <;> simp -implicitDefEqProofs [a20, c20, frOf, binA, h1]
  · rw [if_neg hp]
    refine ⟨H, tv, ?_, hk, ht, .inl rfl, Nat.le_refl _, fun _ _ _ _ => rfl⟩
    simp only [plumb, decide_eq_true_eq, not_or] at hp
    simp -implicitDefEqProofs [a20, c20, frOf, binA, hp.1, hp.2.1, hp.2.2]
theorem c_len {H : AH} {k : Nat} {a : Option (Nat × Nat)} {sz n : Nat} {c : Option Nat} {rest : List AV} (hk : H.get k = some (.cells (.sl a sz n c :: rest) false)) : Call U 23 [.ptr (some (k, 0))] H = some (.int .i64 n, H) := by
  rw [Call_of (F := a23) rfl rfl]
  simp -implicitDefEqProofs [a23, c23, frOf, load_one hk]
end Go.Proofs.YtlecbjcloleiiaaDoor.Ram

import Derived.Test.YtlecbjcloleiiaaDoorKvD
/-! The kernel's Reads, note, Exec, copied, Trace. -/
set_option linter.unusedSimpArgs false
set_option linter.unusedVariables false
namespace Go.Proofs.YtlecbjcloleiiaaDoor.Val
open Go Go.Proofs.YtlecbjcloleiiaaDoor.Ram

theorem v_Reads {K : Kern} {n : Str} {l : List Str} {S : VH} {i : Nat} (hi : IsK S i K) (hl : l.length < 1000000) (ha : K.rows.length < 1000000) (hok : ∀ r ∈ K.rows, r.args.length < 1000000) :
    VCall VT F_world_Kernel_Reads [.ptr (some (i, 0)), .str n, strsV l] [] S = some (.bool (findRow K.rows n l).1.reads, [], S) := by
  rw [VCall_of (F := a_world_Kernel_Reads) rfl rfl rfl rfl]
  have hr := v_row (n := n) hi hl ha hok
  have hn : (findRow K.rows n l).2 = false → (findRow K.rows n l).1.reads = false := by
    unfold findRow; split <;> simp [noRow]
  generalize findRow K.rows n l = q at *
  obtain ⟨r, b⟩ := q
  cases b
  · simp only at hn
    simp -implicitDefEqProofs [a_world_Kernel_Reads, c_world_Kernel_Reads, hr, hn]
  · simp -implicitDefEqProofs [a_world_Kernel_Reads, c_world_Kernel_Reads, hr, hn]

/-- The rights behind a note. -/
def ownN (own : List Nat) : List Nat := 0 :: keepO (own.filter (· != 0)) 0 1
@[simp] theorem mem_ownN {own : List Nat} : 0 ∈ ownN own := List.mem_cons_self
theorem v_note {K : Kern} {k n : Int} {a b : Str} {l : List Str} {S : VH} {i : Nat} {own : List Nat} (ht : K.trace.length < 1000000) (h1 : i < S.next) (h2 : S.get i = some (.cells (encK K) own)) (h4 : 0 ∈ own) (h5 : V.clo S.next K.files = true) :
    VCall VT F_world_asked_note [.ptr (some (i, 0)), .agg [.int .i64 k, .int .i64 n, .str a, .str b, strsV l]] [] S = some (.tup [], [], S.set i (.cells (encK { K with trace := K.trace ++ [⟨k, n, a, b, l⟩] }) (ownN own))) := by
  have h3 : i ≠ S.next := by omega
  have e2 : (K.trace.length + 1) * 72 ≤ 140737488355328 := by omega
  rw [VCall_of (F := a_world_asked_note) rfl rfl rfl rfl]
  simp -implicitDefEqProofs [a_world_asked_note, c_world_asked_note, h1, h2, h3, h4, h5, e2, trim_in h1]
  simp [encK, ownN, encEv, evsV']
theorem v_Exec {K : Kern} {n inp : Str} {l : List Str} {S : VH} {i : Nat} {own : List Nat} (ht : K.trace.length < 1000000) (h1 : i < S.next) (h2 : S.get i = some (.cells (encK K) own)) (h4 : 0 ∈ own) (h5 : ∀ m, S.next ≤ m → V.clo m K.files = true) (hl : l.length < 1000000) (ha : K.rows.length < 1000000) (hok : ∀ r ∈ K.rows, r.args.length < 1000000) (hin : (inp.length : Int) < 1000000000) (hout : ((findRow K.rows n l).1.out.length : Int) < 1000000000) :
    VCall VT F_world_Kernel_Exec [.ptr (some (i, 0)), .str n, .str inp, strsV l] [] S = some (.tup [.str ((findRow K.rows n l).1.out ++ if (findRow K.rows n l).1.copy then inp else []), .int .i64 (findRow K.rows n l).1.status, .bool (findRow K.rows n l).2], [],
      S.set i (.cells (encK { K with trace := K.trace ++ [⟨1, (findRow K.rows n l).1.status, n, if (findRow K.rows n l).1.reads then inp else [], l⟩] }) (ownN own))) := by
  have h3 : i ≠ S.next := by omega
  have h3' : i ≠ S.next + 1 := by omega
  have h1' : i < S.next + 1 := by omega
  have h1'' : i < S.next + 1 + 1 := by omega
  have hr := v_row (n := n) ⟨h1, own, h2, h4, h5 _ (Nat.le_refl _)⟩ hl ha hok
  have hC := fun (S : VH) => v_Clone_string (l := l.map strRow) (S := S) (by simpa using hl)
  have hN := fun (k n' : Int) (a b : Str) (l : List Str) (S : VH) => v_note (K := K) (k := k) (n := n') (a := a) (b := b) (l := l) (S := S) (i := i) (own := own) ht
  have h5' := h5 _ (Nat.le_refl _)
  have h5a := h5 (S.next + 1 + 1) (by omega)
  have h5b := h5 (S.next + 2) (by omega)
  have h1a : i < S.next + 2 := by omega
  have h3s : ¬ S.next = i := by omega
  generalize findRow K.rows n l = q at *
  obtain ⟨⟨rn, ra, ry, rr, rc, ro, rs⟩, b⟩ := q
  rw [VCall_of (F := a_world_Kernel_Exec) rfl rfl rfl rfl]
  simp only at hr hout
  have hmx : (ro.length : Int) + (inp.length : Int) ≤ 9223372036854775807 := by omega
  cases rr <;> cases rc <;> simp -implicitDefEqProofs [a_world_Kernel_Exec, c_world_Kernel_Exec, binA, h1, h1', h1'', h1a, h2, h3, h3', h3s, hmx, h4, h5', h5a, h5b, hr, hC, hN, encRow, trim_in h1]
theorem v_copied_loop {a : List Event} {S : VH} (ha : a.length < 1000000) (hok : ∀ e ∈ a, e.l.length < 1000000) : ∀ (d j : Nat) (out : List Event), j + d = a.length → out.length = j →
    loopX VT.E VT.Fl (VCall VT) c_world_copied_l0 ⟨[(3, evsV' out), (6, evsV' a), (7, .int .i64 a.length), (8, .int .i64 j)], [(3, .own)], S⟩ =
      some (.exit 0, ⟨[(3, evsV' (out ++ a.drop j)), (6, evsV' a), (7, .int .i64 a.length), (8, .int .i64 a.length), (9, .bool false)], [(3, .own)], S⟩) := by
  have hK : ∀ f w h, loopX VT.E VT.Fl (VCall VT) c_world_copied_l0 ⟨f, w, h⟩ = loopX VT.E VT.Fl (VCall VT) c_world_copied_l0 ⟨VFr.keep f [3, 6, 7, 8], Rts.keep w.noCell [3, 6, 7, 8], h⟩ := fun _ _ _ => loopX_keep
  intro d
  induction d with
  | zero =>
    intro j out hj ho
    obtain rfl : j = a.length := by omega
    rw [loopX_eq]
    simp -implicitDefEqProofs [c_world_copied_l0, binA]
  | succ d ih =>
    intro j out hj ho
    have h1 : j < a.length := by omega
    have hlt : (j : Int) < (a.length : Int) := by omega
    obtain ⟨x, hx, dx⟩ := next_at h1
    have hC := fun (S : VH) => v_Clone_string (l := x.l.map strRow) (S := S) (by simpa using hok x (List.mem_of_getElem? hx))
    have := ih (j + 1) (out ++ [x]) (by omega) (by simp [ho])
    push_cast at this
    have e2 : (out.length + 1) * 72 ≤ 140737488355328 := by omega
    rw [loopX_eq, dx]
    generalize loopX VT.E VT.Fl (VCall VT) c_world_copied_l0 = L at *
    simp -implicitDefEqProofs [c_world_copied_l0, binA, hlt, hx, hC, e2, wrap_succ h1 (by omega)]
    rw [hK]
    simpa [evsV', encEv] using this
theorem v_copied {a : List Event} {S : VH} (ha : a.length < 1000000) (hok : ∀ e ∈ a, e.l.length < 1000000) : VCall VT F_world_copied [evsV' a] [] S = some (evsV' a, [], S) := by
  rw [VCall_of (F := a_world_copied) rfl rfl rfl rfl]
  have := v_copied_loop (S := S) ha hok a.length 0 [] (by omega) rfl
  simp [evsV'] at this
  simp -implicitDefEqProofs [a_world_copied, c_world_copied, this]
theorem v_Trace {K : Kern} {S : VH} {i : Nat} {own : List Nat} (ht : K.trace.length < 1000000) (hok : ∀ e ∈ K.trace, e.l.length < 1000000) (h1 : i < S.next) (h2 : S.get i = some (.cells (encK K) own)) (h4 : 0 ∈ own) :
    VCall VT F_world_asked_Trace [.ptr (some (i, 0))] [] S = some (evsV' K.trace, [], S) := by
  have hc := v_copied (S := S) ht hok
  rw [VCall_of (F := a_world_asked_Trace) rfl rfl rfl rfl]
  simp -implicitDefEqProofs [a_world_asked_Trace, c_world_asked_Trace, h1, h2, h4, hc]
end Go.Proofs.YtlecbjcloleiiaaDoor.Val

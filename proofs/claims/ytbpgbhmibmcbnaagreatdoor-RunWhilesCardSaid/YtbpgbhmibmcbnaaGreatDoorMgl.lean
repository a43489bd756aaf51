/-
  Parts of the proof: RvU, RvW, RvX, RvY, RvZ, RwA, RwB, RwC, RwD, RwE, RwF, RwG, RwH, RwI, RwJ, RwK, RwL, RwM, RwN, RxD, RxE, RxF, RxG, RxN, RxH, RyA, RwO, RwP, RyB, RxI, RyC, RyD.
-/
import Derived.Test.YtbpgbhmibmcbnaaGreatDoorMgk
/-! Rules: as long as a command goes well. -/
set_option linter.unusedSimpArgs false
set_option linter.unusedVariables false
namespace Go.Proofs.YtbpgbhmibmcbnaaGreatDoor.Val
open Go Go.Proofs.YtbpgbhmibmcbnaaGreatDoor.Ram

inductive WhileOk (mx dm : Int) (c d : Tr) : Int → RSt → Option Nat → Int → RSt → Prop
  | fuel {last : Int} {st : RSt} (h0 : 0 ≤ st.steps) (h : mx ≤ st.steps) : WhileOk mx dm c d last st (some G_api_ErrFuel) 0 st
  | stop {last v : Int} {st st1 : RSt} (h0 : 0 ≤ st.steps) (h : st.steps < mx) (hc : DoOk mx dm c st.stepped none v st1) (hv : v ≠ 0) : WhileOk mx dm c d last st none last st1
  | condE {last v : Int} {st st1 : RSt} {e : Nat} (h0 : 0 ≤ st.steps) (h : st.steps < mx) (hc : DoOk mx dm c st.stepped (some e) v st1) : WhileOk mx dm c d last st (some e) 0 st1
  | round {last v v' : Int} {st st1 st2 st' : RSt} {E : Option Nat} (h0 : 0 ≤ st.steps) (h : st.steps < mx) (hc : DoOk mx dm c st.stepped none 0 st1) (hd : DoOk mx dm d st1 none v st2) (k : WhileOk mx dm c d v st2 E v' st') : WhileOk mx dm c d last st E v' st'
  | bodyE {last v : Int} {st st1 st2 : RSt} {e : Nat} (h0 : 0 ≤ st.steps) (h : st.steps < mx) (hc : DoOk mx dm c st.stepped none 0 st1) (hd : DoOk mx dm d st1 (some e) v st2) : WhileOk mx dm c d last st (some e) 0 st2
section
variable {mx dm : Int} {st : RSt}
theorem WhileOk.same {c d : Tr} {last v : Int} {E : Option Nat} {st' : RSt} (h : WhileOk mx dm c d last st E v st') : E = none → st'.caught.isSome = st.caught.isSome := by
  induction h with
  | fuel _ _ => intro e; cases e
  | stop _ _ hc _ => intro _; exact hc.same rfl
  | condE _ _ hc => intro e; cases e
  | round _ _ hc hd k ih => intro e; rw [ih e, hd.same rfl, hc.same rfl]; rfl
  | bodyE _ _ hc hd => intro e; cases e
theorem WhileOk.lt {c d : Tr} {last v : Int} {E : Option Nat} {st' : RSt} (h : WhileOk mx dm c d last st E v st') : ∀ e, E = some e → e < 50 := by
  induction h with
  | fuel _ _ => intro e he; cases he; decide
  | stop _ _ hc _ => intro e he; cases he
  | condE _ _ hc => intro e he; exact hc.err _ he
  | round _ _ hc hd k ih => exact ih
  | bodyE _ _ hc hd => intro e he; exact hd.err _ he
theorem ix_1 {c d : Tr} : indexV 1 (tsv [c, d]) (.int .i64 1) = some (.rptr [tv d] 0) := rfl
theorem while_loop {c d : Tr} {last v : Int} {E : Option Nat} {st' : RSt} (hm : mx < 1000000) (hq : WhileOk mx dm c d last st E v st') : ∀ (S : VH) (I : Ids), I.mx = mx → I.dm = dm → Inv S I st →
    ∃ S' f, loopX VT.E VT.Fl (VCall VT) c_run_runner_while_l0 ⟨[(0, .ptr (some (I.r, 0))), (1, tsv [c, d]), (6, .int .i64 last)], [], S⟩ = some (.ret, ⟨(5, errO E) :: (4, .int .i64 v) :: f, [], S'⟩) ∧ InvE E S' I st' ∧ Keep S S' I.has := by
  have hK : ∀ f w h, loopX VT.E VT.Fl (VCall VT) c_run_runner_while_l0 ⟨f, w, h⟩ = loopX VT.E VT.Fl (VCall VT) c_run_runner_while_l0 ⟨VFr.keep f [0, 1, 6], Rts.keep w.noCell [0, 1, 6], h⟩ := fun _ _ _ => loopX_keep
  induction hq with
  | @fuel last st h0 h =>
    intro S I hmx hd hi
    have hst : VCall VT F_run_runner_step [.ptr (some (I.r, 0))] [] S = some (errG G_api_ErrFuel, [], S) := by
      rcases v_step hi h0 (by omega) with ⟨e, _⟩ | ⟨_, e⟩
      · omega
      · exact e
    refine ⟨S, ?_⟩
    rw [loopX_eq]
    generalize loopX VT.E VT.Fl (VCall VT) c_run_runner_while_l0 = L at *
    simp -implicitDefEqProofs [c_run_runner_while_l0, binA, hst, errO]
    exact ⟨hi.toX, Keep.refl _ _⟩
  | @stop last v st st1 h0 h hc hv =>
    intro S I hmx hd hi
    obtain ⟨own, hst, hi1⟩ := v_stepped hi (by omega) h0 (by omega)
    obtain ⟨S1, k1, k2, k3⟩ := hc.run _ I hmx hd hi1
    refine ⟨S1, ?_⟩
    simp only [errO] at k1
    have k4 := (Keep.set (.inl rfl)).trans k3
    rw [loopX_eq]
    generalize loopX VT.E VT.Fl (VCall VT) c_run_runner_while_l0 = L at *
    simp -implicitDefEqProofs [c_run_runner_while_l0, binA, hst, k1, hv, errO]
    exact ⟨k2, k4⟩
  | @condE last v st st1 e h0 h hc =>
    intro S I hmx hd hi
    obtain ⟨own, hst, hi1⟩ := v_stepped hi (by omega) h0 (by omega)
    obtain ⟨S1, k1, k2, k3⟩ := hc.run _ I hmx hd hi1
    refine ⟨S1, ?_⟩
    simp only [errO] at k1
    have k4 := (Keep.set (.inl rfl)).trans k3
    rw [loopX_eq]
    generalize loopX VT.E VT.Fl (VCall VT) c_run_runner_while_l0 = L at *
    simp -implicitDefEqProofs [c_run_runner_while_l0, binA, hst, k1, errO]
    exact ⟨k2, k4⟩
  | @bodyE last v st st1 st2 e h0 h hc hdo =>
    intro S I hmx hd hi
    obtain ⟨own, hst, hi1⟩ := v_stepped hi (by omega) h0 (by omega)
    obtain ⟨S1, k1, k2, k3⟩ := hc.run _ I hmx hd hi1
    obtain ⟨S2, j1, j2, j3⟩ := hdo.run S1 I hmx hd k2
    refine ⟨S2, ?_⟩
    simp only [errO] at k1 j1
    have k4 := ((Keep.set (.inl rfl)).trans k3).trans j3
    rw [loopX_eq]
    generalize loopX VT.E VT.Fl (VCall VT) c_run_runner_while_l0 = L at *
    simp -implicitDefEqProofs [c_run_runner_while_l0, binA, hst, ix_1, k1, j1, errO]
    exact ⟨j2, k4⟩
  | @round last v v' st st1 st2 st' E h0 h hc hdo k ih =>
    intro S I hmx hd hi
    obtain ⟨own, hst, hi1⟩ := v_stepped hi (by omega) h0 (by omega)
    obtain ⟨S1, k1, k2, k3⟩ := hc.run _ I hmx hd hi1
    obtain ⟨S2, j1, j2, j3⟩ := hdo.run S1 I hmx hd k2
    have j2 : Inv S2 I st2 := j2
    simp only [errO] at k1 j1
    have k4 := ((Keep.set (.inl rfl)).trans k3).trans j3
    have hrl := hi.hr.1
    have key : ∃ S3, Inv S3 I st2 ∧ Keep S S3 I.has ∧ loopX VT.E VT.Fl (VCall VT) c_run_runner_while_l0 ⟨[(0, .ptr (some (I.r, 0))), (1, tsv [c, d]), (6, .int .i64 last)], [], S⟩ = loopX VT.E VT.Fl (VCall VT) c_run_runner_while_l0 ⟨[(0, .ptr (some (I.r, 0))), (1, tsv [c, d]), (6, .int .i64 v)], [], S3⟩ := by
      by_cases hcl : cloH S S2
      · refine ⟨VH.trim S S2, hi.trim j2, k4.trim, ?_⟩
        rw [loopX_eq]
        generalize loopX VT.E VT.Fl (VCall VT) c_run_runner_while_l0 = L at *
        simp -implicitDefEqProofs [c_run_runner_while_l0, binA, hst, ix_1, k1, j1, hcl, hrl]
        rw [hK]
        simp
      · refine ⟨S2, j2, k4, ?_⟩
        rw [loopX_eq]
        generalize loopX VT.E VT.Fl (VCall VT) c_run_runner_while_l0 = L at *
        simp -implicitDefEqProofs [c_run_runner_while_l0, binA, hst, ix_1, k1, j1, hcl, hrl]
        rw [hK]
        simp
    obtain ⟨S3, i3, kp, he⟩ := key
    obtain ⟨S', f, b1, b2, b3⟩ := ih S3 I hmx hd i3
    exact ⟨S', f, by rw [he]; exact b1, b2, kp.trans b3⟩
theorem do_while {n : Int} {s : Str} {c d : Tr} {v : Int} {E : Option Nat} {st' : RSt} (hz : c.rows.length + d.rows.length < 800000) (hm : mx < 1000000) (hq : WhileOk mx dm c d 0 st E v st') : DoOk mx dm (.mk 28 n s [c, d]) st E v st' := by
  refine ⟨by simp [Tr.rows, rowsT]; omega, hq.same, hq.lt, ?_⟩
  intro S I hmx hd h
  have hk : VCall VT F_run_kids [tv (.mk 28 n s [c, d])] [] (S.push node0) = some (tsv [c, d], [], S.push node0) := v_kids (t := .mk 28 n s [c, d]) (by simp [Tr.rows, rowsT]; omega) (by simp [Tr.kids])
  obtain ⟨S', f, k1, k2, k3⟩ := while_loop hm hq (S.push (.cells (ndRow 28 n 2 ((rowsT [c, d]).length + 1 : Nat) s) [])) I hmx hd h.push
  simp only [Int.natCast_add, Int.cast_ofNat_Int] at k1
  have hw : VCall VT F_run_runner_while [.ptr (some (I.r, 0)), tsv [c, d]] [] (S.push (.cells (ndRow 28 n 2 (((rowsT [c, d]).length : Int) + 1) s) [])) = some (.tup [.int .i64 v, errO E], [], S') := by
    rw [VCall_made (F := a_run_runner_while) rfl rfl rfl rfl]
    simp -implicitDefEqProofs [a_run_runner_while, c_run_runner_while, binA, k1]
  refine ⟨S', ?_, k2, Keep.push.trans k3⟩
  rw [VCall_made (F := a_run_runner_do) rfl rfl rfl rfl]
  simp -implicitDefEqProofs [a_run_runner_do, c_run_runner_do, binA, Tr.rows, hk, hw]
end
end Go.Proofs.YtbpgbhmibmcbnaaGreatDoor.Val

/-! Rules: a function is set; a function is called. -/
set_option linter.unusedSimpArgs false
set_option linter.unusedVariables false
namespace Go.Proofs.YtbpgbhmibmcbnaaGreatDoor.Val
open Go Go.Proofs.YtbpgbhmibmcbnaaGreatDoor.Ram

theorem ix_0 {c : Tr} {l : List Tr} : indexV 1 (tsv (c :: l)) (.int .i64 0) = some (.rptr [tv c] 0) := rfl
section
variable {I : Ids} {st : RSt}
@[simp] theorem encR_0 : (encR I st)[0]? = some (.ptr (some (I.k, 0))) := rfl
@[simp] theorem encR_1 : (encR I st)[1]? = some (.ptr (some (I.s, 0))) := rfl
@[simp] theorem encR_8 : (encR I st)[8]? = some (.int .i64 st.steps) := rfl
@[simp] theorem encR_9 : (encR I st)[9]? = some (.int .i64 st.depth) := rfl
@[simp] theorem encR_10 : (encR I st)[10]? = some (.str st.inn) := rfl
@[simp] theorem encR_11 : (encR I st)[11]? = some (caughtV I st.caught) := rfl
@[simp] theorem encR_12 : (encR I st)[12]? = some (.str st.file) := rfl
end
section
variable {mx dm : Int} {st : RSt}
theorem own_eq {S : VH} {i : Nat} {l l' : List V} {own own' : List Nat} (h : (S.set i (.cells l own)).get i = some (.cells l' own')) : own = own' := by
  simp at h; exact h.2
theorem do_fun {n : Int} {s : Str} {c : Tr} (hz : c.rows.length < 800000) (hm : mx < 1000000) (h0 : 0 ≤ st.steps) (hs : st.steps < mx) : DoOk mx dm (.mk 31 n s [c]) st none 0 { st.stepped with X := { st.X with funs := aset st.X.funs s c } } := by
  refine ⟨by simp [Tr.rows, rowsT]; omega, fun _ => rfl, fun e he => (by cases he), ?_⟩
  intro S I hmx hd h
  have hk : VCall VT F_run_kids [tv (.mk 31 n s [c])] [] (S.push node0) = some (tsv [c], [], S.push node0) := v_kids (t := .mk 31 n s [c]) (by simp [Tr.rows, rowsT]; omega) (by simp [Tr.kids])
  obtain ⟨own, hst, hi⟩ := v_stepped (h.push (o := .cells (ndRow 31 n 1 ((rowsT [c]).length + 1 : Nat) s) [])) (by omega) h0 (by omega)
  obtain ⟨own1, gr, hO⟩ := hi.gr
  obtain rfl := own_eq gr
  obtain ⟨⟨n0, n1, n2, n3, n4⟩, n7, n8, n9, n10, n11, n12⟩ := hO.no
  have hF := v_SetFun (n := s) (t := c) hi.hx (by omega)
  refine ⟨_, ?_, hi.setF hi.hx.setFun, (Keep.push.trans (Keep.set (.inl rfl))).trans (Keep.set (.inr (.inr (.inr (.inr (.inl rfl))))))⟩
  have a1 : ¬ S.next = I.r := by have := h.hr.1; omega
  have a2 : ¬ I.r = S.next := fun e => a1 e.symm
  simp only [Int.natCast_add, Int.cast_ofNat_Int] at hst hF
  rw [VCall_made (F := a_run_runner_do) rfl rfl rfl rfl]
  simp -implicitDefEqProofs [a_run_runner_do, c_run_runner_do, binA, Tr.rows, hk, hst, ix_0, hF, a1, a2, n0, n1, n2, n3, n4, errO]
theorem v_frame1 {c : Tr} {E : Option Nat} {v : Int} {st2 : RSt} {args : List Str} (hal : args.length < 1000000) (hd : DoOk mx dm c { st with X := { st.X with args := args } } E v st2) (hol : st.X.args.length < 1000000) {S : VH} {I : Ids} (hm : I.mx = mx) (hdm : I.dm = dm) (h : Inv S I st) {a b e q : Nat} {oa ob oe oq : List Nat} {z : Int}
    (ga : S.get a = some (.cells [.ptr (some (I.r, 0))] oa)) (gb : S.get b = some (.cells [strsV args] ob)) (ge : S.get e = some (.cells [tv c] oe)) (gq : S.get q = some (.cells [.int .i64 z] oq)) (la : a < S.next ∧ ¬ I.has a) (lb : b < S.next ∧ ¬ I.has b) (le : e < S.next ∧ ¬ I.has e) (lq : q < S.next ∧ ¬ I.has q ∧ 100 ≤ q) (aq : a ≠ q) :
    ∃ S', VCall VT F_run_runner_frame_1 [.ptr (some (a, 0)), .ptr (some (b, 0)), .ptr (some (e, 0)), .ptr (some (q, 0))] [] S = some (errO E, [], S') ∧ InvE E S' I (if E = none then { st2 with X := { st2.X with args := st.X.args } } else st2) ∧ (Keep S S' fun x => I.has x ∨ x = q) ∧ ∃ oq', S'.get q = some (.cells [.int .i64 v] oq') := by
  obtain ⟨own, gr, hO⟩ := h.gr
  obtain ⟨⟨n0, n1, n2, n3, n4⟩, n7, n8, n9, n10, n11, n12⟩ := hO.no
  obtain ⟨os, hS⟩ := v_SetArgs h.hx hal
  have h1 := h.setS (h.hx.setArgs (l := args) (own := os))
  have kp1 : Keep S (S.set I.s (.cells [.map (some I.vm), strsV args, .map (some I.fm)] os)) I.has := Keep.set (.inr (.inr (.inl rfl)))
  generalize hS1 : S.set I.s (.cells [.map (some I.vm), strsV args, .map (some I.fm)] os) = S1 at *
  obtain ⟨S2, k1, k2, k3⟩ := hd.run S1 I hm hdm h1
  have kp := kp1.trans k3
  have ga1 : S1.get a = some (.cells [.ptr (some (I.r, 0))] oa) := by rw [kp1.get a la.1 la.2]; exact ga
  have ge1 : S1.get e = some (.cells [tv c] oe) := by rw [kp1.get e le.1 le.2]; exact ge
  have ga2 : S2.get a = some (.cells [.ptr (some (I.r, 0))] oa) := by rw [kp.get a la.1 la.2]; exact ga
  have gq2 : S2.get q = some (.cells [.int .i64 z] oq) := by rw [kp.get q lq.1 lq.2.1]; exact gq
  have kp3 : Keep S (S2.set q (.cells [.int .i64 v] (keepO oq 0 1))) fun x => I.has x ∨ x = q := (kp.mono fun x hx => .inl hx).trans (Keep.set (.inr rfl))
  cases E with
  | some x =>
    refine ⟨_, ?_, InvE.setO (E := some x) k2 lq.2.1 lq.2.2, kp3, _, by simp; rfl⟩
    simp only [errO] at k1 ⊢
    rw [VCall_made (F := a_run_runner_frame_1) rfl rfl rfl rfl]
    by_cases o0 : 0 ∈ oa <;> by_cases o1 : 0 ∈ ob <;> by_cases o2 : 0 ∈ oe <;> simp -implicitDefEqProofs [a_run_runner_frame_1, c_run_runner_frame_1, ga, gr, gb, hS, hS1, ga1, ge1, k1, ga2, gq2, n0, n1, n2, n3, n4, o0, o1, o2]
  | none =>
    have k2 : Inv S2 I st2 := k2
    have i3 := k2.setO (o := .cells [.int .i64 v] (keepO oq 0 1)) lq.2.1 lq.2.2
    obtain ⟨own3, gr3, hO3⟩ := i3.gr
    obtain ⟨⟨m0, m1, m2, m3, m4⟩, _⟩ := hO3.no
    obtain ⟨os3, hS3⟩ := v_SetArgs i3.hx hol
    have i4 := i3.setS (i3.hx.setArgs (l := st.X.args) (own := os3))
    have a1 : ¬ q = I.s := fun e => lq.2.1 (.inr (.inr (.inl e)))
    refine ⟨_, ?_, i4, kp3.trans (Keep.set (.inl (.inr (.inr (.inl rfl))))), keepO oq 0 1, by simp [a1]⟩
    simp only [errO] at k1 ⊢
    generalize hS3' : S2.set q (.cells [.int .i64 v] (keepO oq 0 1)) = S3 at *
    have ga3 : S3.get a = some (.cells [.ptr (some (I.r, 0))] oa) := by rw [← hS3']; simp [aq, ga2]
    rw [VCall_made (F := a_run_runner_frame_1) rfl rfl rfl rfl]
    by_cases o0 : 0 ∈ oa <;> by_cases o1 : 0 ∈ ob <;> by_cases o2 : 0 ∈ oe <;> simp -implicitDefEqProofs [a_run_runner_frame_1, c_run_runner_frame_1, ga, gr, gb, hS, hS1, ga1, ge1, k1, ga2, gq2, hS3', ga3, gr3, hS3, n0, n1, n2, n3, n4, m0, m1, m2, m3, m4, o0, o1, o2]
end
end Go.Proofs.YtbpgbhmibmcbnaaGreatDoor.Val

/-! Rules: a function is called. -/
set_option linter.unusedSimpArgs false
set_option linter.unusedVariables false
namespace Go.Proofs.YtbpgbhmibmcbnaaGreatDoor.Val
open Go Go.Proofs.YtbpgbhmibmcbnaaGreatDoor.Ram

section
variable {mx dm : Int} {st : RSt}
theorem v_frame {c : Tr} {E : Option Nat} {v : Int} {st2 : RSt} {args : List Str} (hdm : dm < 1000000) (hd0 : 0 ≤ st.depth) (hdd : st.depth < dm) (hd2 : 0 ≤ st2.depth ∧ st2.depth < 1000000) (hal : args.length < 1000000) (hol : st.X.args.length < 1000000)
    (hd : DoOk mx dm c { st with depth := st.depth + 1, X := { st.X with args := args } } E v st2) {S : VH} {I : Ids} (hmx : I.mx = mx) (hdx : I.dm = dm) (h : Inv S I st) :
    ∃ S', VCall VT F_run_runner_frame [.ptr (some (I.r, 0)), strsV args, tv c] [] S = some (.tup [.int .i64 v, errO E], [], S') ∧ InvE E S' I (if E = none then { st2 with X := { st2.X with args := st.X.args }, depth := st2.depth - 1 } else st2) ∧ Keep S S' I.has := by
  have hD : Inv ((((S.push (.cells [.ptr (some (I.r, 0))] [])).push (.cells [strsV args] [])).push (.cells [tv c] [])).push (.cells [.int .i64 0] [])) I st := h.push.push.push.push
  have hrl := h.hr.1
  have n0 := h.notNew (Nat.le_refl S.next)
  have n1 := h.notNew (show S.next ≤ S.next + 1 by omega)
  have n2 := h.notNew (show S.next ≤ S.next + 1 + 1 by omega)
  have n3 := h.notNew (show S.next ≤ S.next + 1 + 1 + 1 by omega)
  have h100 := h.hr.2
  have kp : Keep S ((((S.push (.cells [.ptr (some (I.r, 0))] [])).push (.cells [strsV args] [])).push (.cells [tv c] [])).push (.cells [.int .i64 0] [])) I.has := ((Keep.push.trans Keep.push).trans Keep.push).trans Keep.push
  generalize hSD : (((S.push (.cells [.ptr (some (I.r, 0))] [])).push (.cells [strsV args] [])).push (.cells [tv c] [])).push (.cells [.int .i64 0] []) = SD at *
  have d0 : SD.get S.next = some (.cells [.ptr (some (I.r, 0))] []) := by
    have a1 : ¬ S.next = S.next + 1 + 1 := by omega
    have a2 : ¬ S.next = S.next + 1 + 1 + 1 := by omega
    rw [← hSD]; simp [a1, a2]
  have d1 : SD.get (S.next + 1) = some (.cells [strsV args] []) := by
    have a2 : ¬ S.next + 1 = S.next + 1 + 1 + 1 := by omega
    rw [← hSD]; simp [a2]
  have d2 : SD.get (S.next + 1 + 1) = some (.cells [tv c] []) := by rw [← hSD]; simp
  have d3 : SD.get (S.next + 1 + 1 + 1) = some (.cells [.int .i64 0] []) := by rw [← hSD]; simp
  have dn : SD.next = S.next + 1 + 1 + 1 + 1 := by rw [← hSD]; simp
  have hself : SD.set (S.next + 1 + 1 + 1) (.cells [.int .i64 0] []) = SD := set_self d3
  have key := v_deeper hD (g := F_run_runner_frame_1) (caps := [.ptr (some (S.next, 0)), .ptr (some (S.next + 1, 0)), .ptr (some (S.next + 1 + 1, 0)), .ptr (some (S.next + 1 + 1 + 1, 0))]) (P := fun x => I.has x ∨ x = S.next + 1 + 1 + 1) (E := E) (st2 := if E = none then { st2 with X := { st2.X with args := st.X.args } } else st2)
    (Q := fun S' => ∃ oq', S'.get (S.next + 1 + 1 + 1) = some (.cells [.int .i64 v] oq')) hd0 (by omega) (fun _ hq => .inl hq) hd.err (fun S' o hq => by
      obtain ⟨oq', hq⟩ := hq
      have a1 : ¬ S.next + 1 + 1 + 1 = I.r := by omega
      exact ⟨oq', by simp [a1, hq]⟩) (by split <;> exact hd2) (fun _ Sx hi hk hn => by
      exact v_frame1 (st := { st with depth := st.depth + 1 }) hal hd hol hmx hdx hi (by rw [hk.get _ (by omega) n0]; exact d0) (by rw [hk.get _ (by omega) n1]; exact d1) (by rw [hk.get _ (by omega) n2]; exact d2) (by rw [hk.get _ (by omega) n3]; exact d3) ⟨by omega, n0⟩ ⟨by omega, n1⟩ ⟨by omega, n2⟩ ⟨by omega, n3, by omega⟩ (by omega))
  rcases key with ⟨e, _⟩ | ⟨_, S', k1, k2, k3, kq⟩
  · have : dm ≤ st.depth := by rw [← hdx]; exact e
    omega
  · obtain ⟨oq', gq⟩ := kq
    refine ⟨S', ?_, ?_, ⟨Nat.le_trans kp.next k3.next, fun q hq hn => by
      rw [k3.get q (Nat.lt_of_lt_of_le hq kp.next) (fun e => e.elim hn fun e => by omega)]
      exact kp.get q hq hn⟩⟩
    · rw [VCall_made (F := a_run_runner_frame) rfl rfl rfl rfl]
      by_cases o0 : 0 ∈ oq' <;> simp -implicitDefEqProofs [a_run_runner_frame, c_run_runner_frame, binA, hSD, hself, d0, d1, d2, d3, k1, gq, o0]
    · cases E with
      | none => exact k2
      | some e => exact k2
theorem v_frame_deep {c : Tr} {args : List Str} (hdm : dm < 1000000) (hd0 : 0 ≤ st.depth) (hdd : dm ≤ st.depth) {S : VH} {I : Ids} (hmx : I.mx = mx) (hdx : I.dm = dm) (h : Inv S I st) :
    ∃ S', VCall VT F_run_runner_frame [.ptr (some (I.r, 0)), strsV args, tv c] [] S = some (.tup [.int .i64 0, errG G_api_ErrDeep], [], S') ∧ InvX S' I st ∧ Keep S S' I.has := by
  have hD : Inv ((((S.push (.cells [.ptr (some (I.r, 0))] [])).push (.cells [strsV args] [])).push (.cells [tv c] [])).push (.cells [.int .i64 0] [])) I st := h.push.push.push.push
  have kp : Keep S ((((S.push (.cells [.ptr (some (I.r, 0))] [])).push (.cells [strsV args] [])).push (.cells [tv c] [])).push (.cells [.int .i64 0] [])) I.has := ((Keep.push.trans Keep.push).trans Keep.push).trans Keep.push
  generalize hSD : (((S.push (.cells [.ptr (some (I.r, 0))] [])).push (.cells [strsV args] [])).push (.cells [tv c] [])).push (.cells [.int .i64 0] []) = SD at *
  have d0 : SD.get S.next = some (.cells [.ptr (some (I.r, 0))] []) := by
    have a1 : ¬ S.next = S.next + 1 + 1 := by omega
    have a2 : ¬ S.next = S.next + 1 + 1 + 1 := by omega
    rw [← hSD]; simp [a1, a2]
  have d3 : SD.get (S.next + 1 + 1 + 1) = some (.cells [.int .i64 0] []) := by rw [← hSD]; simp
  have hself : SD.set (S.next + 1 + 1 + 1) (.cells [.int .i64 0] []) = SD := set_self d3
  obtain ⟨own, gr, hO⟩ := hD.gr
  obtain ⟨⟨n0, n1, n2, n3, n4⟩, n7, n8, n9, n10, n11, n12⟩ := hO.no
  obtain ⟨g0, g1⟩ := hD.g.ld (g := G_api_ErrDeep) rfl (by decide)
  have k1 : VCall VT F_run_runner_deeper [.ptr (some (I.r, 0)), .fn F_run_runner_frame_1 [.ptr (some (S.next, 0)), .ptr (some (S.next + 1, 0)), .ptr (some (S.next + 1 + 1, 0)), .ptr (some (S.next + 1 + 1 + 1, 0))]] [] SD = some (errG G_api_ErrDeep, [], SD) := by
    have e : I.dm ≤ st.depth := by rw [hdx]; exact hdd
    unfold encR at gr
    rw [VCall_made (F := a_run_runner_deeper) rfl rfl rfl rfl]
    simp -implicitDefEqProofs [a_run_runner_deeper, c_run_runner_deeper, binA, gr, e, g0, g1, n0, n1, n2, n3, n4, n7, n8, n9, n10, n11, n12]
  refine ⟨SD, ?_, hD.toX, kp⟩
  rw [VCall_made (F := a_run_runner_frame) rfl rfl rfl rfl]
  simp -implicitDefEqProofs [a_run_runner_frame, c_run_runner_frame, binA, hSD, hself, d0, d3, k1]
end
end Go.Proofs.YtbpgbhmibmcbnaaGreatDoor.Val

/-! Rules: calls of functions; calls of what the world does not know. -/
set_option linter.unusedSimpArgs false
set_option linter.unusedVariables false
namespace Go.Proofs.YtbpgbhmibmcbnaaGreatDoor.Val
open Go Go.Proofs.YtbpgbhmibmcbnaaGreatDoor.Ram

section
variable {mx dm : Int} {st : RSt}
theorem do_call {k : Int} {s : Str} {ws : List Tr} {l : List Str} {E : Option Nat} {v : Int} {st1 st2 : RSt} (hz : (rowsT ws).length < 800000) (hm : mx < 1000000) (h0 : 0 ≤ st.steps) (hs : st.steps < mx) (hq : TogOk mx dm catF (fun _ => True) ws none st.stepped none l st1)
    (hE : ∀ e, E = some e → e < 50) (hsame : E = none → st2.caught.isSome = st1.caught.isSome)
    (hc : ∀ S I, I.mx = mx → I.dm = dm → Inv S I st1 → ∃ S', VCall VT F_run_runner_call [.ptr (some (I.r, 0)), strsV l] [] S = some (.tup [.int .i64 v, errO E], [], S') ∧ InvE E S' I st2 ∧ Keep S S' I.has) : DoOk mx dm (.mk 21 k s ws) st E v st2 := by
  have hz' : (Tr.rows (.mk 21 k s ws)).length < 900000 := by simp [Tr.rows]; omega
  have hkl := kids_le (.mk 21 k s ws)
  simp only [Tr.kids] at hkl
  refine ⟨hz', fun e => ?_, hE, ?_⟩
  · rw [hsame e, hq.same rfl]; rfl
  intro S I hmx hd h
  have hk1 : VCall VT F_run_kids [tv (.mk 21 k s ws)] [] (S.push node0) = some (tsv ws, [], S.push node0) := v_kids (t := .mk 21 k s ws) (by omega) (by simp only [Tr.kids]; omega)
  obtain ⟨own, hst, hi⟩ := v_stepped (h.push (o := .cells (ndRow 21 k ws.length ((rowsT ws).length + 1 : Nat) s) [])) (by omega) h0 (by omega)
  obtain ⟨S1, k1, k2, k3⟩ := v_together cat_by hq (by omega) _ I hmx hd hi
  have k2 : Inv S1 I st1 := k2
  obtain ⟨S2, j1, j2, j3⟩ := hc S1 I hmx hd k2
  refine ⟨S2, ?_, j2, ((Keep.push.trans (Keep.set (.inl rfl))).trans k3).trans j3⟩
  have a1 : ¬ S.next = I.r := by have := h.hr.1; omega
  simp only [Int.natCast_add, Int.cast_ofNat_Int] at k1 hst
  simp only [errO, if_true] at k1
  rw [VCall_made (F := a_run_runner_do) rfl rfl rfl rfl]
  simp -implicitDefEqProofs [a_run_runner_do, c_run_runner_do, binA, Tr.rows, hk1, hst, k1, j1, a1]
theorem v_call_f {c : Tr} {E : Option Nat} {v : Int} {st2 : RSt} {n : Str} {args : List Str} (hx : st.X.ok) (hf : aget st.X.funs n = some c) (hdm : dm < 1000000) (hd0 : 0 ≤ st.depth) (hdd : st.depth < dm) (hd2 : 0 ≤ st2.depth ∧ st2.depth < 1000000) (hal : args.length < 1000000)
    (hd : DoOk mx dm c { st with depth := st.depth + 1, X := { st.X with args := args } } E v st2) : ∀ S I, I.mx = mx → I.dm = dm → Inv S I st →
    ∃ S', VCall VT F_run_runner_call [.ptr (some (I.r, 0)), strsV (n :: args)] [] S = some (.tup [.int .i64 v, errO E], [], S') ∧ InvE E S' I (if E = none then { st2 with X := { st2.X with args := st.X.args }, depth := st2.depth - 1 } else st2) ∧ Keep S S' I.has := by
  intro S I hmx hdx h
  obtain ⟨own, gr, hO⟩ := h.gr
  obtain ⟨⟨n0, n1, n2, n3, n4⟩, n7, n8, n9, n10, n11, n12⟩ := hO.no
  have hF := v_Fun (n := n) h.hx hx
  rw [hf] at hF
  obtain ⟨S', k1, k2, k3⟩ := v_frame hdm hd0 hdd hd2 hal hx.2.1 hd hmx hdx h
  refine ⟨S', ?_, k2, k3⟩
  have c1 : ¬ ((args.length : Int) + 1 = 0) := by omega
  rw [VCall_made (F := a_run_runner_call) rfl rfl rfl rfl]
  simp -implicitDefEqProofs [a_run_runner_call, c_run_runner_call, binA, gr, n0, n1, n2, n3, n4, c1, slc_tail, hF, k1]
theorem v_call_deep {c : Tr} {n : Str} {args : List Str} (hx : st.X.ok) (hf : aget st.X.funs n = some c) (hdm : dm < 1000000) (hd0 : 0 ≤ st.depth) (hdd : dm ≤ st.depth) : ∀ S I, I.mx = mx → I.dm = dm → Inv S I st →
    ∃ S', VCall VT F_run_runner_call [.ptr (some (I.r, 0)), strsV (n :: args)] [] S = some (.tup [.int .i64 0, errO (some G_api_ErrDeep)], [], S') ∧ InvE (some G_api_ErrDeep) S' I st ∧ Keep S S' I.has := by
  intro S I hmx hdx h
  obtain ⟨own, gr, hO⟩ := h.gr
  obtain ⟨⟨n0, n1, n2, n3, n4⟩, n7, n8, n9, n10, n11, n12⟩ := hO.no
  have hF := v_Fun (n := n) h.hx hx
  rw [hf] at hF
  obtain ⟨S', k1, k2, k3⟩ := v_frame_deep (args := args) (c := c) hdm hd0 hdd hmx hdx h
  refine ⟨S', ?_, k2, k3⟩
  have c1 : ¬ ((args.length : Int) + 1 = 0) := by omega
  rw [VCall_made (F := a_run_runner_call) rfl rfl rfl rfl]
  simp -implicitDefEqProofs [a_run_runner_call, c_run_runner_call, binA, gr, n0, n1, n2, n3, n4, c1, slc_tail, hF, k1, errO]
end
end Go.Proofs.YtbpgbhmibmcbnaaGreatDoor.Val

/-! Rules: for each item. -/
set_option linter.unusedSimpArgs false
set_option linter.unusedVariables false
namespace Go.Proofs.YtbpgbhmibmcbnaaGreatDoor.Val
open Go Go.Proofs.YtbpgbhmibmcbnaaGreatDoor.Ram

def RSt.setv (st : RSt) (n : Str) (l : List Str) : RSt := { st with X := { st.X with vars := aset st.X.vars n l } }
inductive EachOk (mx dm : Int) (n : Str) (c : Tr) : List Str → Int → RSt → Option Nat → Int → RSt → Prop
  | nil {last : Int} {st : RSt} : EachOk mx dm n c [] last st none last st
  | fuel {s : Str} {l : List Str} {last : Int} {st : RSt} (h0 : 0 ≤ st.steps) (h : mx ≤ st.steps) : EachOk mx dm n c (s :: l) last st (some G_api_ErrFuel) 0 st
  | cons {s : Str} {l : List Str} {last v v' : Int} {st st1 st' : RSt} {E : Option Nat} (h0 : 0 ≤ st.steps) (h : st.steps < mx) (hd : DoOk mx dm c (st.stepped.setv n [s]) none v st1) (k : EachOk mx dm n c l v st1 E v' st') : EachOk mx dm n c (s :: l) last st E v' st'
  | err {s : Str} {l : List Str} {last v : Int} {st st1 : RSt} {e : Nat} (h0 : 0 ≤ st.steps) (h : st.steps < mx) (hd : DoOk mx dm c (st.stepped.setv n [s]) (some e) v st1) : EachOk mx dm n c (s :: l) last st (some e) 0 st1
section
variable {mx dm : Int} {st : RSt}
theorem EachOk.same {n : Str} {c : Tr} {l : List Str} {last v : Int} {E : Option Nat} {st' : RSt} (h : EachOk mx dm n c l last st E v st') : E = none → st'.caught.isSome = st.caught.isSome := by
  induction h with
  | nil => intro _; rfl
  | fuel _ _ => intro e; cases e
  | cons _ _ hd k ih => intro e; rw [ih e, hd.same rfl]; rfl
  | err _ _ hd => intro e; cases e
theorem EachOk.lt {n : Str} {c : Tr} {l : List Str} {last v : Int} {E : Option Nat} {st' : RSt} (h : EachOk mx dm n c l last st E v st') : ∀ e, E = some e → e < 50 := by
  induction h with
  | nil => intro e he; cases he
  | fuel _ _ => intro e he; cases he; decide
  | cons _ _ hd k ih => exact ih
  | err _ _ hd => intro e he; exact hd.err _ he
end
end Go.Proofs.YtbpgbhmibmcbnaaGreatDoor.Val

/-! Rules: the command for each item. -/
set_option linter.unusedSimpArgs false
set_option linter.unusedVariables false
namespace Go.Proofs.YtbpgbhmibmcbnaaGreatDoor.Val
open Go Go.Proofs.YtbpgbhmibmcbnaaGreatDoor.Ram

section
variable {mx dm : Int} {st : RSt}
end
end Go.Proofs.YtbpgbhmibmcbnaaGreatDoor.Val

/-! Rules: a command of the world is called. -/
set_option linter.unusedSimpArgs false
set_option linter.unusedVariables false
namespace Go.Proofs.YtbpgbhmibmcbnaaGreatDoor.Val
open Go Go.Proofs.YtbpgbhmibmcbnaaGreatDoor.Ram

def RSt.execd (st : RSt) (n : Str) (l : List Str) : RSt := { st with K := { st.K with trace := st.K.trace ++ [⟨1, (findRow st.K.rows n l).1.status, n, if (findRow st.K.rows n l).1.reads then st.inn else [], l⟩] }, inn := if (findRow st.K.rows n l).1.reads then [] else st.inn }
def RSt.heard (st : RSt) (n : Str) (l : List Str) : Str := (findRow st.K.rows n l).1.out ++ if (findRow st.K.rows n l).1.copy then st.inn else []
section
variable {mx dm : Int} {st : RSt}
theorem v_exec {S : VH} {I : Ids} (h : Inv S I st) (hf : st.caught = none → st.file = []) (ht : st.K.trace.length < 900000) (hc : ∀ t, st.caught = some t → t.length ≤ 2000) {n : Str} {l : List Str} (hl : l.length < 1000000) (ha : st.K.rows.length < 1000000) (hok : ∀ r ∈ st.K.rows, r.args.length < 1000000) (hin : st.inn.length < 900000) (hol : (findRow st.K.rows n l).1.out.length < 900000) (hoh : (st.heard n l).length < 1000000) {st2 : RSt} (hsay : sayS (st.execd n l) (st.heard n l) = some st2) :
    ∃ S', VCall VT F_run_runner_exec [.ptr (some (I.r, 0)), .str n, strsV l] [] S = some (.tup [.int .i64 (findRow st.K.rows n l).1.status, .nilI], [], S') ∧ Inv S' I st2 ∧ Keep S S' I.has := by
  obtain ⟨own, gr, hO⟩ := h.gr
  obtain ⟨⟨n0, n1, n2, n3, n4⟩, n7, n8, n9, n10, n11, n12⟩ := hO.no
  obtain ⟨ok, gk, gk0⟩ := h.gk
  have hrl := h.hr.1
  have hkl := h.hk.1
  have hrk := h.rk
  have hE := v_Exec (n := n) (inp := st.inn) (l := l) (by omega) hkl gk gk0 (fun m hm => h.kf m (by omega)) hl ha hok (by omega) (by omega)
  have h1 := h.setK (tr := st.K.trace ++ [⟨1, (findRow st.K.rows n l).1.status, n, if (findRow st.K.rows n l).1.reads then st.inn else [], l⟩]) (own := ownN ok) mem_ownN
  obtain ⟨ok1, gk1, gk01⟩ := h1.gk
  have hR := v_Reads (K := { st.K with trace := st.K.trace ++ [⟨1, (findRow st.K.rows n l).1.status, n, if (findRow st.K.rows n l).1.reads then st.inn else [], l⟩] }) (S := S.set I.k (.cells (encK { st.K with trace := st.K.trace ++ [⟨1, (findRow st.K.rows n l).1.status, n, if (findRow st.K.rows n l).1.reads then st.inn else [], l⟩] }) (ownN ok))) (n := n) ⟨h1.hk.1, ok1, gk1, gk01, h1.kf _ hrl⟩ hl ha hok
  simp only at hR
  unfold RSt.execd RSt.heard at hsay
  unfold RSt.heard at hoh
  generalize findRow st.K.rows n l = q at *
  unfold encR at gr
  by_cases e : q.1.reads = true
  · have h2 := h1.setR (n := st.steps) (d := st.depth) (i := []) (f := st.file) (own := keepO own 10 1) hO.keep
    simp only [e, if_true] at *
    rcases v_say h2 hf (by simp; omega) hc hoh with ⟨st3, S2, e1, k1, k2, k3, k4⟩ | ⟨e1, _⟩
    · obtain rfl := Option.some.inj (hsay.symm.trans e1)
      refine ⟨S2, ?_, k2, ((Keep.set (.inr (.inl rfl))).trans (Keep.set (.inl rfl))).trans k3⟩
      unfold encR at k1
      rw [VCall_made (F := a_run_runner_exec) rfl rfl rfl rfl]
      simp -implicitDefEqProofs [a_run_runner_exec, c_run_runner_exec, binA, gr, hrk, hrk.symm, n0, n1, n2, n3, n4, n7, n8, n9, n10, n11, n12, hE, hR, k1]
    · rw [hsay] at e1; cases e1
  · simp only [e, Bool.false_eq_true, if_false] at *
    rcases v_say h1 hf (by simp; omega) hc hoh with ⟨st3, S2, e1, k1, k2, k3, k4⟩ | ⟨e1, _⟩
    · obtain rfl := Option.some.inj (hsay.symm.trans e1)
      refine ⟨S2, ?_, k2, (Keep.set (.inr (.inl rfl))).trans k3⟩
      rw [VCall_made (F := a_run_runner_exec) rfl rfl rfl rfl]
      simp -implicitDefEqProofs [a_run_runner_exec, c_run_runner_exec, binA, gr, hrk, hrk.symm, n0, n1, n2, n3, n4, n7, n8, n9, n10, n11, n12, hE, hR, k1]
    · rw [hsay] at e1; cases e1
theorem execd_same {n : Str} {l : List Str} {d : Str} {st2 : RSt} (h : sayS (st.execd n l) d = some st2) : st2.caught.isSome = st.caught.isSome := by
  obtain ⟨_, _, _, _, _, s6⟩ := sayS_same h
  exact s6
theorem v_call_x {S : VH} {I : Ids} (h : Inv S I st) (hk : st.Ok) (ht : st.K.trace.length < 900000) {n : Str} {args : List Str} (hf : aget st.X.funs n = none) (hn : mapGetV cmdL n = none) (hl : args.length < 1000000) (ha : st.K.rows.length < 1000000) (hok : ∀ r ∈ st.K.rows, r.args.length < 1000000) (hin : st.inn.length < 900000) (hol : (findRow st.K.rows n args).1.out.length < 900000) (hoh : (st.heard n args).length < 1000000) {st2 : RSt} (hsay : sayS (st.execd n args) (st.heard n args) = some st2) :
    ∃ S', VCall VT F_run_runner_call [.ptr (some (I.r, 0)), strsV (n :: args)] [] S = some (.tup [.int .i64 (findRow st.K.rows n args).1.status, .nilI], [], S') ∧ Inv S' I st2 ∧ Keep S S' I.has := by
  obtain ⟨own, gr, hO⟩ := h.gr
  obtain ⟨⟨n0, n1, n2, n3, n4⟩, n7, n8, n9, n10, n11, n12⟩ := hO.no
  have hF := v_Fun (n := n) h.hx hk.x
  rw [hf] at hF
  have hB := v_Do_not (S := S) (i := st.inn) (args := strsV args) hn
  have hP := h.push (o := .cells (outC ⟨[], [], 0, [], [], false⟩) [])
  obtain ⟨S2, k1, k2, k3⟩ := v_exec hP hk.f ht hk.c hl ha hok hin hol hoh hsay
  refine ⟨S2, ?_, k2, Keep.push.trans k3⟩
  have hrl := h.hr.1
  have b1 : ¬ I.r = S.next := by omega
  have b2 : ¬ S.next = I.r := by omega
  unfold encR at gr
  have c1 : ¬ ((args.length : Int) + 1 = 0) := by omega
  rw [VCall_made (F := a_run_runner_call) rfl rfl rfl rfl]
  simp -implicitDefEqProofs [a_run_runner_call, c_run_runner_call, binA, gr, n0, n1, n2, n3, n4, n7, n8, n9, n10, n11, n12, c1, slc_tail, hF, hB, k1, b1, b2]
theorem do_call_x {k : Int} {s : Str} {ws : List Tr} {n : Str} {args : List Str} {st1 st2 : RSt} (hz : (rowsT ws).length < 800000) (hm : mx < 1000000) (h0 : 0 ≤ st.steps) (hs : st.steps < mx) (hq : TogOk mx dm catF (fun _ => True) ws none st.stepped none (n :: args) st1)
    (hk : st1.Ok) (ht : st1.K.trace.length < 900000) (hf : aget st1.X.funs n = none) (hn : mapGetV cmdL n = none) (hl : args.length < 1000000) (ha : st1.K.rows.length < 1000000) (hok : ∀ r ∈ st1.K.rows, r.args.length < 1000000) (hin : st1.inn.length < 900000) (hol : (findRow st1.K.rows n args).1.out.length < 900000) (hoh : (st1.heard n args).length < 1000000) (hsay : sayS (st1.execd n args) (st1.heard n args) = some st2) : DoOk mx dm (.mk 21 k s ws) st none (findRow st1.K.rows n args).1.status st2 :=
  do_call hz hm h0 hs hq (fun _ he => (by cases he)) (fun _ => execd_same hsay) (fun S I _ _ h => v_call_x h hk ht hf hn hl ha hok hin hol hoh hsay)
end
end Go.Proofs.YtbpgbhmibmcbnaaGreatDoor.Val

/-! Rules: marks; one command of a pipe. -/
set_option linter.unusedSimpArgs false
set_option linter.unusedVariables false
namespace Go.Proofs.YtbpgbhmibmcbnaaGreatDoor.Val
open Go Go.Proofs.YtbpgbhmibmcbnaaGreatDoor.Ram

def RSt.mark (st : RSt) (k n : Int) : RSt := { st with K := { st.K with trace := st.K.trace ++ [⟨k, n, [], [], []⟩] } }
section
variable {mx dm : Int} {st : RSt}
theorem v_Mark {S : VH} {I : Ids} (h : Inv S I st) (ht : st.K.trace.length < 1000000) {k n : Int} (hk : k = 4 ∨ k = 5 ∨ k = 6) :
    ∃ own, VCall VT F_world_asked_Mark [.ptr (some (I.k, 0)), .int .i64 k, .int .i64 n] [] S = some (.tup [], [], S.set I.k (.cells (encK (st.mark k n).K) own)) ∧ Inv (S.set I.k (.cells (encK (st.mark k n).K) own)) I (st.mark k n) := by
  obtain ⟨ok, gk, gk0⟩ := h.gk
  have hrl := h.hr.1
  have hkl := h.hk.1
  have hkf := h.kf S.next hrl
  have hN := v_note (K := st.K) (k := k) (n := n) (a := []) (b := []) (l := []) ht hkl gk gk0 hkf
  simp only [strsV, List.map_nil] at hN
  refine ⟨ownN ok, ?_, h.setK mem_ownN⟩
  rw [VCall_of (F := a_world_asked_Mark) rfl rfl rfl rfl]
  rcases hk with rfl | rfl | rfl <;> simp -implicitDefEqProofs [a_world_asked_Mark, c_world_asked_Mark, binA, hN, trim_in hkl, hkf, RSt.mark]
theorem v_pipe1 {c : Tr} {E : Option Nat} {v : Int} {st2 : RSt} (hd : DoOk mx dm c st E v st2) {S : VH} {I : Ids} (hm : I.mx = mx) (hdm : I.dm = dm) (h : Inv S I st) {a b q : Nat} {oa ob oq : List Nat} {x : Int} (ga : S.get a = some (.cells [.ptr (some (I.r, 0))] oa)) (gb : S.get b = some (.cells [tv c] ob)) (gq : S.get q = some (.cells [.int .i64 x] oq)) (lq : q < S.next ∧ ¬ I.has q ∧ 100 ≤ q) :
    ∃ S', VCall VT F_run_runner_pipe_1 [.ptr (some (a, 0)), .ptr (some (b, 0)), .ptr (some (q, 0))] [] S = some (errO E, [], S') ∧ InvE E S' I st2 ∧ (Keep S S' fun x => I.has x ∨ x = q) ∧ ∃ oq', S'.get q = some (.cells [.int .i64 v] oq') := by
  obtain ⟨S1, k1, k2, k3⟩ := hd.run S I hm hdm h
  have gq' : S1.get q = some (.cells [.int .i64 x] oq) := by rw [k3.get q lq.1 lq.2.1]; exact gq
  refine ⟨S1.set q (.cells [.int .i64 v] (keepO oq 0 1)), ?_, k2.setO lq.2.1 lq.2.2, (k3.mono fun x hx => .inl hx).trans (Keep.set (.inr rfl)), keepO oq 0 1, by simp⟩
  rw [VCall_made (F := a_run_runner_pipe_1) rfl rfl rfl rfl]
  by_cases o0 : 0 ∈ oa <;> by_cases o1 : 0 ∈ ob <;> simp -implicitDefEqProofs [a_run_runner_pipe_1, c_run_runner_pipe_1, ga, gb, gq', k1, o0, o1]
end
end Go.Proofs.YtbpgbhmibmcbnaaGreatDoor.Val

/-! Rules: a pipe. -/
set_option linter.unusedSimpArgs false
set_option linter.unusedVariables false
namespace Go.Proofs.YtbpgbhmibmcbnaaGreatDoor.Val
open Go Go.Proofs.YtbpgbhmibmcbnaaGreatDoor.Ram

section
variable {mx dm : Int} {st : RSt}
theorem has_b {I : Ids} {q n : Nat} (h : ¬ I.has q) (hn : q ≠ n) : ¬ Ids.has { I with b := n } q := fun e => by
  rcases e with e | e | e | e | e | e
  · exact h (.inl e)
  · exact h (.inr (.inl e))
  · exact h (.inr (.inr (.inl e)))
  · exact h (.inr (.inr (.inr (.inl e))))
  · exact h (.inr (.inr (.inr (.inr (.inl e)))))
  · exact hn e
theorem v_pcatch {c : Tr} {E : Option Nat} {v : Int} {st2 : RSt} {u : Str} (hd : DoOk mx dm c { st with caught := some [], file := [] } E v st2) (hu : E = none → st2.caught = some u) {S : VH} {I : Ids} (hm : I.mx = mx) (hdm : I.dm = dm) (h : Inv S I st) {a b q : Nat} {oa ob oq : List Nat} {x : Int}
    (ga : S.get a = some (.cells [.ptr (some (I.r, 0))] oa)) (gb : S.get b = some (.cells [tv c] ob)) (gq : S.get q = some (.cells [.int .i64 x] oq)) (la : a < S.next ∧ ¬ I.has a) (lb : b < S.next ∧ ¬ I.has b) (lq : q < S.next ∧ ¬ I.has q ∧ 100 ≤ q) :
    ∃ S', VCall VT F_run_runner_catch [.ptr (some (I.r, 0)), .fn F_run_runner_pipe_1 [.ptr (some (a, 0)), .ptr (some (b, 0)), .ptr (some (q, 0))]] [] S = some (catchV E u, [], S') ∧ InvE E S' I (if E = none then { st2 with caught := st.caught, file := st.file } else st2) ∧ (Keep S S' fun x => I.has x ∨ x = q) ∧ ∃ oq', S'.get q = some (.cells [.int .i64 v] oq') :=
  v_catchQ h (g := F_run_runner_pipe_1) (caps := [.ptr (some (a, 0)), .ptr (some (b, 0)), .ptr (some (q, 0))]) (X := fun x => x = q) (Q := fun S' => ∃ oq', S'.get q = some (.cells [.int .i64 v] oq')) (fun S2 o ⟨oq', e⟩ => ⟨oq', by
      have : ¬ q = I.r := fun e => lq.2.1 (.inl e)
      simp [this, e]⟩) (fun y hy => by subst hy; exact ⟨lq.1, lq.2.1⟩) hd.err hu (fun Sx hi hk hn => by
    have ga' : Sx.get a = some (.cells [.ptr (some (I.r, 0))] oa) := by rw [hk.get a la.1 la.2]; exact ga
    have gb' : Sx.get b = some (.cells [tv c] ob) := by rw [hk.get b lb.1 lb.2]; exact gb
    have gq' : Sx.get q = some (.cells [.int .i64 x] oq) := by rw [hk.get q lq.1 lq.2.1]; exact gq
    exact v_pipe1 hd (S := Sx) (I := { I with b := S.next }) hm hdm hi ga' gb' gq' ⟨by omega, has_b lq.2.1 (by omega), lq.2.2⟩)
end
end Go.Proofs.YtbpgbhmibmcbnaaGreatDoor.Val

/-! Rules: a pipe's loop. -/
set_option linter.unusedSimpArgs false
set_option linter.unusedVariables false
namespace Go.Proofs.YtbpgbhmibmcbnaaGreatDoor.Val
open Go Go.Proofs.YtbpgbhmibmcbnaaGreatDoor.Ram

def RSt.hears (st : RSt) (first : Bool) (said : Str) : RSt := if first then st else { st with inn := said }
def RSt.caughtS (st : RSt) : RSt := { st with caught := some [], file := [] }
inductive PipeOk (mx dm : Int) : Bool → List Tr → Str → Str → RSt → Option Nat → Int → Str → RSt → Prop
  | last {first : Bool} {c : Tr} {said left : Str} {st st1 : RSt} {v : Int} (hd : DoOk mx dm c (st.hears first said) none v st1) : PipeOk mx dm first [c] said left st none v (if first then st1.inn else left) st1
  | lastE {first : Bool} {c : Tr} {said left : Str} {st st1 : RSt} {v : Int} {e : Nat} (hd : DoOk mx dm c (st.hears first said) (some e) v st1) : PipeOk mx dm first [c] said left st (some e) 0 [] st1
  | more {first : Bool} {c c' : Tr} {ks : List Tr} {said left u left' : Str} {st st1 st' : RSt} {v v' : Int} {E : Option Nat} (hd : DoOk mx dm c (st.hears first said).caughtS none v st1) (hu : st1.caught = some u)
      (k : PipeOk mx dm false (c' :: ks) u (if first then st1.inn else left) { st1 with caught := st.caught, file := st.file } E v' left' st') : PipeOk mx dm first (c :: c' :: ks) said left st E v' left' st'
  | moreE {first : Bool} {c c' : Tr} {ks : List Tr} {said left : Str} {st st1 : RSt} {v : Int} {e : Nat} (hd : DoOk mx dm c (st.hears first said).caughtS (some e) v st1) : PipeOk mx dm first (c :: c' :: ks) said left st (some e) 0 [] st1
section
variable {mx dm : Int} {st : RSt}
theorem hears_c {first : Bool} {said : Str} : (st.hears first said).caught = st.caught ∧ (st.hears first said).file = st.file := by
  unfold RSt.hears; split <;> exact ⟨rfl, rfl⟩
theorem PipeOk.same {first : Bool} {ks : List Tr} {said left left' : Str} {st st' : RSt} {v : Int} {E : Option Nat} (h : PipeOk mx dm first ks said left st E v left' st') : E = none → st'.caught.isSome = st.caught.isSome := by
  induction h with
  | last hd => intro _; rw [hd.same rfl, hears_c.1]
  | lastE _ => intro e; cases e
  | more hd hu k ih => intro e; exact ih e
  | moreE _ => intro e; cases e
theorem PipeOk.lt {first : Bool} {ks : List Tr} {said left left' : Str} {st st' : RSt} {v : Int} {E : Option Nat} (h : PipeOk mx dm first ks said left st E v left' st') : ∀ e, E = some e → e < 50 := by
  induction h with
  | last hd => intro e he; cases he
  | lastE hd => intro e he; exact hd.err _ he
  | more hd hu k ih => exact ih
  | moreE hd => intro e he; exact hd.err _ he
end
end Go.Proofs.YtbpgbhmibmcbnaaGreatDoor.Val

/-! Rules: a pipe's loop. -/
set_option linter.unusedSimpArgs false
set_option linter.unusedVariables false
namespace Go.Proofs.YtbpgbhmibmcbnaaGreatDoor.Val
open Go Go.Proofs.YtbpgbhmibmcbnaaGreatDoor.Ram

abbrev pipeF (K : List Tr) (a q : Nat) (said left : Str) (j : Int) : VFr := [(1, tsv K), (2, .ptr (some (a, 0))), (6, .str said), (7, .str left), (8, .ptr (some (q, 0))), (22, tsv K), (23, .int .i64 (K.length : Nat)), (24, .int .i64 j)]
section
variable {mx dm : Int} {st : RSt}
def pipeS (S : VH) (I : Ids) (st : RSt) (first : Bool) (said : Str) (c : Tr) (own : List Nat) : VH := if first then S.push (.cells [tv c] []) else (S.push (.cells [tv c] [])).set I.r (.cells (encR I (st.hears false said)) (keepO own 10 1))
open Classical in
theorem pipe_round {first : Bool} {c c' : Tr} {ks pre : List Tr} {said left u : Str} {S S1 : VH} {I : Ids} {a q : Nat} {oa own : List Nat} {st1 : RSt} (h : Inv S I st) (gr : S.get I.r = some (.cells (encR I st) own)) (hO : OwnR own) (hf : first = true → pre.length = 0) (hf' : first = false → 0 < pre.length) (hl : pre.length + (ks.length + 2) < 1000000)
    (ga : S.get a = some (.cells [.ptr (some (I.r, 0))] oa)) (la : a < S.next ∧ ¬ I.has a) (lq : q < S.next)
    (hC : VCall VT F_run_runner_catch [.ptr (some (I.r, 0)), .fn F_run_runner_pipe_1 [.ptr (some (a, 0)), .ptr (some (S.next, 0)), .ptr (some (q, 0))]] [] (pipeS S I st first said c own) = some (.tup [.str u, .nilI], [], S1)) (k2 : Inv S1 I st1) (ga1 : S1.get a = some (.cells [.ptr (some (I.r, 0))] oa)) :
    ∃ S3, (S3 = S1 ∨ S3 = VH.trim S S1) ∧ loopX VT.E VT.Fl (VCall VT) c_run_runner_pipe_l0 ⟨pipeF (pre ++ c :: c' :: ks) a q said left (pre.length : Nat), [], S⟩ = loopX VT.E VT.Fl (VCall VT) c_run_runner_pipe_l0 ⟨pipeF (pre ++ c :: c' :: ks) a q u (if first then st1.inn else left) ((pre.length : Int) + 1), [], S3⟩ := by
  have hK : ∀ f w h, loopX VT.E VT.Fl (VCall VT) c_run_runner_pipe_l0 ⟨f, w, h⟩ = loopX VT.E VT.Fl (VCall VT) c_run_runner_pipe_l0 ⟨VFr.keep f [1, 2, 6, 7, 8, 22, 23, 24], Rts.keep w.noCell [1, 2, 6, 7, 8, 22, 23, 24], h⟩ := fun _ _ _ => loopX_keep
  obtain ⟨⟨n0, n1, n2, n3, n4⟩, n7, n8, n9, n10, n11, n12⟩ := hO.no
  obtain ⟨own1, gr1, hO1⟩ := k2.gr
  obtain ⟨⟨m0, m1, m2, m3, m4⟩, m7, m8, m9, m10, m11, m12⟩ := hO1.no
  unfold encR at gr gr1
  have hrl := h.hr.1
  have hla := la.1
  have b1 : ¬ I.r = S.next := by omega
  have b2 : ¬ S.next = I.r := by omega
  have b3 : ¬ a = S.next := by omega
  have b4 : ¬ a = I.r := fun e => la.2 (.inl e)
  have hx : (pre ++ c :: c' :: ks)[pre.length]? = some c := by simp
  have hlt : (pre.length : Int) < (pre.length : Int) + ((ks.length : Int) + 1 + 1) := by omega
  have hw1 : IntKind.i64.wrap ((pre.length : Int) + ((ks.length : Int) + 1 + 1) - 1) = (pre.length : Int) + ((ks.length : Int) + 1) := by rw [Go.IntWalk.i64_in _ ⟨by omega, by omega⟩]; omega
  have hw0 : IntKind.i64.wrap ((ks.length : Int) + 1) = (ks.length : Int) + 1 := Go.IntWalk.i64_in _ ⟨by omega, by omega⟩
  have hq1 : (0 : Int) < (ks.length : Int) + 1 := by omega
  have hlt1 : (pre.length : Int) < (pre.length : Int) + ((ks.length : Int) + 1) := by omega
  have hw := wrap_succ (j := pre.length) (n := pre.length + 1) (by omega) (by omega)
  unfold pipeS at hC
  cases first with
  | true =>
    have e0 := List.eq_nil_of_length_eq_zero (hf rfl)
    subst e0
    simp only [if_true] at hC ⊢
    simp only [List.length_nil, List.nil_append, Int.cast_ofNat_Int, Int.zero_add] at *
    refine ⟨if cloH S S1 then VH.trim S S1 else S1, by split <;> simp, ?_⟩
    rw [loopX_eq]
    generalize loopX VT.E VT.Fl (VCall VT) c_run_runner_pipe_l0 = L at *
    by_cases oa0 : 0 ∈ oa <;> by_cases hcl : cloH S S1 <;> simp -implicitDefEqProofs [c_run_runner_pipe_l0, binA, hlt, hx, hw, hw1, hlt1, hw0, hq1, hla, lq, gr, ga, ga1, gr1, b1, b2, b3, b4, oa0, hC, hcl, n0, n1, n2, n3, n4, n7, n8, n9, n10, n11, n12, m0, m1, m2, m3, m4, m7, m8, m9, m10, m11, m12, pipeF] <;> rw [hK] <;> simp
  | false =>
    have c0 : (0 : Int) < (pre.length : Int) := by have := hf' rfl; omega
    have c1 : ¬ (pre.length : Int) = 0 := by omega
    have c2 : ¬ pre.length = 0 := by omega
    have c3 : 0 < pre.length := by omega
    simp only [Bool.false_eq_true, if_false] at hC ⊢
    unfold RSt.hears encR at hC
    simp only [Bool.false_eq_true, if_false] at hC
    refine ⟨if cloH S S1 then VH.trim S S1 else S1, by split <;> simp, ?_⟩
    rw [loopX_eq]
    generalize loopX VT.E VT.Fl (VCall VT) c_run_runner_pipe_l0 = L at *
    by_cases oa0 : 0 ∈ oa <;> by_cases hcl : cloH S S1 <;> simp -implicitDefEqProofs [c_run_runner_pipe_l0, binA, hlt, hx, hw, hw1, hlt1, hw0, hq1, hla, lq, gr, ga, ga1, gr1, b1, b2, b3, b4, oa0, hC, hcl, c0, c1, c2, c3, n0, n1, n2, n3, n4, n7, n8, n9, n10, n11, n12, m0, m1, m2, m3, m4, m7, m8, m9, m10, m11, m12, pipeF] <;> rw [hK] <;> simp
end
end Go.Proofs.YtbpgbhmibmcbnaaGreatDoor.Val

/-! Rules: a pipe's last round, and its errors. -/
set_option linter.unusedSimpArgs false
set_option linter.unusedVariables false
namespace Go.Proofs.YtbpgbhmibmcbnaaGreatDoor.Val
open Go Go.Proofs.YtbpgbhmibmcbnaaGreatDoor.Ram

section
variable {mx dm : Int} {st : RSt}
open Classical in
theorem pipe_last {first : Bool} {c : Tr} {pre : List Tr} {said left : Str} {S S1 : VH} {I : Ids} {a q : Nat} {oa own : List Nat} {st1 : RSt} (h : Inv S I st) (gr : S.get I.r = some (.cells (encR I st) own)) (hO : OwnR own) (hf : first = true → pre.length = 0) (hf' : first = false → 0 < pre.length) (hl : pre.length + 1 < 1000000)
    (ga : S.get a = some (.cells [.ptr (some (I.r, 0))] oa)) (la : a < S.next ∧ ¬ I.has a) (lq : q < S.next)
    (hC : VCall VT F_run_runner_pipe_1 [.ptr (some (a, 0)), .ptr (some (S.next, 0)), .ptr (some (q, 0))] [] (pipeS S I st first said c own) = some (.nilI, [], S1)) (k2 : Inv S1 I st1) (ga1 : S1.get a = some (.cells [.ptr (some (I.r, 0))] oa)) :
    ∃ S3, (S3 = S1 ∨ S3 = VH.trim S S1) ∧ loopX VT.E VT.Fl (VCall VT) c_run_runner_pipe_l0 ⟨pipeF (pre ++ [c]) a q said left (pre.length : Nat), [], S⟩ = loopX VT.E VT.Fl (VCall VT) c_run_runner_pipe_l0 ⟨pipeF (pre ++ [c]) a q said (if first then st1.inn else left) ((pre.length : Int) + 1), [], S3⟩ := by
  have hK : ∀ f w h, loopX VT.E VT.Fl (VCall VT) c_run_runner_pipe_l0 ⟨f, w, h⟩ = loopX VT.E VT.Fl (VCall VT) c_run_runner_pipe_l0 ⟨VFr.keep f [1, 2, 6, 7, 8, 22, 23, 24], Rts.keep w.noCell [1, 2, 6, 7, 8, 22, 23, 24], h⟩ := fun _ _ _ => loopX_keep
  obtain ⟨⟨n0, n1, n2, n3, n4⟩, n7, n8, n9, n10, n11, n12⟩ := hO.no
  obtain ⟨own1, gr1, hO1⟩ := k2.gr
  obtain ⟨⟨m0, m1, m2, m3, m4⟩, m7, m8, m9, m10, m11, m12⟩ := hO1.no
  unfold encR at gr1
  unfold encR at gr
  have hrl := h.hr.1
  have hla := la.1
  have b1 : ¬ I.r = S.next := by omega
  have b2 : ¬ S.next = I.r := by omega
  have b3 : ¬ a = S.next := by omega
  have b4 : ¬ a = I.r := fun e => la.2 (.inl e)
  have hx : (pre ++ [c])[pre.length]? = some c := by simp
  have hlt : (pre.length : Int) < (pre.length : Int) + 1 := by omega
  have hw1 : IntKind.i64.wrap ((pre.length : Int) + 1 - 1) = (pre.length : Int) := by rw [Go.IntWalk.i64_in _ ⟨by omega, by omega⟩]; omega
  have hw0 : IntKind.i64.wrap (pre.length : Int) = (pre.length : Int) := Go.IntWalk.i64_in _ ⟨by omega, by omega⟩
  have hq1 : IntKind.i64.wrap (0 : Int) = 0 := by decide
  have hlt1 : ¬ (pre.length : Int) < (pre.length : Int) := by omega
  have hw := wrap_succ (j := pre.length) (n := pre.length + 1) (by omega) (by omega)
  unfold pipeS at hC
  cases first with
  | true =>
    have e0 := List.eq_nil_of_length_eq_zero (hf rfl)
    subst e0
    simp only [if_true] at hC ⊢
    simp only [List.length_nil, List.nil_append, Int.cast_ofNat_Int, Int.zero_add] at *
    refine ⟨if cloH S S1 then VH.trim S S1 else S1, by split <;> simp, ?_⟩
    rw [loopX_eq]
    generalize loopX VT.E VT.Fl (VCall VT) c_run_runner_pipe_l0 = L at *
    by_cases oa0 : 0 ∈ oa <;> by_cases hcl : cloH S S1 <;> simp -implicitDefEqProofs [c_run_runner_pipe_l0, binA, hlt, hx, hw, hw1, hlt1, hw0, hq1, hla, lq, gr, ga, ga1, gr1, b1, b2, b3, b4, oa0, hC, hcl, n0, n1, n2, n3, n4, n7, n8, n9, n10, n11, n12, m0, m1, m2, m3, m4, m7, m8, m9, m10, m11, m12, pipeF] <;> rw [hK] <;> simp
  | false =>
    have c0 : (0 : Int) < (pre.length : Int) := by have := hf' rfl; omega
    have c1 : ¬ (pre.length : Int) = 0 := by omega
    have c2 : ¬ pre.length = 0 := by omega
    have c3 : 0 < pre.length := by omega
    simp only [Bool.false_eq_true, if_false] at hC ⊢
    unfold RSt.hears encR at hC
    simp only [Bool.false_eq_true, if_false] at hC
    refine ⟨if cloH S S1 then VH.trim S S1 else S1, by split <;> simp, ?_⟩
    rw [loopX_eq]
    generalize loopX VT.E VT.Fl (VCall VT) c_run_runner_pipe_l0 = L at *
    by_cases oa0 : 0 ∈ oa <;> by_cases hcl : cloH S S1 <;> simp -implicitDefEqProofs [c_run_runner_pipe_l0, binA, hlt, hx, hw, hw1, hlt1, hw0, hq1, hla, lq, gr, ga, ga1, gr1, b1, b2, b3, b4, oa0, hC, hcl, c0, c1, c2, c3, n0, n1, n2, n3, n4, n7, n8, n9, n10, n11, n12, m0, m1, m2, m3, m4, m7, m8, m9, m10, m11, m12, pipeF] <;> rw [hK] <;> simp
theorem pipe_lastE {first : Bool} {c : Tr} {pre : List Tr} {said left : Str} {S S1 : VH} {I : Ids} {a q e : Nat} {oa own : List Nat} (h : Inv S I st) (gr : S.get I.r = some (.cells (encR I st) own)) (hO : OwnR own) (hf : first = true → pre.length = 0) (hf' : first = false → 0 < pre.length) (hl : pre.length + 1 < 1000000)
    (ga : S.get a = some (.cells [.ptr (some (I.r, 0))] oa)) (la : a < S.next ∧ ¬ I.has a) (lq : q < S.next)
    (hC : VCall VT F_run_runner_pipe_1 [.ptr (some (a, 0)), .ptr (some (S.next, 0)), .ptr (some (q, 0))] [] (pipeS S I st first said c own) = some (errG e, [], S1)) :
    ∃ f, loopX VT.E VT.Fl (VCall VT) c_run_runner_pipe_l0 ⟨pipeF (pre ++ [c]) a q said left (pre.length : Nat), [], S⟩ = some (.ret, ⟨(5, errG e) :: (4, .int .i64 0) :: f, [], S1⟩) := by
  have hK : ∀ f w h, loopX VT.E VT.Fl (VCall VT) c_run_runner_pipe_l0 ⟨f, w, h⟩ = loopX VT.E VT.Fl (VCall VT) c_run_runner_pipe_l0 ⟨VFr.keep f [1, 2, 6, 7, 8, 22, 23, 24], Rts.keep w.noCell [1, 2, 6, 7, 8, 22, 23, 24], h⟩ := fun _ _ _ => loopX_keep
  obtain ⟨⟨n0, n1, n2, n3, n4⟩, n7, n8, n9, n10, n11, n12⟩ := hO.no
  unfold encR at gr
  have hrl := h.hr.1
  have hla := la.1
  have b1 : ¬ I.r = S.next := by omega
  have b2 : ¬ S.next = I.r := by omega
  have b3 : ¬ a = S.next := by omega
  have b4 : ¬ a = I.r := fun e => la.2 (.inl e)
  have hx : (pre ++ [c])[pre.length]? = some c := by simp
  have hlt : (pre.length : Int) < (pre.length : Int) + 1 := by omega
  have hw1 : IntKind.i64.wrap ((pre.length : Int) + 1 - 1) = (pre.length : Int) := by rw [Go.IntWalk.i64_in _ ⟨by omega, by omega⟩]; omega
  have hw0 : IntKind.i64.wrap (pre.length : Int) = (pre.length : Int) := Go.IntWalk.i64_in _ ⟨by omega, by omega⟩
  have hq1 : IntKind.i64.wrap (0 : Int) = 0 := by decide
  have hlt1 : ¬ (pre.length : Int) < (pre.length : Int) := by omega
  have hw := wrap_succ (j := pre.length) (n := pre.length + 1) (by omega) (by omega)
  unfold pipeS at hC
  cases first with
  | true =>
    have e0 := List.eq_nil_of_length_eq_zero (hf rfl)
    subst e0
    simp only [if_true] at hC ⊢
    simp only [List.length_nil, List.nil_append, Int.cast_ofNat_Int, Int.zero_add] at *
    rw [loopX_eq]
    generalize loopX VT.E VT.Fl (VCall VT) c_run_runner_pipe_l0 = L at *
    by_cases oa0 : 0 ∈ oa <;> simp -implicitDefEqProofs [c_run_runner_pipe_l0, binA, hlt, hx, hw, hw1, hlt1, hw0, hq1, hla, lq, gr, ga, b1, b2, b3, b4, oa0, hC, n0, n1, n2, n3, n4, n7, n8, n9, n10, n11, n12, pipeF]
  | false =>
    have c0 : (0 : Int) < (pre.length : Int) := by have := hf' rfl; omega
    have c1 : ¬ (pre.length : Int) = 0 := by omega
    have c2 : ¬ pre.length = 0 := by omega
    have c3 : 0 < pre.length := by omega
    simp only [Bool.false_eq_true, if_false] at hC ⊢
    unfold RSt.hears encR at hC
    simp only [Bool.false_eq_true, if_false] at hC
    rw [loopX_eq]
    generalize loopX VT.E VT.Fl (VCall VT) c_run_runner_pipe_l0 = L at *
    by_cases oa0 : 0 ∈ oa <;> simp -implicitDefEqProofs [c_run_runner_pipe_l0, binA, hlt, hx, hw, hw1, hlt1, hw0, hq1, hla, lq, gr, ga, b1, b2, b3, b4, oa0, hC, c0, c1, c2, c3, n0, n1, n2, n3, n4, n7, n8, n9, n10, n11, n12, pipeF]
theorem pipe_moreE {first : Bool} {c c' : Tr} {ks pre : List Tr} {said left : Str} {S S1 : VH} {I : Ids} {a q e : Nat} {oa own : List Nat} (h : Inv S I st) (gr : S.get I.r = some (.cells (encR I st) own)) (hO : OwnR own) (hf : first = true → pre.length = 0) (hf' : first = false → 0 < pre.length) (hl : pre.length + (ks.length + 2) < 1000000)
    (ga : S.get a = some (.cells [.ptr (some (I.r, 0))] oa)) (la : a < S.next ∧ ¬ I.has a) (lq : q < S.next)
    (hC : VCall VT F_run_runner_catch [.ptr (some (I.r, 0)), .fn F_run_runner_pipe_1 [.ptr (some (a, 0)), .ptr (some (S.next, 0)), .ptr (some (q, 0))]] [] (pipeS S I st first said c own) = some (.tup [.str [], errG e], [], S1)) :
    ∃ f, loopX VT.E VT.Fl (VCall VT) c_run_runner_pipe_l0 ⟨pipeF (pre ++ c :: c' :: ks) a q said left (pre.length : Nat), [], S⟩ = some (.ret, ⟨(5, errG e) :: (4, .int .i64 0) :: f, [], S1⟩) := by
  have hK : ∀ f w h, loopX VT.E VT.Fl (VCall VT) c_run_runner_pipe_l0 ⟨f, w, h⟩ = loopX VT.E VT.Fl (VCall VT) c_run_runner_pipe_l0 ⟨VFr.keep f [1, 2, 6, 7, 8, 22, 23, 24], Rts.keep w.noCell [1, 2, 6, 7, 8, 22, 23, 24], h⟩ := fun _ _ _ => loopX_keep
  obtain ⟨⟨n0, n1, n2, n3, n4⟩, n7, n8, n9, n10, n11, n12⟩ := hO.no
  unfold encR at gr
  have hrl := h.hr.1
  have hla := la.1
  have b1 : ¬ I.r = S.next := by omega
  have b2 : ¬ S.next = I.r := by omega
  have b3 : ¬ a = S.next := by omega
  have b4 : ¬ a = I.r := fun e => la.2 (.inl e)
  have hx : (pre ++ c :: c' :: ks)[pre.length]? = some c := by simp
  have hlt : (pre.length : Int) < (pre.length : Int) + ((ks.length : Int) + 1 + 1) := by omega
  have hw1 : IntKind.i64.wrap ((pre.length : Int) + ((ks.length : Int) + 1 + 1) - 1) = (pre.length : Int) + ((ks.length : Int) + 1) := by rw [Go.IntWalk.i64_in _ ⟨by omega, by omega⟩]; omega
  have hw0 : IntKind.i64.wrap ((ks.length : Int) + 1) = (ks.length : Int) + 1 := Go.IntWalk.i64_in _ ⟨by omega, by omega⟩
  have hq1 : (0 : Int) < (ks.length : Int) + 1 := by omega
  have hlt1 : (pre.length : Int) < (pre.length : Int) + ((ks.length : Int) + 1) := by omega
  have hw := wrap_succ (j := pre.length) (n := pre.length + 1) (by omega) (by omega)
  unfold pipeS at hC
  cases first with
  | true =>
    have e0 := List.eq_nil_of_length_eq_zero (hf rfl)
    subst e0
    simp only [if_true] at hC ⊢
    simp only [List.length_nil, List.nil_append, Int.cast_ofNat_Int, Int.zero_add] at *
    rw [loopX_eq]
    generalize loopX VT.E VT.Fl (VCall VT) c_run_runner_pipe_l0 = L at *
    by_cases oa0 : 0 ∈ oa <;> simp -implicitDefEqProofs [c_run_runner_pipe_l0, binA, hlt, hx, hw, hw1, hlt1, hw0, hq1, hla, lq, gr, ga, b1, b2, b3, b4, oa0, hC, n0, n1, n2, n3, n4, n7, n8, n9, n10, n11, n12, pipeF]
  | false =>
    have c0 : (0 : Int) < (pre.length : Int) := by have := hf' rfl; omega
    have c1 : ¬ (pre.length : Int) = 0 := by omega
    have c2 : ¬ pre.length = 0 := by omega
    have c3 : 0 < pre.length := by omega
    simp only [Bool.false_eq_true, if_false] at hC ⊢
    unfold RSt.hears encR at hC
    simp only [Bool.false_eq_true, if_false] at hC
    rw [loopX_eq]
    generalize loopX VT.E VT.Fl (VCall VT) c_run_runner_pipe_l0 = L at *
    by_cases oa0 : 0 ∈ oa <;> simp -implicitDefEqProofs [c_run_runner_pipe_l0, binA, hlt, hx, hw, hw1, hlt1, hw0, hq1, hla, lq, gr, ga, b1, b2, b3, b4, oa0, hC, c0, c1, c2, c3, n0, n1, n2, n3, n4, n7, n8, n9, n10, n11, n12, pipeF]
theorem pipe_exit {K : List Tr} {said left : Str} {S : VH} {a q : Nat} : ∃ f, loopX VT.E VT.Fl (VCall VT) c_run_runner_pipe_l0 ⟨pipeF K a q said left (K.length : Nat), [], S⟩ = some (.exit 0, ⟨(1, tsv K) :: (2, .ptr (some (a, 0))) :: (6, .str said) :: (7, .str left) :: (8, .ptr (some (q, 0))) :: f, [], S⟩) := by
  rw [loopX_eq]
  simp -implicitDefEqProofs [c_run_runner_pipe_l0, binA, pipeF]
end
end Go.Proofs.YtbpgbhmibmcbnaaGreatDoor.Val

/-! Rules: a pipe. -/
set_option linter.unusedSimpArgs false
set_option linter.unusedVariables false
namespace Go.Proofs.YtbpgbhmibmcbnaaGreatDoor.Val
open Go Go.Proofs.YtbpgbhmibmcbnaaGreatDoor.Ram

section
variable {mx dm : Int} {st : RSt}
theorem pipeS_inv {S : VH} {I : Ids} (h : Inv S I st) {first : Bool} {said : Str} {c : Tr} {own : List Nat} (hO : OwnR own) : Inv (pipeS S I st first said c own) I (st.hears first said) ∧ Keep S (pipeS S I st first said c own) I.has ∧ (pipeS S I st first said c own).next = S.next + 1 ∧ (pipeS S I st first said c own).get S.next = some (.cells [tv c] []) := by
  have hrl := h.hr.1
  have b2 : ¬ S.next = I.r := by omega
  unfold pipeS
  cases first with
  | true => exact ⟨h.push, Keep.push, by simp, by simp⟩
  | false => exact ⟨h.push.setR (n := st.steps) (d := st.depth) (i := said) (f := st.file) (own := keepO own 10 1) hO.keep, Keep.push.trans (Keep.set (.inl rfl)), by simp, by simp [b2]⟩
theorem pipe_loop {first : Bool} {ks : List Tr} {said left left' : Str} {st st' : RSt} {v : Int} {E : Option Nat} (hq : PipeOk mx dm first ks said left st E v left' st') : ∀ (pre : List Tr) (S : VH) (I : Ids) (a q : Nat) (oa oq : List Nat) (x : Int), (first = true → pre.length = 0) → (first = false → 0 < pre.length) → I.mx = mx → I.dm = dm → Inv S I st →
    S.get a = some (.cells [.ptr (some (I.r, 0))] oa) → (a < S.next ∧ ¬ I.has a) → a ≠ q → S.get q = some (.cells [.int .i64 x] oq) → (q < S.next ∧ ¬ I.has q ∧ 100 ≤ q) → pre.length + ks.length < 1000000 →
    (E = none ∧ ∃ S' f oq' said', loopX VT.E VT.Fl (VCall VT) c_run_runner_pipe_l0 ⟨pipeF (pre ++ ks) a q said left (pre.length : Nat), [], S⟩ = some (.exit 0, ⟨(1, tsv (pre ++ ks)) :: (2, .ptr (some (a, 0))) :: (6, .str said') :: (7, .str left') :: (8, .ptr (some (q, 0))) :: f, [], S'⟩) ∧ Inv S' I st' ∧ (Keep S S' fun x => I.has x ∨ x = q) ∧ S'.get q = some (.cells [.int .i64 v] oq')) ∨
    (∃ e, E = some e ∧ v = 0 ∧ ∃ S' f, loopX VT.E VT.Fl (VCall VT) c_run_runner_pipe_l0 ⟨pipeF (pre ++ ks) a q said left (pre.length : Nat), [], S⟩ = some (.ret, ⟨(5, errG e) :: (4, .int .i64 0) :: f, [], S'⟩) ∧ InvE E S' I st' ∧ (Keep S S' fun x => I.has x ∨ x = q)) := by
  induction hq with
  | @last first c said left st st1 v hd =>
    intro pre S I a q oa oq x hf hf' hm hdm h ga la naq gq lq hl
    simp only [List.length_singleton] at hl
    left
    obtain ⟨own, gr, hO⟩ := h.gr
    obtain ⟨hP, kP, nP, gP⟩ := pipeS_inv h (first := first) (said := said) (c := c) hO
    obtain ⟨S1, k1, k2, k3, oq', kq⟩ := v_pipe1 hd hm hdm hP (a := a) (b := S.next) (q := q) (by rw [kP.get a la.1 la.2]; exact ga) gP (by rw [kP.get q lq.1 lq.2.1]; exact gq) ⟨by omega, lq.2⟩
    have k2 : Inv S1 I st1 := k2
    have kk : Keep S S1 fun x => I.has x ∨ x = q := (kP.mono fun x hx => .inl hx).trans k3
    have ga1 : S1.get a = some (.cells [.ptr (some (I.r, 0))] oa) := by rw [kk.get a la.1 (fun e => e.elim la.2 naq)]; exact ga
    obtain ⟨S3, hS3, he⟩ := pipe_last (left := left) h gr hO hf hf' hl ga la lq.1 k1 k2 ga1
    obtain ⟨f, hx⟩ := pipe_exit (K := pre ++ [c]) (said := said) (left := if first then st1.inn else left) (S := S3) (a := a) (q := q)
    simp only [List.length_append, List.length_singleton, Int.natCast_add, Int.cast_ofNat_Int] at hx
    have ht : Inv S3 I st1 ∧ (Keep S S3 fun x => I.has x ∨ x = q) ∧ S3.get q = some (.cells [.int .i64 v] oq') := by
      rcases hS3 with rfl | rfl
      · exact ⟨k2, kk, kq⟩
      · exact ⟨h.trim k2, kk.trim, by rw [show (VH.trim S S1).get q = S1.get q by simp [VH.trim, lq.1]]; exact kq⟩
    exact ⟨rfl, S3, f, oq', said, by rw [he]; simpa using hx, ht⟩
  | @lastE first c said left st st1 v e hd =>
    intro pre S I a q oa oq x hf hf' hm hdm h ga la naq gq lq hl
    simp only [List.length_singleton] at hl
    right
    obtain ⟨own, gr, hO⟩ := h.gr
    obtain ⟨hP, kP, nP, gP⟩ := pipeS_inv h (first := first) (said := said) (c := c) hO
    obtain ⟨S1, k1, k2, k3, oq', kq⟩ := v_pipe1 hd hm hdm hP (a := a) (b := S.next) (q := q) (by rw [kP.get a la.1 la.2]; exact ga) gP (by rw [kP.get q lq.1 lq.2.1]; exact gq) ⟨by omega, lq.2⟩
    simp only [errO] at k1
    obtain ⟨f, he⟩ := pipe_lastE (left := left) h gr hO hf hf' hl ga la lq.1 k1
    exact ⟨e, rfl, rfl, S1, f, he, k2, (kP.mono fun x hx => .inl hx).trans k3⟩
  | @more first c c' ks said left u left' st st1 st' v v' E hd hu k ih =>
    intro pre S I a q oa oq x hf hf' hm hdm h ga la naq gq lq hl
    simp only [List.length_cons] at hl
    obtain ⟨own, gr, hO⟩ := h.gr
    obtain ⟨hP, kP, nP, gP⟩ := pipeS_inv h (first := first) (said := said) (c := c) hO
    obtain ⟨S1, k1, k2, k3, oq', kq⟩ := v_pcatch (st := st.hears first said) hd (fun _ => hu) hm hdm hP (a := a) (b := S.next) (q := q) (by rw [kP.get a la.1 la.2]; exact ga) gP (by rw [kP.get q lq.1 lq.2.1]; exact gq) ⟨by omega, la.2⟩ ⟨by omega, h.notNew (Nat.le_refl _)⟩ ⟨by omega, lq.2⟩
    have k2 : Inv S1 I { st1 with caught := st.caught, file := st.file } := by
      have k2 := k2
      simp only [hears_c, if_true] at k2
      exact k2
    have kk : Keep S S1 fun x => I.has x ∨ x = q := (kP.mono fun x hx => .inl hx).trans k3
    have ga1 : S1.get a = some (.cells [.ptr (some (I.r, 0))] oa) := by rw [kk.get a la.1 (fun e => e.elim la.2 naq)]; exact ga
    obtain ⟨S3, hS3, he⟩ := pipe_round (left := left) h gr hO hf hf' (by omega) ga la lq.1 k1 k2 ga1
    have hn3 : S.next ≤ S3.next := by
      rcases hS3 with rfl | rfl
      · exact kk.next
      · exact Nat.le_refl _
    have ht : Inv S3 I { st1 with caught := st.caught, file := st.file } ∧ (Keep S S3 fun x => I.has x ∨ x = q) ∧ S3.get q = some (.cells [.int .i64 v] oq') := by
      rcases hS3 with rfl | rfl
      · exact ⟨k2, kk, kq⟩
      · exact ⟨h.trim k2, kk.trim, by rw [show (VH.trim S S1).get q = S1.get q by simp [VH.trim, lq.1]]; exact kq⟩
    obtain ⟨t1, t2, t3⟩ := ht
    have h2 := ih (pre ++ [c]) S3 I a q oa oq' v (fun e => by cases e) (fun _ => by simp) hm hdm t1 (by rw [t2.get a la.1 (fun e => e.elim la.2 naq)]; exact ga) ⟨by omega, la.2⟩ naq t3 ⟨by omega, lq.2⟩ (by simp; omega)
    simp only [List.append_assoc, List.singleton_append, List.length_append, List.length_singleton, Int.natCast_add, Int.cast_ofNat_Int] at h2
    simp only at he
    rw [he]
    rcases h2 with ⟨a1, S', f, oq2, s2, b1, b2, b3, b4⟩ | ⟨e, a1, a2, S', f, b1, b2, b3⟩
    · exact .inl ⟨a1, S', f, oq2, s2, b1, b2, t2.trans b3, b4⟩
    · exact .inr ⟨e, a1, a2, S', f, b1, b2, t2.trans b3⟩
  | @moreE first c c' ks said left st st1 v e hd =>
    intro pre S I a q oa oq x hf hf' hm hdm h ga la naq gq lq hl
    simp only [List.length_cons] at hl
    right
    obtain ⟨own, gr, hO⟩ := h.gr
    obtain ⟨hP, kP, nP, gP⟩ := pipeS_inv h (first := first) (said := said) (c := c) hO
    obtain ⟨S1, k1, k2, k3, oq', kq⟩ := v_pcatch (st := st.hears first said) (u := []) hd (fun e => by cases e) hm hdm hP (a := a) (b := S.next) (q := q) (by rw [kP.get a la.1 la.2]; exact ga) gP (by rw [kP.get q lq.1 lq.2.1]; exact gq) ⟨by omega, la.2⟩ ⟨by omega, h.notNew (Nat.le_refl _)⟩ ⟨by omega, lq.2⟩
    simp only [catchV] at k1
    obtain ⟨f, he⟩ := pipe_moreE (left := left) h gr hO hf hf' (by omega) ga la lq.1 k1
    exact ⟨e, rfl, rfl, S1, f, he, k2, (kP.mono fun x hx => .inl hx).trans k3⟩
end
end Go.Proofs.YtbpgbhmibmcbnaaGreatDoor.Val

/-! Rules: a pipe, whole. -/
set_option linter.unusedSimpArgs false
set_option linter.unusedVariables false
namespace Go.Proofs.YtbpgbhmibmcbnaaGreatDoor.Val
open Go Go.Proofs.YtbpgbhmibmcbnaaGreatDoor.Ram

section
variable {mx dm : Int} {st : RSt}
def pipeEnd (E : Option Nat) (st : RSt) (left : Str) (n : Int) : RSt := if E = none then ({ st with inn := left } : RSt).mark 6 n else st
theorem v_pipe {ks : List Tr} {left' : Str} {st' : RSt} {v : Int} {E : Option Nat} (hq : PipeOk mx dm true ks [] [] (st.mark 4 ks.length) E v left' st') (ht : st.K.trace.length < 1000000) (ht' : E = none → st'.K.trace.length < 1000000) (hl : ks.length < 1000000) : ∀ S I, I.mx = mx → I.dm = dm → Inv S I st →
    ∃ S', VCall VT F_run_runner_pipe [.ptr (some (I.r, 0)), tsv ks] [] S = some (.tup [.int .i64 v, errO E], [], S') ∧ InvE E S' I (pipeEnd E st' left' ks.length) ∧ Keep S S' I.has := by
  intro S I hm hd h
  have hP : Inv (S.push (.cells [.ptr (some (I.r, 0))] [])) I st := h.push
  obtain ⟨ok, hM, hi⟩ := v_Mark hP ht (k := 4) (n := ks.length) (.inl rfl)
  obtain ⟨own, gr, hO⟩ := h.gr
  obtain ⟨⟨n0, n1, n2, n3, n4⟩, n7, n8, n9, n10, n11, n12⟩ := hO.no
  have hrl := h.hr.1
  have hkl := h.hk.1
  have h100 := h.hr.2
  have hrk := h.rk
  have b1 : ¬ I.r = S.next := by omega
  have b1' : ¬ I.r = S.next + 1 := by omega
  have b2 : ¬ S.next = I.k := by omega
  have b3 : ¬ I.k = S.next := by omega
  have b4 : ¬ S.next = I.r := by omega
  have nn0 := h.notNew (Nat.le_refl S.next)
  have nn1 := h.notNew (show S.next ≤ S.next + 1 by omega)
  have hi2 := hi.push (o := .cells [.int .i64 0] [])
  have h2 := pipe_loop hq [] _ I S.next (S.next + 1) [] [] 0 (fun _ => rfl) (fun e => by cases e) hm hd hi2 (by simp [b2]) ⟨by simp; omega, nn0⟩ (by omega) (by simp) ⟨by simp, nn1, by omega⟩ (by simpa using hl)
  have kp : Keep S (((S.push (.cells [.ptr (some (I.r, 0))] [])).set I.k (.cells (encK (st.mark 4 ks.length).K) ok)).push (.cells [.int .i64 0] [])) I.has := (Keep.push.trans (Keep.set (.inr (.inl rfl)))).trans Keep.push
  generalize hSD : (((S.push (.cells [.ptr (some (I.r, 0))] [])).set I.k (.cells (encK (st.mark 4 ks.length).K) ok)).push (.cells [.int .i64 0] [])) = SD at *
  have nD : SD.next = S.next + 1 + 1 := by rw [← hSD]; simp
  have aD : SD.get S.next = some (.cells [.ptr (some (I.r, 0))] []) := by rw [← hSD]; simp [b2]
  have qD : SD.get (S.next + 1) = some (.cells [.int .i64 0] []) := by rw [← hSD]; simp
  have sD : SD.set (S.next + 1) (.cells [.int .i64 0] []) = SD := set_self qD
  have out : ∀ S' : VH, (Keep SD S' fun x => I.has x ∨ x = S.next + 1) → Keep S S' I.has := fun S' k => ⟨by have := k.next; omega, fun q hq hn => by
    rw [k.get q (by omega) (fun e => by rcases e with e | e; exact hn e; omega)]; exact kp.get q hq hn⟩
  simp only [List.nil_append, List.length_nil, Int.cast_ofNat_Int] at h2
  unfold encR at gr
  rcases h2 with ⟨rfl, S', f, oq', s', k1, k2, k3, k4⟩ | ⟨e, rfl, rfl, S', f, k1, k2, k3⟩
  · obtain ⟨own2, gr2, hO2⟩ := k2.gr
    obtain ⟨⟨m0, m1, m2, m3, m4⟩, m7, m8, m9, m10, m11, m12⟩ := hO2.no
    have hi3 := k2.setR (n := st'.steps) (d := st'.depth) (i := left') (f := st'.file) (own := keepO own2 10 1) hO2.keep
    obtain ⟨ok2, hM2, hi4⟩ := v_Mark hi3 (ht' rfl) (k := 6) (n := ks.length) (.inr (.inr rfl))
    have a1 : S'.get S.next = some (.cells [.ptr (some (I.r, 0))] []) := by rw [k3.get S.next (by omega) (fun e => by rcases e with e | e; exact nn0 e; omega)]; exact aD
    have c1 : ¬ S.next + 1 = I.r := by omega
    have c2 : ¬ S.next + 1 = I.k := by omega
    unfold encR at gr2 hM2
    refine ⟨_, ?_, hi4, ((out S' k3).trans (Keep.set (.inl rfl))).trans (Keep.set (.inr (.inl rfl)))⟩
    rw [VCall_made (F := a_run_runner_pipe) rfl rfl rfl rfl]
    simp -implicitDefEqProofs [a_run_runner_pipe, c_run_runner_pipe, binA, gr, n0, n1, n2, n3, n4, b1, b1', b2, b3, b4, hM, hSD, qD, sD, k1, k4, a1, gr2, m0, m1, m2, m3, m4, m7, m8, m9, m10, m11, m12, hM2, c1, c2, hrk, hrk.symm, errO, encR]
  · refine ⟨S', ?_, k2, out S' k3⟩
    rw [VCall_made (F := a_run_runner_pipe) rfl rfl rfl rfl]
    simp -implicitDefEqProofs [a_run_runner_pipe, c_run_runner_pipe, binA, gr, n0, n1, n2, n3, n4, b1, b1', b2, b3, b4, hM, hSD, qD, sD, k1, errO]
theorem do_pipe {n : Int} {s : Str} {ks : List Tr} {left' : Str} {st' : RSt} {v : Int} {E : Option Nat} (hz : (rowsT ks).length < 800000) (hm : mx < 1000000) (h0 : 0 ≤ st.steps) (hs : st.steps < mx) (hq : PipeOk mx dm true ks [] [] (st.stepped.mark 4 ks.length) E v left' st') (ht : st.K.trace.length < 1000000) (ht' : E = none → st'.K.trace.length < 1000000) : DoOk mx dm (.mk 32 n s ks) st E v (pipeEnd E st' left' ks.length) := by
  have hz' : (Tr.rows (.mk 32 n s ks)).length < 900000 := by simp [Tr.rows]; omega
  have hkl := kids_le (.mk 32 n s ks)
  simp only [Tr.kids] at hkl
  refine ⟨hz', fun e => ?_, hq.lt, ?_⟩
  · have := hq.same e
    subst e
    exact this
  intro S I hmx hd h
  have hk1 : VCall VT F_run_kids [tv (.mk 32 n s ks)] [] (S.push node0) = some (tsv ks, [], S.push node0) := v_kids (t := .mk 32 n s ks) (by omega) (by simp only [Tr.kids]; omega)
  obtain ⟨own, hst, hi⟩ := v_stepped (h.push (o := .cells (ndRow 32 n ks.length ((rowsT ks).length + 1 : Nat) s) [])) (by omega) h0 (by omega)
  obtain ⟨S1, k1, k2, k3⟩ := v_pipe hq ht ht' (by omega) _ I hmx hd hi
  refine ⟨S1, ?_, k2, (Keep.push.trans (Keep.set (.inl rfl))).trans k3⟩
  have a1 : ¬ S.next = I.r := by have := h.hr.1; omega
  simp only [Int.natCast_add, Int.cast_ofNat_Int] at k1 hst
  rw [VCall_made (F := a_run_runner_do) rfl rfl rfl rfl]
  simp -implicitDefEqProofs [a_run_runner_do, c_run_runner_do, binA, Tr.rows, hk1, hst, k1, a1]
end
end Go.Proofs.YtbpgbhmibmcbnaaGreatDoor.Val

/-! Rules: hearing a text. -/
set_option linter.unusedSimpArgs false
set_option linter.unusedVariables false
namespace Go.Proofs.YtbpgbhmibmcbnaaGreatDoor.Val
open Go Go.Proofs.YtbpgbhmibmcbnaaGreatDoor.Ram

section
variable {mx dm : Int} {st : RSt}
def hereEnd (E : Option Nat) (st1 st2 : RSt) : RSt := if E = none then ({ st2 with inn := st1.inn } : RSt).mark 6 1 else st2
end
end Go.Proofs.YtbpgbhmibmcbnaaGreatDoor.Val

/-! What the laws' programs come to: words that are given, a While that goes on. -/
set_option linter.unusedSimpArgs false
set_option linter.unusedVariables false
namespace Go.Proofs.YtbpgbhmibmcbnaaGreatDoor.Val
open Go Go.Proofs.YtbpgbhmibmcbnaaGreatDoor.Ram

def litT (s : Str) : Tr := .mk 1 0 s []
section
variable {mx dm : Int} {st : RSt}
theorem fitL_pre {a b : List Str} (h : fitL (a ++ b) = true) : fitL a = true := by
  unfold fitL at *
  simp only [List.length_append, List.any_append, Bool.and_eq_true, decide_eq_true_eq, Bool.not_eq_true', Bool.or_eq_false_iff] at *
  exact ⟨by omega, h.2.1⟩
theorem tog_lits {l : List Str} : ∀ (a : List Str), fitL (a ++ l) = true → TogOk mx dm catF (fun _ => True) (l.map litT) (some a) st none (a ++ l) st := by
  induction l with
  | nil =>
    intro a h
    refine .nil trivial ?_
    simp only [List.append_nil] at h
    simp [catF, h]
  | cons s l ih =>
    intro a h
    have h1 : fitL (a ++ [s]) = true := fitL_pre (b := l) (by simpa using h)
    have h2 := ih (a ++ [s]) (by simpa using h)
    simp only [List.append_assoc, List.singleton_append] at h2
    have hl : (a ++ [s]).length < 1000000 := by
      unfold fitL at h1
      simp only [Bool.and_eq_true, decide_eq_true_eq] at h1
      have := h1.1
      omega
    exact .cons word_lit (by simp) trivial (by simp [catF, h1]) hl h2
theorem tog_lits0 {l : List Str} (h : fitL l = true) : TogOk mx dm catF (fun _ => True) (l.map litT) none st none l st := by
  cases l with
  | nil => exact .nil trivial (by simp [catF, h])
  | cons s l =>
    have h1 : fitL [s] = true := fitL_pre (b := l) (by simpa using h)
    exact .cons word_lit (by simp) trivial (by simp [catF, h1]) (by simp) (tog_lits (l := l) [s] (by simpa using h))
theorem rows_lits {l : List Str} : (rowsT (l.map litT)).length = l.length := by
  induction l with
  | nil => rfl
  | cons s l ih => simp [rowsT, litT, Tr.rows] at *; omega
end
end Go.Proofs.YtbpgbhmibmcbnaaGreatDoor.Val

/-! What the laws' programs come to: calls of the shell's own commands with given words; a While that goes on. -/
set_option linter.unusedSimpArgs false
set_option linter.unusedVariables false
namespace Go.Proofs.YtbpgbhmibmcbnaaGreatDoor.Val
open Go Go.Proofs.YtbpgbhmibmcbnaaGreatDoor.Ram

def callT (l : List Str) : Tr := .mk 21 0 [] (l.map litT)
section
variable {mx dm : Int} {st : RSt}
theorem RSt.Ok.stepped (h : st.Ok) : st.stepped.Ok := ⟨by have := h.s0; simp only [RSt.stepped]; omega, h.d0, h.x, h.t, h.c, h.f⟩
theorem do_lits {n : Str} {args : List Str} {o : OutC} {st2 : RSt} (hm : mx < 1000000) (hk : st.Ok) (hs : st.steps < mx) (hl : fitL (n :: args) = true) (hf : aget st.X.funs n = none) (hb : BOk n st.inn args o) (ho : o.name = [] ∧ o.fin = false) (hol : o.out.length < 1000000) (hsay : sayS st.stepped o.out = some st2) : DoOk mx dm (callT (n :: args)) st none o.status { st2 with inn := o.rest } := by
  have hz : (rowsT ((n :: args).map litT)).length < 800000 := by
    rw [rows_lits]
    have := hl
    unfold fitL at this
    simp only [Bool.and_eq_true, decide_eq_true_eq] at this
    omega
  exact do_call_b hz hm hk.s0 hs (tog_lits0 hl) hk.stepped hf hb ho hol hsay
theorem inn_same {st2 : RSt} {d i : Str} (h : sayS st.stepped d = some st2) (hi : i = st.inn) : ({ st2 with inn := i } : RSt) = st2 := by
  obtain ⟨_, _, _, s4, _, _⟩ := sayS_same h
  subst hi
  have : st.inn = st2.inn := s4.symm
  rw [this]
theorem do_put {s : Str} {st2 : RSt} (hm : mx < 1000000) (hk : st.Ok) (hs : st.steps < mx) (hl : s.length ≤ 2000) (hf : aget st.X.funs nPut = none) (hsay : sayS st.stepped s = some st2) : DoOk mx dm (callT [nPut, s]) st none 0 st2 := by
  have h := do_lits (dm := dm) hm hk hs (n := nPut) (args := [s]) (by simp [fitL, nPut]; omega) hf b_put ⟨rfl, rfl⟩ (by show s.length < _; omega) hsay
  exact inn_same hsay rfl ▸ (show DoOk mx dm _ st none 0 { st2 with inn := st.inn } from h)
theorem do_echo {s : Str} {st2 : RSt} (hm : mx < 1000000) (hk : st.Ok) (hs : st.steps < mx) (hl : s.length ≤ 2000) (hf : aget st.X.funs nEcho = none) (hsay : sayS st.stepped (s ++ [10]) = some st2) : DoOk mx dm (callT [nEcho, s]) st none 0 st2 := by
  have h := do_lits (dm := dm) hm hk hs (n := nEcho) (args := [s]) (by simp [fitL, nEcho]; omega) hf (b_echo (by omega)) ⟨rfl, rfl⟩ (by show (s ++ [10]).length < _; simp; omega) hsay
  exact inn_same hsay rfl ▸ (show DoOk mx dm _ st none 0 { st2 with inn := st.inn } from h)
theorem do_cat {st2 : RSt} (hm : mx < 1000000) (hk : st.Ok) (hs : st.steps < mx) (hf : aget st.X.funs nCat = none) (hin : st.inn.length < 1000000) (hsay : sayS st.stepped st.inn = some st2) : DoOk mx dm (callT [nCat]) st none 0 { st2 with inn := [] } :=
  do_lits hm hk hs (n := nCat) (args := []) (by simp [fitL, nCat]) hf b_cat ⟨rfl, rfl⟩ hin hsay
theorem do_true {st2 : RSt} (hm : mx < 1000000) (hk : st.Ok) (hs : st.steps < mx) (hf : aget st.X.funs nTrue = none) (hsay : sayS st.stepped [] = some st2) : DoOk mx dm (callT [nTrue]) st none 0 st2 := by
  have h := do_lits (dm := dm) hm hk hs (n := nTrue) (args := []) (by simp [fitL, nTrue]) hf b_true ⟨rfl, rfl⟩ (by show (0 : Nat) < _; omega) hsay
  exact inn_same hsay rfl ▸ (show DoOk mx dm _ st none 0 { st2 with inn := st.inn } from h)
theorem while_on (hm : mx < 1000000) (hk : st.Ok) (hf : aget st.X.funs nTrue = none) (hc : st.caught = none) : ∀ (d : Nat) (n last : Int), 0 ≤ n → n + 2 * d = mx → WhileOk mx dm (callT [nTrue]) (.mk 20 0 [] []) last { st with steps := n } (some G_api_ErrFuel) 0 { st with steps := mx } := by
  intro d
  induction d with
  | zero =>
    intro n last h0 h
    have : n = mx := by omega
    subst this
    exact .fuel h0 (Int.le_refl _)
  | succ d ih =>
    intro n last h0 h
    have k : RSt.Ok ({ st with steps := n } : RSt).stepped := ⟨by simp only [RSt.stepped]; omega, hk.d0, hk.x, hk.t, hk.c, hk.f⟩
    have e1 : sayS (RSt.stepped ({ st with steps := n } : RSt).stepped) [] = some { st with steps := n + 1 + 1 } := by simp [sayS, RSt.stepped, hc]
    have e2 := do_true (dm := dm) hm k (by simp only [RSt.stepped]; omega) hf e1
    exact .round h0 (by show n < mx; omega) e2 do_nop (ih (n + 1 + 1) 0 (by omega) (by omega))
end
end Go.Proofs.YtbpgbhmibmcbnaaGreatDoor.Val

/-! What the laws' programs come to: a function that calls itself. -/
set_option linter.unusedSimpArgs false
set_option linter.unusedVariables false
namespace Go.Proofs.YtbpgbhmibmcbnaaGreatDoor.Val
open Go Go.Proofs.YtbpgbhmibmcbnaaGreatDoor.Ram

section
variable {mx dm : Int} {st : RSt}
theorem deep_on {f : Str} (hm : mx < 1000000) (hdm : dm < 1000000) (hk : st.Ok) (hl : fitL [f] = true) (hf : aget st.X.funs f = some (callT [f])) (ha : st.X.args = []) : ∀ (d : Nat) (k n : Int), 0 ≤ k → k + d = dm → 0 ≤ n → n + d < mx →
    DoOk mx dm (callT [f]) { st with steps := n, depth := k } (some G_api_ErrDeep) 0 { st with steps := n + d + 1, depth := dm } := by
  have hz : (rowsT ([f].map litT)).length < 800000 := by rw [rows_lits]; simp
  have hX : ({ st.X with args := [] } : Sto) = st.X := by rw [← ha]
  intro d
  induction d with
  | zero =>
    intro k n h0 h hn hs
    have hkd : k = dm := by omega
    subst hkd
    have e1 : n + (0 : Nat) + 1 = n + 1 := by simp
    rw [e1]
    refine do_call (st1 := { st with steps := n + 1, depth := k }) hz hm hn (by show n < mx; omega) (tog_lits0 hl) (fun e he => by cases he; decide) (fun e => by cases e) (fun S I hmx hdx hi => ?_)
    obtain ⟨S', k1, k2, k3⟩ := v_call_deep (st := { st with steps := n + 1, depth := k }) (c := callT [f]) (n := f) (args := []) hk.x hf hdm h0 (Int.le_refl _) S I hmx hdx hi
    exact ⟨S', k1, k2, k3⟩
  | succ d ih =>
    intro k n h0 h hn hs
    have h2 := ih (k + 1) (n + 1) (by omega) (by omega) (by omega) (by omega)
    have e1 : n + ((d + 1 : Nat) : Int) + 1 = n + 1 + d + 1 := by omega
    rw [e1]
    refine do_call (st1 := { st with steps := n + 1, depth := k }) hz hm hn (by show n < mx; omega) (tog_lits0 hl) (fun e he => by cases he; decide) (fun e => by cases e) (fun S I hmx hdx hi => ?_)
    have h3 : DoOk mx dm (callT [f]) { ({ st with steps := n + 1, depth := k } : RSt) with depth := k + 1, X := { st.X with args := [] } } (some G_api_ErrDeep) 0 { st with steps := n + 1 + d + 1, depth := dm } := by
      rw [hX]; exact h2
    obtain ⟨S', k1, k2, k3⟩ := v_call_f (st := { st with steps := n + 1, depth := k }) (st2 := { st with steps := n + 1 + d + 1, depth := dm }) (n := f) (args := []) hk.x hf hdm h0 (by show k < dm; omega) ⟨by show 0 ≤ dm; omega, hdm⟩ (by simp) h3 S I hmx hdx hi
    exact ⟨S', k1, k2, k3⟩
end
end Go.Proofs.YtbpgbhmibmcbnaaGreatDoor.Val

/-! What the laws' programs come to: the four of `first`. -/
set_option linter.unusedSimpArgs false
set_option linter.unusedVariables false
namespace Go.Proofs.YtbpgbhmibmcbnaaGreatDoor.Val
open Go Go.Proofs.YtbpgbhmibmcbnaaGreatDoor.Ram

def rs0 (F : V) (rows : List Row) (inn : Str) : RSt := ⟨⟨[], F, rows⟩, ⟨[], [], []⟩, 0, 0, inn, none, []⟩
section
variable {dm : Int} {F : V} {rows : List Row}
theorem rs0_ok {inn : Str} : (rs0 F rows inn).Ok := ⟨by simp [rs0], by simp [rs0], by simp [rs0, Sto.ok], by simp [rs0], by simp [rs0], by simp [rs0]⟩
theorem first_a : DoOk 1500 dm (callT [nEcho, [97]]) (rs0 F rows []) none 0 { rs0 F rows [] with K := ⟨[⟨3, 0, [], [97, 10], []⟩], F, rows⟩, steps := 1 } :=
  do_echo (by omega) rs0_ok (by simp [rs0]) (by simp) rfl rfl
theorem first_b : DoOk 1500 dm (.mk 32 0 [] [callT [nEcho, [97]], callT [nCat]]) (rs0 F rows []) none 0 { rs0 F rows [] with K := ⟨[⟨4, 2, [], [], []⟩, ⟨3, 0, [], [97, 10], []⟩, ⟨6, 2, [], [], []⟩], F, rows⟩, steps := 3 } := by
  have k1 : RSt.Ok ({ rs0 F rows [] with K := ⟨[⟨4, 2, [], [], []⟩], F, rows⟩, steps := 1, caught := some [], file := [] } : RSt) := ⟨by simp, by simp [rs0], by simp [rs0, Sto.ok], by simp, fun t e => (by cases e; simp), fun _ => rfl⟩
  have k2 : RSt.Ok ({ rs0 F rows [97, 10] with K := ⟨[⟨4, 2, [], [], []⟩], F, rows⟩, steps := 2 } : RSt) := ⟨by simp, by simp [rs0], by simp [rs0, Sto.ok], by simp, by simp [rs0], by simp [rs0]⟩
  have h1 := do_echo (mx := 1500) (dm := dm) (st2 := { rs0 F rows [] with K := ⟨[⟨4, 2, [], [], []⟩], F, rows⟩, steps := 2, caught := some [97, 10], file := [] }) (s := [97]) (by omega) k1 (by simp) (by simp) rfl rfl
  have h2 := do_cat (mx := 1500) (dm := dm) (st2 := { rs0 F rows [97, 10] with K := ⟨[⟨4, 2, [], [], []⟩, ⟨3, 0, [], [97, 10], []⟩], F, rows⟩, steps := 3 }) (by omega) k2 (by simp) rfl (by simp [rs0]) rfl
  have h3 : PipeOk 1500 dm true [callT [nEcho, [97]], callT [nCat]] [] [] ((rs0 F rows []).stepped.mark 4 2) none 0 [] { rs0 F rows [] with K := ⟨[⟨4, 2, [], [], []⟩, ⟨3, 0, [], [97, 10], []⟩], F, rows⟩, steps := 3 } := by
    refine PipeOk.more (u := [97, 10]) h1 rfl ?_
    exact PipeOk.last (first := false) h2
  have h4 := do_pipe (n := 0) (s := []) (st := rs0 F rows []) (by simp [callT, litT, Tr.rows, rowsT]) (by omega) (by simp [rs0]) (by simp [rs0]) h3 (by simp [rs0]) (fun _ => by simp)
  exact h4
theorem first_c : DoOk 1500 dm (.mk 28 0 [] [callT [nTrue], .mk 20 0 [] []]) (rs0 F rows []) (some G_api_ErrFuel) 0 { rs0 F rows [] with steps := 1500 } :=
  do_while (by simp [callT, litT, Tr.rows, rowsT]) (by omega) (while_on (st := rs0 F rows []) (by omega) rs0_ok rfl rfl 750 0 0 (by omega) (by omega))
theorem first_d : DoOk 1500 25 (.mk 23 0 [] [.mk 31 0 [102] [callT [[102]]], callT [[102]]]) (rs0 F rows []) (some G_api_ErrDeep) 0 { rs0 F rows [] with X := ⟨[], [], [([102], callT [[102]])]⟩, steps := 27, depth := 25 } := by
  have hF : DoOk 1500 25 (.mk 31 0 [102] [callT [[102]]]) (rs0 F rows []) none 0 _ := do_fun (by simp [callT, litT, Tr.rows, rowsT]) (by omega) (by simp [rs0]) (by simp [rs0])
  have k : RSt.Ok ({ rs0 F rows [] with X := ⟨[], [], [([102], callT [[102]])]⟩ } : RSt) := ⟨by simp [rs0], by simp [rs0], by simp [rs0, Sto.ok, callT, litT, Tr.rows, rowsT], by simp [rs0], by simp [rs0], by simp [rs0]⟩
  have hD := deep_on (st := { rs0 F rows [] with X := ⟨[], [], [([102], callT [[102]])]⟩ }) (mx := 1500) (dm := 25) (f := [102]) (by omega) (by omega) k (by rfl) (by rfl) rfl 25 0 1 (by omega) (by omega) (by omega) (by omega)
  exact do_seq (by simp [callT, litT, Tr.rows, rowsT]) (.cons hF (.err hD))
end
end Go.Proofs.YtbpgbhmibmcbnaaGreatDoor.Val

/-! A run's beginning: run.Defaults, Options.may, run.begin. -/
set_option linter.unusedSimpArgs false
set_option linter.unusedVariables false
namespace Go.Proofs.YtbpgbhmibmcbnaaGreatDoor.Val
open Go Go.Proofs.YtbpgbhmibmcbnaaGreatDoor.Ram

abbrev optL (mx dm : Int) (inn : Str) : List V := [.nilFn, .int .i64 mx, .int .i64 dm, .lst 2 [], .lst 1 [], .str inn]
abbrev optV (mx dm : Int) (inn : Str) : V := .agg (optL mx dm inn)
@[simp] theorem back_next {S : VH} {i : Nat} {o : Option VObj} : (S.back i o).next = S.next := nd rfl
@[simp] theorem back_gl {S : VH} {i : Nat} {o : Option VObj} : (S.back i o).gl = S.gl := nd rfl
@[simp] theorem back_get {S : VH} {i j : Nat} {o : Option VObj} : (S.back i o).get j = if j = i then o else S.get j := nd rfl
section
variable {S : VH}
theorem GlOk.push (h : GlOk S) (hn : 100 ≤ S.next) {o : VObj} : GlOk (S.push o) := ⟨h.gl, fun j hj => by
  have : ¬ j = S.next := by omega
  simp [this, h.low j hj]⟩
theorem v_Defaults : VCall VT F_run_Defaults [] [] S = some (optV 1500 25 [], [], S) := by
  rw [VCall_of (F := a_run_Defaults) rfl rfl rfl rfl]
  simp -implicitDefEqProofs [a_run_Defaults, c_run_Defaults]
theorem v_may (h : GlOk S) (hn : 100 ≤ S.next) {mx dm : Int} {inn : Str} (hm : 0 ≤ mx ∧ mx ≤ 1500) (hd : 0 ≤ dm ∧ dm ≤ 25) (hi : inn.length ≤ 2000) : VCall VT F_run_Options_may [optV mx dm inn] [] S = some (.nilI, [], S) := by
  have hF : VCall VT F_lists_Fits [.lst 1 []] [] (S.push (.cells (optL mx dm inn) [])) = some (.nilI, [], S.push (.cells (optL mx dm inn) [])) := v_Fits (h.push hn) (l := []) (by simp)
  have hl : ∀ S, loopX VT.E VT.Fl (VCall VT) c_run_Options_may_l0 ⟨[(3, .bool false), (36, .lst 2 []), (37, .int .i64 0), (38, .int .i64 0)], [], S⟩ = some (.exit 0, ⟨[(3, .bool false), (36, .lst 2 []), (37, .int .i64 0), (38, .int .i64 0), (39, .bool false)], [], S⟩) := fun S => by
    rw [loopX_eq]
    simp -implicitDefEqProofs [c_run_Options_may_l0, binA]
  obtain ⟨m0, m1⟩ := hm
  obtain ⟨d0, d1⟩ := hd
  have e1 : ¬ mx < 0 := by omega
  have e2 : ¬ 1500 < mx := by omega
  have e3 : ¬ dm < 0 := by omega
  have e4 : ¬ 25 < dm := by omega
  have e5 : ¬ (2000 : Int) < (inn.length : Int) := by omega
  rw [VCall_of (F := a_run_Options_may) rfl rfl rfl rfl]
  simp -implicitDefEqProofs [a_run_Options_may, c_run_Options_may, binA, e1, e2, e3, e4, e5, hF, hl]
def Ids0 (n : Nat) (mx dm : Int) (inn : Str) : Ids := ⟨n + 7, n + 3, n + 6, n + 4, n + 5, n, mx, dm, .lst 2 [], .lst 1 [], .str inn⟩
theorem v_begin (h : GlOk S) (hn : 100 ≤ S.next) {mx dm : Int} {inn : Str} {a : List Row} (ha : a.length ≤ 50) (hok : ∀ r ∈ a, r.ok) (hm : 0 ≤ mx ∧ mx ≤ 1500) (hd : 0 ≤ dm ∧ dm ≤ 25) (hi : inn.length ≤ 2000) :
    ∃ S', VCall VT F_run_begin [.agg [.lst 2 [], rowsV a], optV mx dm inn] [] S = some (.tup [.ptr (some (S.next + 7, 0)), .nilI], [], S') ∧ Inv S' (Ids0 S.next mx dm inn) (rs0 (.lst 2 []) a inn) ∧ Fresh S S' := by
  have h2 := (h.push hn (o := .cells [.lst 2 [], rowsV a] [])).push (by simp; omega) (o := .cells (optL mx dm inn) [])
  obtain ⟨own, own', o0, o2, hN⟩ := v_New_rows (a := a) (S := (S.push (.cells [.lst 2 [], rowsV a] [])).push (.cells (optL mx dm inn) [])) ha hok
  have h3 := (h2.push (by simp; omega) (o := .cells [.lst 2 [], rowsV a] own)).push (by simp; omega) (o := .cells (encK ⟨[], .lst 2 [], a⟩) own')
  have hM := v_may h3 (by simp; omega) hm hd hi
  have hS := fun S : VH => v_StoreNew (S := S)
  have n1 : ¬ S.next + 1 + 1 + 1 + 1 + 1 + 1 = S.next + 1 := by omega
  have n2 : ¬ S.next + 1 + 1 + 1 + 1 + 1 = S.next + 1 := by omega
  have n3 : ¬ S.next + 1 + 1 + 1 + 1 = S.next + 1 := by omega
  have n4 : ¬ S.next + 1 + 1 + 1 = S.next + 1 := by omega
  have n5 : ¬ S.next + 1 + 1 = S.next + 1 := by omega
  have n6 : ¬ S.next + 1 = S.next := by omega
  have n7 : ¬ S.next + 1 = S.next + 1 + 1 := by omega
  have n8 : ¬ S.next + 1 = S.next + 1 + 1 + 1 := by omega
  have n9 : ¬ S.next + 1 = S.next + 1 + 1 + 1 + 1 := by omega
  have n10 : ¬ S.next + 1 = S.next + 1 + 1 + 1 + 1 + 1 := by omega
  have n11 : ¬ S.next + 1 = S.next + 1 + 1 + 1 + 1 + 1 + 1 := by omega
  have hX : IsS ((((((((S.push (.cells [.lst 2 [], rowsV a] [])).push (.cells (optL mx dm inn) [])).push (.cells [.lst 2 [], rowsV a] own)).push (.cells (encK ⟨[], .lst 2 [], a⟩) own')).push (.map [])).push (.map [])).push (.cells [.map (some (S.next + 1 + 1 + 1 + 1)), .lst 1 [], .map (some (S.next + 1 + 1 + 1 + 1 + 1))] [])).push
      (.cells [.ptr (some (S.next + 1 + 1 + 1, 0)), .ptr (some (S.next + 1 + 1 + 1 + 1 + 1 + 1, 0)), .nilFn, .int .i64 mx, .int .i64 dm, .lst 2 [], .lst 1 [], .str inn, .int .i64 0, .int .i64 0, .str inn, .ptr none, .str []] [])) (S.next + 1 + 1 + 1 + 1 + 1 + 1) (S.next + 1 + 1 + 1 + 1) (S.next + 1 + 1 + 1 + 1 + 1) ⟨[], [], []⟩ := by
    refine ⟨by simp, by simp, by simp, by omega, by omega, by omega, ⟨[], ?_⟩, ?_, ?_⟩
    · simp
    · simp [amap]
    · simp [amap]
  obtain ⟨ow, hA⟩ := v_SetArgs hX (l := []) (by simp)
  have hA' : VCall VT F_store_values_SetArgs [.ptr (some (S.next + 1 + 1 + 1 + 1 + 1 + 1, 0)), .lst 1 []] [] _ = _ := hA
  refine ⟨((((((((S.push (.cells [.lst 2 [], rowsV a] [])).push (.cells (optL mx dm inn) [])).push (.cells [.lst 2 [], rowsV a] own)).push (.cells (encK ⟨[], .lst 2 [], a⟩) own')).push (.map [])).push (.map [])).push (.cells [.map (some (S.next + 1 + 1 + 1 + 1)), .lst 1 [], .map (some (S.next + 1 + 1 + 1 + 1 + 1))] [])).push
      (.cells [.ptr (some (S.next + 1 + 1 + 1, 0)), .ptr (some (S.next + 1 + 1 + 1 + 1 + 1 + 1, 0)), .nilFn, .int .i64 mx, .int .i64 dm, .lst 2 [], .lst 1 [], .str inn, .int .i64 0, .int .i64 0, .str inn, .ptr none, .str []] [])).set (S.next + 1 + 1 + 1 + 1 + 1 + 1) (.cells [.map (some (S.next + 1 + 1 + 1 + 1)), strsV [], .map (some (S.next + 1 + 1 + 1 + 1 + 1))] ow), ?_, ?_, ?_⟩
  · rw [VCall_made (F := a_run_begin) rfl rfl rfl rfl]
    simp -implicitDefEqProofs [a_run_begin, c_run_begin, binA, hN, hM, hS, n1, n2, n3, n4, n5, n6, n7, n8, n9, n10, n11, hA']
  · have h8 : GlOk ((((((((S.push (.cells [.lst 2 [], rowsV a] [])).push (.cells (optL mx dm inn) [])).push (.cells [.lst 2 [], rowsV a] own)).push (.cells (encK ⟨[], .lst 2 [], a⟩) own')).push (.map [])).push (.map [])).push (.cells [.map (some (S.next + 1 + 1 + 1 + 1)), .lst 1 [], .map (some (S.next + 1 + 1 + 1 + 1 + 1))] [])).push
      (.cells [.ptr (some (S.next + 1 + 1 + 1, 0)), .ptr (some (S.next + 1 + 1 + 1 + 1 + 1 + 1, 0)), .nilFn, .int .i64 mx, .int .i64 dm, .lst 2 [], .lst 1 [], .str inn, .int .i64 0, .int .i64 0, .str inn, .ptr none, .str []] [])) := (((h3.push (by simp; omega)).push (by simp; omega)).push (by simp; omega)).push (by simp; omega)
    refine ⟨h8.set (by omega), ⟨by simp [Ids0], by simp [Ids0]; omega⟩, ⟨by simp [Ids0], by simp [Ids0]; omega⟩, hX.setArgs, ⟨by simp [Ids0]; omega, by simp [Ids0]; omega, by simp [Ids0]; omega⟩, fun e => absurd rfl e, by simp [Ids0], ⟨by simp [Ids0], by simp [Ids0], by simp [Ids0]⟩, ⟨by simp [Ids0], by simp [Ids0], by simp [Ids0]⟩, ⟨[], ?_, fun o ho => by cases ho⟩, ⟨own', ?_, o0⟩, fun t e => (by cases e), fun m _ => rfl, fun m => rfl, fun m => rfl, fun m => rfl, by simp [Ids0]; omega⟩
    · simp [Ids0, encR, rs0, caughtV]
    · simp [Ids0, rs0]
  · refine ⟨by simp; omega, fun q hq => ?_⟩
    have q0 : ¬ q = S.next := by omega
    have q1 : ¬ q = S.next + 1 := by omega
    have q2 : ¬ q = S.next + 1 + 1 := by omega
    have q3 : ¬ q = S.next + 1 + 1 + 1 := by omega
    have q4 : ¬ q = S.next + 1 + 1 + 1 + 1 := by omega
    have q5 : ¬ q = S.next + 1 + 1 + 1 + 1 + 1 := by omega
    have q6 : ¬ q = S.next + 1 + 1 + 1 + 1 + 1 + 1 := by omega
    have q7 : ¬ q = S.next + 1 + 1 + 1 + 1 + 1 + 1 + 1 := by omega
    simp [q0, q1, q2, q3, q4, q5, q6, q7]
theorem v_begin' (h : GlOk S) (hn : 100 ≤ S.next) {mx dm : Int} {inn : Str} {a : List Row} (ha : a.length ≤ 50) (hok : ∀ r ∈ a, r.ok) (hm : 0 ≤ mx ∧ mx ≤ 1500) (hd : 0 ≤ dm ∧ dm ≤ 25) (hi : inn.length ≤ 2000) :
    ∃ S' I, I.mx = mx ∧ I.dm = dm ∧ VCall VT F_run_begin [.agg [.lst 2 [], rowsV a], optV mx dm inn] [] S = some (.tup [.ptr (some (I.r, 0)), .nilI], [], S') ∧ Inv S' I (rs0 (.lst 2 []) a inn) ∧ Fresh S S' ∧ ∀ q, I.has q → S.next ≤ q := by
  obtain ⟨S', h1, h2, h3⟩ := v_begin h hn ha hok hm hd hi
  refine ⟨S', Ids0 S.next mx dm inn, rfl, rfl, h1, h2, h3, fun q hq => ?_⟩
  rcases hq with e | e | e | e | e | e <;> simp [Ids0] at e <;> omega
end
end Go.Proofs.YtbpgbhmibmcbnaaGreatDoor.Val

/-! A run: run.Run on programs that are trees, over a world without files. -/
set_option linter.unusedSimpArgs false
set_option linter.unusedVariables false
namespace Go.Proofs.YtbpgbhmibmcbnaaGreatDoor.Val
open Go Go.Proofs.YtbpgbhmibmcbnaaGreatDoor.Ram

theorem fresh_fin {S X : VH} (h : ∀ q, q < S.next → X.get q = S.get q) : cloH S X ∧ VH.trim S X = S := by
  refine ⟨fun q hq => .inl (h q hq), ?_⟩
  unfold VH.trim
  congr 1; funext q; split
  · rename_i e; exact h q e
  · rfl
theorem v_Check {t : Tr} {S : VH} (h : t.okB 1 false = true) (hs : t.rows.length ≤ 3000) : VCall VT F_core_Check [tv t] [] S = some (.nilI, [], S) := by
  have hp := t.pos
  have e1 : ¬ (t.rows.length : Int) = 0 := by omega
  have e0 : ¬ t.rows = [] := fun e => by rw [e] at hp; simp at hp
  have e2 : ¬ (3000 : Int) < (t.rows.length : Int) := by omega
  have hL := v_look t 1 false [] [] (t.rows.length : Int) true S h (fun _ => rfl) (fun _ => rfl) (by simp) (by simp) (by omega) (by simp; omega)
  simp only [List.nil_append, List.append_nil, List.length_nil, Int.cast_ofNat_Int, Int.natCast_zero, Int.natCast_one] at hL
  rw [VCall_of (F := a_core_Check) rfl rfl rfl rfl]
  simp -implicitDefEqProofs [a_core_Check, c_core_Check, binA, e0, e1, e2, hL]
theorem v_Files_0 {S : VH} {i : Nat} {tr : List Event} {a : List Row} {own : List Nat} (hi : i < S.next) (hg : S.get i = some (.cells (encK ⟨tr, .lst 2 [], a⟩) own)) : VCall VT F_world_Kernel_Files [.ptr (some (i, 0))] [] S = some (.lst 2 [], [], S) := by
  rw [VCall_frz (F := a_world_Kernel_Files) rfl rfl rfl rfl]
  by_cases o1 : 1 ∈ own <;> simp -implicitDefEqProofs [a_world_Kernel_Files, c_world_Kernel_Files, binA, hi, hg, v_Clone_File, o1]
theorem InvE.toX {E : Option Nat} {S : VH} {I : Ids} {st : RSt} (h : InvE E S I st) : InvX S I st := by
  cases E with
  | none => exact Inv.toX (I := I) h
  | some g => exact h
def resL (E : Option Nat) (v : Int) (st : RSt) : List V := [.int .i64 (if E = none then v else 0), errO E, evsV' st.K.trace, valsV st.X.all, .lst 2 [], .int .i64 st.steps]
theorem v_Run {S : VH} (h : GlOk S) (hn : 100 ≤ S.next) {mx dm : Int} {inn : Str} {a : List Row} (ha : a.length ≤ 50) (hok : ∀ r ∈ a, r.ok) (hm : 0 ≤ mx ∧ mx ≤ 1500) (hd : 0 ≤ dm ∧ dm ≤ 25) (hi : inn.length ≤ 2000)
    {t : Tr} (hk : t.okB 1 false = true) (hs : t.rows.length ≤ 3000) {E : Option Nat} {v : Int} {st' : RSt} (hD : DoOk mx dm t (rs0 (.lst 2 []) a inn) E v st') (hx : st'.X.ok) (hl : st'.X.vars.length < 1000000) (hkk : ∀ e ∈ st'.X.vars, e.1.length ≤ 1000000) (ht : st'.K.trace.length < 1000000) (hto : ∀ e ∈ st'.K.trace, e.l.length < 1000000) (hF : st'.K.files = .lst 2 []) :
    VCall VT F_run_Run [tv t, .agg [.lst 2 [], rowsV a], optV mx dm inn] [] S = some (.tup [.agg (resL E v st'), .nilI], [], S) := by
  have h3 := ((h.push hn (o := .cells [.lst 2 [], rowsV a] [])).push (by simp; omega) (o := .cells (optL mx dm inn) [])).push (by simp; omega) (o := .cells [.int .i64 0, .nilI, .lst 5 [], .lst 2 [], .lst 2 [], .int .i64 0] [2, 3, 4])
  have hC := fun S => v_Check (S := S) hk hs
  obtain ⟨S1, I, i1, i2, b1, b2, b3, b4⟩ := v_begin' h3 (by simp; omega) ha hok hm hd hi
  obtain ⟨S2, d1, d2, d3⟩ := hD.run S1 I i1 i2 b2
  have hX := d2.toX
  have hsn := hX.hr
  have hX3 : InvX (S2.push (.cells [.int .i64 0, .nilI, .lst 5 [], .lst 2 [], .lst 2 [], .int .i64 0] [2, 3, 4])) I st' := hX.ext (by simp) rfl fun q hq => by
    have : ¬ q = S2.next := by
      have e1 := hX.hr
      have e2 := hX.hk
      have e3 := hX.hx.hs
      have e4 := hX.hx.hv
      have e5 := hX.hx.hf
      omega
    simp [this]
  obtain ⟨cv, own, gr, hO⟩ := hX.gr
  obtain ⟨⟨n0, n1, n2, n3, n4⟩, n7, n8, n9, n10, n11, n12⟩ := hO.no
  obtain ⟨ok, gk, gk0⟩ := hX3.gk
  have hKe : encK st'.K = encK ⟨st'.K.trace, .lst 2 [], st'.K.rows⟩ := by simp [encK, hF]
  have hT := v_Trace ht hto hX3.hk.1 gk gk0
  have hV := v_Vars hX3.hx hx hl hkk
  have hFi : VCall VT F_world_Kernel_Files [.ptr (some (I.k, 0))] [] _ = some (.lst 2 [], [], _) := v_Files_0 (S := S2.push (.cells [.int .i64 0, .nilI, .lst 5 [], .lst 2 [], .lst 2 [], .int .i64 0] [2, 3, 4])) (tr := st'.K.trace) (a := st'.K.rows) (own := ok) hX3.hk.1 (by rw [← hKe]; exact gk)
  have hgl := hX.g.gl
  have hrl := hX.hr.1
  have hkl := hX.hk.1
  have hsl := hX.hx.hs
  have hfr : ∀ q, q < S.next + 1 + 1 + 1 → S2.get q = ((((S.push (.cells [.lst 2 [], rowsV a] [])).push (.cells (optL mx dm inn) [])).push (.cells [.int .i64 0, .nilI, .lst 5 [], .lst 2 [], .lst 2 [], .int .i64 0] [2, 3, 4])).get q) := fun q hq => by
    rw [d3.get q (by have := b3.1; simp at this; omega) (fun e => by have := b4 q e; simp at this; omega)]
    exact b3.2 q (by simp; omega)
  have hnx : S.next + 1 + 1 + 1 ≤ S2.next := by have := b3.1; have := d3.next; simp at *; omega
  have g6 : S2.get (S.next + 1 + 1) = some (.cells [.int .i64 0, .nilI, .lst 5 [], .lst 2 [], .lst 2 [], .int .i64 0] [2, 3, 4]) := by rw [hfr _ (by omega)]; simp
  have a1 : ¬ S.next = S.next + 1 + 1 := by omega
  have a2 : ¬ S.next + 1 = S.next + 1 + 1 := by omega
  have a3 : ¬ S.next + 1 = S.next := by omega
  have a4 : ¬ S.next + 1 + 1 = S.next := by omega
  have a5 : ¬ I.r = S2.next := by omega
  have a6 : ¬ S.next = S.next + 1 := by omega
  have a7 : ¬ S.next + 1 + 1 = S2.next := by omega
  have a8 : ¬ S.next + 1 = S2.next := by omega
  have a9 : ¬ S2.next = S.next + 1 + 1 := by omega
  have a10 : S.next + 1 + 1 < S2.next := by omega
  unfold encX at gr
  rw [VCall_of (F := a_run_Run) rfl rfl rfl rfl]
  cases E with
  | none =>
    simp -implicitDefEqProofs [a_run_Run, c_run_Run, binA, hC, b1, d1, gr, gk, gk0, hT, hV, hFi, hrl, hkl, hsl, n0, n1, n2, n3, n4, n7, n8, n9, n10, n11, n12, hgl, a1, a2, a3, a4, a5, a6, a7, a8, a9, a10, hnx, g6, v_As_nil, errO, resL]
    refine fresh_fin fun q hq => ?_
    have b1 : ¬ q = S2.next := by omega
    have b2 : ¬ q = S2.next + 1 := by omega
    have b3 : ¬ q = S.next + 1 + 1 := by omega
    have b4 : ¬ q = S.next + 1 := by omega
    have b5 : ¬ q = S.next := by omega
    simp [b1, b2, b3, hfr q (by omega), b4, b5]
  | some e =>
    have he := hD.err e rfl
    have hAs : ∀ S p, S.gl = glT → VCall VT F_errors_As [errG e, .ifc Ty_pprun_end (.ptr (some p))] [] S = some (.bool false, [], S) := fun S p hg => v_As_miss (by rw [hg]; rfl)
    simp -implicitDefEqProofs [a_run_Run, c_run_Run, binA, hC, b1, d1, gr, gk, gk0, hT, hV, hFi, hrl, hkl, hsl, n0, n1, n2, n3, n4, n7, n8, n9, n10, n11, n12, hgl, a1, a2, a3, a4, a5, a6, a7, a8, a9, a10, hnx, g6, hAs, errO, resL, he]
    refine fresh_fin fun q hq => ?_
    have b1 : ¬ q = S2.next := by omega
    have b2 : ¬ q = S2.next + 1 := by omega
    have b3 : ¬ q = S.next + 1 + 1 := by omega
    have b4 : ¬ q = S.next + 1 := by omega
    have b5 : ¬ q = S.next := by omega
    simp [b1, b2, b3, hfr q (by omega), b4, b5]
end Go.Proofs.YtbpgbhmibmcbnaaGreatDoor.Val

/-! patoislaw9's call, plain. -/
set_option linter.unusedSimpArgs false
set_option linter.unusedVariables false
namespace Go.Proofs.YtbpgbhmibmcbnaaGreatDoor.Val
open Go Go.Proofs.YtbpgbhmibmcbnaaGreatDoor.Ram

theorem tsv_snoc' {l : List Tr} {t : Tr} : tsv (l ++ [t]) = .lst 1 (l.map (fun t => [tv t]) ++ [[tv t]]) := by simp [tsv]
section
variable {S : VH}
theorem v_call_loop {a : List Str} (ha : a.length < 1000000) : ∀ (d j : Nat) (out : List Tr), j + d = a.length → out.length = j →
    loopX VT.E VT.Fl (VCall VT) c_patoislaw9_call_l0 ⟨[(0, strsV a), (3, tsv out), (4, .int .i64 j)], [(3, .own)], S⟩ = some (.exit 0, ⟨[(0, strsV a), (3, tsv (out ++ (a.drop j).map litT)), (4, .int .i64 a.length), (8, .bool false)], [(3, .own)], S⟩) := by
  have hK : ∀ f w h, loopX VT.E VT.Fl (VCall VT) c_patoislaw9_call_l0 ⟨f, w, h⟩ = loopX VT.E VT.Fl (VCall VT) c_patoislaw9_call_l0 ⟨VFr.keep f [0, 3, 4], Rts.keep w.noCell [0, 3, 4], h⟩ := fun _ _ _ => loopX_keep
  intro d
  induction d with
  | zero =>
    intro j out hj ho
    obtain rfl : j = a.length := by omega
    rw [loopX_eq]
    simp -implicitDefEqProofs [c_patoislaw9_call_l0, binA]
  | succ d ih =>
    intro j out hj ho
    have h1 : j < a.length := by omega
    have hlt : (j : Int) < (a.length : Int) := by omega
    obtain ⟨x, hx, dx⟩ := next_at h1
    have hL := fun S => v_Lit (s := x) (S := S)
    have := ih (j + 1) (out ++ [litT x]) (by omega) (by simp; omega)
    have e7 : (out.length + 1) * 24 ≤ 140737488355328 := by omega
    push_cast at this
    rw [tsv_snoc'] at this
    rw [dx, loopX_eq]
    generalize loopX VT.E VT.Fl (VCall VT) c_patoislaw9_call_l0 = L at *
    simp -implicitDefEqProofs [c_patoislaw9_call_l0, binA, hlt, hx, hL, e7, wrap_succ h1 (by omega)]
    rw [hK]
    simpa [litT] using this
theorem v_lcall {a : List Str} (ha : a.length < 100000) : VCall VT F_patoislaw9_call [strsV a] [] S = some (tv (callT a), [], S) := by
  have hl := v_call_loop (S := S) (a := a) (by omega) a.length 0 [] (by omega) rfl
  have hN : ∀ S, VCall VT F_core_New [.int .i64 21, .int .i64 0, .str [], tsv (a.map litT)] [] S = some (tv (callT a), [], S) := fun S => v_coreNew (by simp; omega) (by rw [rows_lits]; omega)
  push_cast at hl
  simp only [List.drop_zero, List.nil_append] at hl
  have hl : loopX VT.E VT.Fl (VCall VT) c_patoislaw9_call_l0 ⟨[(0, strsV a), (3, .lst 1 []), (4, .int .i64 0)], [(3, .own)], S⟩ = _ := hl
  rw [VCall_of (F := a_patoislaw9_call) rfl rfl rfl rfl]
  simp -implicitDefEqProofs [a_patoislaw9_call, c_patoislaw9_call, binA, hl, hN]
end
end Go.Proofs.YtbpgbhmibmcbnaaGreatDoor.Val

/-! patoislaw9's plain; a run as a fact. -/
set_option linter.unusedSimpArgs false
set_option linter.unusedVariables false
namespace Go.Proofs.YtbpgbhmibmcbnaaGreatDoor.Val
open Go Go.Proofs.YtbpgbhmibmcbnaaGreatDoor.Ram

def wgB (b : Bool) : Option V → Option Bool
  | some (.bool c) => some (c == b)
  | some .und => some false
  | _ => none
theorem wantedV_g {f : VFr} {t : Nat} {b : Bool} : wantedV f (some (t, b)) = wgB b (VFr.get f t) := by
  simp only [wantedV]
  unfold wgB
  generalize VFr.get f t = o
  cases o with
  | none => rfl
  | some v => cases v <;> rfl
@[simp] theorem wgB_bool {b c : Bool} : wgB b (some (.bool c)) = some (c == b) := rfl
@[simp] theorem wgB_und {b : Bool} : wgB b (some .und) = some false := rfl
theorem read_eqV {E : Env} {f : VFr} {h : VH} {neg : Bool} {k : EqK} {x y : Opd} : readV E f h (.eq neg k x y) = (evV f x).bind fun a => (evV f y).bind fun b => (eqV E h (x.isC || y.isC) k a b).map fun r => .bool (if neg then !r else r) := rfl
structure RunIs (mx dm : Int) (inn : Str) (t : Tr) (E : Option Nat) (v : Int) (st' : RSt) : Prop where
  m : 0 ≤ mx ∧ mx ≤ 1500
  d : 0 ≤ dm ∧ dm ≤ 25
  i : inn.length ≤ 2000
  k : t.okB 1 false = true
  s : t.rows.length ≤ 3000
  D : DoOk mx dm t (rs0 (.lst 2 []) [] inn) E v st'
  x : st'.X.ok
  l : st'.X.vars.length < 1000000
  kk : ∀ e ∈ st'.X.vars, e.1.length ≤ 1000000
  t : st'.K.trace.length < 1000000
  to : ∀ e ∈ st'.K.trace, e.l.length < 1000000
  F : st'.K.files = .lst 2 []
abbrev emptyW : V := .agg [.lst 2 [], .lst 7 []]
def Up (S : VH) : Prop := GlOk S ∧ 100 ≤ S.next
theorem Up.push {S : VH} (h : Up S) {o : VObj} : Up (S.push o) := ⟨h.1.push h.2, by have := h.2; simp; omega⟩
theorem Up.set {S : VH} (h : Up S) {i : Nat} (hi : 100 ≤ i) {o : VObj} : Up (S.set i o) := ⟨h.1.set hi, h.2⟩
theorem Up.hide {S : VH} (h : Up S) {i : Nat} : Up (S.hide i) := ⟨⟨h.1.gl, fun q hq => by simp only [hide_get]; split; rfl; exact h.1.low q hq⟩, h.2⟩
section
variable {S : VH} {mx dm : Int} {inn : Str} {t : Tr} {E : Option Nat} {v : Int} {st' : RSt}
theorem v_RunI (R : RunIs mx dm inn t E v st') (h : Up S) : VCall VT F_run_Run [tv t, emptyW, optV mx dm inn] [] S = some (.tup [.agg (resL E v st'), .nilI], [], S) :=
  v_Run (a := []) h.1 h.2 (by simp) (fun r hr => by cases hr) R.m R.d R.i R.k R.s R.D R.x R.l R.kk R.t R.to R.F
theorem v_plain (R : RunIs mx dm inn t E v st') (h : Up S) : VCall VT F_patoislaw9_plain [tv t, emptyW, optV mx dm inn] [] S = some (.tup [.agg (resL E v st'), .bool (decide (E = none))], [], S) := by
  have h3 := ((h.push (o := .cells [.lst 2 [], .lst 7 []] [])).push (o := .cells (optL mx dm inn) [])).push (o := .cells [.int .i64 0, .nilI, .lst 5 [], .lst 2 [], .lst 2 [], .int .i64 0] [2, 3, 4])
  have hR := v_RunI R h3
  rw [VCall_of (F := a_patoislaw9_plain) rfl rfl rfl rfl]
  have a1 : ¬ S.next = S.next + 1 + 1 := by omega
  have a2 : ¬ S.next + 1 = S.next + 1 + 1 := by omega
  have a3 : ¬ S.next + 1 = S.next := by omega
  have a4 : ¬ S.next + 1 + 1 = S.next := by omega
  have a6 : ¬ S.next = S.next + 1 := by omega
  have a7 : ¬ S.next + 1 + 1 = S.next + 1 := by omega
  have b1 : ¬ S.next + 1 + 1 = S.next + 1 + 1 + 1 := by omega
  have b2 : ¬ S.next + 1 + 1 + 1 = S.next + 1 + 1 := by omega
  have b3 : ¬ S.next = S.next + 1 + 1 + 1 := by omega
  have b4 : ¬ S.next + 1 = S.next + 1 + 1 + 1 := by omega
  have hE : ∀ e, E = some e → e < 50 := R.D.err
  cases E with
  | none =>
    simp -implicitDefEqProofs [a_patoislaw9_plain, c_patoislaw9_plain, binA, hR, a1, a2, a3, a4, a6, a7, b1, b2, b3, b4, wantedV_g, read_eqV, resL, errO]
    refine fresh_fin fun q hq => ?_
    have c1 : ¬ q = S.next + 1 + 1 + 1 := by omega
    have c3 : ¬ q = S.next + 1 + 1 := by omega
    have c4 : ¬ q = S.next + 1 := by omega
    have c5 : ¬ q = S.next := by omega
    simp [c1, c3, c4, c5]
  | some e =>
    have he := hE e rfl
    simp -implicitDefEqProofs [a_patoislaw9_plain, c_patoislaw9_plain, binA, hR, a1, a2, a3, a4, a6, a7, b1, b2, b3, b4, wantedV_g, read_eqV, resL, errO, he]
    refine fresh_fin fun q hq => ?_
    have c1 : ¬ q = S.next + 1 + 1 + 1 := by omega
    have c3 : ¬ q = S.next + 1 + 1 := by omega
    have c4 : ¬ q = S.next + 1 := by omega
    have c5 : ¬ q = S.next := by omega
    simp [c1, c3, c4, c5]
end
end Go.Proofs.YtbpgbhmibmcbnaaGreatDoor.Val

/-! Numbers of blocks that lie near each other. -/
namespace Go.Proofs.YtbpgbhmibmcbnaaGreatDoor.Val
open Go Go.Proofs.YtbpgbhmibmcbnaaGreatDoor.Ram
@[simp] theorem nx0_1 {n : Nat} : (n = n + 1) = False := eq_false (by omega)
@[simp] theorem nx0_2 {n : Nat} : (n = n + 1 + 1) = False := eq_false (by omega)
@[simp] theorem nx0_3 {n : Nat} : (n = n + 1 + 1 + 1) = False := eq_false (by omega)
@[simp] theorem nx0_4 {n : Nat} : (n = n + 1 + 1 + 1 + 1) = False := eq_false (by omega)
@[simp] theorem nx0_5 {n : Nat} : (n = n + 1 + 1 + 1 + 1 + 1) = False := eq_false (by omega)
@[simp] theorem nx0_6 {n : Nat} : (n = n + 1 + 1 + 1 + 1 + 1 + 1) = False := eq_false (by omega)
@[simp] theorem nx0_7 {n : Nat} : (n = n + 1 + 1 + 1 + 1 + 1 + 1 + 1) = False := eq_false (by omega)
@[simp] theorem nx0_8 {n : Nat} : (n = n + 1 + 1 + 1 + 1 + 1 + 1 + 1 + 1) = False := eq_false (by omega)
@[simp] theorem nx1_0 {n : Nat} : (n + 1 = n) = False := eq_false (by omega)
@[simp] theorem nx1_2 {n : Nat} : (n + 1 = n + 1 + 1) = False := eq_false (by omega)
@[simp] theorem nx1_3 {n : Nat} : (n + 1 = n + 1 + 1 + 1) = False := eq_false (by omega)
@[simp] theorem nx1_4 {n : Nat} : (n + 1 = n + 1 + 1 + 1 + 1) = False := eq_false (by omega)
@[simp] theorem nx1_5 {n : Nat} : (n + 1 = n + 1 + 1 + 1 + 1 + 1) = False := eq_false (by omega)
@[simp] theorem nx1_6 {n : Nat} : (n + 1 = n + 1 + 1 + 1 + 1 + 1 + 1) = False := eq_false (by omega)
@[simp] theorem nx1_7 {n : Nat} : (n + 1 = n + 1 + 1 + 1 + 1 + 1 + 1 + 1) = False := eq_false (by omega)
@[simp] theorem nx1_8 {n : Nat} : (n + 1 = n + 1 + 1 + 1 + 1 + 1 + 1 + 1 + 1) = False := eq_false (by omega)
@[simp] theorem nx2_0 {n : Nat} : (n + 1 + 1 = n) = False := eq_false (by omega)
@[simp] theorem nx2_1 {n : Nat} : (n + 1 + 1 = n + 1) = False := eq_false (by omega)
@[simp] theorem nx2_3 {n : Nat} : (n + 1 + 1 = n + 1 + 1 + 1) = False := eq_false (by omega)
@[simp] theorem nx2_4 {n : Nat} : (n + 1 + 1 = n + 1 + 1 + 1 + 1) = False := eq_false (by omega)
@[simp] theorem nx2_5 {n : Nat} : (n + 1 + 1 = n + 1 + 1 + 1 + 1 + 1) = False := eq_false (by omega)
@[simp] theorem nx2_6 {n : Nat} : (n + 1 + 1 = n + 1 + 1 + 1 + 1 + 1 + 1) = False := eq_false (by omega)
@[simp] theorem nx2_7 {n : Nat} : (n + 1 + 1 = n + 1 + 1 + 1 + 1 + 1 + 1 + 1) = False := eq_false (by omega)
@[simp] theorem nx2_8 {n : Nat} : (n + 1 + 1 = n + 1 + 1 + 1 + 1 + 1 + 1 + 1 + 1) = False := eq_false (by omega)
@[simp] theorem nx3_0 {n : Nat} : (n + 1 + 1 + 1 = n) = False := eq_false (by omega)
@[simp] theorem nx3_1 {n : Nat} : (n + 1 + 1 + 1 = n + 1) = False := eq_false (by omega)
@[simp] theorem nx3_2 {n : Nat} : (n + 1 + 1 + 1 = n + 1 + 1) = False := eq_false (by omega)
@[simp] theorem nx3_4 {n : Nat} : (n + 1 + 1 + 1 = n + 1 + 1 + 1 + 1) = False := eq_false (by omega)
@[simp] theorem nx3_5 {n : Nat} : (n + 1 + 1 + 1 = n + 1 + 1 + 1 + 1 + 1) = False := eq_false (by omega)
@[simp] theorem nx3_6 {n : Nat} : (n + 1 + 1 + 1 = n + 1 + 1 + 1 + 1 + 1 + 1) = False := eq_false (by omega)
@[simp] theorem nx3_7 {n : Nat} : (n + 1 + 1 + 1 = n + 1 + 1 + 1 + 1 + 1 + 1 + 1) = False := eq_false (by omega)
@[simp] theorem nx3_8 {n : Nat} : (n + 1 + 1 + 1 = n + 1 + 1 + 1 + 1 + 1 + 1 + 1 + 1) = False := eq_false (by omega)
@[simp] theorem nx4_0 {n : Nat} : (n + 1 + 1 + 1 + 1 = n) = False := eq_false (by omega)
@[simp] theorem nx4_1 {n : Nat} : (n + 1 + 1 + 1 + 1 = n + 1) = False := eq_false (by omega)
@[simp] theorem nx4_2 {n : Nat} : (n + 1 + 1 + 1 + 1 = n + 1 + 1) = False := eq_false (by omega)
@[simp] theorem nx4_3 {n : Nat} : (n + 1 + 1 + 1 + 1 = n + 1 + 1 + 1) = False := eq_false (by omega)
@[simp] theorem nx4_5 {n : Nat} : (n + 1 + 1 + 1 + 1 = n + 1 + 1 + 1 + 1 + 1) = False := eq_false (by omega)
@[simp] theorem nx4_6 {n : Nat} : (n + 1 + 1 + 1 + 1 = n + 1 + 1 + 1 + 1 + 1 + 1) = False := eq_false (by omega)
@[simp] theorem nx4_7 {n : Nat} : (n + 1 + 1 + 1 + 1 = n + 1 + 1 + 1 + 1 + 1 + 1 + 1) = False := eq_false (by omega)
@[simp] theorem nx4_8 {n : Nat} : (n + 1 + 1 + 1 + 1 = n + 1 + 1 + 1 + 1 + 1 + 1 + 1 + 1) = False := eq_false (by omega)
@[simp] theorem nx5_0 {n : Nat} : (n + 1 + 1 + 1 + 1 + 1 = n) = False := eq_false (by omega)
@[simp] theorem nx5_1 {n : Nat} : (n + 1 + 1 + 1 + 1 + 1 = n + 1) = False := eq_false (by omega)
@[simp] theorem nx5_2 {n : Nat} : (n + 1 + 1 + 1 + 1 + 1 = n + 1 + 1) = False := eq_false (by omega)
@[simp] theorem nx5_3 {n : Nat} : (n + 1 + 1 + 1 + 1 + 1 = n + 1 + 1 + 1) = False := eq_false (by omega)
@[simp] theorem nx5_4 {n : Nat} : (n + 1 + 1 + 1 + 1 + 1 = n + 1 + 1 + 1 + 1) = False := eq_false (by omega)
@[simp] theorem nx5_6 {n : Nat} : (n + 1 + 1 + 1 + 1 + 1 = n + 1 + 1 + 1 + 1 + 1 + 1) = False := eq_false (by omega)
@[simp] theorem nx5_7 {n : Nat} : (n + 1 + 1 + 1 + 1 + 1 = n + 1 + 1 + 1 + 1 + 1 + 1 + 1) = False := eq_false (by omega)
@[simp] theorem nx5_8 {n : Nat} : (n + 1 + 1 + 1 + 1 + 1 = n + 1 + 1 + 1 + 1 + 1 + 1 + 1 + 1) = False := eq_false (by omega)
@[simp] theorem nx6_0 {n : Nat} : (n + 1 + 1 + 1 + 1 + 1 + 1 = n) = False := eq_false (by omega)
@[simp] theorem nx6_1 {n : Nat} : (n + 1 + 1 + 1 + 1 + 1 + 1 = n + 1) = False := eq_false (by omega)
@[simp] theorem nx6_2 {n : Nat} : (n + 1 + 1 + 1 + 1 + 1 + 1 = n + 1 + 1) = False := eq_false (by omega)
@[simp] theorem nx6_3 {n : Nat} : (n + 1 + 1 + 1 + 1 + 1 + 1 = n + 1 + 1 + 1) = False := eq_false (by omega)
@[simp] theorem nx6_4 {n : Nat} : (n + 1 + 1 + 1 + 1 + 1 + 1 = n + 1 + 1 + 1 + 1) = False := eq_false (by omega)
@[simp] theorem nx6_5 {n : Nat} : (n + 1 + 1 + 1 + 1 + 1 + 1 = n + 1 + 1 + 1 + 1 + 1) = False := eq_false (by omega)
@[simp] theorem nx6_7 {n : Nat} : (n + 1 + 1 + 1 + 1 + 1 + 1 = n + 1 + 1 + 1 + 1 + 1 + 1 + 1) = False := eq_false (by omega)
@[simp] theorem nx6_8 {n : Nat} : (n + 1 + 1 + 1 + 1 + 1 + 1 = n + 1 + 1 + 1 + 1 + 1 + 1 + 1 + 1) = False := eq_false (by omega)
@[simp] theorem nx7_0 {n : Nat} : (n + 1 + 1 + 1 + 1 + 1 + 1 + 1 = n) = False := eq_false (by omega)
@[simp] theorem nx7_1 {n : Nat} : (n + 1 + 1 + 1 + 1 + 1 + 1 + 1 = n + 1) = False := eq_false (by omega)
@[simp] theorem nx7_2 {n : Nat} : (n + 1 + 1 + 1 + 1 + 1 + 1 + 1 = n + 1 + 1) = False := eq_false (by omega)
@[simp] theorem nx7_3 {n : Nat} : (n + 1 + 1 + 1 + 1 + 1 + 1 + 1 = n + 1 + 1 + 1) = False := eq_false (by omega)
@[simp] theorem nx7_4 {n : Nat} : (n + 1 + 1 + 1 + 1 + 1 + 1 + 1 = n + 1 + 1 + 1 + 1) = False := eq_false (by omega)
@[simp] theorem nx7_5 {n : Nat} : (n + 1 + 1 + 1 + 1 + 1 + 1 + 1 = n + 1 + 1 + 1 + 1 + 1) = False := eq_false (by omega)
@[simp] theorem nx7_6 {n : Nat} : (n + 1 + 1 + 1 + 1 + 1 + 1 + 1 = n + 1 + 1 + 1 + 1 + 1 + 1) = False := eq_false (by omega)
@[simp] theorem nx7_8 {n : Nat} : (n + 1 + 1 + 1 + 1 + 1 + 1 + 1 = n + 1 + 1 + 1 + 1 + 1 + 1 + 1 + 1) = False := eq_false (by omega)
@[simp] theorem nx8_0 {n : Nat} : (n + 1 + 1 + 1 + 1 + 1 + 1 + 1 + 1 = n) = False := eq_false (by omega)
@[simp] theorem nx8_1 {n : Nat} : (n + 1 + 1 + 1 + 1 + 1 + 1 + 1 + 1 = n + 1) = False := eq_false (by omega)
@[simp] theorem nx8_2 {n : Nat} : (n + 1 + 1 + 1 + 1 + 1 + 1 + 1 + 1 = n + 1 + 1) = False := eq_false (by omega)
@[simp] theorem nx8_3 {n : Nat} : (n + 1 + 1 + 1 + 1 + 1 + 1 + 1 + 1 = n + 1 + 1 + 1) = False := eq_false (by omega)
@[simp] theorem nx8_4 {n : Nat} : (n + 1 + 1 + 1 + 1 + 1 + 1 + 1 + 1 = n + 1 + 1 + 1 + 1) = False := eq_false (by omega)
@[simp] theorem nx8_5 {n : Nat} : (n + 1 + 1 + 1 + 1 + 1 + 1 + 1 + 1 = n + 1 + 1 + 1 + 1 + 1) = False := eq_false (by omega)
@[simp] theorem nx8_6 {n : Nat} : (n + 1 + 1 + 1 + 1 + 1 + 1 + 1 + 1 = n + 1 + 1 + 1 + 1 + 1 + 1) = False := eq_false (by omega)
@[simp] theorem nx8_7 {n : Nat} : (n + 1 + 1 + 1 + 1 + 1 + 1 + 1 + 1 = n + 1 + 1 + 1 + 1 + 1 + 1 + 1) = False := eq_false (by omega)
@[simp] theorem lx2 {n : Nat} : n < n + 1 + 1 := by omega
@[simp] theorem lx3 {n : Nat} : n < n + 1 + 1 + 1 := by omega
@[simp] theorem lx4 {n : Nat} : n < n + 1 + 1 + 1 + 1 := by omega
@[simp] theorem lx5 {n : Nat} : n < n + 1 + 1 + 1 + 1 + 1 := by omega
@[simp] theorem lx6 {n : Nat} : n < n + 1 + 1 + 1 + 1 + 1 + 1 := by omega
@[simp] theorem lx7 {n : Nat} : n < n + 1 + 1 + 1 + 1 + 1 + 1 + 1 := by omega
@[simp] theorem lx8 {n : Nat} : n < n + 1 + 1 + 1 + 1 + 1 + 1 + 1 + 1 := by omega
@[simp] theorem lx1_2 {n : Nat} : n + 1 < n + 1 + 1 := by omega
@[simp] theorem lx1_3 {n : Nat} : n + 1 < n + 1 + 1 + 1 := by omega
@[simp] theorem lx1_4 {n : Nat} : n + 1 < n + 1 + 1 + 1 + 1 := by omega
@[simp] theorem lx1_5 {n : Nat} : n + 1 < n + 1 + 1 + 1 + 1 + 1 := by omega
@[simp] theorem lx1_6 {n : Nat} : n + 1 < n + 1 + 1 + 1 + 1 + 1 + 1 := by omega
@[simp] theorem lx1_7 {n : Nat} : n + 1 < n + 1 + 1 + 1 + 1 + 1 + 1 + 1 := by omega
@[simp] theorem lx1_8 {n : Nat} : n + 1 < n + 1 + 1 + 1 + 1 + 1 + 1 + 1 + 1 := by omega
@[simp] theorem lx2_3 {n : Nat} : n + 1 + 1 < n + 1 + 1 + 1 := by omega
@[simp] theorem lx2_4 {n : Nat} : n + 1 + 1 < n + 1 + 1 + 1 + 1 := by omega
@[simp] theorem lx2_5 {n : Nat} : n + 1 + 1 < n + 1 + 1 + 1 + 1 + 1 := by omega
@[simp] theorem lx2_6 {n : Nat} : n + 1 + 1 < n + 1 + 1 + 1 + 1 + 1 + 1 := by omega
@[simp] theorem lx2_7 {n : Nat} : n + 1 + 1 < n + 1 + 1 + 1 + 1 + 1 + 1 + 1 := by omega
@[simp] theorem lx2_8 {n : Nat} : n + 1 + 1 < n + 1 + 1 + 1 + 1 + 1 + 1 + 1 + 1 := by omega
@[simp] theorem lx3_4 {n : Nat} : n + 1 + 1 + 1 < n + 1 + 1 + 1 + 1 := by omega
@[simp] theorem lx3_5 {n : Nat} : n + 1 + 1 + 1 < n + 1 + 1 + 1 + 1 + 1 := by omega
@[simp] theorem lx3_6 {n : Nat} : n + 1 + 1 + 1 < n + 1 + 1 + 1 + 1 + 1 + 1 := by omega
@[simp] theorem lx3_7 {n : Nat} : n + 1 + 1 + 1 < n + 1 + 1 + 1 + 1 + 1 + 1 + 1 := by omega
@[simp] theorem lx3_8 {n : Nat} : n + 1 + 1 + 1 < n + 1 + 1 + 1 + 1 + 1 + 1 + 1 + 1 := by omega
@[simp] theorem lx4_5 {n : Nat} : n + 1 + 1 + 1 + 1 < n + 1 + 1 + 1 + 1 + 1 := by omega
@[simp] theorem lx4_6 {n : Nat} : n + 1 + 1 + 1 + 1 < n + 1 + 1 + 1 + 1 + 1 + 1 := by omega
@[simp] theorem lx4_7 {n : Nat} : n + 1 + 1 + 1 + 1 < n + 1 + 1 + 1 + 1 + 1 + 1 + 1 := by omega
@[simp] theorem lx4_8 {n : Nat} : n + 1 + 1 + 1 + 1 < n + 1 + 1 + 1 + 1 + 1 + 1 + 1 + 1 := by omega
@[simp] theorem lx5_6 {n : Nat} : n + 1 + 1 + 1 + 1 + 1 < n + 1 + 1 + 1 + 1 + 1 + 1 := by omega
@[simp] theorem lx5_7 {n : Nat} : n + 1 + 1 + 1 + 1 + 1 < n + 1 + 1 + 1 + 1 + 1 + 1 + 1 := by omega
@[simp] theorem lx5_8 {n : Nat} : n + 1 + 1 + 1 + 1 + 1 < n + 1 + 1 + 1 + 1 + 1 + 1 + 1 + 1 := by omega
@[simp] theorem lx6_7 {n : Nat} : n + 1 + 1 + 1 + 1 + 1 + 1 < n + 1 + 1 + 1 + 1 + 1 + 1 + 1 := by omega
@[simp] theorem lx6_8 {n : Nat} : n + 1 + 1 + 1 + 1 + 1 + 1 < n + 1 + 1 + 1 + 1 + 1 + 1 + 1 + 1 := by omega
@[simp] theorem lx7_8 {n : Nat} : n + 1 + 1 + 1 + 1 + 1 + 1 + 1 < n + 1 + 1 + 1 + 1 + 1 + 1 + 1 + 1 := by omega
theorem Fresh.refl (S : VH) : Fresh S S := ⟨Nat.le_refl _, fun _ _ => rfl⟩
theorem Fresh.push {S X : VH} (h : Fresh S X) {o : VObj} : Fresh S (X.push o) := ⟨by have := h.1; simp; omega, fun q hq => by
  have := h.1
  have e : ¬ q = X.next := by omega
  simp [e, h.2 q hq]⟩
theorem fin_of {S X : VH} (h : Fresh S X) : cloH S X ∧ VH.trim S X = S := ⟨h.clo, h.trim⟩
end Go.Proofs.YtbpgbhmibmcbnaaGreatDoor.Val

/-! patoislaw9's first. -/
set_option linter.unusedSimpArgs false
set_option linter.unusedVariables false
namespace Go.Proofs.YtbpgbhmibmcbnaaGreatDoor.Val
open Go Go.Proofs.YtbpgbhmibmcbnaaGreatDoor.Ram

attribute [simp] Up.push Up.hide
@[simp] theorem Up.set' {S : VH} (h : Up S) {i k : Nat} (hi : 100 ≤ i) {o : VObj} : Up (S.set (i + k) o) := h.set (by omega)
theorem eq_errs {S : VH} {cst : Bool} {a b : Nat} (h : Up S) (ha : errL.contains a = true) (hb : errL.contains b = true) (la : a < 50) (lb : b < 50) : eqV VT.E S cst .ifc (errG a) (errG b) = some (a == b) := by
  have := h.1.same ha hb la lb
  show (if Ty_perrors_errorString = Ty_perrors_errorString then (if VT.E.ptrTypes.contains Ty_perrors_errorString then ptrEqV VT.E S (some (50 + a, 0)) (some (50 + b, 0)) else none) else some false) = _
  rw [if_pos rfl, this]; rfl
def seqFT : Tr := .mk 23 0 [] [.mk 31 0 [102] [callT [[102]]], callT [[102]]]
def pipeT : Tr := .mk 32 0 [] [callT [nEcho, [97]], callT [nCat]]
def whileT : Tr := .mk 28 0 [] [callT [nTrue], .mk 20 0 [] []]
theorem runA : RunIs 1500 25 [] (callT [nEcho, [97]]) none 0 { rs0 (.lst 2 []) [] [] with K := ⟨[⟨3, 0, [], [97, 10], []⟩], .lst 2 [], []⟩, steps := 1 } :=
  ⟨by omega, by omega, by simp, by decide, by simp [callT, litT, Tr.rows, rowsT], first_a, by simp [rs0, Sto.ok], by simp [rs0], by simp [rs0], by simp, by simp, rfl⟩
theorem runB : RunIs 1500 25 [] pipeT none 0 { rs0 (.lst 2 []) [] [] with K := ⟨[⟨4, 2, [], [], []⟩, ⟨3, 0, [], [97, 10], []⟩, ⟨6, 2, [], [], []⟩], .lst 2 [], []⟩, steps := 3 } :=
  ⟨by omega, by omega, by simp, by decide, by simp [pipeT, callT, litT, Tr.rows, rowsT], first_b, by simp [rs0, Sto.ok], by simp [rs0], by simp [rs0], by simp, by simp, rfl⟩
theorem runC : RunIs 1500 25 [] whileT (some G_api_ErrFuel) 0 { rs0 (.lst 2 []) [] [] with steps := 1500 } :=
  ⟨by omega, by omega, by simp, by decide, by simp [whileT, callT, litT, Tr.rows, rowsT], first_c, by simp [rs0, Sto.ok], by simp [rs0], by simp [rs0], by simp [rs0], by simp [rs0], rfl⟩
theorem runD : RunIs 1500 25 [] seqFT (some G_api_ErrDeep) 0 { rs0 (.lst 2 []) [] [] with X := ⟨[], [], [([102], callT [[102]])]⟩, steps := 27, depth := 25 } :=
  ⟨by omega, by omega, by simp, by decide, by simp [seqFT, callT, litT, Tr.rows, rowsT], first_d, by simp [rs0, Sto.ok, callT, litT, Tr.rows, rowsT], by simp [rs0], by simp [rs0], by simp [rs0], by simp [rs0], rfl⟩
section
variable {S : VH}
set_option maxRecDepth 100000 in
theorem v_first (h : Up S) : VCall VT F_patoislaw9_first [] [] S = some (.bool true, [], S) := by
  have h100 := h.2
  have hA := fun S hs => v_RunI (S := S) runA hs
  have hB := fun S hs => v_RunI (S := S) runB hs
  have hC := fun S hs => v_RunI (S := S) runC hs
  have hD := fun S hs => v_RunI (S := S) runD hs
  have cA : ∀ S, VCall VT F_patoislaw9_call [.lst 1 [[.str [101, 99, 104, 111]], [.str [97]]]] [] S = some (tv (callT [nEcho, [97]]), [], S) := fun S => v_lcall (a := [nEcho, [97]]) (by simp)
  have cC : ∀ S, VCall VT F_patoislaw9_call [.lst 1 [[.str [99, 97, 116]]]] [] S = some (tv (callT [nCat]), [], S) := fun S => v_lcall (a := [nCat]) (by simp)
  have cT : ∀ S, VCall VT F_patoislaw9_call [.lst 1 [[.str [116, 114, 117, 101]]]] [] S = some (tv (callT [nTrue]), [], S) := fun S => v_lcall (a := [nTrue]) (by simp)
  have cF : ∀ S, VCall VT F_patoislaw9_call [.lst 1 [[.str [102]]]] [] S = some (tv (callT [[102]]), [], S) := fun S => v_lcall (a := [[102]]) (by simp)
  have nB : ∀ S, VCall VT F_core_New [.int .i64 32, .int .i64 0, .str [], .lst 1 [[tv (callT [nEcho, [97]])], [tv (callT [nCat])]]] [] S = some (tv pipeT, [], S) := fun S => v_coreNew (ks := [callT [nEcho, [97]], callT [nCat]]) (by simp) (by simp [callT, litT, Tr.rows, rowsT])
  have nN : ∀ S, VCall VT F_core_New [.int .i64 20, .int .i64 0, .str [], .lst 1 []] [] S = some (tv (.mk 20 0 [] []), [], S) := fun S => v_coreNew (ks := []) (by simp) (by simp [rowsT])
  have nC : ∀ S, VCall VT F_core_New [.int .i64 28, .int .i64 0, .str [], .lst 1 [[tv (callT [nTrue])], [tv (.mk 20 0 [] [])]]] [] S = some (tv whileT, [], S) := fun S => v_coreNew (ks := [callT [nTrue], .mk 20 0 [] []]) (by simp) (by simp [callT, litT, Tr.rows, rowsT])
  have nF : ∀ S, VCall VT F_core_New [.int .i64 31, .int .i64 0, .str [102], .lst 1 [[tv (callT [[102]])]]] [] S = some (tv (.mk 31 0 [102] [callT [[102]]]), [], S) := fun S => v_coreNew (ks := [callT [[102]]]) (by simp) (by simp [callT, litT, Tr.rows, rowsT])
  have nD : ∀ S, VCall VT F_core_New [.int .i64 23, .int .i64 0, .str [], .lst 1 [[tv (.mk 31 0 [102] [callT [[102]]])], [tv (callT [[102]])]]] [] S = some (tv seqFT, [], S) := fun S => v_coreNew (ks := [.mk 31 0 [102] [callT [[102]]], callT [[102]]]) (by simp) (by simp [callT, litT, Tr.rows, rowsT])
  have eF := fun S (hs : Up S) cst => eq_errs (S := S) (cst := cst) hs (a := G_api_ErrFuel) (b := G_api_ErrFuel) rfl rfl (by decide) (by decide)
  have eD := fun S (hs : Up S) cst => eq_errs (S := S) (cst := cst) hs (a := G_api_ErrDeep) (b := G_api_ErrDeep) rfl rfl (by decide) (by decide)
  obtain ⟨f1, f2⟩ := h.1.ld (g := G_api_ErrFuel) rfl (by decide)
  obtain ⟨d1, d2⟩ := h.1.ld (g := G_api_ErrDeep) rfl (by decide)
  simp only [emptyW, optV, optL, tv] at hA hB hC hD cA cC cT cF nB nN nC nF nD
  generalize hta : Tr.rows (callT [nEcho, [97]]) = ta at *
  generalize htb : Tr.rows (callT [nCat]) = tb at *
  generalize htc : Tr.rows (callT [nTrue]) = tc at *
  generalize htd : Tr.rows (callT [[102]]) = td at *
  generalize hte : Tr.rows (.mk 20 0 [] []) = te at *
  generalize htf : Tr.rows (.mk 31 0 [102] [callT [[102]]]) = tf at *
  generalize htg : Tr.rows pipeT = tg at *
  generalize hth : Tr.rows whileT = th at *
  generalize hti : Tr.rows seqFT = ti at *
  have lF : G_api_ErrFuel < 100 := by decide
  have lD : G_api_ErrDeep < 100 := by decide
  have qF0 : ¬ G_api_ErrFuel = S.next := by omega
  have qF1 : ¬ G_api_ErrFuel = S.next + 1 := by omega
  have qF2 : ¬ G_api_ErrFuel = S.next + 1 + 1 := by omega
  have qF3 : ¬ G_api_ErrFuel = S.next + 1 + 1 + 1 := by omega
  have qF4 : ¬ G_api_ErrFuel = S.next + 1 + 1 + 1 + 1 := by omega
  have qD0 : ¬ G_api_ErrDeep = S.next := by omega
  have qD1 : ¬ G_api_ErrDeep = S.next + 1 := by omega
  have qD2 : ¬ G_api_ErrDeep = S.next + 1 + 1 := by omega
  have qD3 : ¬ G_api_ErrDeep = S.next + 1 + 1 + 1 := by omega
  have qD4 : ¬ G_api_ErrDeep = S.next + 1 + 1 + 1 + 1 := by omega
  rw [VCall_of (F := a_patoislaw9_first) rfl rfl rfl rfl]
  simp -implicitDefEqProofs (maxDischargeDepth := 30) [a_patoislaw9_first, c_patoislaw9_first, binA, v_Defaults, hA, hB, hC, hD, cA, cC, cT, cF, nB, nN, nC, nF, nD, h, resL, errO, f1, f2, d1, d2, eF, eD, qF0, qF1, qF2, qF3, qF4, qD0, qD1, qD2, qD3, qD4]
  exact fin_of (by repeat (first | exact Fresh.refl _ | apply Fresh.push))
end
end Go.Proofs.YtbpgbhmibmcbnaaGreatDoor.Val

/-! The shell's own read. -/
set_option linter.unusedSimpArgs false
set_option linter.unusedVariables false
namespace Go.Proofs.YtbpgbhmibmcbnaaGreatDoor.Val
open Go Go.Proofs.YtbpgbhmibmcbnaaGreatDoor.Ram

theorem ix_at : ∀ (a b : Str), 10 ∉ a → ixL (a ++ 10 :: b) 10 = a.length
  | [], b, _ => rfl
  | x :: a, b, h => by
    have h1 := ix_at a b (fun e => h (List.mem_cons_of_mem _ e))
    have h2 : ¬ x = 10 := fun e => h (by simp [e])
    unfold ixL at h1 ⊢
    have e : (10 : Int).toNat.toUInt8 = 10 := rfl
    rw [e] at h1 ⊢
    rw [List.cons_append, Lib.indexByte, h1]
    have e2 : (x == 10) = false := by simpa using h2
    have e3 : ((a.length : Int) == -1) = false := by rw [beq_eq_false_iff_ne]; omega
    rw [e2, e3]
    simp
section
variable {S : VH} {q : Nat} {o : OutC} {own : List Nat} {i : Str}
theorem v_Index1 {s : Str} : VCall VT F_internal_stringslite_Index [.str s, .str [10]] [] S = some (.int .i64 (ixL s 10), [], S) := by
  have hi := v_IndexByte (a := s) (c := 10) (S := S)
  have hch : chrV (.str [10]) (.int .i64 0) = some (.int .u8 10) := rfl
  rw [VCall_of (F := a_internal_stringslite_Index) rfl rfl rfl rfl]
  by_cases e : [10] = s
  · subst e
    have h0 : ixL [10] 10 = 0 := ix_at [] [] (by simp)
    simp -implicitDefEqProofs [a_internal_stringslite_Index, c_internal_stringslite_Index, binA, hi, hch, h0]
  · simp -implicitDefEqProofs [a_internal_stringslite_Index, c_internal_stringslite_Index, binA, hi, hch, e]
theorem v_Cut {a b : Str} (ha : 10 ∉ a) (hl : a.length + b.length < 1000000) : VCall VT F_strings_Cut [.str (a ++ 10 :: b), .str [10]] [] S = some (.tup [.str a, .str b, .bool true], [], S) := by
  have hc : VCall VT F_internal_stringslite_Cut [.str (a ++ 10 :: b), .str [10]] [] S = some (.tup [.str a, .str b, .bool true], [], S) := by
    have hi := v_Index1 (s := a ++ 10 :: b) (S := S)
    rw [ix_at a b ha] at hi
    have e1 : IntKind.i64.wrap ((a.length : Int) + 1) = (a.length : Int) + 1 := Go.IntWalk.i64_in _ ⟨by omega, by omega⟩
    have e2 : slcV 0 (.str (a ++ 10 :: b)) none (some (.int .i64 (a.length : Int))) = some (.str a) := by simp [slcV, bndV, natV]
    have e3 : slcV 0 (.str (a ++ 10 :: b)) (some (.int .i64 ((a.length : Int) + 1))) none = some (.str b) := by
      have h1 : ((a.length : Int) + 1).toNat = a.length + 1 := by omega
      have h2 : (0 : Int) ≤ (a.length : Int) + 1 := by omega
      have h3 : (a ++ 10 :: b).drop (a.length + 1) = b := by rw [List.drop_append]; simp
      have h4 : (a ++ 10 :: b).take (a.length + (b.length + 1)) = a ++ 10 :: b := List.take_of_length_le (by simp)
      simp [slcV, bndV, natV, h1, h2, h3, h4]
    rw [VCall_of (F := a_internal_stringslite_Cut) rfl rfl rfl rfl]
    simp -implicitDefEqProofs [a_internal_stringslite_Cut, c_internal_stringslite_Cut, binA, hi, e1, e2, e3]
  rw [VCall_of (F := a_strings_Cut) rfl rfl rfl rfl]
  simp -implicitDefEqProofs [a_strings_Cut, c_strings_Cut, hc]
theorem v_test0 (hq : q < S.next) (hg : S.get q = some (.cells (outC o) own)) : VCall VT F_builtin_Outcome_test [.ptr (some (q, 0)), .bool false] [] S = some (.tup [], [], S.set q (.cells (outC { o with status := 1 }) (keepO own 2 1))) := by
  rw [VCall_of (F := a_builtin_Outcome_test) rfl rfl rfl rfl]
  simp -implicitDefEqProofs [a_builtin_Outcome_test, c_builtin_Outcome_test, hq, hg, trim_in hq]
theorem v_read_none (hq : q < S.next) (hg : S.get q = some (.cells (outC o) own)) {n : Str} (hn : goodN.contains n = true) : VCall VT F_builtin_read [.ptr (some (q, 0)), .str [], strsV [n]] [] S = some (.tup [], [], S.set q (.cells (outC { o with status := 1 }) (keepO own 2 1))) := by
  have hN := v_Name_good (S := S) hn
  have ht := v_test0 hq hg
  rw [VCall_of (F := a_builtin_read) rfl rfl rfl rfl]
  simp -implicitDefEqProofs [a_builtin_read, c_builtin_read, binA, hN, ht, hq, trim_in hq]
theorem v_read_line (hq : q < S.next) (hg : S.get q = some (.cells (outC o) own)) {n : Str} (hn : goodN.contains n = true) {a b : Str} (ha : 10 ∉ a) (hl : a.length + b.length < 1000000) : ∃ own', VCall VT F_builtin_read [.ptr (some (q, 0)), .str (a ++ 10 :: b), strsV [n]] [] S = some (.tup [], [], S.set q (.cells (outC { o with name := n, value := a, rest := b }) own')) := by
  have hN := v_Name_good (S := S) hn
  have hC := fun S => v_Cut (S := S) ha hl
  refine ⟨keepO (keepO (keepO own 3 1) 4 1) 1 1, ?_⟩
  rw [VCall_of (F := a_builtin_read) rfl rfl rfl rfl]
  simp -implicitDefEqProofs [a_builtin_read, c_builtin_read, binA, hN, hC, hq, hg, trim_in hq]
theorem b_read_none {n : Str} (hn : goodN.contains n = true) : BOk nRead [] [n] { out0 [] with status := 1 } := ⟨fun S => v_Do_is (g := F_builtin_read) rfl (fun _ _ => by simp) fun S1 q hq hg => ⟨_, v_read_none hq hg hn⟩⟩
theorem b_read_line {n : Str} (hn : goodN.contains n = true) {a b : Str} (ha : 10 ∉ a) (hl : a.length + b.length < 1000000) : BOk nRead (a ++ 10 :: b) [n] ⟨[], b, 0, n, a, false⟩ := ⟨fun S => v_Do_is (g := F_builtin_read) rfl (fun _ _ => by simp) fun S1 q hq hg => v_read_line hq hg hn ha hl⟩
end
end Go.Proofs.YtbpgbhmibmcbnaaGreatDoor.Val

/-! What the laws' programs come to: the two of RunFors. -/
set_option linter.unusedSimpArgs false
set_option linter.unusedVariables false
namespace Go.Proofs.YtbpgbhmibmcbnaaGreatDoor.Val
open Go Go.Proofs.YtbpgbhmibmcbnaaGreatDoor.Ram

theorem aset_get {α : Type} {l : List (Str × α)} {k : Str} {v : α} : aget (aset l k v) k = some v := by
  induction l with
  | nil => simp [aset, aget]
  | cons p l ih =>
    obtain ⟨k', v'⟩ := p
    unfold aset
    by_cases e : (k' == k) = true
    · rw [if_pos e]; simp [aget]
    · rw [if_neg e]
      unfold aget at ih ⊢
      rw [List.find?_cons_of_neg (by simpa using e)]
      exact ih
theorem aset_all {α : Type} {P : α → Prop} {l : List (Str × α)} {k : Str} {v : α} (h : ∀ p ∈ l, P p.2) (hv : P v) : ∀ p ∈ aset l k v, P p.2 := by
  induction l with
  | nil => intro p hp; simp [aset] at hp; subst hp; exact hv
  | cons q l ih =>
    obtain ⟨k', v'⟩ := q
    intro p hp
    unfold aset at hp
    split at hp
    · rcases List.mem_cons.1 hp with rfl | hp
      · exact hv
      · exact h p (List.mem_cons_of_mem _ hp)
    · rcases List.mem_cons.1 hp with rfl | hp
      · exact h _ (List.mem_cons_self ..)
      · exact ih (fun p hp => h p (List.mem_cons_of_mem _ hp)) p hp
theorem Sto.ok.setv {x : Sto} (h : x.ok) {n : Str} {l : List Str} (hl : l.length < 1000000) : Sto.ok { x with vars := aset x.vars n l } :=
  ⟨aset_all (P := fun y : List Str => y.length < 1000000) h.1 hl, h.2.1, h.2.2⟩
section
variable {mx dm : Int}
theorem RSt.Ok.setv {st : RSt} (h : st.Ok) {n : Str} {l : List Str} (hl : l.length < 1000000) : (st.setv n l).Ok := ⟨h.s0, h.d0, h.x.setv hl, h.t, h.c, h.f⟩
def forV (n : Str) (vs : List (Str × List Str)) (l : List Str) : List (Str × List Str) := l.foldl (fun vs s => aset vs n [s]) vs
end
end Go.Proofs.YtbpgbhmibmcbnaaGreatDoor.Val

/-! What the laws' programs come to: the second of RunFors. -/
set_option linter.unusedSimpArgs false
set_option linter.unusedVariables false
namespace Go.Proofs.YtbpgbhmibmcbnaaGreatDoor.Val
open Go Go.Proofs.YtbpgbhmibmcbnaaGreatDoor.Ram

def nNo : Str := [110, 111]
def noT (n : Str) : Tr := .mk 21 0 [] [litT nNo, .mk 2 0 n []]
section
variable {mx dm : Int}
theorem do_no (hm : mx < 1000000) {n s : Str} (hn : n ≠ starN) (hs : s.length ≤ 2000) {st : RSt} (hk : st.Ok) (hc : st.caught = none) (hf : aget st.X.funs nNo = none) (hv : aget st.X.vars n = some [s]) (hr : st.K.rows = []) (hst : st.steps < mx) (ht : st.K.trace.length < 900000) (hin : st.inn.length < 900000) :
    DoOk mx dm (noT n) st none 127 { st with K := { st.K with trace := st.K.trace ++ [⟨1, 127, nNo, [], [s]⟩] }, steps := st.steps + 1 } := by
  have hg : (st.stepped.X.get n).1 = [s] := by
    show (st.X.get n).1 = [s]
    unfold Sto.get
    rw [if_neg hn, hv]
  have hw : WordOk mx dm (.mk 2 0 n []) st.stepped none [s] st.stepped := by
    have := word_var (mx := mx) (dm := dm) (n := 0) (s := n) hk.stepped.x
    rwa [hg] at this
  have f1 : fitL [nNo] = true := rfl
  have f2 : fitL [nNo, s] = true := by simp [fitL, nNo]; omega
  have hq : TogOk mx dm catF (fun _ => True) [litT nNo, .mk 2 0 n []] none st.stepped none (nNo :: [s]) st.stepped :=
    .cons word_lit (by simp) trivial (by simp [catF, f1]; rfl) (by simp) (.cons hw (by simp) trivial (by simp [catF, f2]; rfl) (by simp) (.nil trivial (by simp [catF, f2])))
  have hfr : findRow st.K.rows nNo [s] = (noRow, false) := by rw [hr]; rfl
  have hfr' : findRow st.stepped.K.rows nNo [s] = (noRow, false) := hfr
  have hx : st.stepped.execd nNo [s] = { st with K := { st.K with trace := st.K.trace ++ [⟨1, 127, nNo, [], [s]⟩] }, steps := st.steps + 1 } := by
    unfold RSt.execd
    rw [hfr']
    simp [RSt.stepped, noRow]
  have hh : st.stepped.heard nNo [s] = [] := by
    unfold RSt.heard
    rw [hfr']
    simp [noRow]
  have h := do_call_x (mx := mx) (dm := dm) (k := 0) (s := []) (st := st) (ws := [litT nNo, .mk 2 0 n []]) (by simp [litT, Tr.rows, rowsT]) hm hk.s0 hst hq hk.stepped ht hf rfl (by simp) (by show st.K.rows.length < _; rw [hr]; simp) (by show ∀ r ∈ st.K.rows, _; rw [hr]; simp) hin (by rw [hfr']; simp [noRow]) (by rw [hh]; simp) (st2 := { st with K := { st.K with trace := st.K.trace ++ [⟨1, 127, nNo, [], [s]⟩] }, steps := st.steps + 1 }) (by rw [hx, hh]; simp [sayS, hc])
  rw [hfr'] at h
  exact h
end
end Go.Proofs.YtbpgbhmibmcbnaaGreatDoor.Val

/-! Rules: a command of the shell's own is called that gives a variable a value. -/
set_option linter.unusedSimpArgs false
set_option linter.unusedVariables false
namespace Go.Proofs.YtbpgbhmibmcbnaaGreatDoor.Val
open Go Go.Proofs.YtbpgbhmibmcbnaaGreatDoor.Ram

section
variable {mx dm : Int} {st : RSt}
theorem v_call_n {S : VH} {I : Ids} (h : Inv S I st) (hk : st.Ok) {n : Str} {args : List Str} {o : OutC} (hf : aget st.X.funs n = none) (hb : BOk n st.inn args o) (ho : o.name ≠ [] ∧ o.name ≠ starN ∧ o.fin = false ∧ o.value.length ≤ 2000) (hol : o.out.length < 1000000) {st2 : RSt} (hsay : sayS st o.out = some st2) :
    ∃ S', VCall VT F_run_runner_call [.ptr (some (I.r, 0)), strsV (n :: args)] [] S = some (.tup [.int .i64 o.status, .nilI], [], S') ∧ Inv S' I { st2 with inn := o.rest, X := { st2.X with vars := aset st2.X.vars o.name [o.value] } } ∧ Keep S S' I.has := by
  obtain ⟨own, gr, hO⟩ := h.gr
  obtain ⟨⟨n0, n1, n2, n3, n4⟩, n7, n8, n9, n10, n11, n12⟩ := hO.no
  have hF := v_Fun (n := n) h.hx hk.x
  rw [hf] at hF
  have hB := hb.run S
  have hP := h.push (o := .cells (outC o) [])
  rcases v_say hP hk.f hk.t hk.c hol with ⟨st3, S2, e1, k1, k2, k3, k4⟩ | ⟨e1, _⟩
  · rw [hsay] at e1
    obtain rfl := Option.some.inj e1
    obtain ⟨own2, gr2, hO2⟩ := k2.gr
    have hrl := h.hr.1
    have b1 : ¬ I.r = S.next := by omega
    have b2 : ¬ S.next = I.r := by omega
    have g10 : S2.get S.next = some (.cells (outC o) []) := by
      rw [k3.get S.next (by simp) (h.notNew (Nat.le_refl _))]; simp
    have hi3 := k2.setR (n := st2.steps) (d := st2.depth) (i := o.rest) (f := st2.file) (own := keepO own2 10 1) hO2.keep
    obtain ⟨ou, re, sta, na, va, fi⟩ := o
    obtain ⟨o1, o2, rfl, o4⟩ := ho
    have hS := v_Set (n := na) hi3.hx (l := [va]) (by simp) o2
    have hS : VCall VT F_store_values_Set [.ptr (some (I.s, 0)), .str na, .lst 1 [[.str va]]] [] _ = _ := hS
    have hi4 := hi3.setV hi3.hx.setVar (o := .map (amap strsV (aset st2.X.vars na [va])))
    refine ⟨_, ?_, hi4, ((Keep.push.trans k3).trans (Keep.set (.inl rfl))).trans (Keep.set (.inr (.inr (.inr (.inl rfl)))))⟩
    unfold encR at gr gr2 hS
    have c1 : ¬ ((args.length : Int) + 1 = 0) := by omega
    have c2 : ¬ (2000 : Int) < (va.length : Int) := by simp only at o4; omega
    have c3 : ¬ na = [] := o1
    have b3 : ¬ S.next = I.vm := by have := h.hx.hv; omega
    rw [VCall_made (F := a_run_runner_call) rfl rfl rfl rfl]
    simp -implicitDefEqProofs [a_run_runner_call, c_run_runner_call, binA, gr, n0, n1, n2, n3, n4, n7, n8, n9, n10, n11, n12, c1, c2, c3, slc_tail, hF, hB, k1, gr2, g10, b1, b2, b3, encR, hS]
  · rw [hsay] at e1; cases e1
theorem do_call_n {k : Int} {s : Str} {ws : List Tr} {n : Str} {args : List Str} {o : OutC} {st1 st2 : RSt} (hz : (rowsT ws).length < 800000) (hm : mx < 1000000) (h0 : 0 ≤ st.steps) (hs : st.steps < mx) (hq : TogOk mx dm catF (fun _ => True) ws none st.stepped none (n :: args) st1)
    (hk : st1.Ok) (hf : aget st1.X.funs n = none) (hb : BOk n st1.inn args o) (ho : o.name ≠ [] ∧ o.name ≠ starN ∧ o.fin = false ∧ o.value.length ≤ 2000) (hol : o.out.length < 1000000) (hsay : sayS st1 o.out = some st2) : DoOk mx dm (.mk 21 k s ws) st none o.status { st2 with inn := o.rest, X := { st2.X with vars := aset st2.X.vars o.name [o.value] } } := by
  have hz' : (Tr.rows (.mk 21 k s ws)).length < 900000 := by simp [Tr.rows]; omega
  have hkl := kids_le (.mk 21 k s ws)
  simp only [Tr.kids] at hkl
  refine ⟨hz', fun _ => ?_, fun e he => (by cases he), ?_⟩
  · obtain ⟨_, _, _, _, _, s6⟩ := sayS_same hsay
    show st2.caught.isSome = _
    rw [s6, hq.same rfl]; rfl
  intro S I hmx hd h
  have hk1 : VCall VT F_run_kids [tv (.mk 21 k s ws)] [] (S.push node0) = some (tsv ws, [], S.push node0) := v_kids (t := .mk 21 k s ws) (by omega) (by simp only [Tr.kids]; omega)
  obtain ⟨own, hst, hi⟩ := v_stepped (h.push (o := .cells (ndRow 21 k ws.length ((rowsT ws).length + 1 : Nat) s) [])) (by omega) h0 (by omega)
  obtain ⟨S1, k1, k2, k3⟩ := v_together cat_by hq (by omega) _ I hmx hd hi
  have k2 : Inv S1 I st1 := k2
  obtain ⟨S2, j1, j2, j3⟩ := v_call_n k2 hk hf hb ho hol hsay
  refine ⟨S2, ?_, j2, ((Keep.push.trans (Keep.set (.inl rfl))).trans k3).trans j3⟩
  have a1 : ¬ S.next = I.r := by have := h.hr.1; omega
  simp only [Int.natCast_add, Int.cast_ofNat_Int, errO, if_true] at k1 hst ⊢
  rw [VCall_made (F := a_run_runner_do) rfl rfl rfl rfl]
  simp -implicitDefEqProofs [a_run_runner_do, c_run_runner_do, binA, Tr.rows, hk1, hst, k1, j1, a1]
end
end Go.Proofs.YtbpgbhmibmcbnaaGreatDoor.Val

/-! The law RunFors. -/
set_option linter.unusedSimpArgs false
set_option linter.unusedVariables false
namespace Go.Proofs.YtbpgbhmibmcbnaaGreatDoor.Val
open Go Go.Proofs.YtbpgbhmibmcbnaaGreatDoor.Ram

section
variable {S : VH}
theorem forV_len {n : Str} {l : List Str} : ∀ {vs : List (Str × List Str)}, (∀ e ∈ vs, e.1 = n) → vs.length ≤ 1 → (forV n vs l).length ≤ 1 ∧ ∀ e ∈ forV n vs l, e.1 = n := by
  induction l with
  | nil => intro vs h1 h2; exact ⟨h2, h1⟩
  | cons s l ih =>
    intro vs h1 h2
    show (forV n (aset vs n [s]) l).length ≤ 1 ∧ ∀ e ∈ forV n (aset vs n [s]) l, e.1 = n
    have : aset vs n [s] = [(n, [s])] := by
      match vs, h1, h2 with
      | [], _, _ => rfl
      | [(k, v)], h1, _ =>
        have := h1 (k, v) (by simp)
        simp only at this; subst this
        simp [aset]
    rw [this]
    exact ih (vs := [(n, [s])]) (fun e he => by simp at he; rw [he]) (by simp)
theorem forV_vals {n : Str} : ∀ {l : List Str} {vs : List (Str × List Str)}, (∀ p ∈ vs, p.2.length < 1000000) → ∀ p ∈ forV n vs l, p.2.length < 1000000
  | [], vs, h => h
  | s :: l, vs, h => forV_vals (l := l) (aset_all (P := fun y : List Str => y.length < 1000000) h (by simp))
def pT (l : List Str) : Tr := .mk 29 0 [105] [.mk 3 0 [] (l.map litT), callT [nPut, [46]]]
def qT (l : List Str) : Tr := .mk 29 0 [105] [.mk 3 0 [] (l.map litT), noT [105]]
end
end Go.Proofs.YtbpgbhmibmcbnaaGreatDoor.Val

/-! What the laws' programs come to: RunWhiles's. -/
set_option linter.unusedSimpArgs false
set_option linter.unusedVariables false
namespace Go.Proofs.YtbpgbhmibmcbnaaGreatDoor.Val
open Go Go.Proofs.YtbpgbhmibmcbnaaGreatDoor.Ram

def inT (l : List Str) : Str := (l.map fun s => s ++ [10]).flatten
theorem inT_cons {s : Str} {l : List Str} : inT (s :: l) = s ++ 10 :: inT l := by simp [inT]
theorem inT_len {l : List Str} (h : ∀ s ∈ l, s.length ≤ 30) : (inT l).length ≤ 31 * l.length := by
  induction l with
  | nil => simp [inT]
  | cons s l ih =>
    have h1 := h s List.mem_cons_self
    have h2 := ih fun x hx => h x (List.mem_cons_of_mem _ hx)
    rw [inT_cons]
    simp only [List.length_append, List.length_cons]
    omega
def vN : Str := [118]
def whileP : Tr := .mk 28 0 [] [callT [nRead, vN], noT vN]
section
variable {mx dm : Int}
theorem while_read (hm : mx < 1000000) : ∀ (l : List Str) (st : RSt) (last : Int), st.Ok → st.caught = none → aget st.X.funs nNo = none → aget st.X.funs nRead = none → st.K.rows = [] → st.inn = inT l → (∀ s ∈ l, s.length ≤ 30 ∧ 10 ∉ s) → l.length ≤ 30 → st.steps + 3 * l.length + 2 ≤ mx → st.K.trace.length + l.length < 900000 →
    WhileOk mx dm (callT [nRead, vN]) (noT vN) last st none (if l = [] then last else 127) { st with K := { st.K with trace := st.K.trace ++ l.map fun s => ⟨1, 127, nNo, [], [s]⟩ }, X := { st.X with vars := forV vN st.X.vars l }, steps := st.steps + 3 * l.length + 2, inn := [] } := by
  have hfl : fitL [nRead, vN] = true := rfl
  have hz : (rowsT ([nRead, vN].map litT)).length < 800000 := by rw [rows_lits]; simp
  intro l
  induction l with
  | nil =>
    intro st last hk hc hf hfr hr hin hls hl hs ht
    have hin : st.inn = [] := hin
    have h0 := hk.s0
    have hq := tog_lits0 (mx := mx) (dm := dm) (st := st.stepped.stepped) hfl
    simp only [List.length_nil] at hs
    have hb : BOk nRead st.stepped.stepped.inn [vN] { out0 [] with status := 1 } := by
      show BOk nRead st.inn [vN] _
      rw [hin]; exact b_read_none rfl
    have h1 : DoOk mx dm (callT [nRead, vN]) st.stepped none 1 { st.stepped.stepped with inn := [] } :=
      do_call_b (k := 0) (s := []) (st2 := st.stepped.stepped) hz hm (by show 0 ≤ st.steps + 1; omega) (by show st.steps + 1 < mx; omega) hq hk.stepped.stepped hfr hb ⟨rfl, rfl⟩ (by simp [out0]) (by simp [sayS, RSt.stepped, hc, out0])
    have e : ({ st with K := { st.K with trace := st.K.trace ++ ([] : List Str).map fun s => ⟨1, 127, nNo, [], [s]⟩ }, X := { st.X with vars := forV vN st.X.vars [] }, steps := st.steps + 3 * ([] : List Str).length + 2, inn := [] } : RSt) = { st.stepped.stepped with inn := [] } := by
      simp [RSt.stepped, forV]; omega
    rw [e, if_pos rfl]
    exact .stop h0 (by omega) h1 (by decide)
  | cons s l ih =>
    intro st last hk hc hf hfr hr hin hls hl hs ht
    simp only [List.length_cons] at hs ht hl
    obtain ⟨s1, s2⟩ := hls s List.mem_cons_self
    have h0 := hk.s0
    have hq := tog_lits0 (mx := mx) (dm := dm) (st := st.stepped.stepped) hfl
    have hlen := inT_len (l := l) fun x hx => (hls x (List.mem_cons_of_mem _ hx)).1
    have hb : BOk nRead st.stepped.stepped.inn [vN] ⟨[], inT l, 0, vN, s, false⟩ := by
      show BOk nRead st.inn [vN] _
      rw [hin, inT_cons]; exact b_read_line rfl s2 (by omega)
    have h1 : DoOk mx dm (callT [nRead, vN]) st.stepped none 0 { st.stepped.stepped with inn := inT l, X := { st.X with vars := aset st.X.vars vN [s] } } :=
      do_call_n (k := 0) (s := []) (st2 := st.stepped.stepped) hz hm (by show 0 ≤ st.steps + 1; omega) (by show st.steps + 1 < mx; omega) hq hk.stepped.stepped hfr hb ⟨by simp [vN], by simp [vN, starN], rfl, by show s.length ≤ 2000; omega⟩ (by simp) (by simp [sayS, RSt.stepped, hc])
    have hk2 : RSt.Ok ({ st.stepped.stepped with inn := inT l, X := { st.X with vars := aset st.X.vars vN [s] } } : RSt) := ⟨hk.stepped.stepped.s0, hk.d0, hk.x.setv (by simp), hk.t, hk.c, hk.f⟩
    have h2 := do_no (dm := dm) hm (n := vN) (s := s) (by simp [vN, starN]) (by omega) hk2 hc hf aset_get hr (by show st.steps + 1 + 1 < mx; omega) (by show st.K.trace.length < _; omega) (by show (inT l).length < _; omega)
    have hk3 : RSt.Ok ({ st with K := { st.K with trace := st.K.trace ++ [⟨1, 127, nNo, [], [s]⟩] }, X := { st.X with vars := aset st.X.vars vN [s] }, steps := st.steps + 1 + 1 + 1, inn := inT l } : RSt) := ⟨by show 0 ≤ st.steps + 1 + 1 + 1; omega, hk.d0, hk.x.setv (by simp), by simp; omega, hk.c, hk.f⟩
    have h3 := ih _ 127 hk3 hc hf hfr hr rfl (fun x hx => hls x (List.mem_cons_of_mem _ hx)) (by omega) (by show st.steps + 1 + 1 + 1 + 3 * (l.length : Int) + 2 ≤ mx; omega) (by simp; omega)
    have e : st.steps + 3 * ((s :: l).length : Nat) + 2 = st.steps + 1 + 1 + 1 + 3 * (l.length : Int) + 2 := by simp; omega
    have e2 : (if l = [] then (127 : Int) else 127) = 127 := by split <;> rfl
    rw [e2] at h3
    rw [e, if_neg (by simp)]
    refine .round h0 (by omega) h1 h2 ?_
    simp only [List.append_assoc, List.singleton_append] at h3
    exact h3
theorem run_while {l : List Str} (h : ∀ s ∈ l, s.length ≤ 30 ∧ 10 ∉ s) (hn : l.length ≤ 30) : RunIs 1500 25 (inT l) whileP none (if l = [] then 0 else 127) { rs0 (.lst 2 []) [] (inT l) with K := ⟨l.map fun s => ⟨1, 127, nNo, [], [s]⟩, .lst 2 [], []⟩, X := ⟨forV vN [] l, [], []⟩, steps := 3 * l.length + 2, inn := [] } := by
  have hlen := inT_len (l := l) fun x hx => (h x hx).1
  have hv := forV_len (n := vN) (l := l) (vs := []) (by simp) (by simp)
  have hw := while_read (mx := 1500) (dm := 25) (by omega) l (rs0 (.lst 2 []) [] (inT l)) 0 rs0_ok rfl rfl rfl rfl rfl h hn (by show (0 : Int) + 3 * (l.length : Int) + 2 ≤ 1500; omega) (by simp [rs0]; omega)
  have hd := do_while (n := 0) (s := []) (by simp [callT, noT, litT, Tr.rows, rowsT]) (by omega) hw
  refine ⟨by omega, by omega, by omega, by decide, by simp [whileP, callT, noT, litT, Tr.rows, rowsT], ?_, ⟨forV_vals (by simp), by simp, by simp⟩, by have := hv.1; show (forV vN [] l).length < 1000000; omega, fun e he => by rw [hv.2 e he]; simp [vN], by simp; omega, by simp, rfl⟩
  have e : (0 : Int) + 3 * (l.length : Int) + 2 = 3 * l.length + 2 := by omega
  simp only [rs0, List.nil_append, e] at hd ⊢
  exact hd
end
end Go.Proofs.YtbpgbhmibmcbnaaGreatDoor.Val

/-! The law RunWhiles. -/
set_option linter.unusedSimpArgs false
set_option linter.unusedVariables false
namespace Go.Proofs.YtbpgbhmibmcbnaaGreatDoor.Val
open Go Go.Proofs.YtbpgbhmibmcbnaaGreatDoor.Ram

section
variable {S : VH}
theorem chr_at {s : Str} {k : Nat} {c : UInt8} (h : s[k]? = some c) : chrV (.str s) (.int .i64 (k : Int)) = some (.int .u8 c.toNat) := by simp [chrV, h]
theorem v_nl_loop {a : List Str} {x : Str} {inn : V} {j : Nat} (hx : a[j]? = some x) (hl : x.length < 1000000) : ∀ (d k : Nat), k + d = x.length →
    (10 ∉ x.drop k ∧ loopX VT.E VT.Fl (VCall VT) c_patoislaw9_RunWhiles_l0 ⟨[(0, strsV a), (4, inn), (5, .int .i64 j), (6, .int .i64 k)], [], S⟩ = some (.exit 2, ⟨[(0, strsV a), (4, inn), (5, .int .i64 j), (6, .int .i64 x.length), (39, .bool false)], [], S⟩)) ∨
    ∃ f w, loopX VT.E VT.Fl (VCall VT) c_patoislaw9_RunWhiles_l0 ⟨[(0, strsV a), (4, inn), (5, .int .i64 j), (6, .int .i64 k)], [], S⟩ = some (.ret, ⟨(2, .bool true) :: f, w, S⟩) := by
  have hK : ∀ f w h, loopX VT.E VT.Fl (VCall VT) c_patoislaw9_RunWhiles_l0 ⟨f, w, h⟩ = loopX VT.E VT.Fl (VCall VT) c_patoislaw9_RunWhiles_l0 ⟨VFr.keep f [0, 4, 5, 6], Rts.keep w.noCell [0, 4, 5, 6], h⟩ := fun _ _ _ => loopX_keep
  intro d
  induction d with
  | zero =>
    intro k hk
    obtain rfl : k = x.length := by omega
    left
    refine ⟨by simp, ?_⟩
    rw [loopX_eq]
    simp -implicitDefEqProofs [c_patoislaw9_RunWhiles_l0, binA, hx]
  | succ d ih =>
    intro k hk
    have h1 : k < x.length := by omega
    have hlt : (k : Int) < (x.length : Int) := by omega
    obtain ⟨c, hc, dc⟩ := next_at h1
    have hch := chr_at hc
    rw [dc]
    by_cases e : c = 10
    · right
      subst e
      have e1 : ((10 : UInt8).toNat : Int) = 10 := rfl
      rw [loopX_eq]
      generalize loopX VT.E VT.Fl (VCall VT) c_patoislaw9_RunWhiles_l0 = L at *
      simp -implicitDefEqProofs [c_patoislaw9_RunWhiles_l0, binA, hlt, hx, hch, e1]
    · have e1 : ¬ ((c.toNat : Int) = 10) := fun h => e (by
        have : c.toNat = 10 := by omega
        exact UInt8.toNat_inj.1 this)
      have key : loopX VT.E VT.Fl (VCall VT) c_patoislaw9_RunWhiles_l0 ⟨[(0, strsV a), (4, inn), (5, .int .i64 j), (6, .int .i64 k)], [], S⟩ = loopX VT.E VT.Fl (VCall VT) c_patoislaw9_RunWhiles_l0 ⟨[(0, strsV a), (4, inn), (5, .int .i64 j), (6, .int .i64 ((k : Int) + 1))], [], S⟩ := by
        rw [loopX_eq]
        generalize loopX VT.E VT.Fl (VCall VT) c_patoislaw9_RunWhiles_l0 = L at *
        simp -implicitDefEqProofs [c_patoislaw9_RunWhiles_l0, binA, hlt, hx, hch, e, e1, wrap_succ h1 (by omega)]
        rw [hK]
        simp
      have hi := ih (k + 1) (by omega)
      push_cast at hi
      rw [key]
      rcases hi with ⟨i1, i2⟩ | i2
      · left
        exact ⟨fun hm => (List.mem_cons.1 hm).elim (fun h => e h.symm) i1, i2⟩
      · right; exact i2
theorem v_whiles_l1 {a : List Str} (ha : a.length ≤ 30) : ∀ (d j : Nat) (pre : Str), j + d = a.length → pre.length ≤ 31 * j →
    ((∀ s ∈ a.drop j, s.length ≤ 30 ∧ 10 ∉ s) ∧ loopX VT.E VT.Fl (VCall VT) c_patoislaw9_RunWhiles_l1 ⟨[(0, strsV a), (4, .str pre), (5, .int .i64 j)], [], S⟩ = some (.exit 0, ⟨[(0, strsV a), (4, .str (pre ++ inT (a.drop j))), (5, .int .i64 a.length), (24, .bool false)], [], S⟩)) ∨
    ∃ f w, loopX VT.E VT.Fl (VCall VT) c_patoislaw9_RunWhiles_l1 ⟨[(0, strsV a), (4, .str pre), (5, .int .i64 j)], [], S⟩ = some (.ret, ⟨(2, .bool true) :: f, w, S⟩) := by
  have hK : ∀ f w h, loopX VT.E VT.Fl (VCall VT) c_patoislaw9_RunWhiles_l1 ⟨f, w, h⟩ = loopX VT.E VT.Fl (VCall VT) c_patoislaw9_RunWhiles_l1 ⟨VFr.keep f [0, 4, 5], Rts.keep w.noCell [0, 4, 5], h⟩ := fun _ _ _ => loopX_keep
  intro d
  induction d with
  | zero =>
    intro j pre hj hp
    obtain rfl : j = a.length := by omega
    left
    refine ⟨by simp, ?_⟩
    rw [loopX_eq]
    simp -implicitDefEqProofs [c_patoislaw9_RunWhiles_l1, binA, inT]
  | succ d ih =>
    intro j pre hj hp
    have h1 : j < a.length := by omega
    have hlt : (j : Int) < (a.length : Int) := by omega
    obtain ⟨x, hx, dx⟩ := next_at h1
    rw [dx]
    by_cases e : x.length ≤ 30
    · have e1 : ¬ (30 : Int) < (x.length : Int) := by omega
      have e2 : (pre.length : Int) + (x.length : Int) ≤ 9223372036854775807 := by omega
      have e3 : (pre.length : Int) + (x.length : Int) + 1 ≤ 9223372036854775807 := by omega
      have e4 : (pre.length : Int) + ((x.length : Int) + 1) ≤ 9223372036854775807 := by omega
      rcases v_nl_loop (S := S) (inn := .str pre) hx (by omega) x.length 0 (by omega) with ⟨n1, n2⟩ | ⟨f, w, n2⟩
      · rw [List.drop_zero] at n1
        push_cast at n2
        have hi := ih (j + 1) (pre ++ (x ++ [10])) (by omega) (by simp; omega)
        push_cast at hi
        have key : loopX VT.E VT.Fl (VCall VT) c_patoislaw9_RunWhiles_l1 ⟨[(0, strsV a), (4, .str pre), (5, .int .i64 j)], [], S⟩ = loopX VT.E VT.Fl (VCall VT) c_patoislaw9_RunWhiles_l1 ⟨[(0, strsV a), (4, .str (pre ++ (x ++ [10]))), (5, .int .i64 ((j : Int) + 1))], [], S⟩ := by
          rw [loopX_eq]
          generalize loopX VT.E VT.Fl (VCall VT) c_patoislaw9_RunWhiles_l1 = L at *
          simp -implicitDefEqProofs [c_patoislaw9_RunWhiles_l1, binA, hlt, hx, e1, e2, e3, e4, n2, wrap_succ h1 (by omega)]
          rw [hK]
          simp
        rw [key, inT_cons]
        rcases hi with ⟨i1, i2⟩ | i2
        · left
          refine ⟨fun s hs => (List.mem_cons.1 hs).elim (fun h => h ▸ ⟨e, n1⟩) (i1 s), ?_⟩
          simpa using i2
        · right; exact i2
      · right
        push_cast at n2
        rw [loopX_eq]
        generalize loopX VT.E VT.Fl (VCall VT) c_patoislaw9_RunWhiles_l1 = L at *
        simp -implicitDefEqProofs [c_patoislaw9_RunWhiles_l1, binA, hlt, hx, e1, n2]
    · right
      have e1 : (30 : Int) < (x.length : Int) := by omega
      rw [loopX_eq]
      generalize loopX VT.E VT.Fl (VCall VT) c_patoislaw9_RunWhiles_l1 = L at *
      simp -implicitDefEqProofs [c_patoislaw9_RunWhiles_l1, binA, hlt, hx, e1]
theorem v_whiles_l2 {a : List Str} (ha : a.length < 1000000) {i9 : Nat} {c1 : List V} (h9 : i9 < S.next) (g9 : S.get i9 = some (.cells c1 [])) (e9 : c1[2]? = some (evsV' (a.map fun s => ⟨1, 127, nNo, [], [s]⟩))) : ∀ (d j : Nat), j + d = a.length →
    ∃ f w, loopX VT.E VT.Fl (VCall VT) c_patoislaw9_RunWhiles_l2 ⟨[(0, strsV a), (9, .ptr (some (i9, 0))), (11, .int .i64 j)], [], S⟩ = some (.exit 4, ⟨(0, strsV a) :: (9, .ptr (some (i9, 0))) :: f, w, S⟩) := by
  have hK : ∀ f w h, loopX VT.E VT.Fl (VCall VT) c_patoislaw9_RunWhiles_l2 ⟨f, w, h⟩ = loopX VT.E VT.Fl (VCall VT) c_patoislaw9_RunWhiles_l2 ⟨VFr.keep f [0, 9, 11], Rts.keep w.noCell [0, 9, 11], h⟩ := fun _ _ _ => loopX_keep
  intro d
  induction d with
  | zero =>
    intro j hj
    obtain rfl : j = a.length := by omega
    refine ⟨[(11, .int .i64 a.length), (87, .bool false)], [], ?_⟩
    rw [loopX_eq]
    simp -implicitDefEqProofs [c_patoislaw9_RunWhiles_l2, binA]
  | succ d ih =>
    intro j hj
    have h1 : j < a.length := by omega
    have hlt : (j : Int) < (a.length : Int) := by omega
    obtain ⟨x, hx, dx⟩ := next_at h1
    obtain ⟨f, w, hi⟩ := ih (j + 1) (by omega)
    push_cast at hi
    have hT : VCall VT F_patoisref_SameTexts [strsV [x], .lst 1 [[.str x]]] [] S = some (.bool true, [], S) := by
      have := v_SameTexts (a := [x]) (b := [x]) (S := S) (by simp)
      rw [decide_eq_true rfl] at this
      exact this
    refine ⟨f, w, ?_⟩
    rw [loopX_eq]
    generalize loopX VT.E VT.Fl (VCall VT) c_patoislaw9_RunWhiles_l2 = L at *
    simp -implicitDefEqProofs [c_patoislaw9_RunWhiles_l2, binA, hlt, hx, h9, g9, e9, hT, wrap_succ h1 (by omega)]
    rw [hK]
    simpa using hi
set_option maxRecDepth 100000 in
theorem v_RunWhiles {l : List Str} (h : Up S) : VCall VT F_patoislaw9_RunWhiles [strsV l] [] S = some (.bool true, [], S) := by
  have hF := fun S hs => v_first (S := S) hs
  by_cases hn : l.length ≤ 30
  · have e1 : ¬ (30 : Int) < (l.length : Int) := by omega
    rcases v_whiles_l1 (S := S) hn l.length 0 [] (by omega) (by simp) with ⟨hs, h0⟩ | ⟨f, w, h0⟩
    · simp only [List.drop_zero, List.nil_append] at hs h0
      push_cast at h0
      have cR : ∀ S, VCall VT F_patoislaw9_call [.lst 1 [[.str [114, 101, 97, 100]], [.str [118]]]] [] S = some (tv (callT [nRead, vN]), [], S) := fun S => v_lcall (a := [nRead, vN]) (by simp)
      have nL : ∀ S, VCall VT F_core_Lit [.str [110, 111]] [] S = some (tv (litT nNo), [], S) := fun S => v_Lit
      have nV : ∀ S, VCall VT F_core_New [.int .i64 2, .int .i64 0, .str [118], .lst 1 []] [] S = some (tv (.mk 2 0 vN []), [], S) := fun S => v_coreNew (ks := []) (by simp) (by simp [rowsT])
      have nC : ∀ S, VCall VT F_core_New [.int .i64 21, .int .i64 0, .str [], .lst 1 [[tv (litT nNo)], [tv (.mk 2 0 vN [])]]] [] S = some (tv (noT vN), [], S) := fun S => v_coreNew (ks := [litT nNo, .mk 2 0 vN []]) (by simp) (by simp [litT, Tr.rows, rowsT])
      have nW : ∀ S, VCall VT F_core_New [.int .i64 28, .int .i64 0, .str [], .lst 1 [[tv (callT [nRead, vN])], [tv (noT vN)]]] [] S = some (tv whileP, [], S) := fun S => v_coreNew (ks := [callT [nRead, vN], noT vN]) (by simp) (by simp [callT, noT, litT, Tr.rows, rowsT])
      have rP := fun S hu => v_plain (S := S) (run_while hs hn) hu
      have e2 : IntKind.i64.wrap (3 * (l.length : Int)) = 3 * (l.length : Int) := Go.IntWalk.i64_in _ ⟨by omega, by omega⟩
      have e3 : IntKind.i64.wrap (3 * (l.length : Int) + 2) = 3 * (l.length : Int) + 2 := Go.IntWalk.i64_in _ ⟨by omega, by omega⟩
      obtain ⟨f1, w1, h1⟩ := v_whiles_l2 (S := (S.push (.cells [.nilFn, .int .i64 1500, .int .i64 25, .lst 2 [], .lst 1 [], .str (inT l)] [])).push (.cells [.int .i64 (if l = [] then 0 else 127), .nilI, evsV' (l.map fun s => ⟨1, 127, nNo, [], [s]⟩), valsV (Sto.all ⟨forV vN [] l, [], []⟩), .lst 2 [], .int .i64 (3 * (l.length : Int) + 2)] [])) (a := l) (i9 := S.next + 1) (by omega) (by simp) (by simp; rfl) rfl l.length 0 (by omega)
      push_cast at h1
      simp only [emptyW, optV, optL, tv] at rP cR nL nV nC nW
      generalize hta : Tr.rows (callT [nRead, vN]) = ta at *
      generalize htb : Tr.rows (litT nNo) = tb at *
      generalize htc : Tr.rows (.mk 2 0 vN []) = tc at *
      generalize htd : Tr.rows (noT vN) = td at *
      generalize hte : Tr.rows whileP = te at *
      rw [VCall_of (F := a_patoislaw9_RunWhiles) rfl rfl rfl rfl]
      by_cases hz : l = []
      · subst hz
        simp only [if_true, List.map_nil, List.length_nil, Int.natCast_zero, Int.mul_zero, Int.zero_add] at h1 h0 rP e2 e3
        simp -implicitDefEqProofs (maxDischargeDepth := 30) [a_patoislaw9_RunWhiles, c_patoislaw9_RunWhiles, binA, hF, h, e1, h0, cR, nL, nV, nC, nW, v_Defaults, rP, resL, errO, e2, e3, h1]
      · rw [if_neg hz] at h1
        simp only [if_neg hz] at rP
        have hz0 : ¬ (l.length : Int) = 0 := fun e => hz (List.length_eq_zero_iff.1 (by omega))
        simp -implicitDefEqProofs (maxDischargeDepth := 30) [a_patoislaw9_RunWhiles, c_patoislaw9_RunWhiles, binA, hF, h, e1, h0, cR, nL, nV, nC, nW, v_Defaults, rP, resL, errO, e2, e3, h1, hz, hz0]
    · push_cast at h0
      rw [VCall_of (F := a_patoislaw9_RunWhiles) rfl rfl rfl rfl]
      simp -implicitDefEqProofs (maxDischargeDepth := 30) [a_patoislaw9_RunWhiles, c_patoislaw9_RunWhiles, binA, hF, h, e1, h0]
  · have e1 : (30 : Int) < (l.length : Int) := by omega
    rw [VCall_of (F := a_patoislaw9_RunWhiles) rfl rfl rfl rfl]
    simp -implicitDefEqProofs (maxDischargeDepth := 30) [a_patoislaw9_RunWhiles, c_patoislaw9_RunWhiles, binA, hF, h, e1]
end
end Go.Proofs.YtbpgbhmibmcbnaaGreatDoor.Val

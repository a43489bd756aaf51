import Derived.Test.YtlecbjcloleiiaaDoorKerE
/-! The law KernelMarks. -/
namespace Go.Proofs.YtlecbjcloleiiaaDoor.Ram
open Go

def intRows (l : List Int) : List (List AV) := l.map fun x => [.int .i64 x]
@[simp] theorem intRows_len (l : List Int) : (intRows l).length = l.length := by simp [intRows]
abbrev Ints (H : AH) (v : AV) (l : List Int) : Prop := Rows H 1 v (intRows l)
theorem Ints.at {H : AH} {v : AV} {l : List Int} (h : Ints H v l) {j : Nat} {x : Int} (hj : l[j]? = some x) : ∃ i o, (∀ k, indexAA 1 v (.int k j) = some (.ptr (some (i, o)))) ∧ loadA H 1 false (.ptr (some (i, o))) = some (.int .i64 x) := by
  obtain ⟨i, o, h1, _, h2⟩ := Rows.at h (j := j) (r := [.int .i64 x]) (by simp [intRows, hj])
  exact ⟨i, o, h1, by simpa using h2 0 (by omega)⟩
abbrev nilS : AV := .sl none 1 0 (some 0)
def markRow (p : Int × Int) : List AV := evRow p.1 p.2 [] [] nilS
def markEv (p : Int × Int) : Ev := ⟨p.1, p.2, [], [], []⟩
theorem marks_ev (H : AH) (es : List (Int × Int)) : EvRows H (es.map markRow) (es.map markEv) := ⟨by simp, fun j e hj => by
  rw [List.getElem?_map, Option.map_eq_some_iff] at hj
  obtain ⟨p, h1, rfl⟩ := hj
  exact ⟨markRow p, by simp [h1], nilS, rfl, ⟨.inl ⟨_, _, rfl, rfl⟩, fun r hr => by cases hr⟩⟩⟩
theorem marks_row (es : List (Int × Int)) : ∀ r ∈ es.map markRow, r.length = 5 := fun r hr => by
  obtain ⟨p, _, rfl⟩ := List.mem_map.1 hr; rfl

structure MInv (H0 : AH) (k : Nat) (rest : List AV) (H : AH) (es : List (Int × Int)) (tv wv : AV) : Prop where
  keep : Keep H0 H
  k0 : H0.next ≤ k
  k1 : k < H.next
  kv : H.get k = some (.cells (tv :: rest) false)
  t : Tip H 5 tv (es.map markRow)
  w : Tip H 5 wv (es.map markRow)
  t0 : ∀ i, tipId tv = some i → H0.next ≤ i ∧ i ≠ k ∧ tipId wv ≠ some i
  w0 : ∀ i, tipId wv = some i → H0.next ≤ i ∧ i ≠ k
  pl : ∀ p ∈ es, plumb p.1 = true

theorem marks_loop {H0 : AH} {k : Nat} {rest : List AV} {kv nv : AV} {ks ns : List Int} (hk : Ints H0 kv ks) (hn : Ints H0 nv ns) (hl : ks.length < 1000) (hn2 : ns.length < 9223372036854775808) : ∀ (d j : Nat) (H : AH) (es : List (Int × Int)) (tv wv : AV), j + d = ks.length → es.length ≤ j → MInv H0 k rest H es tv wv →
    ∃ fr' H' es' tv' wv', loopL (execL U.E (Call U) c6l0) ([(0, kv), (1, nv), (6, .ptr (some (k, 0))), (8, wv), (9, .int .i64 j)], H) = some (.exit 0, (fr', H')) ∧ Fr.get fr' 6 = some (.ptr (some (k, 0))) ∧ Fr.get fr' 8 = some wv' ∧ es'.length ≤ ks.length ∧ MInv H0 k rest H' es' tv' wv' := by
  intro d
  have hlk := hk.len
  have hln := hn.len
  rw [intRows_len] at hlk hln
  induction d with
  | zero =>
    intro j H es tv wv hj hes inv
    obtain rfl : j = ks.length := by omega
    refine ⟨[(0, kv), (1, nv), (6, .ptr (some (k, 0))), (8, wv), (9, .int .i64 ks.length), (34, .bool false)], H, es, tv, wv, ?_, by simp, by simp, hes, inv⟩
    rw [loopL_eq]
    simp -implicitDefEqProofs [c6l0, binA, hlk]
  | succ d ih =>
    intro j H es tv wv hj hes inv
    have hjk : j < ks.length := by omega
    obtain ⟨ik, ok, a1, a2⟩ := Ints.at (hk.keep inv.keep) (List.getElem?_eq_getElem hjk)
    have a1 := a1 .i64
    have hjc : (j : Int) < (ks.length : Int) := by omega
    have hw : IntKind.i64.wrap ((j : Int) + 1) = ((j + 1 : Nat) : Int) := by rw [wrap64 (by omega) (by omega)]; omega
    obtain ⟨x, hx⟩ : ∃ x : Int, x = (if h : j < ns.length then ns[j] else 0) := ⟨_, rfl⟩
    obtain ⟨H1, tv1, b1, b2, b3, b4, b5, b6⟩ := c_mark (kd := ks[j]) (n := x) inv.kv inv.k1 inv.t (marks_row es) (by simp; omega) (fun e => (inv.t0 k e).2.1 rfl)
    have hkeep1 : Keep H0 H1 := ⟨by have := inv.keep.next; omega, fun i hi => by
      have h1 := inv.keep.next
      have h2 := inv.k0
      rw [b6 i (by omega) (by omega) (fun e => by have := (inv.t0 i e).1; omega), inv.keep.get i hi]⟩
    obtain ⟨ik', ok', a1', a2'⟩ := Ints.at (hk.keep hkeep1) (List.getElem?_eq_getElem hjk)
    have a1' := a1' .i64
    have haa := a1.symm.trans a1'
    simp only [Option.some.injEq, AV.ptr.injEq, Prod.mk.injEq] at haa
    obtain ⟨rfl, rfl⟩ := haa
    have hwt : Tip H1 5 wv (es.map markRow) := inv.w.of b5 fun i hi hil => b6 i hil (inv.w0 i hi).2 (fun e => (inv.t0 i e).2.2 hi)
    have hxn : ∀ (_ : j < ns.length), ∃ i o, indexAA 1 nv (.int .i64 j) = some (.ptr (some (i, o))) ∧ loadA H 1 false (.ptr (some (i, o))) = some (.int .i64 x) := fun h => by
      obtain ⟨i, o, c1, c2⟩ := Ints.at (hn.keep inv.keep) (List.getElem?_eq_getElem h)
      exact ⟨i, o, c1 .i64, by rw [c2, hx, dif_pos h]⟩
    cases hp : plumb ks[j] with
    | false =>
      have hnp : ¬ (4 ≤ ks[j] ∧ ks[j] ≤ 6) := fun h => by
        have : plumb ks[j] = true := by simp only [plumb, decide_eq_true_eq]; omega
        rw [hp] at this; cases this
      rw [hp] at b3
      simp only [Bool.false_eq_true, if_false] at b3
      have hstep : execL U.E (Call U) c6l0 ([(0, kv), (1, nv), (6, .ptr (some (k, 0))), (8, wv), (9, .int .i64 j)], H) = some (.norm, ([(9, .int .i64 (j + 1 : Nat)), (36, .int .i64 (j + 1 : Nat)), (35, .int .i64 j), (0, kv), (1, nv), (6, .ptr (some (k, 0))), (8, wv), (9, .int .i64 j)], H1)) := by
        by_cases hjn : j < ns.length
        · obtain ⟨i, o, c1, c2⟩ := hxn hjn
          have hjc2 : (j : Int) < (ns.length : Int) := by omega
          by_cases h4 : 4 ≤ ks[j]
          · have h6 : ¬ ks[j] ≤ 6 := fun h => hnp ⟨h4, h⟩
            simp -implicitDefEqProofs [c6l0, binA, hlk, hln, hjc, hjc2, a1, a2, a1', a2', c1, c2, b1, hw, h4, h6]
          · simp -implicitDefEqProofs [c6l0, binA, hlk, hln, hjc, hjc2, a1, a2, a1', a2', c1, c2, b1, hw, h4]
        · have hjc2 : ¬ (j : Int) < (ns.length : Int) := by omega
          rw [dif_neg hjn] at hx
          subst hx
          by_cases h4 : 4 ≤ ks[j]
          · have h6 : ¬ ks[j] ≤ 6 := fun h => hnp ⟨h4, h⟩
            simp -implicitDefEqProofs [c6l0, binA, hlk, hln, hjc, hjc2, a1, a2, a1', a2', b1, hw, h4, h6]
          · simp -implicitDefEqProofs [c6l0, binA, hlk, hln, hjc, hjc2, a1, a2, a1', a2', b1, hw, h4]
      have hk2 : loopL (execL U.E (Call U) c6l0) ([(0, kv), (1, nv), (6, .ptr (some (k, 0))), (8, wv), (9, .int .i64 j)], H) = loopL (execL U.E (Call U) c6l0) ([(0, kv), (1, nv), (6, .ptr (some (k, 0))), (8, wv), (9, .int .i64 (j + 1 : Nat))], H1) := by
        rw [loopL_eq, hstep, seqR_norm, show c6l0 = ACode.keep [0, 1, 6, 8, 9] _ from rfl, loop_keep]
        simp
      rw [hk2]
      refine ih (j + 1) H1 es tv1 wv (by omega) (by omega) ⟨hkeep1, inv.k0, by have := inv.k1; omega, b2, b3, hwt, fun i hi => ?_, inv.w0, inv.pl⟩
      have hkn := inv.keep.next
      have hk1 := inv.k1
      rcases b4 with rfl | ⟨t', e1, e2⟩
      · exact inv.t0 i hi
      · rw [e1] at hi; obtain rfl := Option.some.inj hi
        refine ⟨by omega, by omega, fun e => ?_⟩
        rcases inv.w with ⟨s, c, rfl, _⟩ | ⟨t, rfl, _, ht⟩
        · cases e
        · obtain rfl := Option.some.inj e; omega
    | true =>
      have hyp : 4 ≤ ks[j] ∧ ks[j] ≤ 6 := by
        simp only [plumb, decide_eq_true_eq] at hp; omega
      rw [hp] at b3
      simp only [if_true] at b3
      obtain ⟨H3, f1, f2, f3, f4⟩ := append_one (bytes := 72) (x := H1.next) (c := some 1) (row := markRow (ks[j], x)) (ro := false) (hwt.keep (Keep.push H1 (.cells (markRow (ks[j], x)) false))) (marks_row es) (by simp) rfl (by omega) (by omega) (by simp; omega) (by simp)
      simp only [push_next] at f1 f2 f3 f4
      rw [List.length_map] at f1 f2
      have f1' := f1
      unfold markRow evRow at f1'
      dsimp only at f1'
      have hstep : execL U.E (Call U) c6l0 ([(0, kv), (1, nv), (6, .ptr (some (k, 0))), (8, wv), (9, .int .i64 j)], H) = some (.norm, ([(9, .int .i64 (j + 1 : Nat)), (36, .int .i64 (j + 1 : Nat)), (35, .int .i64 j), (0, kv), (1, nv), (6, .ptr (some (k, 0))), (8, .sl (some (H1.next + 1, 0)) 5 (es.length + 1) none), (9, .int .i64 j)], H3)) := by
        by_cases hjn : j < ns.length
        · obtain ⟨i, o, c1, c2⟩ := hxn hjn
          have hjc2 : (j : Int) < (ns.length : Int) := by omega
          simp -implicitDefEqProofs [c6l0, binA, hlk, hln, hjc, hjc2, a1, a2, a1', a2', c1, c2, b1, hw, hyp.1, hyp.2, f1']
        · have hjc2 : ¬ (j : Int) < (ns.length : Int) := by omega
          rw [dif_neg hjn] at hx
          subst hx
          simp -implicitDefEqProofs [c6l0, binA, hlk, hln, hjc, hjc2, a1, a2, a1', a2', b1, hw, hyp.1, hyp.2, f1']
      have hk2 : loopL (execL U.E (Call U) c6l0) ([(0, kv), (1, nv), (6, .ptr (some (k, 0))), (8, wv), (9, .int .i64 j)], H) = loopL (execL U.E (Call U) c6l0) ([(0, kv), (1, nv), (6, .ptr (some (k, 0))), (8, .sl (some (H1.next + 1, 0)) 5 (es.length + 1) none), (9, .int .i64 (j + 1 : Nat))], H3) := by
        rw [loopL_eq, hstep, seqR_norm, show c6l0 = ACode.keep [0, 1, 6, 8, 9] _ from rfl, loop_keep]
        simp
      rw [hk2]
      have hkn := inv.keep.next
      have hk1 := inv.k1
      have hk0 := inv.k0
      have hrow : evRow ks[j] x [] [] (.sl none 1 0 (some 0)) = markRow (ks[j], x) := rfl
      rw [hrow] at b3
      have hwk : tipId wv ≠ some k := fun e => (inv.w0 k e).2 rfl
      have ht1 : ∀ i, tipId tv1 = some i → H0.next ≤ i ∧ i ≠ k ∧ i < H1.next ∧ tipId wv ≠ some i := fun i hi => by
        have hlt : i < H1.next := by
          rcases b3 with ⟨s, c, rfl, _⟩ | ⟨t, rfl, _, ht⟩
          · cases hi
          · obtain rfl := Option.some.inj hi; exact ht
        rcases b4 with rfl | ⟨t', e1, e2⟩
        · have h1 := inv.t0 i hi; exact ⟨h1.1, h1.2.1, hlt, h1.2.2⟩
        · rw [e1] at hi; obtain rfl := Option.some.inj hi
          refine ⟨by omega, by omega, hlt, fun e => ?_⟩
          rcases inv.w with ⟨s, c, rfl, _⟩ | ⟨t, rfl, _, ht⟩
          · cases e
          · obtain rfl := Option.some.inj e; omega
      have hg3 : ∀ i, i < H1.next → tipId wv ≠ some i → H3.get i = H1.get i := fun i hi hne => by rw [f4 i (by omega) hne, push_get, if_neg (by omega)]
      refine ih (j + 1) H3 (es ++ [(ks[j], x)]) tv1 _ (by omega) (by simp; omega) ⟨⟨by omega, fun i hi => ?_⟩, hk0, by omega, ?_, ?_, ?_, fun i hi => ?_, fun i hi => ?_, fun p hp' => ?_⟩
      · rw [hg3 i (by omega) (fun e => by have := (inv.w0 i e).1; omega), hkeep1.get i hi]
      · rw [hg3 k (by omega) hwk]; exact b2
      · rw [List.map_append]
        exact b3.of (by omega) fun i hi hil => hg3 i hil (ht1 i hi).2.2.2
      · rw [List.map_append]; simpa using f2
      · have h1 := ht1 i hi
        refine ⟨h1.1, h1.2.1, ?_⟩
        simp only [tipId, ne_eq, Option.some.injEq]; omega
      · simp only [tipId, Option.some.injEq] at hi; omega
      · rcases List.mem_append.1 hp' with h | h
        · exact inv.pl p h
        · simp only [List.mem_cons, List.not_mem_nil, or_false] at h; rw [h]; exact hp

theorem c_first {H : AH} : Call U 9 [] H = some (.bool true, H) := Call_prim U9 _ _
theorem law_marks {H : AH} {kv nv : AV} {ks ns : List Int} (hk : Ints H kv ks) (hn : Ints H nv ns) (hn2 : ns.length < 9223372036854775808) : ∃ H', Call U 6 [kv, nv] H = some (.bool true, H') := by
  rw [Call_of (F := a6) rfl rfl]
  have hlk := hk.len
  rw [intRows_len] at hlk
  by_cases h40 : (40 : Int) < (ks.length : Int)
  · exact ⟨H, by simp -implicitDefEqProofs [a6, c6, frOf, c_first, hlk, binA, h40]⟩
  · obtain ⟨k, H1, fv, n1, n2, n3, n4, n5⟩ := c_new0 (H := H)
    have hlive : H1.get k = some (.cells [.sl none 5 0 (some 0), fv, noRows] false) := n2
    obtain ⟨fr', H2, es, tv, wv, l1, l2, l3, l4, inv⟩ := marks_loop (rest := [fv, noRows]) hk hn (by omega) hn2 ks.length 0 H1 [] (.sl none 5 0 (some 0)) (.sl none 1 0 (some 0)) (by omega) (Nat.zero_le _) ⟨n5, n3, n4, n2, .inl ⟨_, _, rfl, rfl⟩, .inl ⟨_, _, rfl, rfl⟩, fun i hi => (by cases hi), fun i hi => (by cases hi), fun p hp => (by cases hp)⟩
    have hes : es.length < 1000000 := by omega
    have hel : ∀ e ∈ es.map markEv, e.l.length < 1000000 := fun e he => by obtain ⟨p, _, rfl⟩ := List.mem_map.1 he; simp [markEv]
    have hrt : Rows H2 5 tv (es.map markRow) := inv.t.rows (marks_row es)
    have hrw : Rows H2 5 wv (es.map markRow) := inv.w.rows (marks_row es)
    obtain ⟨v3, H3, r3, t1, t2, t3⟩ := c_trace inv.kv hel (by simpa using hes) hrt (marks_ev H2 es)
    obtain ⟨b, H4, s1, s2, s3⟩ := c_sameEvents t2.rows (hrw.keep t3) t2.ev (marks_ev H3 es) (by simpa using hes) hel
    obtain rfl : b = true := s2.2 rfl
    have k4 := t3.trans s3
    have hk4 : H4.get k = some (.cells [tv, fv, noRows] false) := by rw [k4.get k inv.k1]; exact inv.kv
    obtain ⟨v5, H5, r5, u1, u2, u3⟩ := c_trace hk4 hel (by simpa using hes) (hrt.keep k4) (marks_ev H4 es)
    obtain ⟨v6, H6, r6, w1, w2, w3, w4⟩ := c_erase hel (by simpa using hes) u2.rows u2.ev
    have hfil : (es.map markEv).filter notPl = [] := by
      rw [List.filter_eq_nil_iff]
      intro e he
      obtain ⟨p, hp, rfl⟩ := List.mem_map.1 he
      simp [notPl, markEv, inv.pl p hp]
    have hl6 := w2.len
    rw [w3.len, hfil] at hl6
    have k6 := k4.trans (u3.trans w4)
    obtain ⟨a, s, c, htv⟩ := hrt.sl
    have hk6 : H6.get k = some (.cells [tv, fv, noRows] false) := by rw [k6.get k inv.k1]; exact inv.kv
    rw [htv] at hk6
    have hlen := c_len hk6
    have hlw := hrw.len
    simp only [List.length_map, List.length_nil] at hlen hlw hl6
    refine ⟨H6, ?_⟩
    have hp0 : ptrEq H1 (some (k, 0)) none = some false := rfl
    simp at l1
    simp -implicitDefEqProofs [a6, c6, frOf, c_first, hlk, binA, h40, n1, eqA, hp0, l1, l2, l3, t1, s1, u1, w1, hl6, hlen, hlw]
end Go.Proofs.YtlecbjcloleiiaaDoor.Ram

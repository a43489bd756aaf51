/-
  Parts of the proof: RamM, RamN, RamR, RamQ.
-/
import Derived.Test.YtbpgbhmibmcbnaaGreatDoorMge
import Derived.LoopN
/-! Code, functions, calls. -/
namespace Go.Proofs.YtbpgbhmibmcbnaaGreatDoor.Ram
open Go Go.RowKit

def okCode (P : Program) (G : List Nat) (nt : Nat) : ACode → Code → Bool
  | .keep _ c, c' => okCode P G nt c c'
  | .skip, .skip => true
  | .reg l, .region _ ops false => okOpers P G nt ops ops.toList l
  | .dreg l, .region _ ops true => okDreg P G nt ops l
  | .seq a b, .seq a' b' => okCode P G nt a a' && okCode P G nt b b'
  | .cond c a b, .cond c' a' b' => okOpd G c' c && okCode P G nt a a' && okCode P G nt b b'
  | .block id b, .block id' b' => decide (id = id') && okCode P G nt b b'
  | .loop b, .loop b' => okCode P G nt b b'
  | .exit id, .exit id' => decide (id = id')
  | .ret, .ret => true
  | .bad, _ => true
  | _, _ => false
def exOf : AEx → Exit
  | .norm => .normal
  | .exit n => .exit n
  | .ret => .ret

section
variable {P : Program} {G : List Nat} {nt : Nat} {E : Env} {O : Oracle}
theorem exec_sound (hE : okEnv P G E = true) (hO : OSound P G O) (hN : ONext O) (n : Nat) : ∀ (c : ACode) (c' : Code) {m : LMap} {H H' : AH} {w : World} {fr fr' : Fr} {a : Act} {ex : AEx} {Q : Exit → Act → World → Prop}, okCode P G nt c c' = true → aexec E O n c (fr, H) = some (ex, (fr', H')) →
    GOk G m → SR m nt fr a → HR m H w → (∀ a' m' w', SR m' nt fr' a' → HR m' H' w' → Ext m H w m' H' w' → Q (exOf ex) a' w') → c'.wp P Q a w
  | .keep l c, c', m, H, H', w, fr, fr', a, ex, Q, hok, hr, hG, hs, hh, hk => by
    simp only [okCode] at hok
    simp only [aexec] at hr
    exact exec_sound hE hO hN n c c' hok hr hG (hs.keep l) hh hk
  | .skip, c', m, H, H', w, fr, fr', a, ex, Q, hok, hr, hG, hs, hh, hk => by
    cases c' <;> first | (simp [okCode] at hok; done) | skip
    simp only [aexec, Option.some.injEq, Prod.mk.injEq] at hr
    obtain ⟨rfl, rfl, rfl⟩ := hr
    exact wp_skip (hk a m w hs hh (Ext.refl _ _ _))
  | .reg l, c', m, H, H', w, fr, fr', a, ex, Q, hok, hr, hG, hs, hh, hk => by
    cases c' <;> first | (simp [okCode] at hok; done) | skip
    rename_i id ops draw
    cases draw with
    | true => simp [okCode] at hok
    | false =>
      simp only [okCode] at hok
      simp only [aexec, Option.map_eq_some_iff, Prod.mk.injEq] at hr
      obtain ⟨⟨f1, H1⟩, h1, rfl, rfl, rfl⟩ := hr
      exact wp_region_list (ops_sound hE hO hok h1 hG hs hh hk)
  | .dreg l, c', m, H, H', w, fr, fr', a, ex, Q, hok, hr, hG, hs, hh, hk => by
    cases c' <;> first | (simp [okCode] at hok; done) | skip
    rename_i id ops draw
    cases draw with
    | false => simp [okCode] at hok
    | true =>
      simp only [okCode] at hok
      simp only [aexec, Option.map_eq_some_iff, Prod.mk.injEq] at hr
      obtain ⟨⟨f1, H1⟩, h1, rfl, rfl, rfl⟩ := hr
      exact dreg_sound hE hO hN hok h1 hG hs hh hk
  | .seq x y, c', m, H, H', w, fr, fr', a, ex, Q, hok, hr, hG, hs, hh, hk => by
    cases c' <;> first | (simp [okCode] at hok; done) | skip
    rename_i x' y'
    simp only [okCode, Bool.and_eq_true] at hok
    simp only [aexec] at hr
    rw [seqR_some] at hr
    rcases hr with ⟨⟨f1, H1⟩, h1, h2⟩ | ⟨h1, h2⟩
    · refine wp_seq (exec_sound hE hO hN n x x' hok.1 h1 hG hs hh fun a1 m1 w1 hs1 hh1 hx1 => ?_)
      simp only [exOf, Exit.then]
      exact exec_sound hE hO hN n y y' hok.2 h2 (hG.mono hx1.sub) hs1 hh1 fun a2 m2 w2 hs2 hh2 hx2 => hk a2 m2 w2 hs2 hh2 (hx1.trans hx2 fun i loc hi => (hh.dom i loc hi).1)
    · refine wp_seq (exec_sound hE hO hN n x x' hok.1 h1 hG hs hh fun a1 m1 w1 hs1 hh1 hx1 => ?_)
      cases ex with
      | norm => exact absurd rfl (h2 _)
      | exit i => exact hk a1 m1 w1 hs1 hh1 hx1
      | ret => exact hk a1 m1 w1 hs1 hh1 hx1
  | .cond c x y, c', m, H, H', w, fr, fr', a, ex, Q, hok, hr, hG, hs, hh, hk => by
    cases c' <;> first | (simp [okCode] at hok; done) | skip
    rename_i cc x' y'
    simp only [okCode, Bool.and_eq_true] at hok
    simp only [aexec, condR] at hr
    split at hr
    · rename_i hc
      have h1 := ev_sound hG hok.1.1 (hs.on _) hc
      simp only [VR] at h1
      exact wp_cond_true h1 (exec_sound hE hO hN n x x' hok.1.2 hr hG hs hh hk)
    · rename_i hc
      have h1 := ev_sound hG hok.1.1 (hs.on _) hc
      simp only [VR] at h1
      exact wp_cond_false h1 (exec_sound hE hO hN n y y' hok.2 hr hG hs hh hk)
    · cases hr
  | .block id b, c', m, H, H', w, fr, fr', a, ex, Q, hok, hr, hG, hs, hh, hk => by
    cases c' <;> first | (simp [okCode] at hok; done) | skip
    rename_i id' b'
    simp only [okCode, Bool.and_eq_true, decide_eq_true_eq] at hok
    obtain ⟨rfl, hok⟩ := hok
    simp only [aexec] at hr
    cases hs' : aexec E O n b (fr, H) with
    | none => rw [hs'] at hr; cases hr
    | some q =>
      obtain ⟨e1, f1, H1⟩ := q
      rw [hs'] at hr
      refine wp_block (exec_sound hE hO hN n b b' hok hs' hG hs hh fun a1 m1 w1 hs1 hh1 hx1 => ?_)
      cases e1 with
      | norm =>
        simp only [blockR, Option.some.injEq, Prod.mk.injEq] at hr
        obtain ⟨rfl, rfl, rfl⟩ := hr
        exact hk a1 m1 w1 hs1 hh1 hx1
      | exit j =>
        simp only [blockR] at hr
        split at hr
        · rename_i hj; subst hj
          simp only [Option.some.injEq, Prod.mk.injEq] at hr
          obtain ⟨rfl, rfl, rfl⟩ := hr
          simp only [exOf, Exit.inBlock, if_true]
          exact hk a1 m1 w1 hs1 hh1 hx1
        · rename_i hj
          simp only [Option.some.injEq, Prod.mk.injEq] at hr
          obtain ⟨rfl, rfl, rfl⟩ := hr
          simp only [exOf, Exit.inBlock, hj, if_false]
          exact hk a1 m1 w1 hs1 hh1 hx1
      | ret =>
        simp only [blockR, Option.some.injEq, Prod.mk.injEq] at hr
        obtain ⟨rfl, rfl, rfl⟩ := hr
        exact hk a1 m1 w1 hs1 hh1 hx1
  | .loop b, c', m, H, H', w, fr, fr', a, ex, Q, hok, hr, hG, hs, hh, hk => by
    cases c' <;> first | (simp [okCode] at hok; done) | skip
    rename_i b'
    simp only [okCode] at hok
    simp only [aexec] at hr
    have key : ∀ (k : Nat) {m : LMap} {H : AH} {w : World} {fr : Fr} {a : Act}, loopN (aexec E O n b) k (fr, H) = some (ex, (fr', H')) → GOk G m → SR m nt fr a → HR m H w → (∀ a' m' w', SR m' nt fr' a' → HR m' H' w' → Ext m H w m' H' w' → Q (exOf ex) a' w') → Code.rounds P b' Q k a w := by
      intro k
      induction k with
      | zero => intro m H w fr a h; cases h
      | succ k ih =>
        intro m H w fr a h hG hs hh hk
        rw [rounds_succ]
        simp only [loopN] at h
        cases hs' : aexec E O n b (fr, H) with
        | none => rw [hs'] at h; cases h
        | some q =>
          obtain ⟨e1, f1, H1⟩ := q
          rw [hs'] at h
          refine exec_sound hE hO hN n b b' hok hs' hG hs hh fun a1 m1 w1 hs1 hh1 hx1 => ?_
          cases e1 with
          | norm =>
            simp only [exOf, Exit.then]
            exact ih h (hG.mono hx1.sub) hs1 hh1 fun a2 m2 w2 hs2 hh2 hx2 => hk a2 m2 w2 hs2 hh2 (hx1.trans hx2 fun i loc hi => (hh.dom i loc hi).1)
          | exit j =>
            simp only [Option.some.injEq, Prod.mk.injEq] at h
            obtain ⟨rfl, rfl, rfl⟩ := h
            exact hk a1 m1 w1 hs1 hh1 hx1
          | ret =>
            simp only [Option.some.injEq, Prod.mk.injEq] at h
            obtain ⟨rfl, rfl, rfl⟩ := h
            exact hk a1 m1 w1 hs1 hh1 hx1
    exact wp_loop_rounds n (key n hr hG hs hh hk)
  | .exit id, c', m, H, H', w, fr, fr', a, ex, Q, hok, hr, hG, hs, hh, hk => by
    cases c' <;> first | (simp [okCode] at hok; done) | skip
    simp only [okCode, decide_eq_true_eq] at hok; subst hok
    simp only [aexec, Option.some.injEq, Prod.mk.injEq] at hr
    obtain ⟨rfl, rfl, rfl⟩ := hr
    exact wp_exit (hk a m w hs hh (Ext.refl _ _ _))
  | .ret, c', m, H, H', w, fr, fr', a, ex, Q, hok, hr, hG, hs, hh, hk => by
    cases c' <;> first | (simp [okCode] at hok; done) | skip
    simp only [aexec, Option.some.injEq, Prod.mk.injEq] at hr
    obtain ⟨rfl, rfl, rfl⟩ := hr
    exact wp_ret (hk a m w hs hh (Ext.refl _ _ _))
  | .bad, c', m, H, H', w, fr, fr', a, ex, Q, hok, hr, hG, hs, hh, hk => by cases hr

/-! ### functions -/
def okRes (P : Program) : List ResultVar → List ARes → Bool
  | [], [] => true
  | .tmp t :: l, .tmp t' :: l' => decide (t = t') && okRes P l l'
  | .cell t ty :: l, .cell t' n ag :: l' => decide (t = t') && decide (isAggB P ty = some ag) && decide (sizeB P ty = some n) && okRes P l l'
  | _, _ => false
def okFun (P : Program) (G : List Nat) (fn : Func) (F : AFun) : Bool :=
  (match fn.body with | some c => okCode P G fn.ntmps F.body c | none => false) && okRes P fn.results.toList F.res && decide (F.np ≤ fn.ntmps) && decide (fn.name ≠ "runtime.NumGoroutine")

theorem res_sound {m : LMap} {H : AH} {w : World} {fr : Fr} {a : Act} (hs : SR m nt fr a) (hh : HR m H w) : ∀ {rs : List ResultVar} {as : List ARes} {l : List AV}, okRes P rs as = true → resA (fr, H) as = some l →
    ∃ vs : List Value, (rs.mapM (m := Sem) fun | .tmp t => pure (a.tmps.getD t undef) | .cell x t => do loadVar t (← asAddr (a.tmps.getD x undef))).run P w = .ok vs w ∧ VRs m l vs
  | [], [], l, _, h => by simp only [resA, Option.some.injEq] at h; subst h; exact ⟨[], rfl, by simp [VRs]⟩
  | [], _ :: _, _, h, _ => by simp [okRes] at h
  | r :: _, [], _, h, _ => by cases r <;> simp [okRes] at h
  | .tmp t :: rs, .tmp t' :: as, l, h, hr => by
    simp only [okRes, Bool.and_eq_true, decide_eq_true_eq] at h
    obtain ⟨rfl, h⟩ := h
    simp only [resA, Option.bind_eq_some_iff, Option.map_eq_some_iff] at hr
    obtain ⟨v, hv, l', hl', rfl⟩ := hr
    obtain ⟨vs, h1, h2⟩ := res_sound hs hh h hl'
    refine ⟨a.tmps.getD t undef :: vs, ?_, by simp only [VRs]; exact ⟨_, _, rfl, hs.all t v hv, h2⟩⟩
    rw [List.mapM_cons]
    simp only [Sem.run_bind, Sem.run_pure, Result.andThen_ok, h1]
  | .tmp _ :: _, .cell .. :: _, _, h, _ => by simp [okRes] at h
  | .cell .. :: _, .tmp _ :: _, _, h, _ => by simp [okRes] at h
  | .cell x ty :: rs, .cell x' n ag :: as, l, h, hr => by
    simp only [okRes, Bool.and_eq_true, decide_eq_true_eq] at h
    obtain ⟨⟨⟨rfl, h1⟩, h2⟩, h⟩ := h
    simp only [resA, Option.bind_eq_some_iff, Option.map_eq_some_iff] at hr
    obtain ⟨p, hp, v, hv, l', hl', rfl⟩ := hr
    obtain ⟨vs, h3, h4⟩ := res_sound hs hh h hl'
    obtain ⟨cv, h5, h6⟩ := load_sound (P := P) hh h1 h2 (hs.all x p hp) hv
    refine ⟨cv :: vs, ?_, by simp only [VRs]; exact ⟨_, _, rfl, h5, h4⟩⟩
    rw [List.mapM_cons]
    have h7 : (do loadVar ty (← asAddr (a.tmps.getD x undef)) : Sem Value).run P w = .ok cv w := by
      have hpv := hs.all x p hp
      unfold loadA at hv
      split at hv
      · rename_i i off
        simp only [VR] at hpv
        obtain ⟨loc, _, e⟩ := hpv
        rw [e] at h6 ⊢
        exact h6
      · cases hv
    simp only [Sem.run_bind] at h7 ⊢
    simp only [h7, Result.andThen_ok, h3, Sem.run_pure]

theorem frOf_get (args : List AV) (n : Nat) : Fr.get (frOf args) n = args[n]? := by
  have : ∀ (l : List AV) (k n : Nat), Fr.get ((l.zipIdx k).map fun p => (p.2, p.1)) n = if k ≤ n then l[n - k]? else none := by
    intro l
    induction l with
    | nil => intro k n; simp [Fr.get]
    | cons x l ih =>
      intro k n
      simp only [List.zipIdx_cons, List.map_cons, Fr.get, ih]
      by_cases h : k = n
      · subst h; simp
      · rw [if_neg h]
        by_cases hk : k ≤ n
        · rw [if_pos hk, if_pos (by omega), show n - k = (n - (k + 1)) + 1 by omega, List.getElem?_cons_succ]
        · rw [if_neg hk, if_neg (by omega)]
  have h := this args 0 n
  simpa [frOf] using h

structure TabOk (P : Program) (G : List Nat) (T : Tab) : Prop where
  env : okEnv P G T.E = true
  code : ∀ f F, T.fn f = some (.code F) → ∃ fn, P.funcs[f]? = some fn ∧ okFun P G fn F = true
  prim : ∀ f p, T.fn f = some (.prim p) → OSound P G (fun g vs H => if g = f then p vs H else none) ∧ ∀ vs H r, p vs H = some r → H.next ≤ r.2.next

theorem aexec_next (hN : ONext O) (n : Nat) : ∀ {c : ACode} {s s' : St} {ex : AEx}, aexec E O n c s = some (ex, s') → s.2.next ≤ s'.2.next := by
  have hops : ∀ {l : List AOper} {s s' : St}, opsA E O l s = some s' → s.2.next ≤ s'.2.next := by
    intro l
    induction l with
    | nil => intro s s' h; obtain rfl := Option.some.inj h; exact Nat.le_refl _
    | cons o l ih =>
      intro s s' h
      simp only [opsA, Option.bind_eq_some_iff] at h
      obtain ⟨s1, h1, h2⟩ := h
      exact Nat.le_trans (stepA_next hN h1) (ih h2)
  have hdreg : ∀ {all l : List DOp} {s s' : St}, dregA E O all l s = some s' → s.2.next ≤ s'.2.next := by
    intro all l
    induction l with
    | nil => intro s s' h; obtain rfl := Option.some.inj h; exact Nat.le_refl _
    | cons o l ih =>
      intro s s' h
      simp only [dregA, Option.bind_eq_some_iff] at h
      obtain ⟨s1, h1, h2⟩ := h
      split at h2
      · exact Nat.le_trans (stepA_next hN h1) (ih h2)
      · cases h2
  intro c
  induction c with
  | skip => intro s s' ex h; simp only [aexec, Option.some.injEq, Prod.mk.injEq] at h; rw [h.2]; exact Nat.le_refl _
  | reg l => intro s s' ex h; simp only [aexec, Option.map_eq_some_iff, Prod.mk.injEq] at h; obtain ⟨x, h1, _, rfl⟩ := h; exact hops h1
  | dreg l => intro s s' ex h; simp only [aexec, Option.map_eq_some_iff, Prod.mk.injEq] at h; obtain ⟨x, h1, _, rfl⟩ := h; exact hdreg h1
  | keep l c ih => intro s s' ex h; simp only [aexec] at h; have h1 := ih h; exact h1
  | seq a b iha ihb =>
    intro s s' ex h
    simp only [aexec] at h
    rw [seqR_some] at h
    rcases h with ⟨s1, h1, h2⟩ | ⟨h1, _⟩
    · exact Nat.le_trans (iha h1) (ihb h2)
    · exact iha h1
  | cond c a b iha ihb =>
    intro s s' ex h
    simp only [aexec, condR] at h
    split at h
    · exact iha h
    · exact ihb h
    · cases h
  | block id b ih =>
    intro s s' ex h
    simp only [aexec] at h
    cases hs : aexec E O n b s with
    | none => rw [hs] at h; cases h
    | some q =>
      obtain ⟨e1, s1⟩ := q
      rw [hs] at h
      have h1 := ih hs
      cases e1 with
      | norm => simp only [blockR, Option.some.injEq, Prod.mk.injEq] at h; rw [← h.2]; exact h1
      | exit j =>
        simp only [blockR] at h
        split at h
        · simp only [Option.some.injEq, Prod.mk.injEq] at h; rw [← h.2]; exact h1
        · simp only [Option.some.injEq, Prod.mk.injEq] at h; rw [← h.2]; exact h1
      | ret => simp only [blockR, Option.some.injEq, Prod.mk.injEq] at h; rw [← h.2]; exact h1
  | loop b ih =>
    intro s s' ex h
    simp only [aexec] at h
    have key : ∀ (k : Nat) {s : St}, loopN (aexec E O n b) k s = some (ex, s') → s.2.next ≤ s'.2.next := by
      intro k
      induction k with
      | zero => intro s h; cases h
      | succ k ihk =>
        intro s h
        simp only [loopN] at h
        cases hs : aexec E O n b s with
        | none => rw [hs] at h; cases h
        | some q =>
          obtain ⟨e1, s1⟩ := q
          rw [hs] at h
          have h1 := ih hs
          cases e1 with
          | norm => exact Nat.le_trans h1 (ihk h)
          | exit j => simp only [Option.some.injEq, Prod.mk.injEq] at h; rw [← h.2]; exact h1
          | ret => simp only [Option.some.injEq, Prod.mk.injEq] at h; rw [← h.2]; exact h1
    exact key n h
  | exit id => intro s s' ex h; simp only [aexec, Option.some.injEq, Prod.mk.injEq] at h; rw [h.2]; exact Nat.le_refl _
  | bad => intro s s' ex h; cases h
  | ret => intro s s' ex h; simp only [aexec, Option.some.injEq, Prod.mk.injEq] at h; rw [h.2]; exact Nat.le_refl _

theorem callN_next {T : Tab} (hT : TabOk P G T) : ∀ n, ONext (callN T n) := by
  intro n
  induction n with
  | zero => intro f vs H r h; cases h
  | succ n ih =>
    intro f vs H r h
    unfold callN at h
    cases hd : T.fn f with
    | none => rw [hd] at h; cases h
    | some d =>
      rw [hd] at h
      cases d with
      | prim p => exact (hT.prim f p hd).2 _ _ _ h
      | code F =>
        simp only [afun] at h
        split at h
        · cases hs : aexec T.E (callN T n) n F.body (frOf vs, H) with
          | none => rw [hs] at h; cases h
          | some q =>
            obtain ⟨e1, s1⟩ := q
            rw [hs] at h
            have h1 := aexec_next ih n hs
            cases e1 with
            | norm => simp only [finA, Option.map_eq_some_iff] at h; obtain ⟨_, _, rfl⟩ := h; exact h1
            | ret => simp only [finA, Option.map_eq_some_iff] at h; obtain ⟨_, _, rfl⟩ := h; exact h1
            | exit j => cases h
        · cases h

theorem callN_sound {T : Tab} (hT : TabOk P G T) : ∀ n, OSound P G (callN T n) := by
  intro n
  induction n with
  | zero => intro f vs H r h; cases h
  | succ n ih =>
    intro f vs H r h m w cargs hG hh hv
    unfold callN at h
    cases hd : T.fn f with
    | none => rw [hd] at h; cases h
    | some d =>
      rw [hd] at h
      cases d with
      | prim p => exact (hT.prim f p hd).1 f vs H r (by simpa using h) m w cargs hG hh hv
      | code F =>
        obtain ⟨fn, hfn, hok⟩ := hT.code f F hd
        simp only [okFun, Bool.and_eq_true, decide_eq_true_eq] at hok
        obtain ⟨⟨⟨hbody, hres⟩, hnp⟩, hname⟩ := hok
        cases hb : fn.body with
        | none => rw [hb] at hbody; cases hbody
        | some c =>
          rw [hb] at hbody
          refine ⟨⟨fn, hfn, by rw [hb]; simp, hname⟩, ?_⟩
          simp only [afun] at h
          split at h
          · rename_i hlen
            cases hs : aexec T.E (callN T n) n F.body (frOf vs, H) with
            | none => rw [hs] at h; cases h
            | some q =>
              obtain ⟨e1, f1, H1⟩ := q
              rw [hs] at h
              have hca : cargs.size = F.np := by have := hv.length; simp at this; omega
              have hsr : SR m fn.ntmps (frOf vs) { tmps := cargs ++ Array.replicate (fn.ntmps - cargs.size) undef, defers := [] } := by
                refine ⟨fun k v hk => ?_, rfl, by simp; omega⟩
                rw [frOf_get] at hk
                obtain ⟨cv, h1, h2⟩ := hv.get hk
                have hlt : k < cargs.size := by have := (List.getElem?_eq_some_iff.1 h1).1; simpa using this
                have : (cargs ++ Array.replicate (fn.ntmps - cargs.size) undef).getD k undef = cv := by
                  rw [Array.getD_eq_getD_getElem?, Array.getElem?_append_left hlt]
                  have : cargs[k]? = some cv := by simpa using h1
                  rw [this]; rfl
                rw [this]; exact h2
              refine calls_of_wp hfn hb (exec_sound hT.env ih (callN_next hT n) n F.body c hbody hs hG hsr hh fun a' m' w' hs' hh' hx' => ?_)
              have fin : ∀ l, resA (f1, H1) F.res = some l → r = (tupOf l, H1) → a'.defers = [] ∧ ∃ v, (results fn a'.tmps).run P w' = .ok v w' ∧ ∃ cv m', Ending.returned v = .returned cv ∧ VR m' r.1 cv ∧ HR m' r.2 w' ∧ Ext m H w m' r.2 w' := fun l hl he => by
                obtain ⟨cvs, h1, h2⟩ := res_sound hs' hh' hres hl
                refine ⟨hs'.defers, (if h : cvs.toArray.size = 1 then cvs.toArray[0] else .tuple cvs.toArray), ?_, _, m', rfl, ?_, by rw [he]; exact hh', by rw [he]; exact hx'⟩
                · have hmap : (fn.results.mapM (m := Sem) fun | .tmp t => pure (a'.tmps.getD t undef) | .cell x t => do loadVar t (← asAddr (a'.tmps.getD x undef))).run P w' = .ok cvs.toArray w' := by
                    rw [Array.mapM_eq_mapM_toList]
                    simp only [Sem.run_map, h1]
                    rfl
                  unfold results
                  rw [Sem.run_bind]
                  exact (congrArg (fun z => Result.andThen z _) hmap).trans rfl
                · rw [he]
                  have h3 := h2.length
                  cases l with
                  | nil =>
                    have : cvs = [] := by simpa using h3
                    subst this
                    simp [tupOf, VR, VRs]
                  | cons x l =>
                    cases l with
                    | nil =>
                      simp only [VRs] at h2
                      obtain ⟨v, r', rfl, h4, rfl⟩ := h2
                      simpa [tupOf] using h4
                    | cons y l =>
                      have hsz : ¬ cvs.toArray.size = 1 := by simp at h3 ⊢; omega
                      rw [dif_neg hsz]
                      simp only [tupOf, VR]
                      exact ⟨_, rfl, by simpa using h2⟩
              cases e1 with
              | norm =>
                simp only [finA, Option.map_eq_some_iff] at h
                obtain ⟨l, hl, he⟩ := h
                exact fin l hl he.symm
              | ret =>
                simp only [finA, Option.map_eq_some_iff] at h
                obtain ⟨l, hl, he⟩ := h
                exact fin l hl he.symm
              | exit j => cases h
          · cases h

theorem Call_sound {T : Tab} (hT : TabOk P G T) {f : Nat} {vs : List AV} {H : AH} {r : AV × AH} (h : Call T f vs H = some r) {m : LMap} {w : World} {cargs : Array Value} (hG : GOk G m) (hh : HR m H w) (hv : VRs m vs cargs.toList) :
    Calls P f cargs w fun e w' => ∃ cv m', e = .returned cv ∧ VR m' r.1 cv ∧ HR m' r.2 w' ∧ Ext m H w m' r.2 w' := by
  obtain ⟨n, hn⟩ := Call_iff.1 h
  exact (callN_sound hT n f vs H r hn m w cargs hG hh hv).2
end
end Go.Proofs.YtbpgbhmibmcbnaaGreatDoor.Ram

/-! The machine as a program that the kernel may run: 'callC'; what it answers 'Call' answers. A closed call as a prim. -/
namespace Go.Proofs.YtbpgbhmibmcbnaaGreatDoor.Ram
open Go Go.RowKit

mutual
def AV.beq : AV → AV → Bool
  | .int k n, .int k' n' => decide (k = k') && decide (n = n')
  | .bool a, .bool b => a == b
  | .str a, .str b => decide (a = b)
  | .ptr a, .ptr b => decide (a = b)
  | .sl a b c d, .sl a' b' c' d' => decide (a = a') && decide (b = b') && decide (c = c') && decide (d = d')
  | .map a, .map b => decide (a = b)
  | .fn f l, .fn f' l' => decide (f = f') && AV.beqs l l'
  | .nilFn, .nilFn => true
  | .nilI, .nilI => true
  | .ifc t v, .ifc t' v' => decide (t = t') && AV.beq v v'
  | .agg l, .agg l' => AV.beqs l l'
  | .tup l, .tup l' => AV.beqs l l'
  | _, _ => false
def AV.beqs : List AV → List AV → Bool
  | [], [] => true
  | x :: l, y :: l' => AV.beq x y && AV.beqs l l'
  | _, _ => false
end
mutual
theorem AV.eq_of_beq : ∀ {x y : AV}, AV.beq x y = true → x = y := by
  intro x y h
  cases x <;> cases y <;> simp only [AV.beq, Bool.and_eq_true, decide_eq_true_eq, beq_iff_eq] at h <;> first | (cases h; done) | skip
  · obtain ⟨rfl, rfl⟩ := h; rfl
  · subst h; rfl
  · subst h; rfl
  · subst h; rfl
  · obtain ⟨⟨⟨rfl, rfl⟩, rfl⟩, rfl⟩ := h; rfl
  · subst h; rfl
  · obtain ⟨rfl, h⟩ := h; rw [AV.eq_of_beqs h]
  · rfl
  · rfl
  · obtain ⟨rfl, h⟩ := h; rw [AV.eq_of_beq h]
  · rw [AV.eq_of_beqs h]
  · rw [AV.eq_of_beqs h]
theorem AV.eq_of_beqs : ∀ {x y : List AV}, AV.beqs x y = true → x = y := by
  intro x y h
  cases x <;> cases y <;> simp only [AV.beqs, Bool.and_eq_true] at h <;> first | (cases h; done) | skip
  · rfl
  · obtain ⟨h1, h2⟩ := h
    rw [AV.eq_of_beq h1, AV.eq_of_beqs h2]
end
def optBeq : Option AV → Option AV → Bool
  | none, none => true
  | some x, some y => AV.beq x y
  | _, _ => false
theorem eq_of_optBeq {x y : Option AV} (h : optBeq x y = true) : x = y := by
  cases x <;> cases y <;> simp only [optBeq] at h <;> first | (cases h; done) | skip
  · rfl
  · rw [AV.eq_of_beq h]

def sameReadB (E : Env) (fr : Fr) (H H' : AH) (r : AOper) : Bool := match wantedA fr r.guard with
  | some false => true
  | some true => optBeq (readA E fr H' r.op) (readA E fr H r.op)
  | none => false
theorem sameRead_of {E : Env} {fr : Fr} {H H' : AH} {r : AOper} (h : sameReadB E fr H H' r = true) : sameRead E fr H H' r := by
  unfold sameReadB at h
  split at h
  · rename_i e; exact .inl e
  · rename_i e; exact .inr ⟨e, eq_of_optBeq h⟩
  · cases h
def dregC (E : Env) (O : Oracle) (all : List DOp) : List DOp → Fr × AH → Option (Fr × AH)
  | [], st => some st
  | d :: l, st => (stepA E O d.o st).bind fun st' =>
    if (d.chk.all fun j => match findD all j with | some r => sameReadB E st.1 st.2 st'.2 r | none => true) = true then dregC E O all l st' else none
def aexecC (E : Env) (O : Oracle) (n : Nat) : ACode → St → Res
  | .skip, st => some (.norm, st)
  | .reg ops, st => (opsA E O ops st).map fun s => (.norm, s)
  | .dreg ops, st => (dregC E O ops ops st).map fun s => (.norm, s)
  | .keep l c, st => aexecC E O n c (Fr.keep st.1 l, st.2)
  | .seq a b, st => seqR (aexecC E O n a st) (aexecC E O n b)
  | .cond c a b, st => condR (c.ev st.1) (aexecC E O n a st) (aexecC E O n b st)
  | .block id b, st => blockR id (aexecC E O n b st)
  | .loop b, st => loopN (aexecC E O n b) n st
  | .exit id, st => some (.exit id, st)
  | .ret, st => some (.ret, st)
  | .bad, _ => none
def afunC (E : Env) (O : Oracle) (n : Nat) (F : AFun) (args : List AV) (H : AH) : Option (AV × AH) :=
  if args.length = F.np then finA F (aexecC E O n F.body (frOf args, H)) else none
def callC (T : Tab) : Nat → Oracle
  | 0, _, _, _ => none
  | n + 1, f, args, H => match T.fn f with
    | none => none
    | some (.prim p) => p args H
    | some (.code F) => afunC T.E (callC T n) n F args H
def HG (k : Nat) (l : List (Nat × List AV)) : AH := { next := k, get := fun i => (l.find? fun p => p.1 == i).map fun p => .cells p.2 true }
abbrev H00 (k : Nat) : AH := HG k []
def Holds (l : List (Nat × List AV)) (H : AH) : Prop := ∀ p ∈ l, H.get p.1 = some (.cells p.2 true)
def inDom (G : List Nat) (l : List (Nat × List AV)) (i : Nat) : Bool := (decide (i < 1000) && G.contains i) || G.contains (1000 + i) || l.any fun p => p.1 == i
end Go.Proofs.YtbpgbhmibmcbnaaGreatDoor.Ram

/-! How a law begins: what is laid has numbers below 100 (globals' blocks by their numbers), the arguments' blocks from 100 on, read-only. -/
namespace Go.Proofs.YtbpgbhmibmcbnaaGreatDoor.Ram
open Go Go.RowKit

def mapOf (L : Nat → Option Loc) (as : List (Loc × List AV)) : LMap := fun i => if i < 100 then L i else (as[i - 100]?).map (·.1)
def heapOf (C : Nat → Option (List AV)) (as : List (Loc × List AV)) : AH := { next := 100 + as.length, get := fun i => if i < 100 then (C i).map (.cells · true) else (as[i - 100]?).map fun a => .cells a.2 true }
theorem HR.start {W : World} {L : Nat → Option Loc} {C : Nat → Option (List AV)} {as : List (Loc × List AV)} (h0 : ∀ i loc, i < 100 → L i = some loc → loc.b < W.heap.size)
    (hc : ∀ i loc l, i < 100 → L i = some loc → C i = some l → ObjR (mapOf L as) W loc (.cells l true)) (ha : ∀ a ∈ as, ObjR (mapOf L as) W a.1 (.cells a.2 true)) : HR (mapOf L as) (heapOf C as) W := by
  have hb : ∀ a ∈ as, a.1.b < W.heap.size := fun a h => by
    obtain ⟨c, e, f, h2, _⟩ := ha a h
    exact (Array.getElem?_eq_some_iff.1 h2).1
  have hro : ∀ i o, (heapOf C as).get i = some o → o.ro = true := fun i o ho => by
    simp only [heapOf] at ho
    split at ho
    · obtain ⟨a, _, rfl⟩ := Option.map_eq_some_iff.1 ho; rfl
    · obtain ⟨a, _, rfl⟩ := Option.map_eq_some_iff.1 ho; rfl
  refine ⟨fun i hi => ?_, fun i loc hi => ?_, fun i loc o hi ho => ?_, fun i j li lj oi oj hi hj hoi hoj hne hs => ?_, fun j ht => (by cases ht), fun j lj l ht => (by cases ht)⟩
  · simp only [heapOf] at hi ⊢
    rw [if_neg (by omega), List.getElem?_eq_none (by omega)]; rfl
  · simp only [mapOf] at hi
    split at hi
    · rename_i h100
      exact ⟨by simp only [heapOf]; omega, h0 i loc h100 hi⟩
    · obtain ⟨a, h2, rfl⟩ := Option.map_eq_some_iff.1 hi
      have := (List.getElem?_eq_some_iff.1 h2).1
      exact ⟨by simp only [heapOf]; omega, hb a (List.mem_of_getElem? h2)⟩
  · simp only [heapOf] at ho
    simp only [mapOf] at hi
    split at ho
    · rename_i h100
      rw [if_pos h100] at hi
      obtain ⟨l, h2, rfl⟩ := Option.map_eq_some_iff.1 ho
      exact hc i loc l h100 hi h2
    · rename_i h100
      rw [if_neg h100] at hi
      obtain ⟨a, h2, rfl⟩ := Option.map_eq_some_iff.1 ho
      rw [h2] at hi
      obtain rfl := Option.some.inj hi
      exact ha a (List.mem_of_getElem? h2)
  · simp [shar, hro i oi hoi, hro j oj hoj] at hs
theorem Ext.below {W W' : World} {L : Nat → Option Loc} {C : Nat → Option (List AV)} {as : List (Loc × List AV)} {m' : LMap} {H' : AH} (h : Ext (mapOf L as) (heapOf C as) W m' H' W') : Below W.heap.size W W' :=
  ⟨h.os, h.tape, h.output, h.size, fun k hk => h.frame k hk fun hm => by
    obtain ⟨i, loc, o, _, ho, hr, _⟩ := hm
    simp only [heapOf] at ho
    split at ho
    · obtain ⟨a, _, rfl⟩ := Option.map_eq_some_iff.1 ho; rcases hr with hr | hr <;> cases hr
    · obtain ⟨a, _, rfl⟩ := Option.map_eq_some_iff.1 ho; rcases hr with hr | hr <;> cases hr⟩
end Go.Proofs.YtbpgbhmibmcbnaaGreatDoor.Ram

/-! An argument that is a slice of one-cell elements. -/
namespace Go.Proofs.YtbpgbhmibmcbnaaGreatDoor.Ram
open Go Go.RowKit

theorem slice_arg {W : World} {m : LMap} {g : Loc} (hg : ObjR m W g (.cells [] true)) {a : Addr} {len cap : Nat} {xs : List AV} {vs : List Value} (hx : VRs m xs vs) (h1 : xs.all oneCell = true) (hcap : xs.length = cap) (hl : len ≤ cap) (hm : cap ≤ maxLen)
    (hc : ∀ i v, vs[i]? = some v → W.cell? (a.add i) = some v) :
    ∃ (loc : Loc) (l : List AV), ObjR m W loc (.cells l true) ∧ (len ≤ l.length ∧ l.take len = xs.take len) ∧ ∀ m' i, m' i = some loc → VR m' (.sl (some (i, 0)) 1 len none) (.slice (some a) len cap) := by
  have hv := hx.length
  by_cases h0 : cap = 0
  · refine ⟨g, [], hg, ⟨by simp; omega, by rw [show len = 0 by omega]; simp⟩, fun m' i hi => ?_⟩
    simp only [VR]
    exact ⟨g, cap, a, hi, rfl, fun h => absurd h (by omega), hl, by omega, hm, fun d hd => by cases hd⟩
  · obtain ⟨b, off, spot⟩ := a
    have hc0 := hc 0 (vs[0]'(by omega)) (List.getElem?_eq_getElem (by omega))
    have hspot : spot = none := by simpa [Addr.add] using World.cell?_spot hc0
    subst hspot
    have hcell : ∀ i v, vs[i]? = some v → W.cell? ⟨b, off + i, none⟩ = some v := fun i v hi => by rw [← Go.WideShapes.add_plain]; exact hc i v hi
    have hc1 := hcell 0 _ (List.getElem?_eq_getElem (show 0 < vs.length by omega))
    obtain ⟨c, e, f, hb⟩ : ∃ c e f, W.heap[b]? = some (.cells c e f) := by
      simp only [World.cell?] at hc1
      split at hc1
      · rename_i c e f hb; exact ⟨c, e, f, hb⟩
      all_goals cases hc1
    have hgetc : ∀ i v, vs[i]? = some v → c[off + i]? = some v := fun i v hi => by
      have := hcell i v hi
      simpa [World.cell?, hb] using this
    have hlast := hgetc (cap - 1) _ (List.getElem?_eq_getElem (show cap - 1 < vs.length by omega))
    have hlt : off + (cap - 1) < c.size := (Array.getElem?_eq_some_iff.1 hlast).1
    refine ⟨⟨b, off, c.size - off, false⟩, xs, ⟨c, e, f, hb, fun h => (by rcases h with h | h <;> cases h), (by dsimp only; omega), (by dsimp only; omega), fun j x hj => ?_⟩, ⟨by omega, rfl⟩, fun m' i hi => ?_⟩
    · obtain ⟨v, h2, h3⟩ := hx.get hj
      exact ⟨v, hgetc j v h2, h3, List.all_eq_true.1 h1 x (List.mem_of_getElem? hj)⟩
    · simp only [VR]
      exact ⟨_, cap, _, hi, rfl, fun _ => by simp, hl, (by dsimp only; omega), hm, fun d hd => by cases hd⟩
end Go.Proofs.YtbpgbhmibmcbnaaGreatDoor.Ram

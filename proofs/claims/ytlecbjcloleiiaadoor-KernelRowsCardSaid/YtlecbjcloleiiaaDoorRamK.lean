import Derived.Test.YtlecbjcloleiiaaDoorRamJ
/-! Regions whose order is open: the induction over whatever order comes. -/
namespace Go.Proofs.YtlecbjcloleiiaaDoor.Ram
open Go Go.RowKit

section
variable {P : Program} {G : List Nat} {nt : Nat} {E : Env} {O : Oracle} {ops : Array Oper} {L : List DOp} {st : Nat → St} {m0 : LMap} {w0 : World}

/-- Our order's run. -/
structure Can (E : Env) (O : Oracle) (L : List DOp) (st : Nat → St) : Prop where
  step : ∀ (k : Nat) (d : DOp), L[k]? = some d → stepA E O d.o (st k) = some (st (k + 1))
  chk : ∀ (k : Nat) (d : DOp), L[k]? = some d → ∀ j ∈ d.chk, ∀ r, findD L j = some r → sameRead E (st k).1 (st k).2 (st (k + 1)).2 r

theorem Can.next (hc : Can E O L st) (hO : ONext O) {k k' : Nat} (h : k ≤ k') (hl : k' ≤ L.length) : (st k).2.next ≤ (st k').2.next := by
  obtain ⟨d, rfl⟩ := Nat.le.dest h
  clear h
  induction d with
  | zero => exact Nat.le_refl _
  | succ d ih =>
    have hk : k + d < L.length := by omega
    exact Nat.le_trans (ih (by omega)) (stepA_next hO (hc.step (k + d) _ (List.getElem?_eq_getElem hk)))
/-- No writer between: the slot is as it was. -/
theorem Can.frame (hc : Can E O L st) {t k k' : Nat} (h : k ≤ k') (hl : k' ≤ L.length) (hn : ∀ (q : Nat) (d : DOp), k ≤ q → q < k' → L[q]? = some d → d.o.dst ≠ some t) : Fr.get (st k').1 t = Fr.get (st k).1 t := by
  obtain ⟨d, rfl⟩ := Nat.le.dest h
  clear h
  induction d with
  | zero => rfl
  | succ d ih =>
    have hk : k + d < L.length := by omega
    have h1 := stepA_frame (hc.step (k + d) _ (List.getElem?_eq_getElem hk)) (t := t) (hn (k + d) _ (by omega) (by omega) (List.getElem?_eq_getElem hk))
    exact h1.trans (ih (by omega) (fun q d' h2 h3 h4 => hn q d' h2 (by omega) h4))

theorem DOK.dst_ne (D : DOK P G nt ops L) {k k' : Nat} {q d : DOp} (hne : k ≠ k') (hq : L[k]? = some q) (hd : L[k']? = some d) {t : Nat} (h1 : q.o.dst = some t) : d.o.dst ≠ some t := by
  intro h2
  rcases Nat.lt_or_gt_of_ne hne with h | h
  · have := D.pair k k' q d h hq hd
    simp only [pairOk, Bool.and_eq_true, h1, h2] at this
    simp at this
  · have := D.pair k' k d q h hd hq
    simp only [pairOk, Bool.and_eq_true, h1, h2] at this
    simp at this
theorem DOK.ix_ne (D : DOK P G nt ops L) {k k' : Nat} {q d : DOp} (hne : k ≠ k') (hq : L[k]? = some q) (hd : L[k']? = some d) : q.ix ≠ d.ix := by
  rcases Nat.lt_or_gt_of_ne hne with h | h
  · have := D.pair k k' q d h hq hd
    simp only [pairOk, Bool.and_eq_true, decide_eq_true_eq] at this
    exact this.1.1.1.1.2
  · have := D.pair k' k d q h hd hq
    simp only [pairOk, Bool.and_eq_true, decide_eq_true_eq] at this
    exact fun e => this.1.1.1.1.2 e.symm
theorem DOK.touch (D : DOK P G nt ops L) {k k' : Nat} {q d : DOp} (h : k < k') (hq : L[k]? = some q) (hd : L[k']? = some d) (ht : dstIn q.o.dst (readsD d.o) = true ∨ dstIn d.o.dst (readsD q.o) = true) : q.ix ∈ d.pre := by
  have := D.pair k k' q d h hq hd
  simp only [pairOk, Bool.and_eq_true] at this
  have h2 := this.1.1.1.2
  rcases ht with ht | ht <;> simp [ht] at h2 <;> exact h2
theorem DOK.act (D : DOK P G nt ops L) {k k' : Nat} {q d : DOp} (h : k < k') (hq : L[k]? = some q) (hd : L[k']? = some d) (h1 : q.o.op.isAct = true) (h2 : d.o.op.isPure = false) : q.ix ∈ d.pre := by
  have := D.pair k k' q d h hq hd
  simp only [pairOk, Bool.and_eq_true] at this
  have h3 := this.1.1.2
  simp [h1, h2] at h3
  exact h3
theorem DOK.read (D : DOK P G nt ops L) {k k' : Nat} {q d : DOp} (h : k < k') (hq : L[k]? = some q) (hd : L[k']? = some d) (h1 : q.o.op.isRead = true) (h2 : d.o.op.isAct = true) : q.ix ∈ d.pre ∨ q.ix ∈ d.chk := by
  have := D.pair k k' q d h hq hd
  simp only [pairOk, Bool.and_eq_true] at this
  have h3 := this.1.2
  simp [h1, h2] at h3
  exact h3
theorem DOK.keeps (D : DOK P G nt ops L) {k k' : Nat} {q d : DOp} (h : k ≤ k') (hq : L[k]? = some q) (hd : L[k']? = some d) (h1 : q.o.op.isRead = true) : dstIn d.o.dst (readsD q.o) = false := by
  rcases Nat.lt_or_eq_of_le h with h | h
  · have := D.pair k k' q d h hq hd
    simp only [pairOk, Bool.and_eq_true] at this
    have h3 := this.2
    simp only [h1, Bool.not_true, Bool.false_or, Bool.not_eq_true'] at h3
    exact h3
  · subst h
    rw [hq] at hd
    obtain rfl := Option.some.inj hd
    have := D.one k q hq
    simp only [oneOk, Bool.and_eq_true] at this
    have h3 := this.2
    simp only [h1, Bool.not_true, Bool.false_or, Bool.not_eq_true'] at h3
    exact h3
theorem dstIn_iff {d : Option Nat} {l : List Nat} {t : Nat} (h : d = some t) (ht : t ∈ l) : dstIn d l = true := by
  subst h; simpa [dstIn] using ht
/-- A read's operands stay. -/
theorem read_keeps (D : DOK P G nt ops L) (hc : Can E O L st) {k j : Nat} {d : DOp} (hd : L[k]? = some d) (hr : d.o.op.isRead = true) (hkj : k ≤ j) (hj : j ≤ L.length) {t : Nat} (ht : t ∈ readsD d.o) : Fr.get (st j).1 t = Fr.get (st k).1 t :=
  hc.frame hkj hj fun q d' h1 _ h3 h4 => by
    have h5 := D.keeps h1 hd h3 hr
    rw [dstIn_iff h4 ht] at h5
    cases h5
theorem findD_at (D : DOK P G nt ops L) {k : Nat} {d : DOp} (hd : L[k]? = some d) : findD L d.ix = some d.o := by
  unfold findD
  have hmem : d ∈ L := List.mem_of_getElem? hd
  cases hf : L.find? (fun q => q.ix == d.ix) with
  | none =>
    have := List.find?_eq_none.1 hf d hmem
    simp at this
  | some q =>
    have h1 := List.find?_some hf
    have h2 := List.mem_of_find?_eq_some hf
    obtain ⟨k', hk'⟩ := List.mem_iff_getElem?.1 h2
    have : k' = k := by
      rcases Nat.decEq k' k with h | h
      · exact absurd (by simpa using h1) (D.ix_ne h hk' hd)
      · exact h
    subst this
    rw [hd] at hk'
    obtain rfl := Option.some.inj hk'
    rfl

/-- What is closed under what must come ahead holds all that stands in 'pre'. -/
theorem pre_listed (D : DOK P G nt ops L) {S : Nat → Prop} (hcl : ∀ (k : Nat) (d : DOp), L[k]? = some d → S d.ix → ∀ i ∈ edgesOf ops d.ix, S i) : ∀ (k : Nat) (d : DOp), L[k]? = some d → (∀ i ∈ edgesOf ops d.ix, S i) → ∀ i ∈ d.pre, S i := by
  intro k
  induction k using Nat.strongRecOn with
  | _ k ih =>
    intro d hd he i hi
    have h1 := D.one k d hd
    simp only [oneOk, Bool.and_eq_true, List.all_eq_true] at h1
    have h2 := h1.1.2 i hi
    obtain ⟨j, hj, h3⟩ := List.any_eq_true.1 h2
    simp only [Bool.or_eq_true, beq_iff_eq] at h3
    rcases h3 with rfl | h3
    · exact he j hj
    · obtain ⟨q, hq, h4⟩ := List.any_eq_true.1 h3
      simp only [Bool.and_eq_true, beq_iff_eq] at h4
      obtain ⟨rfl, h5⟩ := h4
      obtain ⟨k', hk'⟩ := List.mem_iff_getElem?.1 hq
      rw [List.getElem?_take] at hk'
      split at hk'
      · rename_i hlt
        exact ih k' hlt q hk' (hcl k' q hk' (he q.ix hj)) i (by simpa using h5)
      · cases hk'

/-- The state of the walk: which operations have come up ('S'), our order's stage p. -/
structure Inv (P : Program) (G : List Nat) (nt : Nat) (E : Env) (O : Oracle) (ops : Array Oper) (L : List DOp) (st : Nat → St) (m0 : LMap) (w0 : World) (S : Nat → Prop) (a : Act) (w : World) (p : Nat) (m : LMap) : Prop where
  ple : p ≤ L.length
  acts : ∀ (k : Nat) (d : DOp), k < p → L[k]? = some d → d.o.op.isAct = true → S d.ix
  late : ∀ (k : Nat) (d : DOp), p ≤ k → L[k]? = some d → d.o.op.isPure = false → ¬ S d.ix
  closed : ∀ (k : Nat) (d : DOp), L[k]? = some d → S d.ix → ∀ i ∈ edgesOf ops d.ix, S i
  hr : HR m (st p).2 w
  ext : Ext m0 (st 0).2 w0 m (st p).2 w
  pmake : ∀ (k : Nat) (d : DOp), k < p → L[k]? = some d → d.o.op.isMake = true → ¬ S d.ix → wantedA (st k).1 d.o.guard = some true → m (st k).2.next = none ∧ ∃ val obj, makeA (st k).1 d.o.op = some (val, obj) ∧ (st p).2.get (st k).2.next = some obj
  pread : ∀ (k : Nat) (d : DOp), k < p → L[k]? = some d → d.o.op.isRead = true → ¬ S d.ix → wantedA (st k).1 d.o.guard = some true → readA E (st k).1 (st p).2 d.o.op = readA E (st k).1 (st k).2 d.o.op
  frW : ∀ (k : Nat) (d : DOp) (t : Nat) (v : AV), L[k]? = some d → S d.ix → d.o.dst = some t → Fr.get (st (k + 1)).1 t = some v → VR m v (a.tmps.getD t undef)
  frN : ∀ (t : Nat) (v : AV), (∀ (k : Nat) (d : DOp), L[k]? = some d → S d.ix → d.o.dst ≠ some t) → Fr.get (st 0).1 t = some v → VR m v (a.tmps.getD t undef)
  defers : a.defers = []
  size : a.tmps.size = nt

theorem isAct_of {o : AOp} (h1 : o.isPure = false) (h2 : o.isRead = false) (h3 : o.isMake = false) : o.isAct = true := by simp [AOp.isAct, h1, h2, h3]

/-- On to the next act. -/
theorem Inv.adv (hc : Can E O L st) {S : Nat → Prop} {a : Act} {w : World} {m : LMap} : ∀ (n r : Nat), L.length - r = n → Inv P G nt E O ops L st m0 w0 S a w r m →
    ∃ p, Inv P G nt E O ops L st m0 w0 S a w p m ∧ (p < L.length → ∃ d, L[p]? = some d ∧ d.o.op.isAct = true) := by
  intro n
  induction n with
  | zero => intro r hn h; exact ⟨r, h, fun hlt => by omega⟩
  | succ n ih =>
    intro r hn h
    have hr : r < L.length := by omega
    obtain ⟨d, hd⟩ : ∃ d, L[r]? = some d := ⟨_, List.getElem?_eq_getElem hr⟩
    by_cases ha : d.o.op.isAct = true
    · exact ⟨r, h, fun _ => ⟨d, hd, ha⟩⟩
    · have hstep := hc.step r d hd
      -- the heap behind
      have hheap : (st (r + 1)).2 = (st r).2 ∨ (d.o.op.isMake = true ∧ d.o.op.isPure = false ∧ wantedA (st r).1 d.o.guard = some true ∧ ∃ val obj, makeA (st r).1 d.o.op = some (val, obj) ∧ (st (r + 1)).2 = (st r).2.push obj) := by
        unfold stepA at hstep
        split at hstep
        · cases hstep
        · have := Option.some.inj hstep; exact .inl (by rw [← this])
        · rename_i hw
          simp only [Option.map_eq_some_iff] at hstep
          obtain ⟨q, hop, he⟩ := hstep
          by_cases h0 : d.o.op.isPure = true ∨ d.o.op.isRead = true
          · exact .inl (by rw [← he]; exact opA_still h0 hop)
          · have h1 : d.o.op.isPure = false := by cases hp : d.o.op.isPure <;> simp_all
            have h2 : d.o.op.isRead = false := by cases hp : d.o.op.isRead <;> simp_all
            have h3 : d.o.op.isMake = true := by
              cases hm : d.o.op.isMake with
              | true => rfl
              | false => exact absurd (isAct_of h1 h2 hm) ha
            obtain ⟨val, obj, h4, h5⟩ := makeA_push h1 h2 h3 hop
            exact .inr ⟨h3, h1, hw, val, obj, h4, by rw [← he, h5]⟩
      have hnextr : (st r).2.get (st r).2.next = none := h.hr.wf _ (Nat.le_refl _)
      refine ih (r + 1) (by omega) ⟨hr, ?_, fun k d' h1 h2 h3 => h.late k d' (by omega) h2 h3, h.closed, ?_, ?_, ?_, ?_, h.frW, h.frN, h.defers, h.size⟩
      · intro k d' h1 h2 h3
        by_cases hk : k = r
        · subst hk; rw [hd] at h2; obtain rfl := Option.some.inj h2; exact absurd h3 ha
        · exact h.acts k d' (by omega) h2 h3
      · rcases hheap with e | ⟨_, _, _, val, obj, _, e⟩
        · rw [e]; exact h.hr
        · rw [e]; exact h.hr.push_unmapped obj
      · rcases hheap with e | ⟨_, _, _, val, obj, _, e⟩
        · rw [e]; exact h.ext
        · rw [e]; exact h.ext.push_right hnextr obj
      · intro k d' h1 h2 h3 h4 h5
        by_cases hk : k = r
        · subst hk
          rw [hd] at h2; obtain rfl := Option.some.inj h2
          refine ⟨h.hr.fresh, ?_⟩
          rcases hheap with e | ⟨_, h6, _, val, obj, h7, e⟩
          · -- a make that is wanted pushes
            have h8 : d.o.op.isPure = false ∧ d.o.op.isRead = false := by
              generalize d.o.op = op at h3
              cases op <;> first | (simp [AOp.isMake] at h3; done) | exact ⟨rfl, rfl⟩
            unfold stepA at hstep
            rw [h5] at hstep
            simp only [Option.map_eq_some_iff] at hstep
            obtain ⟨q, hop, he⟩ := hstep
            obtain ⟨val, obj, h9, h10⟩ := makeA_push h8.1 h8.2 h3 hop
            have h11 : (st (k + 1)).2 = (st k).2.push obj := by rw [← he, h10]
            rw [h11] at e
            have := congrArg AH.next e
            simp [AH.push] at this
          · exact ⟨val, obj, h7, by rw [e, AH.get_push, if_pos rfl]⟩
        · obtain ⟨h6, val, obj, h7, h8⟩ := h.pmake k d' (by omega) h2 h3 h4 h5
          refine ⟨h6, val, obj, h7, ?_⟩
          rcases hheap with e | ⟨_, _, _, _, obj', _, e⟩
          · rw [e]; exact h8
          · rw [e, AH.get_push, if_neg (by intro e'; rw [e', hnextr] at h8; cases h8)]; exact h8
      · intro k d' h1 h2 h3 h4 h5
        by_cases hk : k = r
        · subst hk
          rw [hd] at h2; obtain rfl := Option.some.inj h2
          rcases hheap with e | ⟨h6, _⟩
          · rw [e]
          · exfalso
            generalize d.o.op = op at h3 h6
            cases op <;> simp [AOp.isRead, AOp.isMake] at h3 h6
        · have h6 := h.pread k d' (by omega) h2 h3 h4 h5
          rcases hheap with e | ⟨_, _, _, _, obj', _, e⟩
          · rw [e]; exact h6
          · rw [e]
            have hstep' := hc.step k d' h2
            unfold stepA at hstep'
            rw [h5] at hstep'
            simp only [Option.map_eq_some_iff] at hstep'
            obtain ⟨q, hop, _⟩ := hstep'
            have hp : d'.o.op.isPure = false := by
              generalize d'.o.op = op at h3
              cases op <;> first | (simp [AOp.isRead] at h3; done) | rfl
            unfold opA at hop
            rw [hp, h3] at hop
            simp only [Bool.false_eq_true, if_false, if_true, Option.map_eq_some_iff] at hop
            obtain ⟨v, hv, _⟩ := hop
            rw [readA_push hnextr (h6.trans hv) obj', hv]
end
end Go.Proofs.YtlecbjcloleiiaaDoor.Ram

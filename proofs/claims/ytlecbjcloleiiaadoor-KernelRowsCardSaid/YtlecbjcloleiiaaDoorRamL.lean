import Derived.Test.YtlecbjcloleiiaaDoorRamK
/-! Regions whose order is open: one step; the end. -/
namespace Go.Proofs.YtlecbjcloleiiaaDoor.Ram
open Go Go.RowKit

section
variable {P : Program} {G : List Nat} {nt : Nat} {E : Env} {O : Oracle} {ops : Array Oper} {L : List DOp} {st : Nat → St} {m0 : LMap} {w0 : World} {S : Nat → Prop} {a : Act} {w : World} {p : Nat} {m : LMap}

theorem stepA_self {o : AOper} {s s' : St} (h : stepA E O o s = some s') {t : Nat} (ht : o.dst = some t) : (wantedA s.1 o.guard = some false ∧ s'.2 = s.2 ∧ Fr.get s'.1 t = some .und) ∨ (wantedA s.1 o.guard = some true ∧ ∃ r, opA E O s.1 s.2 o.op = some (r, s'.2) ∧ Fr.get s'.1 t = r) := by
  unfold stepA at h
  split at h
  · cases h
  · rename_i hw
    obtain rfl := Option.some.inj h
    exact .inl ⟨hw, rfl, by rw [ht]; simp [putD, Fr.get_set]⟩
  · rename_i hw
    simp only [Option.map_eq_some_iff] at h
    obtain ⟨r, h, rfl⟩ := h
    refine .inr ⟨hw, r.1, h, ?_⟩
    rw [ht]
    cases hr : r.1 with
    | none => simp [putD, Fr.get_del]
    | some v => simp [putD, Fr.get_set]

/-- The operands of what may come up read what they read in our order. -/
theorem Inv.on (D : DOK P G nt ops L) (hc : Can E O L st) (h : Inv P G nt E O ops L st m0 w0 S a w p m) {k : Nat} {d : DOp} (hd : L[k]? = some d) (hk : ¬ S d.ix) (he : ∀ i ∈ edgesOf ops d.ix, S i) : FOn m (st k).1 a (readsD d.o) := by
  intro t ht v hv
  have hpre := pre_listed D h.closed k d hd he
  have hkl : k < L.length := (List.getElem?_eq_some_iff.1 hd).1
  -- nobody has written: the slot is as at the start
  have atStart : (∀ (q : Nat) (d' : DOp), L[q]? = some d' → d'.o.dst = some t → ¬ S d'.ix ∧ k ≤ q) → VR m v (a.tmps.getD t undef) := fun hw => by
    refine h.frN t v (fun q d' h1 h2 h3 => (hw q d' h1 h3).1 h2) ?_
    rw [← hc.frame (Nat.zero_le k) (Nat.le_of_lt hkl) (fun q d' _ h2 h3 h4 => by have := (hw q d' h3 h4).2; omega)]
    exact hv
  by_cases hex : ∃ (q : Nat) (d' : DOp), L[q]? = some d' ∧ d'.o.dst = some t
  · obtain ⟨q, d', hq, hdst⟩ := hex
    have huniq : ∀ (q' : Nat) (d'' : DOp), L[q']? = some d'' → d''.o.dst = some t → q' = q := fun q' d'' h1 h2 => by
      rcases Nat.decEq q' q with hne | heq
      · exact absurd hdst (D.dst_ne hne h1 hq h2)
      · exact heq
    rcases Nat.lt_trichotomy q k with hlt | heq | hgt
    · have hin : S d'.ix := hpre _ (D.touch hlt hq hd (.inl (dstIn_iff hdst ht)))
      refine h.frW q d' t v hq hin hdst ?_
      rw [← hc.frame (k := q + 1) hlt (Nat.le_of_lt hkl) (fun q' d'' h1 _ h3 h4 => by have := huniq q' d'' h3 h4; omega)]
      exact hv
    · subst heq
      rw [hd] at hq
      obtain rfl := Option.some.inj hq
      exact atStart fun q' d'' h1 h2 => by
        have := huniq q' d'' h1 h2
        subst this
        rw [hd] at h1
        obtain rfl := Option.some.inj h1
        exact ⟨hk, Nat.le_refl _⟩
    · have hnot : ¬ S d'.ix := fun hs => hk (pre_listed D h.closed q d' hq (h.closed q d' hq hs) _ (D.touch hgt hd hq (.inr (dstIn_iff hdst ht))))
      exact atStart fun q' d'' h1 h2 => by
        have := huniq q' d'' h1 h2
        subst this
        rw [hq] at h1
        obtain rfl := Option.some.inj h1
        exact ⟨hnot, Nat.le_of_lt hgt⟩
  · exact atStart fun q d' h1 h2 => absurd ⟨q, d', h1, h2⟩ hex

/-- The frame behind an operation. -/
theorem Inv.fr_step (D : DOK P G nt ops L) (h : Inv P G nt E O ops L st m0 w0 S a w p m) {k : Nat} {d : DOp} (hd : L[k]? = some d) {m' : LMap} (hs : LSub m m') (hdst : (match d.o.dst with | some x => decide (x < nt) | none => true) = true) {cv : Value}
    (hv : ∀ t v, d.o.dst = some t → Fr.get (st (k + 1)).1 t = some v → VR m' v cv) :
    (∀ (q : Nat) (d' : DOp) (t : Nat) (v : AV), L[q]? = some d' → (S d'.ix ∨ d'.ix = d.ix) → d'.o.dst = some t → Fr.get (st (q + 1)).1 t = some v → VR m' v ((a.put d.o.dst cv).tmps.getD t undef)) ∧
    (∀ (t : Nat) (v : AV), (∀ (q : Nat) (d' : DOp), L[q]? = some d' → (S d'.ix ∨ d'.ix = d.ix) → d'.o.dst ≠ some t) → Fr.get (st 0).1 t = some v → VR m' v ((a.put d.o.dst cv).tmps.getD t undef)) ∧
    (a.put d.o.dst cv).defers = [] ∧ (a.put d.o.dst cv).tmps.size = nt := by
  have hget : ∀ t, d.o.dst ≠ some t → (a.put d.o.dst cv).tmps.getD t undef = a.tmps.getD t undef := fun t ht => by
    cases hx : d.o.dst with
    | none => rfl
    | some x =>
      rw [hx] at hdst
      simp only [decide_eq_true_eq] at hdst
      rw [put_getD a x t cv (by rw [h.size]; exact hdst), if_neg (fun e => ht (by rw [hx, e]))]
  refine ⟨fun q d' t v h1 h2 h3 h4 => ?_, fun t v h1 h2 => ?_, ?_, ?_⟩
  · by_cases hqk : q = k
    · subst hqk
      rw [hd] at h1
      obtain rfl := Option.some.inj h1
      have := hv t v h3 h4
      rw [h3] at hdst ⊢
      simp only [decide_eq_true_eq] at hdst
      rw [put_getD a t t cv (by rw [h.size]; exact hdst), if_pos rfl]
      exact this
    · rw [hget t (D.dst_ne hqk h1 hd h3)]
      rcases h2 with h2 | h2
      · exact (h.frW q d' t v h1 h2 h3 h4).mono hs
      · exact absurd h2 (D.ix_ne hqk h1 hd)
  · rw [hget t (h1 k d hd (.inr rfl))]
    exact (h.frN t v (fun q d' h3 h4 => h1 q d' h3 (.inl h4)) h2).mono hs
  · cases d.o.dst <;> exact h.defers
  · cases d.o.dst
    · exact h.size
    · simp [Act.put, h.size]

theorem Inv.step (hE : okEnv P E = true) (hO : OSound P G O) (hN : ONext O) (hG0 : GOk G m0) (D : DOK P G nt ops L) (hc : Can E O L st) (h : Inv P G nt E O ops L st m0 w0 S a w p m) (hp : p < L.length → ∃ d, L[p]? = some d ∧ d.o.op.isAct = true)
    (hdom0 : ∀ i loc, m0 i = some loc → i < (st 0).2.next) {k : Nat} {d : DOp} (hd : L[k]? = some d) (hk : ¬ S d.ix) (he : ∀ i ∈ edgesOf ops d.ix, S i) {K : Act → World → Prop} {Q : Exit → Act → World → Prop}
    (hK : ∀ a' w' p' m', Inv P G nt E O ops L st m0 w0 (fun i => S i ∨ i = d.ix) a' w' p' m' → (p' < L.length → ∃ d, L[p']? = some d ∧ d.o.op.isAct = true) → K a' w') : wpOp P ops Q d.ix K a w := by
  have hkl : k < L.length := (List.getElem?_eq_some_iff.1 hd).1
  have hpre := pre_listed D h.closed k d hd he
  have hon := h.on D hc hd hk he
  have hstep := hc.step k d hd
  have hone := D.one k d hd
  simp only [oneOk, Bool.and_eq_true] at hone
  have hok := hone.1.1.1
  have hG : GOk G m := hG0.mono h.ext.sub
  unfold wpOp
  cases ho : ops[d.ix]? with
  | none => rw [ho] at hok; cases hok
  | some o =>
    rw [ho] at hok
    simp only [okOper, Bool.and_eq_true, decide_eq_true_eq] at hok
    obtain ⟨⟨⟨hdst, hop⟩, hdlt⟩, hguard⟩ := hok
    have hwant := fun b hb => wanted_sound (ops := ops) (a := a) (m := m) (o := o) (ao := d.o) hguard (fun t want ht => hon.sub fun n hn => by
      simp only [List.mem_singleton] at hn; subst hn; simp [readsD, ht]) (b := b) hb
    -- where we are
    have hnp : d.o.op.isPure = false → k ≤ p ∧ (k = p → d.o.op.isAct = true) := fun hpu => by
      rcases Nat.lt_or_ge p k with hlt | hge
      · exfalso
        obtain ⟨dp, hdp, hact⟩ := hp (by omega)
        have := hpre _ (D.act hlt hdp hd hact hpu)
        have hpur : dp.o.op.isPure = false := by
          generalize dp.o.op = op at hact
          cases hq : op.isPure with
          | false => rfl
          | true => simp [AOp.isAct, hq] at hact
        exact h.late p dp (Nat.le_refl _) hdp hpur this
      · refine ⟨hge, fun e => ?_⟩
        subst e
        obtain ⟨dp, hdp, hact⟩ := hp hkl
        rw [hd] at hdp
        obtain rfl := Option.some.inj hdp
        exact hact
    have hactp : d.o.op.isAct = true → k = p := fun hact => by
      have hpur : d.o.op.isPure = false := by
        generalize d.o.op = op at hact
        cases hq : op.isPure with
        | false => rfl
        | true => simp [AOp.isAct, hq] at hact
      have h1 := (hnp hpur).1
      rcases Nat.lt_or_eq_of_le h1 with h2 | h2
      · exact absurd (h.acts k d h2 hd hact) hk
      · exact h2
    have hcl' : ∀ (q : Nat) (d' : DOp), L[q]? = some d' → (S d'.ix ∨ d'.ix = d.ix) → ∀ i ∈ edgesOf ops d'.ix, (S i ∨ i = d.ix) := fun q d' h1 h2 i hi => by
      rcases h2 with h2 | h2
      · exact .inl (h.closed q d' h1 h2 i hi)
      · rw [h2] at hi; exact .inl (he i hi)
    -- what is no act: the stage stays
    have stay : d.o.op.isAct = false → ∀ (m' : LMap) (w' : World) (cv : Value), LSub m m' → (∀ i loc, m' i = some loc → m i = none → i = (st k).2.next ∧ d.o.op.isMake = true ∧ wantedA (st k).1 d.o.guard = some true) → HR m' (st p).2 w' → Ext m0 (st 0).2 w0 m' (st p).2 w' →
        (∀ t v, d.o.dst = some t → Fr.get (st (k + 1)).1 t = some v → VR m' v cv) → K (a.put d.o.dst cv) w' := fun hna m' w' cv hs hnew hh hext hv => by
      obtain ⟨f1, f2, f3, f4⟩ := h.fr_step D hd hs hdlt hv
      refine hK _ w' p m' ⟨h.ple, fun q d' h1 h2 h3 => .inl (h.acts q d' h1 h2 h3), fun q d' h1 h2 h3 h4 => ?_, hcl', hh, hext, fun q d' h1 h2 h3 h4 h5 => ?_, fun q d' h1 h2 h3 h4 h5 => h.pread q d' h1 h2 h3 (fun e => h4 (.inl e)) h5, f1, f2, f3, f4⟩ hp
      · rcases h4 with h4 | h4
        · exact h.late q d' h1 h2 h3 h4
        · have hqk : q = k := by
            rcases Nat.decEq q k with hne | heq
            · exact absurd h4 (D.ix_ne hne h2 hd)
            · exact heq
          subst hqk
          rw [hd] at h2
          obtain rfl := Option.some.inj h2
          obtain ⟨h5, h6⟩ := hnp h3
          have : q = p := by omega
          rw [h6 this] at hna; cases hna
      · obtain ⟨h6, val, obj, h7, h8⟩ := h.pmake q d' h1 h2 h3 (fun e => h4 (.inl e)) h5
        refine ⟨?_, val, obj, h7, h8⟩
        cases hm' : m' (st q).2.next with
        | none => rfl
        | some loc =>
          exfalso
          obtain ⟨e, hmk, hwk⟩ := hnew _ loc hm' h6
          -- two makes have two numbers
          have hne : q ≠ k := fun e' => h4 (.inr (by subst e'; rw [hd] at h2; obtain rfl := Option.some.inj h2; rfl))
          have grow : ∀ (i : Nat) (di : DOp), L[i]? = some di → di.o.op.isMake = true → wantedA (st i).1 di.o.guard = some true → (st (i + 1)).2.next = (st i).2.next + 1 := fun i di hdi hmi hwi => by
            have h9 := hc.step i di hdi
            unfold stepA at h9
            rw [hwi] at h9
            simp only [Option.map_eq_some_iff] at h9
            obtain ⟨r, h10, h11⟩ := h9
            have hpr : di.o.op.isPure = false ∧ di.o.op.isRead = false := by
              generalize di.o.op = op at hmi
              cases op <;> first | (simp [AOp.isMake] at hmi; done) | exact ⟨rfl, rfl⟩
            obtain ⟨val, obj, _, h12⟩ := makeA_push hpr.1 hpr.2 hmi h10
            rw [← h11, h12]; rfl
          have hql : q < L.length := (List.getElem?_eq_some_iff.1 h2).1
          rcases Nat.lt_or_gt_of_ne hne with hlt | hgt
          · have := hc.next hN (k := q + 1) (k' := k) hlt (Nat.le_of_lt hkl)
            rw [grow q d' h2 h3 h5] at this
            omega
          · have := hc.next hN (k := k + 1) (k' := q) hgt (Nat.le_of_lt hql)
            rw [grow k d hd hmk hwk] at this
            omega
    -- an act: on to the next one
    have move : d.o.op.isAct = true → ∀ (m' : LMap) (w' : World) (cv : Value), HR m' (st (k + 1)).2 w' → Ext m (st p).2 w m' (st (k + 1)).2 w' →
        (∀ t v, d.o.dst = some t → Fr.get (st (k + 1)).1 t = some v → VR m' v cv) → K (a.put d.o.dst cv) w' := fun hact m' w' cv hh hext hv => by
      have hkp := hactp hact
      subst hkp
      obtain ⟨f1, f2, f3, f4⟩ := h.fr_step D hd hext.sub hdlt hv
      have hpur : d.o.op.isPure = false := by
        generalize d.o.op = op at hact
        cases hq : op.isPure with
        | false => rfl
        | true => simp [AOp.isAct, hq] at hact
      have hinv : Inv P G nt E O ops L st m0 w0 (fun i => S i ∨ i = d.ix) (a.put d.o.dst cv) w' (k + 1) m' := by
        refine ⟨hkl, fun q d' h1 h2 h3 => ?_, fun q d' h1 h2 h3 h4 => ?_, hcl', hh, h.ext.trans hext hdom0, fun q d' h1 h2 h3 h4 h5 => ?_, fun q d' h1 h2 h3 h4 h5 => ?_, f1, f2, f3, f4⟩
        · by_cases hq : q = k
          · subst hq; rw [hd] at h2; obtain rfl := Option.some.inj h2; exact .inr rfl
          · exact .inl (h.acts q d' (by omega) h2 h3)
        · rcases h4 with h4 | h4
          · exact h.late q d' (by omega) h2 h3 h4
          · exact D.ix_ne (show q ≠ k by omega) h2 hd h4
        · have hqk : q ≠ k := fun e => by
            subst e; rw [hd] at h2; obtain rfl := Option.some.inj h2
            generalize d.o.op = op at h3 hact
            simp [AOp.isAct, h3] at hact
          obtain ⟨h6, val, obj, h7, h8⟩ := h.pmake q d' (by omega) h2 h3 (fun e => h4 (.inl e)) h5
          have hlt : (st q).2.next < (st k).2.next := by
            rcases Nat.lt_or_ge (st q).2.next (st k).2.next with h9 | h9
            · exact h9
            · rw [h.hr.wf _ h9] at h8; cases h8
          refine ⟨?_, val, obj, h7, by rw [hext.unm _ hlt h6]; exact h8⟩
          cases hm' : m' (st q).2.next with
          | none => rfl
          | some loc => have := (hext.new _ loc hm' h6).1; omega
        · have hqk : q ≠ k := fun e => by
            subst e; rw [hd] at h2; obtain rfl := Option.some.inj h2
            generalize d.o.op = op at h3 hact
            simp [AOp.isAct, h3] at hact
          have hqlt : q < k := by omega
          have h6 := h.pread q d' hqlt h2 h3 (fun e => h4 (.inl e)) h5
          rcases D.read hqlt h2 hd h3 hact with h7 | h7
          · exact absurd (.inl (hpre _ h7)) h4
          · have h8 := hc.chk k d hd _ h7 d'.o (findD_at D h2)
            have hfr : ∀ t ∈ readsD d'.o, Fr.get (st k).1 t = Fr.get (st q).1 t := fun t ht => read_keeps D hc h2 h3 (Nat.le_of_lt hqlt) (Nat.le_of_lt hkl) ht
            have hw : wantedA (st k).1 d'.o.guard = wantedA (st q).1 d'.o.guard := wantedA_congr fun t want hg => hfr t (by simp [readsD, hg])
            have hcg : ∀ H, readA E (st k).1 H d'.o.op = readA E (st q).1 H d'.o.op := fun H => readA_congr fun n hn => hfr n (by simp [readsD, hn])
            unfold sameRead at h8
            rw [hw, h5, hcg, hcg] at h8
            rcases h8 with h8 | ⟨_, h8⟩
            · cases h8
            · rw [h8]; exact h6
      obtain ⟨p', h9, h10⟩ := hinv.adv hc _ (k + 1) rfl
      exact hK _ w' p' m' h9 h10
    -- the two ways
    cases hwc : wantedA (st k).1 d.o.guard with
    | none =>
      unfold stepA at hstep
      rw [hwc] at hstep
      cases hstep
    | some b =>
      cases b with
      | false =>
        have hst1 : (st (k + 1)).2 = (st k).2 ∧ ∀ t, d.o.dst = some t → Fr.get (st (k + 1)).1 t = some .und := by
          unfold stepA at hstep
          rw [hwc] at hstep
          have := Option.some.inj hstep
          rw [← this]
          exact ⟨rfl, fun t ht => by rw [ht]; simp [putD, Fr.get_set]⟩
        simp only []
        rw [if_neg (by rw [hwant false hwc]; simp), hdst]
        have hnv : ∀ (m' : LMap) t v, d.o.dst = some t → Fr.get (st (k + 1)).1 t = some v → VR m' v undef := fun m' t v h1 h2 => by rw [hst1.2 t h1] at h2; cases h2; simp [VR]
        cases hact : d.o.op.isAct with
        | false => exact stay hact m w undef (fun _ _ h => h) (fun i loc h1 h2 => by rw [h2] at h1; cases h1) h.hr h.ext (hnv m)
        | true =>
          have hkp := hactp hact
          refine move hact m w undef ?_ ?_ (hnv m)
          · rw [hst1.1, hkp]; exact h.hr
          · rw [hst1.1, hkp]; exact Ext.refl _ _ _
      | true =>
        simp only []
        rw [if_pos (hwant true hwc)]
        refine .inl ?_
        obtain ⟨r, hopA, hfrv⟩ : ∃ r, opA E O (st k).1 (st k).2 d.o.op = some (r, (st (k + 1)).2) ∧ ∀ t, d.o.dst = some t → Fr.get (st (k + 1)).1 t = r := by
          unfold stepA at hstep
          rw [hwc] at hstep
          simp only [Option.map_eq_some_iff] at hstep
          obtain ⟨q, h1, h2⟩ := hstep
          rw [← h2]
          refine ⟨q.1, h1, fun t ht => ?_⟩
          rw [ht]
          cases hr : q.1 with
          | none => simp [putD, Fr.get_del]
          | some v => simp [putD, Fr.get_set]
        have hopsf : FOn m (st k).1 a d.o.op.tmps := hon.sub fun n hn => by simp [readsD, hn]
        have hvv : ∀ (m' : LMap) (cv : Value), (∀ v, r = some v → VR m' v cv) → ∀ t v, d.o.dst = some t → Fr.get (st (k + 1)).1 t = some v → VR m' v cv := fun m' cv h1 t v h2 h3 => h1 v (by rw [← hfrv t h2]; exact h3)
        by_cases hpu : d.o.op.isPure = true
        · unfold okOp at hop
          rw [if_pos hpu] at hop
          unfold opA at hopA
          rw [if_pos hpu] at hopA
          simp only [Option.map_eq_some_iff, Prod.mk.injEq] at hopA
          obtain ⟨v, hv, rfl, _⟩ := hopA
          obtain ⟨cv, h1, h2⟩ := pure_sound hG hop hopsf hv
          have hna : d.o.op.isAct = false := by simp [AOp.isAct, hpu]
          rw [← hdst] at stay hvv
          exact wp_of_value (h2 w) (stay hna m w cv (fun _ _ h => h) (fun i loc h1 h2 => by rw [h2] at h1; cases h1) h.hr h.ext (hvv m cv fun v' e => by obtain rfl := Option.some.inj e; exact h1))
        · have hpu' : d.o.op.isPure = false := by simpa using hpu
          obtain ⟨hkle, hkact⟩ := hnp hpu'
          by_cases hre : d.o.op.isRead = true
          · have hna : d.o.op.isAct = false := by simp [AOp.isAct, hre]
            have hlt : k < p := by
              rcases Nat.lt_or_eq_of_le hkle with h1 | h1
              · exact h1
              · rw [hkact h1] at hna; cases hna
            unfold okOp at hop
            rw [if_neg hpu, if_pos hre] at hop
            unfold opA at hopA
            rw [if_neg hpu, if_pos hre] at hopA
            simp only [Option.map_eq_some_iff, Prod.mk.injEq] at hopA
            obtain ⟨v, hv, rfl, _⟩ := hopA
            rw [← h.pread k d hlt hd hre hk hwc] at hv
            obtain ⟨cv, h1, h2⟩ := read_sound hE hG h.hr hop hopsf hv
            rw [← hdst] at stay hvv
            exact wp_of_value h2 (stay hna m w cv (fun _ _ h => h) (fun i loc h1 h2 => by rw [h2] at h1; cases h1) h.hr h.ext (hvv m cv fun v' e => by obtain rfl := Option.some.inj e; exact h1))
          · have hre' : d.o.op.isRead = false := by simpa using hre
            by_cases hma : d.o.op.isMake = true
            · have hna : d.o.op.isAct = false := by simp [AOp.isAct, hma]
              have hlt : k < p := by
                rcases Nat.lt_or_eq_of_le hkle with h1 | h1
                · exact h1
                · rw [hkact h1] at hna; cases hna
              unfold okOp at hop
              rw [if_neg hpu, if_neg hre, if_pos hma] at hop
              obtain ⟨hmn, val, obj, hmk, hgo⟩ := h.pmake k d hlt hd hma hk hwc
              obtain ⟨val', obj', h3, h4⟩ := makeA_push hpu' hre' hma hopA
              rw [hmk] at h3
              obtain ⟨rfl, rfl⟩ := Prod.mk.inj (Option.some.inj h3)
              obtain ⟨cv, bo, n, h5, h6⟩ := make_sound (w := w) hG hop hopsf hmk
              have hr1 : r = some (val (st k).2.next) := (Prod.mk.inj h4).1
              have h0k := hc.next hN (Nat.zero_le k) (Nat.le_of_lt hkl)
              rw [← hdst] at stay hvv
              refine wp_of_value h5 (stay hna (m.put (st k).2.next ⟨w.heap.size, 0, n⟩) (w.alloc bo) cv (LMap.put_sub hmn) (fun i loc h7 h8 => ?_) (h.hr.map_new hmn hgo bo n h6.objR (makeA_ro hmk)) (h.ext.map_new hmn h0k bo n) (hvv _ cv fun v' e => ?_))
              · unfold LMap.put at h7
                split at h7
                · rename_i e; exact ⟨e, hma, hwc⟩
                · rw [h8] at h7; cases h7
              · rw [hr1] at e
                obtain rfl := Option.some.inj e
                exact h6.valR _ _ (LMap.put_self _ _ _)
            · have hma' : d.o.op.isMake = false := by simpa using hma
              have hact := isAct_of hpu' hre' hma'
              have hkp := hactp hact
              unfold okOp at hop
              rw [if_neg hpu, if_neg hre, if_neg hma] at hop
              unfold opA at hopA
              rw [if_neg hpu, if_neg hre, if_neg hma] at hopA
              have hhk : HR m (st k).2 w := by rw [hkp]; exact h.hr
              rw [← hdst] at move hvv
              exact act_sound hO hG hhk hop hopsf hopA fun cv m' w' h1 h2 h3 => move hact m' w' cv h2 (by rw [← hkp]; exact h3) (hvv m' cv h1)

theorem countP_lt {α : Type} {l : List α} {p q : α → Bool} (h : ∀ x, q x = true → p x = true) (hx : ∃ x ∈ l, p x = true ∧ q x = false) : l.countP q < l.countP p := by
  induction l with
  | nil => obtain ⟨x, hx, _⟩ := hx; cases hx
  | cons y l ih =>
    have hle : l.countP q ≤ l.countP p := List.countP_mono_left fun x _ => h x
    obtain ⟨x, hx, h1, h2⟩ := hx
    rw [List.countP_cons, List.countP_cons]
    rcases List.mem_cons.1 hx with rfl | hx
    · rw [h1, h2]; simp; omega
    · have := ih ⟨x, hx, h1, h2⟩
      cases hq : q y with
      | true => rw [h y hq]; simp; omega
      | false => cases p y <;> simp <;> omega

theorem edges_mem {ops : Array Oper} {ix : Nat} {o : Oper} (ho : ops[ix]? = some o) {i : Nat} : i ∈ edgesOf ops ix ↔ ∃ e ∈ o.after, Region.binds .any e = true ∧ e.on = i := by
  simp only [edgesOf, ho, List.mem_map, List.mem_filter, Array.mem_toList_iff]
  constructor
  · rintro ⟨e, ⟨h1, h2⟩, rfl⟩; exact ⟨e, h1, h2, rfl⟩
  · rintro ⟨e, h1, h2, rfl⟩; exact ⟨e, ⟨h1, h2⟩, rfl⟩

/-- Whatever order comes up from here on. -/
theorem Inv.any (hE : okEnv P E = true) (hO : OSound P G O) (hN : ONext O) (hG0 : GOk G m0) (D : DOK P G nt ops L) (hc : Can E O L st) (hdom0 : ∀ i loc, m0 i = some loc → i < (st 0).2.next) {Q : Exit → Act → World → Prop}
    (hk : ∀ a' m' w', SR m' nt (st L.length).1 a' → HR m' (st L.length).2 w' → Ext m0 (st 0).2 w0 m' (st L.length).2 w' → Q .normal a' w') : ∀ (fuel : Nat) (listed : Array Bool) (a : Act) (w : World) (p : Nat) (m : LMap),
      listed.size = ops.size → (List.range ops.size).countP (fun i => !listed.getD i true) ≤ fuel → Inv P G nt E O ops L st m0 w0 (fun i => listed.getD i false = true) a w p m → (p < L.length → ∃ d, L[p]? = some d ∧ d.o.op.isAct = true) →
      wpAny P .any ops Q fuel listed a w := by
  have hpos : ∀ i o, ops[i]? = some o → ∃ (k : Nat) (d : DOp), L[k]? = some d ∧ d.ix = i := fun i o ho => D.onto i (Array.getElem?_eq_some_iff.1 ho).1
  -- all have come up
  have done : ∀ (listed : Array Bool) (a : Act) (w : World) (p : Nat) (m : LMap), listed.size = ops.size → Inv P G nt E O ops L st m0 w0 (fun i => listed.getD i false = true) a w p m → (p < L.length → ∃ d, L[p]? = some d ∧ d.o.op.isAct = true) → Region.ready .any ops listed = [] → Q .normal a w := by
    intro listed a w p m hsz h hp hrd
    have hall : ∀ (k : Nat) (d : DOp), L[k]? = some d → listed.getD d.ix false = true := by
      intro k
      induction k using Nat.strongRecOn with
      | _ k ih =>
        intro d hd
        have hone := D.one k d hd
        simp only [oneOk, Bool.and_eq_true, List.all_eq_true] at hone
        cases hl : listed.getD d.ix false with
        | true => rfl
        | false =>
          exfalso
          cases ho : ops[d.ix]? with
          | none => have := hone.1.1.1; rw [ho] at this; cases this
          | some o =>
            have hlt : d.ix < listed.size := by rw [hsz]; exact (Array.getElem?_eq_some_iff.1 ho).1
            have hmem : d.ix ∈ Region.ready .any ops listed := mem_ready.2 ⟨by
              rw [Array.getD_eq_getD_getElem?, Array.getElem?_eq_getElem hlt] at hl ⊢; exact hl, o, ho, fun e he hb => by
              have h1 := hone.1.1.2 e.on ((edges_mem ho).2 ⟨e, he, hb, rfl⟩)
              obtain ⟨q, hq, h2⟩ := List.any_eq_true.1 h1
              simp only [beq_iff_eq] at h2
              obtain ⟨k', hk'⟩ := List.mem_iff_getElem?.1 hq
              rw [List.getElem?_take] at hk'
              split at hk'
              · rename_i hlt'; rw [← h2]; exact ih k' hlt' q hk'
              · cases hk'⟩
            rw [hrd] at hmem
            cases hmem
    have hpn : p = L.length := by
      rcases Nat.lt_or_eq_of_le h.ple with hlt | he
      · exfalso
        obtain ⟨d, hd, hact⟩ := hp hlt
        refine h.late p d (Nat.le_refl _) hd ?_ (hall p d hd)
        generalize d.o.op = op at hact
        cases hq : op.isPure with
        | false => rfl
        | true => simp [AOp.isAct, hq] at hact
      · exact he
    subst hpn
    refine hk a m w ⟨fun t v hv => ?_, h.defers, h.size⟩ h.hr h.ext
    by_cases hex : ∃ (q : Nat) (d' : DOp), L[q]? = some d' ∧ d'.o.dst = some t
    · obtain ⟨q, d', hq, hdst⟩ := hex
      have hql : q < L.length := (List.getElem?_eq_some_iff.1 hq).1
      refine h.frW q d' t v hq (hall q d' hq) hdst ?_
      rw [← hc.frame (k := q + 1) hql (Nat.le_refl _) (fun q' d'' h1 _ h3 h4 => by
        rcases Nat.decEq q q' with hne | heq
        · exact D.dst_ne hne hq h3 hdst h4
        · omega)]
      exact hv
    · refine h.frN t v (fun q d' h1 _ h3 => hex ⟨q, d', h1, h3⟩) ?_
      rw [← hc.frame (Nat.zero_le _) (Nat.le_refl _) (fun q d' _ _ h3 h4 => hex ⟨q, d', h3, h4⟩)]
      exact hv
  intro fuel
  induction fuel with
  | zero =>
    intro listed a w p m hsz hcnt h hp
    have hrd : Region.ready .any ops listed = [] := by
      rw [List.eq_nil_iff_forall_not_mem]
      intro i hi
      obtain ⟨h1, o, ho, _⟩ := mem_ready.1 hi
      have hlt : i < ops.size := (Array.getElem?_eq_some_iff.1 ho).1
      have : 0 < (List.range ops.size).countP (fun i => !listed.getD i true) := List.countP_pos_iff.2 ⟨i, List.mem_range.2 hlt, by rw [h1]; rfl⟩
      omega
    exact ⟨hrd, done listed a w p m hsz h hp hrd⟩
  | succ fuel ih =>
    intro listed a w p m hsz hcnt h hp
    refine ⟨fun hrd => done listed a w p m hsz h hp hrd, fun i hi => ?_⟩
    obtain ⟨h1, o, ho, h2⟩ := mem_ready.1 hi
    have hlt : i < ops.size := (Array.getElem?_eq_some_iff.1 ho).1
    obtain ⟨k, d, hd, rfl⟩ := hpos i o ho
    have hun : ¬ listed.getD d.ix false = true := by
      have hlt' : d.ix < listed.size := by rw [hsz]; exact hlt
      rw [Array.getD_eq_getD_getElem?, Array.getElem?_eq_getElem hlt'] at h1 ⊢
      simp only [Option.getD_some] at h1 ⊢
      rw [h1]; simp
    refine h.step hE hO hN hG0 D hc hp hdom0 hd hun (fun j hj => ?_) fun a' w' p' m' hinv hp' => ?_
    · obtain ⟨e, he, hb, rfl⟩ := (edges_mem ho).1 hj
      exact h2 e he hb
    · have hS : (fun j => listed.getD j false = true ∨ j = d.ix) = (fun j => (listed.setIfInBounds d.ix true).getD j false = true) := by
        funext j
        apply propext
        by_cases hj : j = d.ix
        · subst hj
          have hlt' : d.ix < listed.size := by rw [hsz]; exact hlt
          simp [Array.getD_eq_getD_getElem?, hlt']
        · rw [getD_set_ne false (fun e => hj e.symm)]
          simp [hj]
      rw [hS] at hinv
      refine ih _ a' w' p' m' (by simp [hsz]) ?_ hinv hp'
      have : (List.range ops.size).countP (fun i => !(listed.setIfInBounds d.ix true).getD i true) < (List.range ops.size).countP (fun i => !listed.getD i true) := by
        refine countP_lt (fun j hj => ?_) ⟨d.ix, List.mem_range.2 hlt, by rw [h1]; rfl, ?_⟩
        · by_cases hjd : j = d.ix
          · subst hjd; rw [h1]; rfl
          · rw [getD_set_ne true (fun e => hjd e.symm)] at hj; exact hj
        · have hlt' : d.ix < listed.size := by rw [hsz]; exact hlt
          simp [Array.getD_eq_getD_getElem?, hlt']
      omega

theorem dreg_sound (hE : okEnv P E = true) (hO : OSound P G O) (hN : ONext O) {id : Nat} (hok : okDreg P G nt ops L = true) {fr fr' : Fr} {H H' : AH} (hr : dregA E O L L (fr, H) = some (fr', H')) (hG : GOk G m) (hs : SR m nt fr a) (hh : HR m H w) {Q : Exit → Act → World → Prop}
    (hk : ∀ a' m' w', SR m' nt fr' a' → HR m' H' w' → Ext m H w m' H' w' → Q .normal a' w') : (Code.region id ops true).wp P Q a w := by
  have D := DOK.of hok
  obtain ⟨st, e0, e1, e2⟩ := dreg_trace hr
  have hc : Can E O L st := ⟨fun k d hd => (e2 k d hd).1, fun k d hd => (e2 k d hd).2⟩
  refine wp_region_any D.mix ?_
  have hsz : (Array.replicate ops.size false).size = ops.size := by simp
  have hnl : ∀ i, ¬ (Array.replicate ops.size false).getD i false = true := fun i => by
    rw [Array.getD_eq_getD_getElem?, Array.getElem?_replicate]
    split <;> simp
  have hinv : Inv P G nt E O ops L st m { w with drawn := w.drawn + 1 } (fun i => (Array.replicate ops.size false).getD i false = true) a { w with drawn := w.drawn + 1 } 0 m := by
    refine ⟨Nat.zero_le _, fun k d h => by omega, fun k d _ _ _ h => hnl _ h, fun k d _ h => absurd h (hnl _), ?_, ?_, fun k d h => by omega, fun k d h => by omega, fun k d t v _ h => absurd h (hnl _), fun t v _ hv => ?_, hs.defers, hs.size⟩
    · rw [e0]; exact hh.drew _
    · rw [e0]; exact Ext.refl _ _ _
    · rw [e0] at hv; exact hs.all t v hv
  obtain ⟨p, h1, h2⟩ := hinv.adv hc _ 0 rfl
  refine Inv.any hE hO hN hG D hc (fun i loc hi => by rw [e0]; exact (hh.dom i loc hi).1) (fun a' m' w' h3 h4 h5 => ?_) ops.size _ a _ p m hsz ?_ h1 h2
  · rw [e1] at h3 h4 h5
    rw [e0] at h5
    exact hk a' m' w' h3 h4 { next := h5.next, sub := h5.sub, new := h5.new, unm := h5.unm, ro := h5.ro, rok := h5.rok, tip := h5.tip, frame := h5.frame, size := h5.size, os := h5.os, tape := h5.tape, output := h5.output }
  · have := List.countP_le_length (p := fun i => !(Array.replicate ops.size false).getD i true) (l := List.range ops.size)
    simpa using this
end
end Go.Proofs.YtlecbjcloleiiaaDoor.Ram

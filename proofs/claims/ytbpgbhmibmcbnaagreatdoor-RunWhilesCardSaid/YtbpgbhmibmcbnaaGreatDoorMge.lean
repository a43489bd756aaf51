/-
  Parts of the proof: RamH, RamI, RamJ, RamK, RamL.
-/
import Derived.Test.YtbpgbhmibmcbnaaGreatDoorMgd
import Derived.Orders
/-! Regions whose order is the text's. -/
namespace Go.Proofs.YtbpgbhmibmcbnaaGreatDoor.Ram
open Go Go.RowKit

def okOper (P : Program) (G : List Nat) (nt : Nat) (ops : Array Oper) (o : Oper) (ao : AOper) : Bool :=
  decide (o.dst = ao.dst) && okOp P G o.op ao.op && (match ao.dst with | some d => decide (d < nt) | none => true) &&
  (match o.guard, ao.guard with
    | none, none => true
    | some (j, want), some (t, want') => decide (want = want') && decide ((ops[j]?).bind (·.dst) = some t)
    | _, _ => false)
def okOpers (P : Program) (G : List Nat) (nt : Nat) (ops : Array Oper) : List Oper → List AOper → Bool
  | [], [] => true
  | o :: l, ao :: l' => okOper P G nt ops o ao && okOpers P G nt ops l l'
  | _, _ => false

structure SR (m : LMap) (nt : Nat) (fr : Fr) (a : Act) : Prop where
  all : ∀ n v, Fr.get fr n = some v → VR m v (a.tmps.getD n undef)
  defers : a.defers = []
  size : a.tmps.size = nt

section
variable {P : Program} {G : List Nat} {m : LMap} {H : AH} {w : World} {fr : Fr} {a : Act} {nt : Nat}
theorem SR.on (h : SR m nt fr a) (l : List Nat) : FOn m fr a l := fun n _ v hv => h.all n v hv
theorem SR.mono {m' : LMap} (h : SR m nt fr a) (hs : LSub m m') : SR m' nt fr a := ⟨fun n v hv => (h.all n v hv).mono hs, h.defers, h.size⟩
theorem Fr.get_set (fr : Fr) (d : Nat) (v : AV) (n : Nat) : Fr.get (Fr.set fr d v) n = if n = d then some v else Fr.get fr n := by
  unfold Fr.set
  simp only [Fr.get]
  by_cases h : d = n
  · simp [h]
  · rw [if_neg h, if_neg (fun e => h e.symm)]
theorem Fr.get_del (fr : Fr) (d n : Nat) : Fr.get (Fr.del fr d) n = if n = d then none else Fr.get fr n := by
  unfold Fr.del
  induction fr with
  | nil => simp [Fr.get]
  | cons p fr ih =>
    obtain ⟨k, v⟩ := p
    by_cases hk : k = d
    · subst hk
      simp only [List.filter_cons, bne_self_eq_false, Bool.false_eq_true, if_false, ih, Fr.get]
      by_cases hn : n = k
      · simp [hn]
      · rw [if_neg hn, if_neg hn, if_neg (fun e => hn e.symm)]
    · have : (k != d) = true := by simpa using hk
      simp only [List.filter_cons, this, if_true, Fr.get, ih]
      by_cases hn : n = d
      · subst hn; rw [if_neg hk, if_pos rfl]; simp
      · rw [if_neg hn]; simp [hn]
theorem Fr.get_keep (fr : Fr) (l : List Nat) (n : Nat) : Fr.get (Fr.keep fr l) n = if n ∈ l then Fr.get fr n else none := by
  unfold Fr.keep
  induction l with
  | nil => simp [Fr.get]
  | cons k l ih =>
    simp only [List.filterMap_cons]
    cases hk : Fr.get fr k with
    | none =>
      simp only [Option.map_none, ih]
      by_cases hn : n = k
      · subst hn; simp [hk]
      · simp [hn]
    | some v =>
      simp only [Option.map_some, Fr.get, ih]
      by_cases hn : k = n
      · subst hn; simp [hk]
      · have hn' : n ≠ k := fun e => hn e.symm
        simp [hn, hn']
theorem SR.keep (h : SR m nt fr a) (l : List Nat) : SR m nt (Fr.keep fr l) a := by
  refine ⟨fun n v hv => ?_, h.defers, h.size⟩
  rw [Fr.get_keep] at hv
  split at hv
  · exact h.all n v hv
  · cases hv
theorem put_getD (a : Act) (d n : Nat) (v : Value) (hd : d < a.tmps.size) : (a.put (some d) v).tmps.getD n undef = if n = d then v else a.tmps.getD n undef := by
  simp only [Act.put, Array.getD_eq_getD_getElem?]
  by_cases h : n = d
  · subst h; simp [hd]
  · rw [Array.getElem?_setIfInBounds_ne (fun e => h e.symm), if_neg h]
theorem SR.put (h : SR m nt fr a) {d : Option Nat} (hd : (match d with | some d => decide (d < nt) | none => true) = true) {r : Option AV} {cv : Value} (hr : ∀ v, r = some v → VR m v cv) : SR m nt (putD fr d r) (a.put d cv) := by
  cases d with
  | none => exact h
  | some d =>
    simp only [decide_eq_true_eq] at hd
    have hd' : d < a.tmps.size := by rw [h.size]; exact hd
    refine ⟨fun n v hv => ?_, h.defers, by simp [Act.put, h.size]⟩
    rw [put_getD a d n cv hd']
    cases r with
    | none =>
      simp only [putD, Fr.get_del] at hv
      split at hv
      · cases hv
      · rename_i hn; rw [if_neg hn]; exact h.all n v hv
    | some u =>
      simp only [putD, Fr.get_set] at hv
      split at hv
      · rename_i hn
        rw [if_pos hn]
        exact hr v hv
      · rename_i hn; rw [if_neg hn]; exact h.all n v hv

theorem wanted_sound {ops : Array Oper} {o : Oper} {ao : AOper} (hok : (match o.guard, ao.guard with
    | none, none => true
    | some (j, want), some (t, want') => decide (want = want') && decide ((ops[j]?).bind (·.dst) = some t)
    | _, _ => false) = true) (hf : ∀ t want, ao.guard = some (t, want) → FOn m fr a [t]) {b : Bool} (hb : wantedA fr ao.guard = some b) : Region.wanted o (yielded ops a.tmps) = b := by
  unfold Region.wanted
  cases hg : o.guard with
  | none =>
    rw [hg] at hok
    cases hg' : ao.guard with
    | none => rw [hg'] at hb; simp [wantedA] at hb; subst hb; rfl
    | some q => rw [hg'] at hok; cases hok
  | some q =>
    obtain ⟨j, want⟩ := q
    rw [hg] at hok
    cases hg' : ao.guard with
    | none => rw [hg'] at hok; cases hok
    | some q' =>
      obtain ⟨t, want'⟩ := q'
      rw [hg'] at hok hb
      simp only [Bool.and_eq_true, decide_eq_true_eq] at hok
      obtain ⟨rfl, h1⟩ := hok
      simp only [wantedA] at hb
      split at hb
      · rename_i c hc
        obtain rfl := Option.some.inj hb
        have h2 := hf t want hg' t (by simp) _ hc
        simp only [VR] at h2
        have h3 : a.tmps[t]? = some (.bool c) := by
          rw [Array.getD_eq_getD_getElem?] at h2
          cases ht : a.tmps[t]? with
          | none => rw [ht] at h2; simp [undef] at h2
          | some v => rw [ht] at h2; simp at h2; rw [h2]
        simp only [yielded, h1, Option.bind_some, h3]
        simp
      · rename_i hc
        obtain rfl := Option.some.inj hb
        have h2 := hf t want hg' t (by simp) _ hc
        simp only [VR] at h2
        have h3 : a.tmps[t]? = some undef ∨ a.tmps[t]? = none := by
          rw [Array.getD_eq_getD_getElem?] at h2
          cases ht : a.tmps[t]? with
          | none => exact .inr rfl
          | some v => rw [ht] at h2; simp at h2; rw [h2]; exact .inl rfl
        rcases h3 with h3 | h3
        · simp only [yielded, h1, Option.bind_some, h3]; simp [undef]
        · simp only [yielded, h1, Option.bind_some, h3]; simp
      · cases hb

theorem ops_sound {E : Env} {O : Oracle} (hE : okEnv P G E = true) (hO : OSound P G O) {ops : Array Oper} {Q : Exit → Act → World → Prop} : ∀ {l : List Oper} {als : List AOper} {m : LMap} {H : AH} {w : World} {fr fr' : Fr} {H' : AH} {a : Act}, okOpers P G nt ops l als = true → opsA E O als (fr, H) = some (fr', H') →
    GOk G m → SR m nt fr a → HR m H w → (∀ a' m' w', SR m' nt fr' a' → HR m' H' w' → Ext m H w m' H' w' → Q .normal a' w') → wpList P ops Q l a w
  | [], [], m, H, w, fr, fr', H', a, _, hr, _, hs, hh, hk => by
    simp only [opsA, Option.some.injEq, Prod.mk.injEq] at hr
    obtain ⟨rfl, rfl⟩ := hr
    exact hk a m w hs hh (Ext.refl _ _ _)
  | [], _ :: _, _, _, _, _, _, _, _, h, _, _, _, _, _ => by simp [okOpers] at h
  | _ :: _, [], _, _, _, _, _, _, _, h, _, _, _, _, _ => by simp [okOpers] at h
  | o :: l, ao :: als, m, H, w, fr, fr', H', a, h, hr, hG, hs, hh, hk => by
    simp only [okOpers, okOper, Bool.and_eq_true, decide_eq_true_eq] at h
    obtain ⟨⟨⟨⟨h1, h2⟩, h3⟩, h4⟩, h5⟩ := h
    simp only [opsA, Option.bind_eq_some_iff] at hr
    obtain ⟨⟨fr1, H1⟩, hst, hr⟩ := hr
    unfold stepA at hst
    have hwant := fun b hb => wanted_sound (ops := ops) (a := a) (m := m) h4 (fun t want _ => hs.on [t]) (b := b) hb
    split at hst
    · cases hst
    · rename_i hw
      simp only [Option.some.injEq, Prod.mk.injEq] at hst
      obtain ⟨rfl, rfl⟩ := hst
      unfold wpList
      rw [if_neg (by rw [hwant false hw]; simp)]
      rw [h1]
      exact ops_sound hE hO h5 hr hG (hs.put h3 (fun v e => by obtain rfl := Option.some.inj e; simp [VR])) hh hk
    · rename_i hw
      simp only [Option.map_eq_some_iff, Prod.mk.injEq] at hst
      obtain ⟨⟨r, Hr⟩, hop, rfl, rfl⟩ := hst
      unfold wpList
      rw [if_pos (hwant true hw)]
      refine .inl (op_sound hE hO hG hh h2 (hs.on _) hop fun cv m' w' hcv hh' hext => ?_)
      rw [h1]
      exact ops_sound hE hO h5 hr (hG.mono hext.sub) ((hs.mono hext.sub).put h3 hcv) hh' fun a' m'' w'' h6 h7 h8 => hk a' m'' w'' h6 h7 (hext.trans h8 fun i loc hi => (hh.dom i loc hi).1)
end
end Go.Proofs.YtbpgbhmibmcbnaaGreatDoor.Ram

/-! Regions whose order is open. -/
namespace Go.Proofs.YtbpgbhmibmcbnaaGreatDoor.Ram
open Go Go.RowKit

def readsD (o : AOper) : List Nat := o.op.tmps ++ (match o.guard with | some (t, _) => [t] | none => [])
def edgesOf (ops : Array Oper) (ix : Nat) : List Nat := match ops[ix]? with
  | some o => (o.after.toList.filter fun e => Region.binds .any e).map (·.on)
  | none => []
def AOp.isAct (o : AOp) : Bool := !o.isPure && !o.isRead && !o.isMake
def dstIn (d : Option Nat) (l : List Nat) : Bool := match d with
  | some t => l.contains t
  | none => false
def pairOk (q d : DOp) : Bool :=
  (match q.o.dst, d.o.dst with | some x, some y => decide (x ≠ y) | _, _ => true) && decide (q.ix ≠ d.ix) &&
  (!(dstIn q.o.dst (readsD d.o) || dstIn d.o.dst (readsD q.o)) || d.pre.contains q.ix) &&
  (!(q.o.op.isAct && !d.o.op.isPure) || d.pre.contains q.ix) &&
  (!(q.o.op.isRead && d.o.op.isAct) || d.pre.contains q.ix || d.chk.contains q.ix) &&
  (!q.o.op.isRead || !dstIn d.o.dst (readsD q.o))
def oneOk (P : Program) (G : List Nat) (nt : Nat) (ops : Array Oper) (L : List DOp) (k : Nat) (d : DOp) : Bool :=
  (match ops[d.ix]? with | some o => okOper P G nt ops o d.o | none => false) &&
  (edgesOf ops d.ix).all (fun i => (L.take k).any fun q => q.ix == i) &&
  d.pre.all (fun i => (edgesOf ops d.ix).any fun j => j == i || (L.take k).any fun q => q.ix == j && q.pre.contains i) &&
  (!d.o.op.isRead || !dstIn d.o.dst (readsD d.o))
def okDreg (P : Program) (G : List Nat) (nt : Nat) (ops : Array Oper) (L : List DOp) : Bool :=
  decide (L.length = ops.size) && P.follows .mixedOrders && Region.noSelect ops && (List.range ops.size).all (fun i => L.any fun d => d.ix == i) &&
  (List.range L.length).all fun k => match L[k]? with
    | some d => oneOk P G nt ops L k d && (L.take k).all fun q => pairOk q d
    | none => false

structure DOK (P : Program) (G : List Nat) (nt : Nat) (ops : Array Oper) (L : List DOp) : Prop where
  len : L.length = ops.size
  mix : P.follows .mixedOrders = true
  onto : ∀ i, i < ops.size → ∃ (k : Nat) (d : DOp), L[k]? = some d ∧ d.ix = i
  one : ∀ (k : Nat) (d : DOp), L[k]? = some d → oneOk P G nt ops L k d = true
  pair : ∀ (k k' : Nat) (q d : DOp), k < k' → L[k]? = some q → L[k']? = some d → pairOk q d = true
theorem DOK.of {P : Program} {G : List Nat} {nt : Nat} {ops : Array Oper} {L : List DOp} (h : okDreg P G nt ops L = true) : DOK P G nt ops L := by
  unfold okDreg at h
  simp only [Bool.and_eq_true, decide_eq_true_eq, List.all_eq_true, List.mem_range] at h
  obtain ⟨⟨⟨⟨h1, h2⟩, _⟩, h4⟩, h3⟩ := h
  refine ⟨h1, h2, fun i hi => ?_, fun k d hd => ?_, fun k k' q d hk hq hd => ?_⟩
  · obtain ⟨d, hd, e⟩ := List.any_eq_true.1 (h4 i hi)
    obtain ⟨k, hk⟩ := List.mem_iff_getElem?.1 hd
    exact ⟨k, d, hk, by simpa using e⟩
  · have := h3 k (List.getElem?_eq_some_iff.1 hd).1
    rw [hd] at this
    simp only [Bool.and_eq_true] at this
    exact this.1
  · have := h3 k' (List.getElem?_eq_some_iff.1 hd).1
    rw [hd] at this
    simp only [Bool.and_eq_true, List.all_eq_true] at this
    refine this.2 q (List.mem_of_getElem? (i := k) ?_)
    rw [List.getElem?_take, if_pos hk]; exact hq

theorem dreg_trace {E : Env} {O : Oracle} {all : List DOp} : ∀ {L : List DOp} {s s' : St}, dregA E O all L s = some s' →
    ∃ st : Nat → St, st 0 = s ∧ st L.length = s' ∧ ∀ (k : Nat) (d : DOp), L[k]? = some d → stepA E O d.o (st k) = some (st (k + 1)) ∧ ∀ j ∈ d.chk, ∀ r, findD all j = some r → sameRead E (st k).1 (st k).2 (st (k + 1)).2 r
  | [], s, s', h => ⟨fun _ => s, rfl, by simpa [dregA] using h, fun k d hd => by simp at hd⟩
  | d :: L, s, s', h => by
    simp only [dregA, Option.bind_eq_some_iff] at h
    obtain ⟨s1, h1, h2⟩ := h
    split at h2
    · rename_i hc
      obtain ⟨st, e0, e1, e2⟩ := dreg_trace h2
      refine ⟨fun k => match k with | 0 => s | k + 1 => st k, rfl, e1, fun k d' hd => ?_⟩
      cases k with
      | zero =>
        simp at hd; subst hd
        simp only [e0]
        exact ⟨h1, hc⟩
      | succ k => exact e2 k d' (by simpa using hd)
    · cases h2

/-! ### what an operation's answer hangs on -/
theorem ev_congr {fr fr' : Fr} {x : Opd} (h : ∀ n ∈ x.tmps, Fr.get fr n = Fr.get fr' n) : x.ev fr = x.ev fr' := by
  cases x <;> simp only [Opd.ev]
  exact h _ (by simp [Opd.tmps])
theorem readA_congr {E : Env} {fr fr' : Fr} {H : AH} {op : AOp} (h : ∀ n ∈ op.tmps, Fr.get fr n = Fr.get fr' n) : readA E fr H op = readA E fr' H op := by
  cases op <;> simp only [readA]
  · rename_i n ag x
    rw [ev_congr (x := x) fun n hn => h n (by simpa [AOp.tmps] using hn)]
  · rename_i neg k x y
    rw [ev_congr (x := x) fun n hn => h n (by simp [AOp.tmps, hn]), ev_congr (x := y) fun n hn => h n (by simp [AOp.tmps, hn])]
  · rename_i d ok x y
    rw [ev_congr (x := x) fun n hn => h n (by simp [AOp.tmps, hn]), ev_congr (x := y) fun n hn => h n (by simp [AOp.tmps, hn])]
theorem readA_push {E : Env} {fr : Fr} {H : AH} {op : AOp} {v : AV} (hf : H.get H.next = none) (h : readA E fr H op = some v) (o : AObj) : readA E fr (H.push o) op = some v := by
  have hg : ∀ i ob, H.get i = some ob → (H.push o).get i = some ob := fun i ob hi => by
    rw [AH.get_push, if_neg (by intro e; rw [e, hf] at hi; cases hi)]; exact hi
  cases op <;> simp only [readA, Option.bind_eq_some_iff, Option.map_eq_some_iff] at h ⊢ <;> first | (cases h; done) | skip
  · rename_i n ag x
    obtain ⟨u, hu, h⟩ := h
    refine ⟨u, hu, ?_⟩
    unfold loadA at h ⊢
    split at h
    · rename_i i off
      split at h
      · rename_i l r hl; simp only [hg _ _ hl]; exact h
      · cases h
    · cases h
  · rename_i neg k x y
    obtain ⟨u, hu, u', hu', r, h, e⟩ := h
    refine ⟨u, hu, u', hu', r, ?_, e⟩
    have hlive : ∀ i, H.live i = true → (H.push o).live i = true := fun i hi => by
      unfold AH.live at hi ⊢
      split at hi
      · rename_i l q hl; rw [hg _ _ hl]; exact hi
      · cases hi
    have hthere : ∀ i, H.there i = true → (H.push o).there i = true := fun i hi => by
      unfold AH.there at hi ⊢
      split at hi
      · rename_i l q hl; rw [hg _ _ hl]
      · cases hi
    have hp : ∀ p q r, ptrEq E H p q = some r → ptrEq E (H.push o) p q = some r := fun p q r hr => by
      unfold ptrEq at hr ⊢
      split at hr
      · exact hr
      · split at hr
        · rename_i i1 a1 i2 a2 hl
          simp only [Bool.and_eq_true] at hl
          rw [if_pos (by simp [hlive _ hl.1, hlive _ hl.2])]; exact hr
        · split at hr
          · rename_i i1 a1 i2 a2 hnl hl
            simp only [Bool.and_eq_true] at hl
            obtain ⟨⟨l1, l2, l3⟩, l4⟩ := hl
            by_cases hn : ((H.push o).live i1 && (H.push o).live i2) = true
            · rw [if_pos hn]
              simp only [beq_iff_eq] at l4
              obtain ⟨rfl, rfl⟩ := l4
              rw [← hr]; simp
            · rw [if_neg hn, if_pos (by simp only [Bool.and_eq_true]; exact ⟨⟨l1, hthere _ l2, hthere _ l3⟩, l4⟩)]; exact hr
          · cases hr
      · exact hr
    unfold eqA at h ⊢
    split at h <;> first
      | exact h
      | exact hp _ _ _ h
      | (split at h
         · split at h
           · rename_i h1 h2; rw [if_pos h1, if_pos h2]; exact hp _ _ _ h
           · cases h
         · rename_i h1; rw [if_neg h1]; exact h)
  · rename_i d ok x y
    obtain ⟨u, hu, u', hu', h⟩ := h
    refine ⟨u, hu, u', hu', ?_⟩
    split at h
    · exact h
    · rename_i i s
      split at h
      · rename_i l r hl; simp only [hg _ _ hl]; exact h
      · cases h
    · cases h
theorem wantedA_congr {fr fr' : Fr} {g : Option (Nat × Bool)} (h : ∀ t want, g = some (t, want) → Fr.get fr t = Fr.get fr' t) : wantedA fr g = wantedA fr' g := by
  cases g with
  | none => rfl
  | some q => obtain ⟨t, want⟩ := q; simp only [wantedA, h t want rfl]
end Go.Proofs.YtbpgbhmibmcbnaaGreatDoor.Ram

/-! Regions whose order is open: whatever order comes, our order's end. -/
namespace Go.Proofs.YtbpgbhmibmcbnaaGreatDoor.Ram
open Go Go.RowKit

def ONext (O : Oracle) : Prop := ∀ f vs H r, O f vs H = some r → H.next ≤ r.2.next

theorem makeA_push {E : Env} {O : Oracle} {fr : Fr} {H : AH} {op : AOp} (hp : op.isPure = false) (hr : op.isRead = false) (hm : op.isMake = true) {r : Option AV × AH} (h : opA E O fr H op = some r) : ∃ val obj, makeA fr op = some (val, obj) ∧ r = (some (val H.next), H.push obj) := by
  unfold opA at h
  rw [hp, hr, hm] at h
  simp only [Bool.false_eq_true, if_false, if_true, Option.map_eq_some_iff] at h
  obtain ⟨⟨val, obj⟩, h1, rfl⟩ := h
  exact ⟨val, obj, h1, rfl⟩
theorem opA_still {E : Env} {O : Oracle} {fr : Fr} {H : AH} {op : AOp} (h0 : op.isPure = true ∨ op.isRead = true) {r : Option AV × AH} (h : opA E O fr H op = some r) : r.2 = H := by
  unfold opA at h
  by_cases hp : op.isPure = true
  · rw [if_pos hp] at h
    simp only [Option.map_eq_some_iff] at h
    obtain ⟨v, _, rfl⟩ := h; rfl
  · rw [if_neg hp] at h
    rcases h0 with h0 | h0
    · exact absurd h0 hp
    · rw [if_pos h0] at h
      simp only [Option.map_eq_some_iff] at h
      obtain ⟨v, _, rfl⟩ := h; rfl
theorem appendA_next {H : AH} {sz bytes : Nat} {s x : AV} {r : AV × AH} (h : appendA H sz bytes s x = some r) : H.next ≤ r.2.next := by
  unfold appendA at h
  simp only [Option.bind_eq_some_iff] at h
  obtain ⟨n, _, news, _, h⟩ := h
  split at h
  · split at h
    · obtain rfl := Option.some.inj h; exact Nat.le_refl _
    · split at h
      · obtain rfl := Option.some.inj h; simp [AH.push]
      · cases h
  · split at h
    · split at h
      · split at h
        · split at h
          · split at h
            · obtain rfl := Option.some.inj h; exact Nat.le_refl _
            · split at h
              · obtain rfl := Option.some.inj h; exact Nat.le_refl _
              · cases h
          · split at h
            · obtain rfl := Option.some.inj h; simp [AH.push]
            · cases h
        · split at h
          · obtain rfl := Option.some.inj h; simp [AH.push, AH.kill]
          · cases h
      · cases h
    · cases h
  · cases h
theorem appendF_next {H : AH} {sz bytes : Nat} {s x : AV} {r : AV × AH} (h : appendF H sz bytes s x = some r) : H.next ≤ r.2.next := by
  unfold appendF at h
  simp only [Option.bind_eq_some_iff] at h
  obtain ⟨n, _, news, _, h⟩ := h
  split at h
  · split at h
    · obtain rfl := Option.some.inj h; exact Nat.le_refl _
    · split at h
      · obtain rfl := Option.some.inj h; simp [AH.grow, AH.tipOn, AH.push]
      · cases h
  · split at h
    · split at h
      · split at h
        · split at h
          · split at h
            · obtain rfl := Option.some.inj h; exact Nat.le_refl _
            · split at h
              · obtain rfl := Option.some.inj h; exact Nat.le_refl _
              · cases h
          · split at h
            · obtain rfl := Option.some.inj h; simp [AH.grow, AH.tipOn, AH.push]
            · cases h
        · split at h
          · obtain rfl := Option.some.inj h; simp [AH.grow, AH.tipOn, AH.push, AH.stop]
          · cases h
      · cases h
    · cases h
  · cases h
theorem appendX_next {H : AH} {fz : Bool} {sz bytes : Nat} {s x : AV} {r : AV × AH} (h : appendX H fz sz bytes s x = some r) : H.next ≤ r.2.next := by
  unfold appendX at h
  split at h
  · exact appendF_next h
  · exact appendA_next h
theorem opA_next {E : Env} {O : Oracle} (hO : ONext O) {fr : Fr} {H : AH} {op : AOp} {r : Option AV × AH} (h : opA E O fr H op = some r) : H.next ≤ r.2.next := by
  by_cases h0 : op.isPure = true ∨ op.isRead = true
  · rw [opA_still h0 h]; exact Nat.le_refl _
  · have h1 : op.isPure = false := by cases hp : op.isPure <;> simp_all
    have h2 : op.isRead = false := by cases hp : op.isRead <;> simp_all
    by_cases h3 : op.isMake = true
    · obtain ⟨val, obj, _, rfl⟩ := makeA_push h1 h2 h3 h; simp [AH.push]
    · unfold opA at h
      rw [h1, h2, show op.isMake = false by cases hm : op.isMake <;> simp_all] at h
      simp only [Bool.false_eq_true, if_false] at h
      cases op <;> simp only [actA] at h <;> first | (cases h; done) | skip
      · simp only [Option.bind_eq_some_iff, Option.map_eq_some_iff] at h
        obtain ⟨p, _, v, _, H', h, rfl⟩ := h
        unfold storeA at h
        split at h
        · split at h
          · split at h
            · obtain rfl := Option.some.inj h; exact Nat.le_refl _
            · cases h
          · cases h
        · cases h
      · split at h
        · split at h
          · obtain rfl := Option.some.inj h; simp [AH.push]
          · cases h
        · cases h
      · split at h
        · split at h
          · obtain rfl := Option.some.inj h; exact Nat.le_refl _
          · cases h
        · split at h
          · obtain rfl := Option.some.inj h; exact Nat.le_refl _
          · cases h
        · cases h
      · split at h
        · split at h
          · split at h
            · obtain rfl := Option.some.inj h; exact Nat.le_refl _
            · cases h
          · cases h
        · cases h
      · split at h
        · split at h
          · obtain rfl := Option.some.inj h; exact Nat.le_refl _
          · cases h
        · cases h
      · simp only [Option.bind_eq_some_iff, Option.map_eq_some_iff] at h
        obtain ⟨vs, _, r', h, rfl⟩ := h
        exact hO _ _ _ _ h
      · split at h
        · simp only [Option.bind_eq_some_iff, Option.map_eq_some_iff] at h
          obtain ⟨vs, _, r', h, rfl⟩ := h
          exact hO _ _ _ _ h
        · cases h
      · simp only [Option.bind_eq_some_iff, Option.map_eq_some_iff] at h
        obtain ⟨u, _, v, _, r', h, rfl⟩ := h
        exact appendX_next h
      · simp only [Option.bind_eq_some_iff, Option.map_eq_some_iff] at h
        obtain ⟨u, _, v, _, r', h, rfl⟩ := h
        unfold copyA at h
        split at h
        · simp only [Option.bind_eq_some_iff] at h
          obtain ⟨_, _, h⟩ := h
          obtain rfl := Option.some.inj h; exact Nat.le_refl _
        · simp only [Option.bind_eq_some_iff] at h
          obtain ⟨_, _, _, _, h⟩ := h
          split at h
          · split at h
            · obtain rfl := Option.some.inj h; exact Nat.le_refl _
            · cases h
          · cases h
        · cases h
      · simp only [Option.bind_eq_some_iff, Option.map_eq_some_iff] at h
        obtain ⟨u, _, r', h, rfl⟩ := h
        unfold clearA at h
        split at h
        · obtain rfl := Option.some.inj h; exact Nat.le_refl _
        · split at h
          · split at h
            · obtain rfl := Option.some.inj h; exact Nat.le_refl _
            · cases h
          · cases h
        · cases h
theorem stepA_next {E : Env} {O : Oracle} (hO : ONext O) {o : AOper} {s s' : St} (h : stepA E O o s = some s') : s.2.next ≤ s'.2.next := by
  unfold stepA at h
  split at h
  · cases h
  · obtain rfl := Option.some.inj h; exact Nat.le_refl _
  · simp only [Option.map_eq_some_iff] at h
    obtain ⟨r, h, rfl⟩ := h
    exact opA_next hO h
theorem stepA_frame {E : Env} {O : Oracle} {o : AOper} {s s' : St} (h : stepA E O o s = some s') {t : Nat} (ht : o.dst ≠ some t) : Fr.get s'.1 t = Fr.get s.1 t := by
  have hp : ∀ r, Fr.get (putD s.1 o.dst r) t = Fr.get s.1 t := fun r => by
    cases hd : o.dst with
    | none => rfl
    | some d =>
      have hne : t ≠ d := fun e => ht (by rw [hd, e])
      cases r with
      | none => simp only [putD, Fr.get_del]; rw [if_neg hne]
      | some v => simp only [putD, Fr.get_set]; rw [if_neg hne]
  unfold stepA at h
  split at h
  · cases h
  · obtain rfl := Option.some.inj h; exact hp _
  · simp only [Option.map_eq_some_iff] at h
    obtain ⟨r, h, rfl⟩ := h
    exact hp _

theorem makeA_ro {fr : Fr} {op : AOp} {val : Nat → AV} {obj : AObj} (h : makeA fr op = some (val, obj)) : obj.ro = false := by
  cases op <;> simp only [makeA, Option.some.injEq, Prod.mk.injEq, Option.bind_eq_some_iff, Option.map_eq_some_iff, reduceCtorEq] at h
  · rw [← h.2]; rfl
  · obtain ⟨v, _, h⟩ := h
    split at h
    · obtain ⟨_, rfl⟩ := Prod.mk.inj (Option.some.inj h); rfl
    · cases h
  · obtain ⟨ps, _, l, _, _, rfl⟩ := h; rfl
  · rw [← h.2]; rfl
theorem HR.map_new {m : LMap} {H : AH} {w : World} (h : HR m H w) {i : Nat} {obj : AObj} (hm : m i = none) (hg : H.get i = some obj) (bo : Obj) (n : Nat) (hr : ∀ m', LSub m m' → ObjR m' (w.alloc bo) ⟨w.heap.size, 0, n, false⟩ obj) (hro : obj.ro = false) :
    HR (m.put i ⟨w.heap.size, 0, n, false⟩) H (w.alloc bo) := by
  have hsub := LMap.put_sub (loc := ⟨w.heap.size, 0, n, false⟩) hm
  have hsz : (w.alloc bo).heap.size = w.heap.size + 1 := by simp
  have hi : i < H.next := by
    rcases Nat.lt_or_ge i H.next with h1 | h1
    · exact h1
    · rw [h.wf i h1] at hg; cases hg
  refine ⟨h.wf, fun j loc hj => ?_, fun j loc o' hj ho => ?_, fun j k lj lk oj ok hj hk hoj hok hne hsh => ?_, h.tipo, fun j lj l ht hj hl => ?_⟩
  rotate_left 3
  · have hji : j ≠ i := fun e => by subst e; rw [hg] at hl; obtain rfl := Option.some.inj hl; cases hro
    unfold LMap.put at hj
    rw [if_neg hji] at hj
    obtain ⟨⟨c, e, hc⟩, h2⟩ := h.tip j lj l ht hj hl
    refine ⟨⟨c, e, (Below.heap_alloc _ _ _ (h.dom j lj hj).2).trans hc⟩, fun q lq oq hq hoq hb hne => ?_⟩
    unfold LMap.put at hq
    split at hq
    · obtain rfl := Option.some.inj hq; have := (h.dom j lj hj).2; simp only at hb; omega
    · exact h2 q lq oq hq hoq hb hne
  · unfold LMap.put at hj
    split at hj
    · rename_i e; subst e; obtain rfl := Option.some.inj hj; exact ⟨hi, by rw [hsz]; exact Nat.lt_succ_self _⟩
    · have := h.dom j loc hj; exact ⟨this.1, by omega⟩
  · unfold LMap.put at hj
    split at hj
    · rename_i e; subst e
      obtain rfl := Option.some.inj hj
      rw [hg] at ho
      obtain rfl := Option.some.inj ho
      exact hr _ hsub
    · exact (h.ok j loc o' hj ho).mono hsub (Below.heap_alloc _ _ _ (h.dom j loc hj).2)
  · unfold LMap.put at hj hk
    split at hj <;> split at hk
    · rename_i e e'; exact absurd (e.trans e'.symm) hne
    · obtain rfl := Option.some.inj hj; have := (h.dom k lk hk).2; simp only; omega
    · obtain rfl := Option.some.inj hk; have := (h.dom j lj hj).2; simp only; omega
    · exact h.sep j k lj lk oj ok hj hk hoj hok hne hsh
theorem Ext.map_new {m0 m : LMap} {H0 H : AH} {w0 w : World} (h : Ext m0 H0 w0 m H w) {i : Nat} (hm : m i = none) (hi : H0.next ≤ i) (bo : Obj) (n : Nat) : Ext m0 H0 w0 (m.put i ⟨w.heap.size, 0, n, false⟩) H (w.alloc bo) :=
  { next := h.next
    sub := fun j loc hj => LMap.put_sub hm j loc (h.sub j loc hj)
    new := fun j loc hj hn => by
      unfold LMap.put at hj
      split at hj
      · rename_i e; subst e; obtain rfl := Option.some.inj hj; exact ⟨hi, .inl h.size⟩
      · exact h.new j loc hj hn
    unm := h.unm
    ro := h.ro
    rok := h.rok
    tip := h.tip
    frame := fun b hb hm' => by rw [Below.heap_alloc _ _ _ (Nat.lt_of_lt_of_le hb h.size)]; exact h.frame b hb hm'
    size := by have := h.size; simp; omega
    os := h.os
    tape := h.tape
    output := h.output }
theorem Ext.push_right {m0 m : LMap} {H0 H : AH} {w0 w : World} (h : Ext m0 H0 w0 m H w) (hf : H.get H.next = none) (o : AObj) : Ext m0 H0 w0 m (H.push o) w :=
  { h with
    next := by have := h.next; simp [AH.push]; omega
    unm := fun i hi hn => by rw [AH.get_push, if_neg (by have := h.next; omega)]; exact h.unm i hi hn
    ro := fun i hi o' ho => by
      rw [AH.get_push, if_neg (by have := h.next; omega)] at ho; exact h.ro i hi o' ho
    rok := fun i o' ho hr => by
      have := h.rok i o' ho hr
      rw [AH.get_push, if_neg (by intro e; rw [e, hf] at this; cases this)]; exact this
    tip := h.tip }
end Go.Proofs.YtbpgbhmibmcbnaaGreatDoor.Ram

/-! Regions whose order is open: the induction over whatever order comes. -/
namespace Go.Proofs.YtbpgbhmibmcbnaaGreatDoor.Ram
open Go Go.RowKit

section
variable {P : Program} {G : List Nat} {nt : Nat} {E : Env} {O : Oracle} {ops : Array Oper} {L : List DOp} {st : Nat → St} {m0 : LMap} {w0 : World}

structure Can (E : Env) (O : Oracle) (L : List DOp) (st : Nat → St) : Prop where
  step : ∀ (k : Nat) (d : DOp), L[k]? = some d → stepA E O d.o (st k) = some (st (k + 1))
  chk : ∀ (k : Nat) (d : DOp), L[k]? = some d → ∀ j ∈ d.chk, ∀ r, findD L j = some r → sameRead E (st k).1 (st k).2 (st (k + 1)).2 r

theorem Can.next (hc : Can E O L st) (hO : ONext O) {k k' : Nat} (h : k ≤ k') (hl : k' ≤ L.length) : (st k).2.next ≤ (st k').2.next := by
  obtain ⟨d, rfl⟩ := Nat.le.dest h
  clear h
  induction d with
  | zero => exact Nat.le_refl _
  | succ d ih =>
    have hk : k + d < L.length := by omega
    exact Nat.le_trans (ih (by omega)) (stepA_next hO (hc.step (k + d) _ (List.getElem?_eq_getElem hk)))
theorem Can.frame (hc : Can E O L st) {t k k' : Nat} (h : k ≤ k') (hl : k' ≤ L.length) (hn : ∀ (q : Nat) (d : DOp), k ≤ q → q < k' → L[q]? = some d → d.o.dst ≠ some t) : Fr.get (st k').1 t = Fr.get (st k).1 t := by
  obtain ⟨d, rfl⟩ := Nat.le.dest h
  clear h
  induction d with
  | zero => rfl
  | succ d ih =>
    have hk : k + d < L.length := by omega
    have h1 := stepA_frame (hc.step (k + d) _ (List.getElem?_eq_getElem hk)) (t := t) (hn (k + d) _ (by omega) (by omega) (List.getElem?_eq_getElem hk))
    exact h1.trans (ih (by omega) (fun q d' h2 h3 h4 => hn q d' h2 (by omega) h4))

theorem DOK.dst_ne (D : DOK P G nt ops L) {k k' : Nat} {q d : DOp} (hne : k ≠ k') (hq : L[k]? = some q) (hd : L[k']? = some d) {t : Nat} (h1 : q.o.dst = some t) : d.o.dst ≠ some t := by
  intro h2
  rcases Nat.lt_or_gt_of_ne hne with h | h
  · have := D.pair k k' q d h hq hd
    simp only [pairOk, Bool.and_eq_true, h1, h2] at this
    simp at this
  · have := D.pair k' k d q h hd hq
    simp only [pairOk, Bool.and_eq_true, h1, h2] at this
    simp at this
theorem DOK.ix_ne (D : DOK P G nt ops L) {k k' : Nat} {q d : DOp} (hne : k ≠ k') (hq : L[k]? = some q) (hd : L[k']? = some d) : q.ix ≠ d.ix := by
  rcases Nat.lt_or_gt_of_ne hne with h | h
  · have := D.pair k k' q d h hq hd
    simp only [pairOk, Bool.and_eq_true, decide_eq_true_eq] at this
    exact this.1.1.1.1.2
  · have := D.pair k' k d q h hd hq
    simp only [pairOk, Bool.and_eq_true, decide_eq_true_eq] at this
    exact fun e => this.1.1.1.1.2 e.symm
theorem DOK.touch (D : DOK P G nt ops L) {k k' : Nat} {q d : DOp} (h : k < k') (hq : L[k]? = some q) (hd : L[k']? = some d) (ht : dstIn q.o.dst (readsD d.o) = true ∨ dstIn d.o.dst (readsD q.o) = true) : q.ix ∈ d.pre := by
  have := D.pair k k' q d h hq hd
  simp only [pairOk, Bool.and_eq_true] at this
  have h2 := this.1.1.1.2
  rcases ht with ht | ht <;> simp [ht] at h2 <;> exact h2
theorem DOK.act (D : DOK P G nt ops L) {k k' : Nat} {q d : DOp} (h : k < k') (hq : L[k]? = some q) (hd : L[k']? = some d) (h1 : q.o.op.isAct = true) (h2 : d.o.op.isPure = false) : q.ix ∈ d.pre := by
  have := D.pair k k' q d h hq hd
  simp only [pairOk, Bool.and_eq_true] at this
  have h3 := this.1.1.2
  simp [h1, h2] at h3
  exact h3
theorem DOK.read (D : DOK P G nt ops L) {k k' : Nat} {q d : DOp} (h : k < k') (hq : L[k]? = some q) (hd : L[k']? = some d) (h1 : q.o.op.isRead = true) (h2 : d.o.op.isAct = true) : q.ix ∈ d.pre ∨ q.ix ∈ d.chk := by
  have := D.pair k k' q d h hq hd
  simp only [pairOk, Bool.and_eq_true] at this
  have h3 := this.1.2
  simp [h1, h2] at h3
  exact h3
theorem DOK.keeps (D : DOK P G nt ops L) {k k' : Nat} {q d : DOp} (h : k ≤ k') (hq : L[k]? = some q) (hd : L[k']? = some d) (h1 : q.o.op.isRead = true) : dstIn d.o.dst (readsD q.o) = false := by
  rcases Nat.lt_or_eq_of_le h with h | h
  · have := D.pair k k' q d h hq hd
    simp only [pairOk, Bool.and_eq_true] at this
    have h3 := this.2
    simp only [h1, Bool.not_true, Bool.false_or, Bool.not_eq_true'] at h3
    exact h3
  · subst h
    rw [hq] at hd
    obtain rfl := Option.some.inj hd
    have := D.one k q hq
    simp only [oneOk, Bool.and_eq_true] at this
    have h3 := this.2
    simp only [h1, Bool.not_true, Bool.false_or, Bool.not_eq_true'] at h3
    exact h3
theorem dstIn_iff {d : Option Nat} {l : List Nat} {t : Nat} (h : d = some t) (ht : t ∈ l) : dstIn d l = true := by
  subst h; simpa [dstIn] using ht
theorem read_keeps (D : DOK P G nt ops L) (hc : Can E O L st) {k j : Nat} {d : DOp} (hd : L[k]? = some d) (hr : d.o.op.isRead = true) (hkj : k ≤ j) (hj : j ≤ L.length) {t : Nat} (ht : t ∈ readsD d.o) : Fr.get (st j).1 t = Fr.get (st k).1 t :=
  hc.frame hkj hj fun q d' h1 _ h3 h4 => by
    have h5 := D.keeps h1 hd h3 hr
    rw [dstIn_iff h4 ht] at h5
    cases h5
theorem findD_at (D : DOK P G nt ops L) {k : Nat} {d : DOp} (hd : L[k]? = some d) : findD L d.ix = some d.o := by
  unfold findD
  have hmem : d ∈ L := List.mem_of_getElem? hd
  cases hf : L.find? (fun q => q.ix == d.ix) with
  | none =>
    have := List.find?_eq_none.1 hf d hmem
    simp at this
  | some q =>
    have h1 := List.find?_some hf
    have h2 := List.mem_of_find?_eq_some hf
    obtain ⟨k', hk'⟩ := List.mem_iff_getElem?.1 h2
    have : k' = k := by
      rcases Nat.decEq k' k with h | h
      · exact absurd (by simpa using h1) (D.ix_ne h hk' hd)
      · exact h
    subst this
    rw [hd] at hk'
    obtain rfl := Option.some.inj hk'
    rfl

theorem pre_listed (D : DOK P G nt ops L) {S : Nat → Prop} (hcl : ∀ (k : Nat) (d : DOp), L[k]? = some d → S d.ix → ∀ i ∈ edgesOf ops d.ix, S i) : ∀ (k : Nat) (d : DOp), L[k]? = some d → (∀ i ∈ edgesOf ops d.ix, S i) → ∀ i ∈ d.pre, S i := by
  intro k
  induction k using Nat.strongRecOn with
  | _ k ih =>
    intro d hd he i hi
    have h1 := D.one k d hd
    simp only [oneOk, Bool.and_eq_true, List.all_eq_true] at h1
    have h2 := h1.1.2 i hi
    obtain ⟨j, hj, h3⟩ := List.any_eq_true.1 h2
    simp only [Bool.or_eq_true, beq_iff_eq] at h3
    rcases h3 with rfl | h3
    · exact he j hj
    · obtain ⟨q, hq, h4⟩ := List.any_eq_true.1 h3
      simp only [Bool.and_eq_true, beq_iff_eq] at h4
      obtain ⟨rfl, h5⟩ := h4
      obtain ⟨k', hk'⟩ := List.mem_iff_getElem?.1 hq
      rw [List.getElem?_take] at hk'
      split at hk'
      · rename_i hlt
        exact ih k' hlt q hk' (hcl k' q hk' (he q.ix hj)) i (by simpa using h5)
      · cases hk'

structure Inv (P : Program) (G : List Nat) (nt : Nat) (E : Env) (O : Oracle) (ops : Array Oper) (L : List DOp) (st : Nat → St) (m0 : LMap) (w0 : World) (S : Nat → Prop) (a : Act) (w : World) (p : Nat) (m : LMap) : Prop where
  ple : p ≤ L.length
  acts : ∀ (k : Nat) (d : DOp), k < p → L[k]? = some d → d.o.op.isAct = true → S d.ix
  late : ∀ (k : Nat) (d : DOp), p ≤ k → L[k]? = some d → d.o.op.isPure = false → ¬ S d.ix
  closed : ∀ (k : Nat) (d : DOp), L[k]? = some d → S d.ix → ∀ i ∈ edgesOf ops d.ix, S i
  hr : HR m (st p).2 w
  ext : Ext m0 (st 0).2 w0 m (st p).2 w
  pmake : ∀ (k : Nat) (d : DOp), k < p → L[k]? = some d → d.o.op.isMake = true → ¬ S d.ix → wantedA (st k).1 d.o.guard = some true → m (st k).2.next = none ∧ ∃ val obj, makeA (st k).1 d.o.op = some (val, obj) ∧ (st p).2.get (st k).2.next = some obj
  pread : ∀ (k : Nat) (d : DOp), k < p → L[k]? = some d → d.o.op.isRead = true → ¬ S d.ix → wantedA (st k).1 d.o.guard = some true → readA E (st k).1 (st p).2 d.o.op = readA E (st k).1 (st k).2 d.o.op
  frW : ∀ (k : Nat) (d : DOp) (t : Nat) (v : AV), L[k]? = some d → S d.ix → d.o.dst = some t → Fr.get (st (k + 1)).1 t = some v → VR m v (a.tmps.getD t undef)
  frN : ∀ (t : Nat) (v : AV), (∀ (k : Nat) (d : DOp), L[k]? = some d → S d.ix → d.o.dst ≠ some t) → Fr.get (st 0).1 t = some v → VR m v (a.tmps.getD t undef)
  defers : a.defers = []
  size : a.tmps.size = nt

theorem isAct_of {o : AOp} (h1 : o.isPure = false) (h2 : o.isRead = false) (h3 : o.isMake = false) : o.isAct = true := by simp [AOp.isAct, h1, h2, h3]

theorem Inv.adv (hc : Can E O L st) {S : Nat → Prop} {a : Act} {w : World} {m : LMap} : ∀ (n r : Nat), L.length - r = n → Inv P G nt E O ops L st m0 w0 S a w r m →
    ∃ p, Inv P G nt E O ops L st m0 w0 S a w p m ∧ (p < L.length → ∃ d, L[p]? = some d ∧ d.o.op.isAct = true) := by
  intro n
  induction n with
  | zero => intro r hn h; exact ⟨r, h, fun hlt => by omega⟩
  | succ n ih =>
    intro r hn h
    have hr : r < L.length := by omega
    obtain ⟨d, hd⟩ : ∃ d, L[r]? = some d := ⟨_, List.getElem?_eq_getElem hr⟩
    by_cases ha : d.o.op.isAct = true
    · exact ⟨r, h, fun _ => ⟨d, hd, ha⟩⟩
    · have hstep := hc.step r d hd
      -- the heap behind
      have hheap : (st (r + 1)).2 = (st r).2 ∨ (d.o.op.isMake = true ∧ d.o.op.isPure = false ∧ wantedA (st r).1 d.o.guard = some true ∧ ∃ val obj, makeA (st r).1 d.o.op = some (val, obj) ∧ (st (r + 1)).2 = (st r).2.push obj) := by
        unfold stepA at hstep
        split at hstep
        · cases hstep
        · have := Option.some.inj hstep; exact .inl (by rw [← this])
        · rename_i hw
          simp only [Option.map_eq_some_iff] at hstep
          obtain ⟨q, hop, he⟩ := hstep
          by_cases h0 : d.o.op.isPure = true ∨ d.o.op.isRead = true
          · exact .inl (by rw [← he]; exact opA_still h0 hop)
          · have h1 : d.o.op.isPure = false := by cases hp : d.o.op.isPure <;> simp_all
            have h2 : d.o.op.isRead = false := by cases hp : d.o.op.isRead <;> simp_all
            have h3 : d.o.op.isMake = true := by
              cases hm : d.o.op.isMake with
              | true => rfl
              | false => exact absurd (isAct_of h1 h2 hm) ha
            obtain ⟨val, obj, h4, h5⟩ := makeA_push h1 h2 h3 hop
            exact .inr ⟨h3, h1, hw, val, obj, h4, by rw [← he, h5]⟩
      have hnextr : (st r).2.get (st r).2.next = none := h.hr.wf _ (Nat.le_refl _)
      refine ih (r + 1) (by omega) ⟨hr, ?_, fun k d' h1 h2 h3 => h.late k d' (by omega) h2 h3, h.closed, ?_, ?_, ?_, ?_, h.frW, h.frN, h.defers, h.size⟩
      · intro k d' h1 h2 h3
        by_cases hk : k = r
        · subst hk; rw [hd] at h2; obtain rfl := Option.some.inj h2; exact absurd h3 ha
        · exact h.acts k d' (by omega) h2 h3
      · rcases hheap with e | ⟨_, _, _, val, obj, _, e⟩
        · rw [e]; exact h.hr
        · rw [e]; exact h.hr.push_unmapped obj
      · rcases hheap with e | ⟨_, _, _, val, obj, _, e⟩
        · rw [e]; exact h.ext
        · rw [e]; exact h.ext.push_right hnextr obj
      · intro k d' h1 h2 h3 h4 h5
        by_cases hk : k = r
        · subst hk
          rw [hd] at h2; obtain rfl := Option.some.inj h2
          refine ⟨h.hr.fresh, ?_⟩
          rcases hheap with e | ⟨_, h6, _, val, obj, h7, e⟩
          · -- a make that is wanted pushes
            have h8 : d.o.op.isPure = false ∧ d.o.op.isRead = false := by
              generalize d.o.op = op at h3
              cases op <;> first | (simp [AOp.isMake] at h3; done) | exact ⟨rfl, rfl⟩
            unfold stepA at hstep
            rw [h5] at hstep
            simp only [Option.map_eq_some_iff] at hstep
            obtain ⟨q, hop, he⟩ := hstep
            obtain ⟨val, obj, h9, h10⟩ := makeA_push h8.1 h8.2 h3 hop
            have h11 : (st (k + 1)).2 = (st k).2.push obj := by rw [← he, h10]
            rw [h11] at e
            have := congrArg AH.next e
            simp [AH.push] at this
          · exact ⟨val, obj, h7, by rw [e, AH.get_push, if_pos rfl]⟩
        · obtain ⟨h6, val, obj, h7, h8⟩ := h.pmake k d' (by omega) h2 h3 h4 h5
          refine ⟨h6, val, obj, h7, ?_⟩
          rcases hheap with e | ⟨_, _, _, _, obj', _, e⟩
          · rw [e]; exact h8
          · rw [e, AH.get_push, if_neg (by intro e'; rw [e', hnextr] at h8; cases h8)]; exact h8
      · intro k d' h1 h2 h3 h4 h5
        by_cases hk : k = r
        · subst hk
          rw [hd] at h2; obtain rfl := Option.some.inj h2
          rcases hheap with e | ⟨h6, _⟩
          · rw [e]
          · exfalso
            generalize d.o.op = op at h3 h6
            cases op <;> simp [AOp.isRead, AOp.isMake] at h3 h6
        · have h6 := h.pread k d' (by omega) h2 h3 h4 h5
          rcases hheap with e | ⟨_, _, _, _, obj', _, e⟩
          · rw [e]; exact h6
          · rw [e]
            have hstep' := hc.step k d' h2
            unfold stepA at hstep'
            rw [h5] at hstep'
            simp only [Option.map_eq_some_iff] at hstep'
            obtain ⟨q, hop, _⟩ := hstep'
            have hp : d'.o.op.isPure = false := by
              generalize d'.o.op = op at h3
              cases op <;> first | (simp [AOp.isRead] at h3; done) | rfl
            unfold opA at hop
            rw [hp, h3] at hop
            simp only [Bool.false_eq_true, if_false, if_true, Option.map_eq_some_iff] at hop
            obtain ⟨v, hv, _⟩ := hop
            rw [readA_push hnextr (h6.trans hv) obj', hv]
end
end Go.Proofs.YtbpgbhmibmcbnaaGreatDoor.Ram

/-! Regions whose order is open: one step; the end. -/
namespace Go.Proofs.YtbpgbhmibmcbnaaGreatDoor.Ram
open Go Go.RowKit

section
variable {P : Program} {G : List Nat} {nt : Nat} {E : Env} {O : Oracle} {ops : Array Oper} {L : List DOp} {st : Nat → St} {m0 : LMap} {w0 : World} {S : Nat → Prop} {a : Act} {w : World} {p : Nat} {m : LMap}

theorem stepA_self {o : AOper} {s s' : St} (h : stepA E O o s = some s') {t : Nat} (ht : o.dst = some t) : (wantedA s.1 o.guard = some false ∧ s'.2 = s.2 ∧ Fr.get s'.1 t = some .und) ∨ (wantedA s.1 o.guard = some true ∧ ∃ r, opA E O s.1 s.2 o.op = some (r, s'.2) ∧ Fr.get s'.1 t = r) := by
  unfold stepA at h
  split at h
  · cases h
  · rename_i hw
    obtain rfl := Option.some.inj h
    exact .inl ⟨hw, rfl, by rw [ht]; simp [putD, Fr.get_set]⟩
  · rename_i hw
    simp only [Option.map_eq_some_iff] at h
    obtain ⟨r, h, rfl⟩ := h
    refine .inr ⟨hw, r.1, h, ?_⟩
    rw [ht]
    cases hr : r.1 with
    | none => simp [putD, Fr.get_del]
    | some v => simp [putD, Fr.get_set]

theorem Inv.on (D : DOK P G nt ops L) (hc : Can E O L st) (h : Inv P G nt E O ops L st m0 w0 S a w p m) {k : Nat} {d : DOp} (hd : L[k]? = some d) (hk : ¬ S d.ix) (he : ∀ i ∈ edgesOf ops d.ix, S i) : FOn m (st k).1 a (readsD d.o) := by
  intro t ht v hv
  have hpre := pre_listed D h.closed k d hd he
  have hkl : k < L.length := (List.getElem?_eq_some_iff.1 hd).1
  -- nobody has written: the slot is as at the start
  have atStart : (∀ (q : Nat) (d' : DOp), L[q]? = some d' → d'.o.dst = some t → ¬ S d'.ix ∧ k ≤ q) → VR m v (a.tmps.getD t undef) := fun hw => by
    refine h.frN t v (fun q d' h1 h2 h3 => (hw q d' h1 h3).1 h2) ?_
    rw [← hc.frame (Nat.zero_le k) (Nat.le_of_lt hkl) (fun q d' _ h2 h3 h4 => by have := (hw q d' h3 h4).2; omega)]
    exact hv
  by_cases hex : ∃ (q : Nat) (d' : DOp), L[q]? = some d' ∧ d'.o.dst = some t
  · obtain ⟨q, d', hq, hdst⟩ := hex
    have huniq : ∀ (q' : Nat) (d'' : DOp), L[q']? = some d'' → d''.o.dst = some t → q' = q := fun q' d'' h1 h2 => by
      rcases Nat.decEq q' q with hne | heq
      · exact absurd hdst (D.dst_ne hne h1 hq h2)
      · exact heq
    rcases Nat.lt_trichotomy q k with hlt | heq | hgt
    · have hin : S d'.ix := hpre _ (D.touch hlt hq hd (.inl (dstIn_iff hdst ht)))
      refine h.frW q d' t v hq hin hdst ?_
      rw [← hc.frame (k := q + 1) hlt (Nat.le_of_lt hkl) (fun q' d'' h1 _ h3 h4 => by have := huniq q' d'' h3 h4; omega)]
      exact hv
    · subst heq
      rw [hd] at hq
      obtain rfl := Option.some.inj hq
      exact atStart fun q' d'' h1 h2 => by
        have := huniq q' d'' h1 h2
        subst this
        rw [hd] at h1
        obtain rfl := Option.some.inj h1
        exact ⟨hk, Nat.le_refl _⟩
    · have hnot : ¬ S d'.ix := fun hs => hk (pre_listed D h.closed q d' hq (h.closed q d' hq hs) _ (D.touch hgt hd hq (.inr (dstIn_iff hdst ht))))
      exact atStart fun q' d'' h1 h2 => by
        have := huniq q' d'' h1 h2
        subst this
        rw [hq] at h1
        obtain rfl := Option.some.inj h1
        exact ⟨hnot, Nat.le_of_lt hgt⟩
  · exact atStart fun q d' h1 h2 => absurd ⟨q, d', h1, h2⟩ hex

theorem Inv.fr_step (D : DOK P G nt ops L) (h : Inv P G nt E O ops L st m0 w0 S a w p m) {k : Nat} {d : DOp} (hd : L[k]? = some d) {m' : LMap} (hs : LSub m m') (hdst : (match d.o.dst with | some x => decide (x < nt) | none => true) = true) {cv : Value}
    (hv : ∀ t v, d.o.dst = some t → Fr.get (st (k + 1)).1 t = some v → VR m' v cv) :
    (∀ (q : Nat) (d' : DOp) (t : Nat) (v : AV), L[q]? = some d' → (S d'.ix ∨ d'.ix = d.ix) → d'.o.dst = some t → Fr.get (st (q + 1)).1 t = some v → VR m' v ((a.put d.o.dst cv).tmps.getD t undef)) ∧
    (∀ (t : Nat) (v : AV), (∀ (q : Nat) (d' : DOp), L[q]? = some d' → (S d'.ix ∨ d'.ix = d.ix) → d'.o.dst ≠ some t) → Fr.get (st 0).1 t = some v → VR m' v ((a.put d.o.dst cv).tmps.getD t undef)) ∧
    (a.put d.o.dst cv).defers = [] ∧ (a.put d.o.dst cv).tmps.size = nt := by
  have hget : ∀ t, d.o.dst ≠ some t → (a.put d.o.dst cv).tmps.getD t undef = a.tmps.getD t undef := fun t ht => by
    cases hx : d.o.dst with
    | none => rfl
    | some x =>
      rw [hx] at hdst
      simp only [decide_eq_true_eq] at hdst
      rw [put_getD a x t cv (by rw [h.size]; exact hdst), if_neg (fun e => ht (by rw [hx, e]))]
  refine ⟨fun q d' t v h1 h2 h3 h4 => ?_, fun t v h1 h2 => ?_, ?_, ?_⟩
  · by_cases hqk : q = k
    · subst hqk
      rw [hd] at h1
      obtain rfl := Option.some.inj h1
      have := hv t v h3 h4
      rw [h3] at hdst ⊢
      simp only [decide_eq_true_eq] at hdst
      rw [put_getD a t t cv (by rw [h.size]; exact hdst), if_pos rfl]
      exact this
    · rw [hget t (D.dst_ne hqk h1 hd h3)]
      rcases h2 with h2 | h2
      · exact (h.frW q d' t v h1 h2 h3 h4).mono hs
      · exact absurd h2 (D.ix_ne hqk h1 hd)
  · rw [hget t (h1 k d hd (.inr rfl))]
    exact (h.frN t v (fun q d' h3 h4 => h1 q d' h3 (.inl h4)) h2).mono hs
  · cases d.o.dst <;> exact h.defers
  · cases d.o.dst
    · exact h.size
    · simp [Act.put, h.size]

theorem Inv.step (hE : okEnv P G E = true) (hO : OSound P G O) (hN : ONext O) (hG0 : GOk G m0) (D : DOK P G nt ops L) (hc : Can E O L st) (h : Inv P G nt E O ops L st m0 w0 S a w p m) (hp : p < L.length → ∃ d, L[p]? = some d ∧ d.o.op.isAct = true)
    (hdom0 : ∀ i loc, m0 i = some loc → i < (st 0).2.next) {k : Nat} {d : DOp} (hd : L[k]? = some d) (hk : ¬ S d.ix) (he : ∀ i ∈ edgesOf ops d.ix, S i) {K : Act → World → Prop} {Q : Exit → Act → World → Prop}
    (hK : ∀ a' w' p' m', Inv P G nt E O ops L st m0 w0 (fun i => S i ∨ i = d.ix) a' w' p' m' → (p' < L.length → ∃ d, L[p']? = some d ∧ d.o.op.isAct = true) → K a' w') : wpOp P ops Q d.ix K a w := by
  have hkl : k < L.length := (List.getElem?_eq_some_iff.1 hd).1
  have hpre := pre_listed D h.closed k d hd he
  have hon := h.on D hc hd hk he
  have hstep := hc.step k d hd
  have hone := D.one k d hd
  simp only [oneOk, Bool.and_eq_true] at hone
  have hok := hone.1.1.1
  have hG : GOk G m := hG0.mono h.ext.sub
  unfold wpOp
  cases ho : ops[d.ix]? with
  | none => rw [ho] at hok; cases hok
  | some o =>
    rw [ho] at hok
    simp only [okOper, Bool.and_eq_true, decide_eq_true_eq] at hok
    obtain ⟨⟨⟨hdst, hop⟩, hdlt⟩, hguard⟩ := hok
    have hwant := fun b hb => wanted_sound (ops := ops) (a := a) (m := m) (o := o) (ao := d.o) hguard (fun t want ht => hon.sub fun n hn => by
      simp only [List.mem_singleton] at hn; subst hn; simp [readsD, ht]) (b := b) hb
    -- where we are
    have hnp : d.o.op.isPure = false → k ≤ p ∧ (k = p → d.o.op.isAct = true) := fun hpu => by
      rcases Nat.lt_or_ge p k with hlt | hge
      · exfalso
        obtain ⟨dp, hdp, hact⟩ := hp (by omega)
        have := hpre _ (D.act hlt hdp hd hact hpu)
        have hpur : dp.o.op.isPure = false := by
          generalize dp.o.op = op at hact
          cases hq : op.isPure with
          | false => rfl
          | true => simp [AOp.isAct, hq] at hact
        exact h.late p dp (Nat.le_refl _) hdp hpur this
      · refine ⟨hge, fun e => ?_⟩
        subst e
        obtain ⟨dp, hdp, hact⟩ := hp hkl
        rw [hd] at hdp
        obtain rfl := Option.some.inj hdp
        exact hact
    have hactp : d.o.op.isAct = true → k = p := fun hact => by
      have hpur : d.o.op.isPure = false := by
        generalize d.o.op = op at hact
        cases hq : op.isPure with
        | false => rfl
        | true => simp [AOp.isAct, hq] at hact
      have h1 := (hnp hpur).1
      rcases Nat.lt_or_eq_of_le h1 with h2 | h2
      · exact absurd (h.acts k d h2 hd hact) hk
      · exact h2
    have hcl' : ∀ (q : Nat) (d' : DOp), L[q]? = some d' → (S d'.ix ∨ d'.ix = d.ix) → ∀ i ∈ edgesOf ops d'.ix, (S i ∨ i = d.ix) := fun q d' h1 h2 i hi => by
      rcases h2 with h2 | h2
      · exact .inl (h.closed q d' h1 h2 i hi)
      · rw [h2] at hi; exact .inl (he i hi)
    -- what is no act: the stage stays
    have stay : d.o.op.isAct = false → ∀ (m' : LMap) (w' : World) (cv : Value), LSub m m' → (∀ i loc, m' i = some loc → m i = none → i = (st k).2.next ∧ d.o.op.isMake = true ∧ wantedA (st k).1 d.o.guard = some true) → HR m' (st p).2 w' → Ext m0 (st 0).2 w0 m' (st p).2 w' →
        (∀ t v, d.o.dst = some t → Fr.get (st (k + 1)).1 t = some v → VR m' v cv) → K (a.put d.o.dst cv) w' := fun hna m' w' cv hs hnew hh hext hv => by
      obtain ⟨f1, f2, f3, f4⟩ := h.fr_step D hd hs hdlt hv
      refine hK _ w' p m' ⟨h.ple, fun q d' h1 h2 h3 => .inl (h.acts q d' h1 h2 h3), fun q d' h1 h2 h3 h4 => ?_, hcl', hh, hext, fun q d' h1 h2 h3 h4 h5 => ?_, fun q d' h1 h2 h3 h4 h5 => h.pread q d' h1 h2 h3 (fun e => h4 (.inl e)) h5, f1, f2, f3, f4⟩ hp
      · rcases h4 with h4 | h4
        · exact h.late q d' h1 h2 h3 h4
        · have hqk : q = k := by
            rcases Nat.decEq q k with hne | heq
            · exact absurd h4 (D.ix_ne hne h2 hd)
            · exact heq
          subst hqk
          rw [hd] at h2
          obtain rfl := Option.some.inj h2
          obtain ⟨h5, h6⟩ := hnp h3
          have : q = p := by omega
          rw [h6 this] at hna; cases hna
      · obtain ⟨h6, val, obj, h7, h8⟩ := h.pmake q d' h1 h2 h3 (fun e => h4 (.inl e)) h5
        refine ⟨?_, val, obj, h7, h8⟩
        cases hm' : m' (st q).2.next with
        | none => rfl
        | some loc =>
          exfalso
          obtain ⟨e, hmk, hwk⟩ := hnew _ loc hm' h6
          -- two makes have two numbers
          have hne : q ≠ k := fun e' => h4 (.inr (by subst e'; rw [hd] at h2; obtain rfl := Option.some.inj h2; rfl))
          have grow : ∀ (i : Nat) (di : DOp), L[i]? = some di → di.o.op.isMake = true → wantedA (st i).1 di.o.guard = some true → (st (i + 1)).2.next = (st i).2.next + 1 := fun i di hdi hmi hwi => by
            have h9 := hc.step i di hdi
            unfold stepA at h9
            rw [hwi] at h9
            simp only [Option.map_eq_some_iff] at h9
            obtain ⟨r, h10, h11⟩ := h9
            have hpr : di.o.op.isPure = false ∧ di.o.op.isRead = false := by
              generalize di.o.op = op at hmi
              cases op <;> first | (simp [AOp.isMake] at hmi; done) | exact ⟨rfl, rfl⟩
            obtain ⟨val, obj, _, h12⟩ := makeA_push hpr.1 hpr.2 hmi h10
            rw [← h11, h12]; rfl
          have hql : q < L.length := (List.getElem?_eq_some_iff.1 h2).1
          rcases Nat.lt_or_gt_of_ne hne with hlt | hgt
          · have := hc.next hN (k := q + 1) (k' := k) hlt (Nat.le_of_lt hkl)
            rw [grow q d' h2 h3 h5] at this
            omega
          · have := hc.next hN (k := k + 1) (k' := q) hgt (Nat.le_of_lt hql)
            rw [grow k d hd hmk hwk] at this
            omega
    -- an act: on to the next one
    have move : d.o.op.isAct = true → ∀ (m' : LMap) (w' : World) (cv : Value), HR m' (st (k + 1)).2 w' → Ext m (st p).2 w m' (st (k + 1)).2 w' →
        (∀ t v, d.o.dst = some t → Fr.get (st (k + 1)).1 t = some v → VR m' v cv) → K (a.put d.o.dst cv) w' := fun hact m' w' cv hh hext hv => by
      have hkp := hactp hact
      subst hkp
      obtain ⟨f1, f2, f3, f4⟩ := h.fr_step D hd hext.sub hdlt hv
      have hpur : d.o.op.isPure = false := by
        generalize d.o.op = op at hact
        cases hq : op.isPure with
        | false => rfl
        | true => simp [AOp.isAct, hq] at hact
      have hinv : Inv P G nt E O ops L st m0 w0 (fun i => S i ∨ i = d.ix) (a.put d.o.dst cv) w' (k + 1) m' := by
        refine ⟨hkl, fun q d' h1 h2 h3 => ?_, fun q d' h1 h2 h3 h4 => ?_, hcl', hh, h.ext.trans hext hdom0, fun q d' h1 h2 h3 h4 h5 => ?_, fun q d' h1 h2 h3 h4 h5 => ?_, f1, f2, f3, f4⟩
        · by_cases hq : q = k
          · subst hq; rw [hd] at h2; obtain rfl := Option.some.inj h2; exact .inr rfl
          · exact .inl (h.acts q d' (by omega) h2 h3)
        · rcases h4 with h4 | h4
          · exact h.late q d' (by omega) h2 h3 h4
          · exact D.ix_ne (show q ≠ k by omega) h2 hd h4
        · have hqk : q ≠ k := fun e => by
            subst e; rw [hd] at h2; obtain rfl := Option.some.inj h2
            generalize d.o.op = op at h3 hact
            simp [AOp.isAct, h3] at hact
          obtain ⟨h6, val, obj, h7, h8⟩ := h.pmake q d' (by omega) h2 h3 (fun e => h4 (.inl e)) h5
          have hlt : (st q).2.next < (st k).2.next := by
            rcases Nat.lt_or_ge (st q).2.next (st k).2.next with h9 | h9
            · exact h9
            · rw [h.hr.wf _ h9] at h8; cases h8
          refine ⟨?_, val, obj, h7, by rw [hext.unm _ hlt h6]; exact h8⟩
          cases hm' : m' (st q).2.next with
          | none => rfl
          | some loc => have := (hext.new _ loc hm' h6).1; omega
        · have hqk : q ≠ k := fun e => by
            subst e; rw [hd] at h2; obtain rfl := Option.some.inj h2
            generalize d.o.op = op at h3 hact
            simp [AOp.isAct, h3] at hact
          have hqlt : q < k := by omega
          have h6 := h.pread q d' hqlt h2 h3 (fun e => h4 (.inl e)) h5
          rcases D.read hqlt h2 hd h3 hact with h7 | h7
          · exact absurd (.inl (hpre _ h7)) h4
          · have h8 := hc.chk k d hd _ h7 d'.o (findD_at D h2)
            have hfr : ∀ t ∈ readsD d'.o, Fr.get (st k).1 t = Fr.get (st q).1 t := fun t ht => read_keeps D hc h2 h3 (Nat.le_of_lt hqlt) (Nat.le_of_lt hkl) ht
            have hw : wantedA (st k).1 d'.o.guard = wantedA (st q).1 d'.o.guard := wantedA_congr fun t want hg => hfr t (by simp [readsD, hg])
            have hcg : ∀ H, readA E (st k).1 H d'.o.op = readA E (st q).1 H d'.o.op := fun H => readA_congr fun n hn => hfr n (by simp [readsD, hn])
            unfold sameRead at h8
            rw [hw, h5, hcg, hcg] at h8
            rcases h8 with h8 | ⟨_, h8⟩
            · cases h8
            · rw [h8]; exact h6
      obtain ⟨p', h9, h10⟩ := hinv.adv hc _ (k + 1) rfl
      exact hK _ w' p' m' h9 h10
    -- the two ways
    cases hwc : wantedA (st k).1 d.o.guard with
    | none =>
      unfold stepA at hstep
      rw [hwc] at hstep
      cases hstep
    | some b =>
      cases b with
      | false =>
        have hst1 : (st (k + 1)).2 = (st k).2 ∧ ∀ t, d.o.dst = some t → Fr.get (st (k + 1)).1 t = some .und := by
          unfold stepA at hstep
          rw [hwc] at hstep
          have := Option.some.inj hstep
          rw [← this]
          exact ⟨rfl, fun t ht => by rw [ht]; simp [putD, Fr.get_set]⟩
        simp only []
        rw [if_neg (by rw [hwant false hwc]; simp), hdst]
        have hnv : ∀ (m' : LMap) t v, d.o.dst = some t → Fr.get (st (k + 1)).1 t = some v → VR m' v undef := fun m' t v h1 h2 => by rw [hst1.2 t h1] at h2; cases h2; simp [VR]
        cases hact : d.o.op.isAct with
        | false => exact stay hact m w undef (fun _ _ h => h) (fun i loc h1 h2 => by rw [h2] at h1; cases h1) h.hr h.ext (hnv m)
        | true =>
          have hkp := hactp hact
          refine move hact m w undef ?_ ?_ (hnv m)
          · rw [hst1.1, hkp]; exact h.hr
          · rw [hst1.1, hkp]; exact Ext.refl _ _ _
      | true =>
        simp only []
        rw [if_pos (hwant true hwc)]
        refine .inl ?_
        obtain ⟨r, hopA, hfrv⟩ : ∃ r, opA E O (st k).1 (st k).2 d.o.op = some (r, (st (k + 1)).2) ∧ ∀ t, d.o.dst = some t → Fr.get (st (k + 1)).1 t = r := by
          unfold stepA at hstep
          rw [hwc] at hstep
          simp only [Option.map_eq_some_iff] at hstep
          obtain ⟨q, h1, h2⟩ := hstep
          rw [← h2]
          refine ⟨q.1, h1, fun t ht => ?_⟩
          rw [ht]
          cases hr : q.1 with
          | none => simp [putD, Fr.get_del]
          | some v => simp [putD, Fr.get_set]
        have hopsf : FOn m (st k).1 a d.o.op.tmps := hon.sub fun n hn => by simp [readsD, hn]
        have hvv : ∀ (m' : LMap) (cv : Value), (∀ v, r = some v → VR m' v cv) → ∀ t v, d.o.dst = some t → Fr.get (st (k + 1)).1 t = some v → VR m' v cv := fun m' cv h1 t v h2 h3 => h1 v (by rw [← hfrv t h2]; exact h3)
        by_cases hpu : d.o.op.isPure = true
        · unfold okOp at hop
          rw [if_pos hpu] at hop
          unfold opA at hopA
          rw [if_pos hpu] at hopA
          simp only [Option.map_eq_some_iff, Prod.mk.injEq] at hopA
          obtain ⟨v, hv, rfl, _⟩ := hopA
          obtain ⟨cv, h1, h2⟩ := pure_sound hG hop hopsf hv
          have hna : d.o.op.isAct = false := by simp [AOp.isAct, hpu]
          rw [← hdst] at stay hvv
          exact wp_of_value (h2 w) (stay hna m w cv (fun _ _ h => h) (fun i loc h1 h2 => by rw [h2] at h1; cases h1) h.hr h.ext (hvv m cv fun v' e => by obtain rfl := Option.some.inj e; exact h1))
        · have hpu' : d.o.op.isPure = false := by simpa using hpu
          obtain ⟨hkle, hkact⟩ := hnp hpu'
          by_cases hre : d.o.op.isRead = true
          · have hna : d.o.op.isAct = false := by simp [AOp.isAct, hre]
            have hlt : k < p := by
              rcases Nat.lt_or_eq_of_le hkle with h1 | h1
              · exact h1
              · rw [hkact h1] at hna; cases hna
            unfold okOp at hop
            rw [if_neg hpu, if_pos hre] at hop
            unfold opA at hopA
            rw [if_neg hpu, if_pos hre] at hopA
            simp only [Option.map_eq_some_iff, Prod.mk.injEq] at hopA
            obtain ⟨v, hv, rfl, _⟩ := hopA
            rw [← h.pread k d hlt hd hre hk hwc] at hv
            obtain ⟨cv, h1, h2⟩ := read_sound hE hG h.hr hop hopsf hv
            rw [← hdst] at stay hvv
            exact wp_of_value h2 (stay hna m w cv (fun _ _ h => h) (fun i loc h1 h2 => by rw [h2] at h1; cases h1) h.hr h.ext (hvv m cv fun v' e => by obtain rfl := Option.some.inj e; exact h1))
          · have hre' : d.o.op.isRead = false := by simpa using hre
            by_cases hma : d.o.op.isMake = true
            · have hna : d.o.op.isAct = false := by simp [AOp.isAct, hma]
              have hlt : k < p := by
                rcases Nat.lt_or_eq_of_le hkle with h1 | h1
                · exact h1
                · rw [hkact h1] at hna; cases hna
              unfold okOp at hop
              rw [if_neg hpu, if_neg hre, if_pos hma] at hop
              obtain ⟨hmn, val, obj, hmk, hgo⟩ := h.pmake k d hlt hd hma hk hwc
              obtain ⟨val', obj', h3, h4⟩ := makeA_push hpu' hre' hma hopA
              rw [hmk] at h3
              obtain ⟨rfl, rfl⟩ := Prod.mk.inj (Option.some.inj h3)
              obtain ⟨cv, bo, n, h5, h6⟩ := make_sound (w := w) hG hop hopsf hmk
              have hr1 : r = some (val (st k).2.next) := (Prod.mk.inj h4).1
              have h0k := hc.next hN (Nat.zero_le k) (Nat.le_of_lt hkl)
              rw [← hdst] at stay hvv
              refine wp_of_value h5 (stay hna (m.put (st k).2.next ⟨w.heap.size, 0, n, false⟩) (w.alloc bo) cv (LMap.put_sub hmn) (fun i loc h7 h8 => ?_) (h.hr.map_new hmn hgo bo n h6.objR (makeA_ro hmk)) (h.ext.map_new hmn h0k bo n) (hvv _ cv fun v' e => ?_))
              · unfold LMap.put at h7
                split at h7
                · rename_i e; exact ⟨e, hma, hwc⟩
                · rw [h8] at h7; cases h7
              · rw [hr1] at e
                obtain rfl := Option.some.inj e
                exact h6.valR _ _ (LMap.put_self _ _ _)
            · have hma' : d.o.op.isMake = false := by simpa using hma
              have hact := isAct_of hpu' hre' hma'
              have hkp := hactp hact
              unfold okOp at hop
              rw [if_neg hpu, if_neg hre, if_neg hma] at hop
              unfold opA at hopA
              rw [if_neg hpu, if_neg hre, if_neg hma] at hopA
              have hhk : HR m (st k).2 w := by rw [hkp]; exact h.hr
              rw [← hdst] at move hvv
              exact act_sound hO hG hhk hop hopsf hopA fun cv m' w' h1 h2 h3 => move hact m' w' cv h2 (by rw [← hkp]; exact h3) (hvv m' cv h1)

theorem countP_lt {α : Type} {l : List α} {p q : α → Bool} (h : ∀ x, q x = true → p x = true) (hx : ∃ x ∈ l, p x = true ∧ q x = false) : l.countP q < l.countP p := by
  induction l with
  | nil => obtain ⟨x, hx, _⟩ := hx; cases hx
  | cons y l ih =>
    have hle : l.countP q ≤ l.countP p := List.countP_mono_left fun x _ => h x
    obtain ⟨x, hx, h1, h2⟩ := hx
    rw [List.countP_cons, List.countP_cons]
    rcases List.mem_cons.1 hx with rfl | hx
    · rw [h1, h2]; simp; omega
    · have := ih ⟨x, hx, h1, h2⟩
      cases hq : q y with
      | true => rw [h y hq]; simp; omega
      | false => cases p y <;> simp <;> omega

theorem edges_mem {ops : Array Oper} {ix : Nat} {o : Oper} (ho : ops[ix]? = some o) {i : Nat} : i ∈ edgesOf ops ix ↔ ∃ e ∈ o.after, Region.binds .any e = true ∧ e.on = i := by
  simp only [edgesOf, ho, List.mem_map, List.mem_filter, Array.mem_toList_iff]
  constructor
  · rintro ⟨e, ⟨h1, h2⟩, rfl⟩; exact ⟨e, h1, h2, rfl⟩
  · rintro ⟨e, h1, h2, rfl⟩; exact ⟨e, ⟨h1, h2⟩, rfl⟩

theorem Inv.any (hE : okEnv P G E = true) (hO : OSound P G O) (hN : ONext O) (hG0 : GOk G m0) (D : DOK P G nt ops L) (hc : Can E O L st) (hdom0 : ∀ i loc, m0 i = some loc → i < (st 0).2.next) {Q : Exit → Act → World → Prop}
    (hk : ∀ a' m' w', SR m' nt (st L.length).1 a' → HR m' (st L.length).2 w' → Ext m0 (st 0).2 w0 m' (st L.length).2 w' → Q .normal a' w') : ∀ (fuel : Nat) (listed : Array Bool) (a : Act) (w : World) (p : Nat) (m : LMap),
      listed.size = ops.size → (List.range ops.size).countP (fun i => !listed.getD i true) ≤ fuel → Inv P G nt E O ops L st m0 w0 (fun i => listed.getD i false = true) a w p m → (p < L.length → ∃ d, L[p]? = some d ∧ d.o.op.isAct = true) →
      wpAny P .any ops Q fuel listed a w := by
  have hpos : ∀ i o, ops[i]? = some o → ∃ (k : Nat) (d : DOp), L[k]? = some d ∧ d.ix = i := fun i o ho => D.onto i (Array.getElem?_eq_some_iff.1 ho).1
  -- all have come up
  have done : ∀ (listed : Array Bool) (a : Act) (w : World) (p : Nat) (m : LMap), listed.size = ops.size → Inv P G nt E O ops L st m0 w0 (fun i => listed.getD i false = true) a w p m → (p < L.length → ∃ d, L[p]? = some d ∧ d.o.op.isAct = true) → Region.ready .any ops listed = [] → Q .normal a w := by
    intro listed a w p m hsz h hp hrd
    have hall : ∀ (k : Nat) (d : DOp), L[k]? = some d → listed.getD d.ix false = true := by
      intro k
      induction k using Nat.strongRecOn with
      | _ k ih =>
        intro d hd
        have hone := D.one k d hd
        simp only [oneOk, Bool.and_eq_true, List.all_eq_true] at hone
        cases hl : listed.getD d.ix false with
        | true => rfl
        | false =>
          exfalso
          cases ho : ops[d.ix]? with
          | none => have := hone.1.1.1; rw [ho] at this; cases this
          | some o =>
            have hlt : d.ix < listed.size := by rw [hsz]; exact (Array.getElem?_eq_some_iff.1 ho).1
            have hmem : d.ix ∈ Region.ready .any ops listed := mem_ready.2 ⟨by
              rw [Array.getD_eq_getD_getElem?, Array.getElem?_eq_getElem hlt] at hl ⊢; exact hl, o, ho, fun e he hb => by
              have h1 := hone.1.1.2 e.on ((edges_mem ho).2 ⟨e, he, hb, rfl⟩)
              obtain ⟨q, hq, h2⟩ := List.any_eq_true.1 h1
              simp only [beq_iff_eq] at h2
              obtain ⟨k', hk'⟩ := List.mem_iff_getElem?.1 hq
              rw [List.getElem?_take] at hk'
              split at hk'
              · rename_i hlt'; rw [← h2]; exact ih k' hlt' q hk'
              · cases hk'⟩
            rw [hrd] at hmem
            cases hmem
    have hpn : p = L.length := by
      rcases Nat.lt_or_eq_of_le h.ple with hlt | he
      · exfalso
        obtain ⟨d, hd, hact⟩ := hp hlt
        refine h.late p d (Nat.le_refl _) hd ?_ (hall p d hd)
        generalize d.o.op = op at hact
        cases hq : op.isPure with
        | false => rfl
        | true => simp [AOp.isAct, hq] at hact
      · exact he
    subst hpn
    refine hk a m w ⟨fun t v hv => ?_, h.defers, h.size⟩ h.hr h.ext
    by_cases hex : ∃ (q : Nat) (d' : DOp), L[q]? = some d' ∧ d'.o.dst = some t
    · obtain ⟨q, d', hq, hdst⟩ := hex
      have hql : q < L.length := (List.getElem?_eq_some_iff.1 hq).1
      refine h.frW q d' t v hq (hall q d' hq) hdst ?_
      rw [← hc.frame (k := q + 1) hql (Nat.le_refl _) (fun q' d'' h1 _ h3 h4 => by
        rcases Nat.decEq q q' with hne | heq
        · exact D.dst_ne hne hq h3 hdst h4
        · omega)]
      exact hv
    · refine h.frN t v (fun q d' h1 _ h3 => hex ⟨q, d', h1, h3⟩) ?_
      rw [← hc.frame (Nat.zero_le _) (Nat.le_refl _) (fun q d' _ _ h3 h4 => hex ⟨q, d', h3, h4⟩)]
      exact hv
  intro fuel
  induction fuel with
  | zero =>
    intro listed a w p m hsz hcnt h hp
    have hrd : Region.ready .any ops listed = [] := by
      rw [List.eq_nil_iff_forall_not_mem]
      intro i hi
      obtain ⟨h1, o, ho, _⟩ := mem_ready.1 hi
      have hlt : i < ops.size := (Array.getElem?_eq_some_iff.1 ho).1
      have : 0 < (List.range ops.size).countP (fun i => !listed.getD i true) := List.countP_pos_iff.2 ⟨i, List.mem_range.2 hlt, by rw [h1]; rfl⟩
      omega
    exact ⟨hrd, done listed a w p m hsz h hp hrd⟩
  | succ fuel ih =>
    intro listed a w p m hsz hcnt h hp
    refine ⟨fun hrd => done listed a w p m hsz h hp hrd, fun i hi => ?_⟩
    obtain ⟨h1, o, ho, h2⟩ := mem_ready.1 hi
    have hlt : i < ops.size := (Array.getElem?_eq_some_iff.1 ho).1
    obtain ⟨k, d, hd, rfl⟩ := hpos i o ho
    have hun : ¬ listed.getD d.ix false = true := by
      have hlt' : d.ix < listed.size := by rw [hsz]; exact hlt
      rw [Array.getD_eq_getD_getElem?, Array.getElem?_eq_getElem hlt'] at h1 ⊢
      simp only [Option.getD_some] at h1 ⊢
      rw [h1]; simp
    refine h.step hE hO hN hG0 D hc hp hdom0 hd hun (fun j hj => ?_) fun a' w' p' m' hinv hp' => ?_
    · obtain ⟨e, he, hb, rfl⟩ := (edges_mem ho).1 hj
      exact h2 e he hb
    · have hS : (fun j => listed.getD j false = true ∨ j = d.ix) = (fun j => (listed.setIfInBounds d.ix true).getD j false = true) := by
        funext j
        apply propext
        by_cases hj : j = d.ix
        · subst hj
          have hlt' : d.ix < listed.size := by rw [hsz]; exact hlt
          simp [Array.getD_eq_getD_getElem?, hlt']
        · rw [getD_set_ne false (fun e => hj e.symm)]
          simp [hj]
      rw [hS] at hinv
      refine ih _ a' w' p' m' (by simp [hsz]) ?_ hinv hp'
      have : (List.range ops.size).countP (fun i => !(listed.setIfInBounds d.ix true).getD i true) < (List.range ops.size).countP (fun i => !listed.getD i true) := by
        refine countP_lt (fun j hj => ?_) ⟨d.ix, List.mem_range.2 hlt, by rw [h1]; rfl, ?_⟩
        · by_cases hjd : j = d.ix
          · subst hjd; rw [h1]; rfl
          · rw [getD_set_ne true (fun e => hjd e.symm)] at hj; exact hj
        · have hlt' : d.ix < listed.size := by rw [hsz]; exact hlt
          simp [Array.getD_eq_getD_getElem?, hlt']
      omega

theorem dreg_sound (hE : okEnv P G E = true) (hO : OSound P G O) (hN : ONext O) {id : Nat} (hok : okDreg P G nt ops L = true) {fr fr' : Fr} {H H' : AH} (hr : dregA E O L L (fr, H) = some (fr', H')) (hG : GOk G m) (hs : SR m nt fr a) (hh : HR m H w) {Q : Exit → Act → World → Prop}
    (hk : ∀ a' m' w', SR m' nt fr' a' → HR m' H' w' → Ext m H w m' H' w' → Q .normal a' w') : (Code.region id ops true).wp P Q a w := by
  have D := DOK.of hok
  obtain ⟨st, e0, e1, e2⟩ := dreg_trace hr
  have hc : Can E O L st := ⟨fun k d hd => (e2 k d hd).1, fun k d hd => (e2 k d hd).2⟩
  refine wp_region_any D.mix ?_
  have hsz : (Array.replicate ops.size false).size = ops.size := by simp
  have hnl : ∀ i, ¬ (Array.replicate ops.size false).getD i false = true := fun i => by
    rw [Array.getD_eq_getD_getElem?, Array.getElem?_replicate]
    split <;> simp
  have hinv : Inv P G nt E O ops L st m { w with drawn := w.drawn + 1 } (fun i => (Array.replicate ops.size false).getD i false = true) a { w with drawn := w.drawn + 1 } 0 m := by
    refine ⟨Nat.zero_le _, fun k d h => by omega, fun k d _ _ _ h => hnl _ h, fun k d _ h => absurd h (hnl _), ?_, ?_, fun k d h => by omega, fun k d h => by omega, fun k d t v _ h => absurd h (hnl _), fun t v _ hv => ?_, hs.defers, hs.size⟩
    · rw [e0]; exact hh.drew _
    · rw [e0]; exact Ext.refl _ _ _
    · rw [e0] at hv; exact hs.all t v hv
  obtain ⟨p, h1, h2⟩ := hinv.adv hc _ 0 rfl
  refine Inv.any hE hO hN hG D hc (fun i loc hi => by rw [e0]; exact (hh.dom i loc hi).1) (fun a' m' w' h3 h4 h5 => ?_) ops.size _ a _ p m hsz ?_ h1 h2
  · rw [e1] at h3 h4 h5
    rw [e0] at h5
    exact hk a' m' w' h3 h4 { next := h5.next, sub := h5.sub, new := h5.new, unm := h5.unm, ro := h5.ro, rok := h5.rok, tip := h5.tip, frame := h5.frame, size := h5.size, os := h5.os, tape := h5.tape, output := h5.output }
  · have := List.countP_le_length (p := fun i => !(Array.replicate ops.size false).getD i true) (l := List.range ops.size)
    simpa using this
end
end Go.Proofs.YtbpgbhmibmcbnaaGreatDoor.Ram

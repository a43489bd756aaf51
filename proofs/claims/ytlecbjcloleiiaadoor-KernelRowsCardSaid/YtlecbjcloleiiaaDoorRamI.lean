import Derived.Test.YtlecbjcloleiiaaDoorRamH
/-! Regions whose order is open. -/
namespace Go.Proofs.YtlecbjcloleiiaaDoor.Ram
open Go Go.RowKit

def readsD (o : AOper) : List Nat := o.op.tmps ++ (match o.guard with | some (t, _) => [t] | none => [])
def edgesOf (ops : Array Oper) (ix : Nat) : List Nat := match ops[ix]? with
  | some o => (o.after.toList.filter fun e => Region.binds .any e).map (·.on)
  | none => []
def AOp.isAct (o : AOp) : Bool := !o.isPure && !o.isRead && !o.isMake
def dstIn (d : Option Nat) (l : List Nat) : Bool := match d with
  | some t => l.contains t
  | none => false
def pairOk (q d : DOp) : Bool :=
  (match q.o.dst, d.o.dst with | some x, some y => decide (x ≠ y) | _, _ => true) && decide (q.ix ≠ d.ix) &&
  (!(dstIn q.o.dst (readsD d.o) || dstIn d.o.dst (readsD q.o)) || d.pre.contains q.ix) &&
  (!(q.o.op.isAct && !d.o.op.isPure) || d.pre.contains q.ix) &&
  (!(q.o.op.isRead && d.o.op.isAct) || d.pre.contains q.ix || d.chk.contains q.ix) &&
  (!q.o.op.isRead || !dstIn d.o.dst (readsD q.o))
def oneOk (P : Program) (G : List Nat) (nt : Nat) (ops : Array Oper) (L : List DOp) (k : Nat) (d : DOp) : Bool :=
  (match ops[d.ix]? with | some o => okOper P G nt ops o d.o | none => false) &&
  (edgesOf ops d.ix).all (fun i => (L.take k).any fun q => q.ix == i) &&
  d.pre.all (fun i => (edgesOf ops d.ix).any fun j => j == i || (L.take k).any fun q => q.ix == j && q.pre.contains i) &&
  (!d.o.op.isRead || !dstIn d.o.dst (readsD d.o))
def okDreg (P : Program) (G : List Nat) (nt : Nat) (ops : Array Oper) (L : List DOp) : Bool :=
  decide (L.length = ops.size) && P.follows .mixedOrders && Region.noSelect ops && (List.range ops.size).all (fun i => L.any fun d => d.ix == i) &&
  (List.range L.length).all fun k => match L[k]? with
    | some d => oneOk P G nt ops L k d && (L.take k).all fun q => pairOk q d
    | none => false

structure DOK (P : Program) (G : List Nat) (nt : Nat) (ops : Array Oper) (L : List DOp) : Prop where
  len : L.length = ops.size
  mix : P.follows .mixedOrders = true
  onto : ∀ i, i < ops.size → ∃ (k : Nat) (d : DOp), L[k]? = some d ∧ d.ix = i
  one : ∀ (k : Nat) (d : DOp), L[k]? = some d → oneOk P G nt ops L k d = true
  pair : ∀ (k k' : Nat) (q d : DOp), k < k' → L[k]? = some q → L[k']? = some d → pairOk q d = true
theorem DOK.of {P : Program} {G : List Nat} {nt : Nat} {ops : Array Oper} {L : List DOp} (h : okDreg P G nt ops L = true) : DOK P G nt ops L := by
  unfold okDreg at h
  simp only [Bool.and_eq_true, decide_eq_true_eq, List.all_eq_true, List.mem_range] at h
  obtain ⟨⟨⟨⟨h1, h2⟩, _⟩, h4⟩, h3⟩ := h
  refine ⟨h1, h2, fun i hi => ?_, fun k d hd => ?_, fun k k' q d hk hq hd => ?_⟩
  · obtain ⟨d, hd, e⟩ := List.any_eq_true.1 (h4 i hi)
    obtain ⟨k, hk⟩ := List.mem_iff_getElem?.1 hd
    exact ⟨k, d, hk, by simpa using e⟩
  · have := h3 k (List.getElem?_eq_some_iff.1 hd).1
    rw [hd] at this
    simp only [Bool.and_eq_true] at this
    exact this.1
  · have := h3 k' (List.getElem?_eq_some_iff.1 hd).1
    rw [hd] at this
    simp only [Bool.and_eq_true, List.all_eq_true] at this
    refine this.2 q (List.mem_of_getElem? (i := k) ?_)
    rw [List.getElem?_take, if_pos hk]; exact hq

/-- The run in our order, state by state. -/
theorem dreg_trace {E : Env} {O : Oracle} {all : List DOp} : ∀ {L : List DOp} {s s' : St}, dregA E O all L s = some s' →
    ∃ st : Nat → St, st 0 = s ∧ st L.length = s' ∧ ∀ (k : Nat) (d : DOp), L[k]? = some d → stepA E O d.o (st k) = some (st (k + 1)) ∧ ∀ j ∈ d.chk, ∀ r, findD all j = some r → sameRead E (st k).1 (st k).2 (st (k + 1)).2 r
  | [], s, s', h => ⟨fun _ => s, rfl, by simpa [dregA] using h, fun k d hd => by simp at hd⟩
  | d :: L, s, s', h => by
    simp only [dregA, Option.bind_eq_some_iff] at h
    obtain ⟨s1, h1, h2⟩ := h
    split at h2
    · rename_i hc
      obtain ⟨st, e0, e1, e2⟩ := dreg_trace h2
      refine ⟨fun k => match k with | 0 => s | k + 1 => st k, rfl, e1, fun k d' hd => ?_⟩
      cases k with
      | zero =>
        simp at hd; subst hd
        simp only [e0]
        exact ⟨h1, hc⟩
      | succ k => exact e2 k d' (by simpa using hd)
    · cases h2

/-! ### what an operation's answer hangs on -/
theorem ev_congr {fr fr' : Fr} {x : Opd} (h : ∀ n ∈ x.tmps, Fr.get fr n = Fr.get fr' n) : x.ev fr = x.ev fr' := by
  cases x <;> simp only [Opd.ev]
  exact h _ (by simp [Opd.tmps])
theorem readA_congr {E : Env} {fr fr' : Fr} {H : AH} {op : AOp} (h : ∀ n ∈ op.tmps, Fr.get fr n = Fr.get fr' n) : readA E fr H op = readA E fr' H op := by
  cases op <;> simp only [readA]
  · rename_i n ag x
    rw [ev_congr (x := x) fun n hn => h n (by simpa [AOp.tmps] using hn)]
  · rename_i neg k x y
    rw [ev_congr (x := x) fun n hn => h n (by simp [AOp.tmps, hn]), ev_congr (x := y) fun n hn => h n (by simp [AOp.tmps, hn])]
  · rename_i d ok x y
    rw [ev_congr (x := x) fun n hn => h n (by simp [AOp.tmps, hn]), ev_congr (x := y) fun n hn => h n (by simp [AOp.tmps, hn])]
theorem readA_push {E : Env} {fr : Fr} {H : AH} {op : AOp} {v : AV} (hf : H.get H.next = none) (h : readA E fr H op = some v) (o : AObj) : readA E fr (H.push o) op = some v := by
  have hg : ∀ i ob, H.get i = some ob → (H.push o).get i = some ob := fun i ob hi => by
    rw [AH.get_push, if_neg (by intro e; rw [e, hf] at hi; cases hi)]; exact hi
  cases op <;> simp only [readA, Option.bind_eq_some_iff, Option.map_eq_some_iff] at h ⊢ <;> first | (cases h; done) | skip
  · rename_i n ag x
    obtain ⟨u, hu, h⟩ := h
    refine ⟨u, hu, ?_⟩
    unfold loadA at h ⊢
    split at h
    · rename_i i off
      split at h
      · rename_i l r hl; simp only [hg _ _ hl]; exact h
      · cases h
    · cases h
  · rename_i neg k x y
    obtain ⟨u, hu, u', hu', r, h, e⟩ := h
    refine ⟨u, hu, u', hu', r, ?_, e⟩
    have hlive : ∀ i, H.live i = true → (H.push o).live i = true := fun i hi => by
      unfold AH.live at hi ⊢
      split at hi
      · rename_i l q hl; rw [hg _ _ hl]; exact hi
      · cases hi
    have hp : ∀ p q r, ptrEq H p q = some r → ptrEq (H.push o) p q = some r := fun p q r hr => by
      unfold ptrEq at hr ⊢
      split at hr
      · exact hr
      · split at hr
        · rename_i i1 a1 i2 a2 hl
          simp only [Bool.and_eq_true] at hl
          rw [if_pos (by simp [hlive _ hl.1, hlive _ hl.2])]; exact hr
        · cases hr
      · exact hr
    unfold eqA at h ⊢
    split at h <;> first
      | exact h
      | exact hp _ _ _ h
      | (split at h
         · split at h
           · rename_i h1 h2; rw [if_pos h1, if_pos h2]; exact hp _ _ _ h
           · cases h
         · rename_i h1; rw [if_neg h1]; exact h)
  · rename_i d ok x y
    obtain ⟨u, hu, u', hu', h⟩ := h
    refine ⟨u, hu, u', hu', ?_⟩
    split at h
    · exact h
    · rename_i i s
      split at h
      · rename_i l r hl; simp only [hg _ _ hl]; exact h
      · cases h
    · cases h
theorem wantedA_congr {fr fr' : Fr} {g : Option (Nat × Bool)} (h : ∀ t want, g = some (t, want) → Fr.get fr t = Fr.get fr' t) : wantedA fr g = wantedA fr' g := by
  cases g with
  | none => rfl
  | some q => obtain ⟨t, want⟩ := q; simp only [wantedA, h t want rfl]
end Go.Proofs.YtlecbjcloleiiaaDoor.Ram

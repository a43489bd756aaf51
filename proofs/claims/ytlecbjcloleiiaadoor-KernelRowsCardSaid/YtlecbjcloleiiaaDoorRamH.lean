import Derived.Test.YtlecbjcloleiiaaDoorRamG
import Derived.Orders
/-! Regions whose order is the text's. -/
namespace Go.Proofs.YtlecbjcloleiiaaDoor.Ram
open Go Go.RowKit

def okOper (P : Program) (G : List Nat) (nt : Nat) (ops : Array Oper) (o : Oper) (ao : AOper) : Bool :=
  decide (o.dst = ao.dst) && okOp P G o.op ao.op && (match ao.dst with | some d => decide (d < nt) | none => true) &&
  (match o.guard, ao.guard with
    | none, none => true
    | some (j, want), some (t, want') => decide (want = want') && decide ((ops[j]?).bind (·.dst) = some t)
    | _, _ => false)
def okOpers (P : Program) (G : List Nat) (nt : Nat) (ops : Array Oper) : List Oper → List AOper → Bool
  | [], [] => true
  | o :: l, ao :: l' => okOper P G nt ops o ao && okOpers P G nt ops l l'
  | _, _ => false

/-- The frame's slots hold what the abstract frame has. -/
structure SR (m : LMap) (nt : Nat) (fr : Fr) (a : Act) : Prop where
  all : ∀ n v, Fr.get fr n = some v → VR m v (a.tmps.getD n undef)
  defers : a.defers = []
  size : a.tmps.size = nt

section
variable {P : Program} {G : List Nat} {m : LMap} {H : AH} {w : World} {fr : Fr} {a : Act} {nt : Nat}
theorem SR.on (h : SR m nt fr a) (l : List Nat) : FOn m fr a l := fun n _ v hv => h.all n v hv
theorem SR.mono {m' : LMap} (h : SR m nt fr a) (hs : LSub m m') : SR m' nt fr a := ⟨fun n v hv => (h.all n v hv).mono hs, h.defers, h.size⟩
theorem Fr.get_set (fr : Fr) (d : Nat) (v : AV) (n : Nat) : Fr.get (Fr.set fr d v) n = if n = d then some v else Fr.get fr n := by
  unfold Fr.set
  simp only [Fr.get]
  by_cases h : d = n
  · simp [h]
  · rw [if_neg h, if_neg (fun e => h e.symm)]
theorem Fr.get_del (fr : Fr) (d n : Nat) : Fr.get (Fr.del fr d) n = if n = d then none else Fr.get fr n := by
  unfold Fr.del
  induction fr with
  | nil => simp [Fr.get]
  | cons p fr ih =>
    obtain ⟨k, v⟩ := p
    by_cases hk : k = d
    · subst hk
      simp only [List.filter_cons, bne_self_eq_false, Bool.false_eq_true, if_false, ih, Fr.get]
      by_cases hn : n = k
      · simp [hn]
      · rw [if_neg hn, if_neg hn, if_neg (fun e => hn e.symm)]
    · have : (k != d) = true := by simpa using hk
      simp only [List.filter_cons, this, if_true, Fr.get, ih]
      by_cases hn : n = d
      · subst hn; rw [if_neg hk, if_pos rfl]; simp
      · rw [if_neg hn]; simp [hn]
theorem Fr.get_keep (fr : Fr) (l : List Nat) (n : Nat) : Fr.get (Fr.keep fr l) n = if n ∈ l then Fr.get fr n else none := by
  unfold Fr.keep
  induction l with
  | nil => simp [Fr.get]
  | cons k l ih =>
    simp only [List.filterMap_cons]
    cases hk : Fr.get fr k with
    | none =>
      simp only [Option.map_none, ih]
      by_cases hn : n = k
      · subst hn; simp [hk]
      · simp [hn]
    | some v =>
      simp only [Option.map_some, Fr.get, ih]
      by_cases hn : k = n
      · subst hn; simp [hk]
      · have hn' : n ≠ k := fun e => hn e.symm
        simp [hn, hn']
theorem SR.keep (h : SR m nt fr a) (l : List Nat) : SR m nt (Fr.keep fr l) a := by
  refine ⟨fun n v hv => ?_, h.defers, h.size⟩
  rw [Fr.get_keep] at hv
  split at hv
  · exact h.all n v hv
  · cases hv
theorem put_getD (a : Act) (d n : Nat) (v : Value) (hd : d < a.tmps.size) : (a.put (some d) v).tmps.getD n undef = if n = d then v else a.tmps.getD n undef := by
  simp only [Act.put, Array.getD_eq_getD_getElem?]
  by_cases h : n = d
  · subst h; simp [hd]
  · rw [Array.getElem?_setIfInBounds_ne (fun e => h e.symm), if_neg h]
theorem SR.put (h : SR m nt fr a) {d : Option Nat} (hd : (match d with | some d => decide (d < nt) | none => true) = true) {r : Option AV} {cv : Value} (hr : ∀ v, r = some v → VR m v cv) : SR m nt (putD fr d r) (a.put d cv) := by
  cases d with
  | none => exact h
  | some d =>
    simp only [decide_eq_true_eq] at hd
    have hd' : d < a.tmps.size := by rw [h.size]; exact hd
    refine ⟨fun n v hv => ?_, h.defers, by simp [Act.put, h.size]⟩
    rw [put_getD a d n cv hd']
    cases r with
    | none =>
      simp only [putD, Fr.get_del] at hv
      split at hv
      · cases hv
      · rename_i hn; rw [if_neg hn]; exact h.all n v hv
    | some u =>
      simp only [putD, Fr.get_set] at hv
      split at hv
      · rename_i hn
        rw [if_pos hn]
        exact hr v hv
      · rename_i hn; rw [if_neg hn]; exact h.all n v hv

/-- Whether an operation is wanted is told by the abstract frame. -/
theorem wanted_sound {ops : Array Oper} {o : Oper} {ao : AOper} (hok : (match o.guard, ao.guard with
    | none, none => true
    | some (j, want), some (t, want') => decide (want = want') && decide ((ops[j]?).bind (·.dst) = some t)
    | _, _ => false) = true) (hf : ∀ t want, ao.guard = some (t, want) → FOn m fr a [t]) {b : Bool} (hb : wantedA fr ao.guard = some b) : Region.wanted o (yielded ops a.tmps) = b := by
  unfold Region.wanted
  cases hg : o.guard with
  | none =>
    rw [hg] at hok
    cases hg' : ao.guard with
    | none => rw [hg'] at hb; simp [wantedA] at hb; subst hb; rfl
    | some q => rw [hg'] at hok; cases hok
  | some q =>
    obtain ⟨j, want⟩ := q
    rw [hg] at hok
    cases hg' : ao.guard with
    | none => rw [hg'] at hok; cases hok
    | some q' =>
      obtain ⟨t, want'⟩ := q'
      rw [hg'] at hok hb
      simp only [Bool.and_eq_true, decide_eq_true_eq] at hok
      obtain ⟨rfl, h1⟩ := hok
      simp only [wantedA] at hb
      split at hb
      · rename_i c hc
        obtain rfl := Option.some.inj hb
        have h2 := hf t want hg' t (by simp) _ hc
        simp only [VR] at h2
        have h3 : a.tmps[t]? = some (.bool c) := by
          rw [Array.getD_eq_getD_getElem?] at h2
          cases ht : a.tmps[t]? with
          | none => rw [ht] at h2; simp [undef] at h2
          | some v => rw [ht] at h2; simp at h2; rw [h2]
        simp only [yielded, h1, Option.bind_some, h3]
        simp
      · rename_i hc
        obtain rfl := Option.some.inj hb
        have h2 := hf t want hg' t (by simp) _ hc
        simp only [VR] at h2
        have h3 : a.tmps[t]? = some undef ∨ a.tmps[t]? = none := by
          rw [Array.getD_eq_getD_getElem?] at h2
          cases ht : a.tmps[t]? with
          | none => exact .inr rfl
          | some v => rw [ht] at h2; simp at h2; rw [h2]; exact .inl rfl
        rcases h3 with h3 | h3
        · simp only [yielded, h1, Option.bind_some, h3]; simp [undef]
        · simp only [yielded, h1, Option.bind_some, h3]; simp
      · cases hb

theorem ops_sound {E : Env} {O : Oracle} (hE : okEnv P E = true) (hO : OSound P G O) {ops : Array Oper} {Q : Exit → Act → World → Prop} : ∀ {l : List Oper} {als : List AOper} {m : LMap} {H : AH} {w : World} {fr fr' : Fr} {H' : AH} {a : Act}, okOpers P G nt ops l als = true → opsA E O als (fr, H) = some (fr', H') →
    GOk G m → SR m nt fr a → HR m H w → (∀ a' m' w', SR m' nt fr' a' → HR m' H' w' → Ext m H w m' H' w' → Q .normal a' w') → wpList P ops Q l a w
  | [], [], m, H, w, fr, fr', H', a, _, hr, _, hs, hh, hk => by
    simp only [opsA, Option.some.injEq, Prod.mk.injEq] at hr
    obtain ⟨rfl, rfl⟩ := hr
    exact hk a m w hs hh (Ext.refl _ _ _)
  | [], _ :: _, _, _, _, _, _, _, _, h, _, _, _, _, _ => by simp [okOpers] at h
  | _ :: _, [], _, _, _, _, _, _, _, h, _, _, _, _, _ => by simp [okOpers] at h
  | o :: l, ao :: als, m, H, w, fr, fr', H', a, h, hr, hG, hs, hh, hk => by
    simp only [okOpers, okOper, Bool.and_eq_true, decide_eq_true_eq] at h
    obtain ⟨⟨⟨⟨h1, h2⟩, h3⟩, h4⟩, h5⟩ := h
    simp only [opsA, Option.bind_eq_some_iff] at hr
    obtain ⟨⟨fr1, H1⟩, hst, hr⟩ := hr
    unfold stepA at hst
    have hwant := fun b hb => wanted_sound (ops := ops) (a := a) (m := m) h4 (fun t want _ => hs.on [t]) (b := b) hb
    split at hst
    · cases hst
    · rename_i hw
      simp only [Option.some.injEq, Prod.mk.injEq] at hst
      obtain ⟨rfl, rfl⟩ := hst
      unfold wpList
      rw [if_neg (by rw [hwant false hw]; simp)]
      rw [h1]
      exact ops_sound hE hO h5 hr hG (hs.put h3 (fun v e => by obtain rfl := Option.some.inj e; simp [VR])) hh hk
    · rename_i hw
      simp only [Option.map_eq_some_iff, Prod.mk.injEq] at hst
      obtain ⟨⟨r, Hr⟩, hop, rfl, rfl⟩ := hst
      unfold wpList
      rw [if_pos (hwant true hw)]
      refine .inl (op_sound hE hO hG hh h2 (hs.on _) hop fun cv m' w' hcv hh' hext => ?_)
      rw [h1]
      exact ops_sound hE hO h5 hr (hG.mono hext.sub) ((hs.mono hext.sub).put h3 hcv) hh' fun a' m'' w'' h6 h7 h8 => hk a' m'' w'' h6 h7 (hext.trans h8 fun i loc hi => (hh.dom i loc hi).1)
end
end Go.Proofs.YtlecbjcloleiiaaDoor.Ram

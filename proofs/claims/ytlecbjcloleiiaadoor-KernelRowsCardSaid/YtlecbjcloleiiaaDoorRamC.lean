import Derived.Test.YtlecbjcloleiiaaDoorRamB
/-! The operations that ask nothing of memory. -/
namespace Go.Proofs.YtlecbjcloleiiaaDoor.Ram
open Go Go.RowKit

/-- An object's content is written anew. -/
structure OnlyBlock (w w' : World) (b : Nat) : Prop where
  other : ∀ k, k ≠ b → w'.heap[k]? = w.heap[k]?
  size : w'.heap.size = w.heap.size
  os : w'.os = w.os
  tape : w'.tape = w.tape
  output : w'.output = w.output
theorem HR.upd {m : LMap} {H : AH} {w w' : World} (h : HR m H w) {i : Nat} {loc : Loc} {o : AObj} (hm : m i = some loc) (ho : H.get i = some o) (o' : AObj) (hb : OnlyBlock w w' loc.b) (hr : ObjR m w' loc o') (hro : o.ro = false) (hro' : o'.ro = false) : HR m (H.set i o') w' := by
  have htip : ∀ j, H.tip j = true → j ≠ i := fun j ht e => by
    subst e
    obtain ⟨_, _, l, hl⟩ := h.tipo _ ht
    rw [ho] at hl; obtain rfl := Option.some.inj hl; cases hro
  refine ⟨fun j hj => ?_, fun j lj hj => ?_, fun j lj oj hj hoj => ?_, fun j k lj lk oj ok hj hk hoj hok hne hsh => ?_, fun j ht => ?_, fun j lj l ht hj hl => ?_⟩
  rotate_left 4
  · obtain ⟨h1, h2, l, h3⟩ := h.tipo j ht
    exact ⟨h1, h2, l, by rw [AH.get_set, if_neg (htip j ht)]; exact h3⟩
  · have hji := htip j ht
    rw [AH.get_set, if_neg hji] at hl
    obtain ⟨⟨c, e, hc⟩, h2⟩ := h.tip j lj l ht hj hl
    have hbne : lj.b ≠ loc.b := h.sep j i lj loc _ o hj hm hl ho hji (by simp [shar, hro])
    refine ⟨⟨c, e, (hb.other _ hbne).trans hc⟩, fun q lq oq hq hoq hqb hne => ?_⟩
    by_cases hqi : q = i
    · subst hqi; rw [hm] at hq; obtain rfl := Option.some.inj hq; exact absurd hqb.symm hbne
    · rw [AH.get_set, if_neg hqi] at hoq
      exact h2 q lq oq hq hoq hqb hne
  · rw [AH.get_set, if_neg (by intro e; subst e; have := (h.dom _ _ hm).1; simp only [AH.set] at hj; omega)]
    exact h.wf j hj
  · have := h.dom j lj hj; exact ⟨this.1, by rw [hb.size]; exact this.2⟩
  · rw [AH.get_set] at hoj
    split at hoj
    · rename_i e; subst e
      rw [hm] at hj
      obtain rfl := Option.some.inj hj
      obtain rfl := Option.some.inj hoj
      exact hr
    · rename_i e
      exact (h.ok j lj oj hj hoj).mono (fun _ _ h => h) (hb.other _ (h.sep j i lj loc oj o hj hm hoj ho e (by simp [shar, hro])))
  · rw [AH.get_set] at hoj hok
    have key : ∀ q oq, (if q = i then some o' else H.get q) = some oq → ∃ oq', H.get q = some oq' ∧ oq'.ro = oq.ro := fun q oq hq => by
      split at hq
      · rename_i e; subst e; exact ⟨o, ho, by obtain rfl := Option.some.inj hq; rw [hro, hro']⟩
      · exact ⟨oq, hq, rfl⟩
    obtain ⟨oj', hoj', e1⟩ := key j oj hoj
    obtain ⟨ok', hok', e2⟩ := key k ok hok
    exact h.sep j k lj lk oj' ok' hj hk hoj' hok' hne (by rw [e1, e2]; exact hsh)
theorem Ext.upd {m : LMap} {H : AH} {w w' : World} {i : Nat} {loc : Loc} {o o' : AObj} (hm : m i = some loc) (ho : H.get i = some o) (hro : o.ro = false) (hro' : o'.ro = false) (hb : OnlyBlock w w' loc.b) : Ext m H w m (H.set i o') w' where
  next := Nat.le_refl _
  sub := fun _ _ h => h
  new := fun j lj h1 h2 => by rw [h2] at h1; cases h1
  unm := fun j _ hn => by rw [AH.get_set, if_neg (by intro e; subst e; rw [hn] at hm; cases hm)]
  ro := fun j _ oj hj => by
    rw [AH.get_set] at hj
    split at hj
    · rename_i e; subst e; obtain rfl := Option.some.inj hj; exact ⟨o, ho, hro.trans hro'.symm⟩
    · exact ⟨oj, hj, rfl⟩
  rok := fun j oj hj hr => by
    rw [AH.get_set, if_neg (by intro e; subst e; rw [ho] at hj; obtain rfl := Option.some.inj hj; rw [hro] at hr; cases hr)]
    exact hj
  tip := fun _ _ h => h
  frame := fun b _ hm' => hb.other b (fun e => hm' ⟨i, loc, o, hm, ho, .inl hro, e.symm⟩)
  size := Nat.le_of_eq hb.size.symm
  os := hb.os
  tape := hb.tape
  output := hb.output

/-! ### operands -/
mutual
def okVal : Value → AV → Bool
  | .int k n, .int k' n' => decide (k = k') && decide (n = n')
  | .bool b, .bool b' => b == b'
  | .string z, .str s => decide (z.data.toList = s)
  | .pointer none, .ptr none => true
  | .slice none 0 0, .sl none _ 0 (some 0) => true
  | .map none, .map none => true
  | .nilFunc, .nilFn => true
  | .nilIface, .nilI => true
  | .iface t v, .ifc t' x => decide (t = t') && okVal v x
  | .agg cs, .agg l => okVals cs.toList l && l.all oneCell
  | _, _ => false
def okVals : List Value → List AV → Bool
  | [], [] => true
  | v :: r, x :: l => okVal v x && okVals r l
  | _, _ => false
end
mutual
theorem okVal_sound {m : LMap} : ∀ {v : Value} {x : AV}, okVal v x = true → VR m x v := by
  intro v x h
  cases x with
  | int k n => cases v <;> simp [okVal] at h; obtain ⟨rfl, rfl⟩ := h; simp [VR]
  | bool b => cases v <;> simp [okVal] at h; subst h; simp [VR]
  | str s =>
    cases v <;> simp [okVal] at h
    subst h; simp [VR]
  | ptr a => cases a <;> rcases v with _ | _ | _ | _ | _ | (_ | _) | _ | _ | _ | _ | _ | _ | _ | _ | _ <;> simp [okVal] at h; simp [VR]
  | sl a sz len cap =>
    cases a with
    | some p => cases v <;> simp [okVal] at h
    | none =>
      unfold okVal at h
      split at h <;> first | (rename_i e; cases e; done) | skip
      all_goals first | (rename_i e _; cases e; done) | (rename_i e; cases e; simp [VR]; done) | (cases h; done) | (simp_all [VR]; done)
  | map a => cases a <;> rcases v with _ | _ | _ | _ | _ | _ | _ | (_ | _) | _ | _ | _ | _ | _ | _ | _ <;> simp [okVal] at h; simp [VR]
  | fn f caps => cases v <;> simp [okVal] at h
  | nilFn => cases v <;> simp [okVal] at h; simp [VR]
  | nilI => cases v <;> simp [okVal] at h; simp [VR]
  | und => cases v <;> simp [okVal] at h
  | ifc t y => cases v <;> simp [okVal] at h; obtain ⟨rfl, h⟩ := h; simp only [VR]; exact ⟨_, rfl, okVal_sound h⟩
  | agg l => cases v <;> simp [okVal] at h; simp only [VR]; exact ⟨_, rfl, okVals_sound h.1, by simpa using h.2⟩
  | tup l => cases v <;> simp [okVal] at h
theorem okVals_sound {m : LMap} : ∀ {vs : List Value} {l : List AV}, okVals vs l = true → VRs m l vs := by
  intro vs l h
  cases l with
  | nil => cases vs <;> simp [okVals] at h; simp [VRs]
  | cons x l =>
    cases vs <;> simp [okVals] at h
    simp only [VRs]
    exact ⟨_, _, rfl, okVal_sound h.1, okVals_sound h.2⟩
end

def okOpd (G : List Nat) : Operand → Opd → Bool
  | .tmp n, .t n' => decide (n = n')
  | .const v, .c x => okVal v x
  | .global g, .g g' => decide (g = g') && G.contains g
  | .func f, .f f' => decide (f = f')
  | _, _ => false
def okOpds (G : List Nat) : List Operand → List Opd → Bool
  | [], [] => true
  | x :: l, y :: l' => okOpd G x y && okOpds G l l'
  | _, _ => false
def Opd.tmps : Opd → List Nat
  | .t n => [n]
  | _ => []
def optT : Option Opd → List Nat
  | none => []
  | some x => x.tmps
def opdsT (l : List Opd) : List Nat := l.flatMap Opd.tmps
def partsT (l : List (Nat × Nat × Opd)) : List Nat := l.flatMap fun p => p.2.2.tmps
def AOp.tmps : AOp → List Nat
  | .mov x | .box x | .nilchk x | .not x | .neg x | .conv _ x | .convS x | .mkIfc _ x | .fieldA _ x | .field _ _ _ x | .extract x _ | .len _ x | .load _ _ x | .clear _ _ x => x.tmps
  | .pick c a b => c.tmps ++ a.tmps ++ b.tmps
  | .alloc _ | .mkMap => []
  | .build _ ps | .bslice _ _ _ ps => partsT ps
  | .store _ a v | .bin _ a v | .eq _ _ a v | .indexA _ a v | .index a v | .lookup _ _ a v | .mdel a v | .append _ _ _ a v | .copy _ a v | .minmax _ a v => a.tmps ++ v.tmps
  | .mkFn _ l => opdsT l
  | .mkSlice _ _ _ a b => a.tmps ++ b.tmps
  | .slc _ x lo hi => x.tmps ++ optT lo ++ optT hi
  | .slc3 _ x a b => x.tmps ++ a.tmps ++ b.tmps
  | .mset a b c => a.tmps ++ b.tmps ++ c.tmps
  | .callF _ l => opdsT l
  | .callV x l => x.tmps ++ opdsT l

/-- The globals that the text names have their blocks. -/
def GOk (G : List Nat) (m : LMap) : Prop := ∀ g, g ∈ G → ∃ n, m g = some ⟨g, 0, n⟩
theorem GOk.mono {G : List Nat} {m m' : LMap} (h : GOk G m) (hs : LSub m m') : GOk G m' := fun g hg => by
  obtain ⟨n, hn⟩ := h g hg
  exact ⟨n, hs _ _ hn⟩
/-- The slots of some temporaries hold what the abstract frame has. -/
def FOn (m : LMap) (fr : Fr) (a : Act) (l : List Nat) : Prop := ∀ n ∈ l, ∀ v, Fr.get fr n = some v → VR m v (a.tmps.getD n undef)

theorem ev_sound {G : List Nat} {m : LMap} (hG : GOk G m) {fr : Fr} {a : Act} {x : Operand} {y : Opd} (hok : okOpd G x y = true) (hf : FOn m fr a y.tmps) {v : AV} (hv : y.ev fr = some v) : VR m v (a.eval x) := by
  cases x <;> cases y <;> simp [okOpd] at hok
  · subst hok
    exact hf _ (by simp [Opd.tmps]) v hv
  · simp only [Opd.ev, Option.some.injEq] at hv; subst hv
    exact okVal_sound hok
  · obtain ⟨rfl, hg⟩ := hok
    obtain ⟨n, hn⟩ := hG _ hg
    simp only [Opd.ev, Option.some.injEq] at hv; subst hv
    simp only [VR, Act.eval]
    exact ⟨_, hn, by simp⟩
  · subst hok
    simp only [Opd.ev, Option.some.injEq] at hv; subst hv
    simp only [VR, Act.eval]
    exact ⟨#[], rfl, by simp [VRs]⟩
theorem FOn.sub {m : LMap} {fr : Fr} {a : Act} {l l' : List Nat} (h : FOn m fr a l) (hs : ∀ n ∈ l', n ∈ l) : FOn m fr a l' := fun n hn v hv => h n (hs n hn) v hv
theorem evs_sound {G : List Nat} {m : LMap} (hG : GOk G m) {fr : Fr} {a : Act} : ∀ {xs : List Operand} {ys : List Opd} {vs : List AV}, okOpds G xs ys = true → FOn m fr a (opdsT ys) → evs fr ys = some vs → VRs m vs (xs.map a.eval)
  | [], [], vs, _, _, hv => by simp only [evs, Option.some.injEq] at hv; subst hv; simp [VRs]
  | [], _ :: _, _, h, _, _ => by simp [okOpds] at h
  | _ :: _, [], _, h, _, _ => by simp [okOpds] at h
  | x :: xs, y :: ys, vs, h, hf, hv => by
    simp only [okOpds, Bool.and_eq_true] at h
    simp only [evs, Option.bind_eq_some_iff, Option.map_eq_some_iff] at hv
    obtain ⟨v, h1, r, h2, rfl⟩ := hv
    simp only [List.map_cons, VRs]
    exact ⟨_, _, rfl, ev_sound hG h.1 (hf.sub fun n hn => by simp [opdsT, hn]) h1, evs_sound hG h.2 (hf.sub fun n hn => by simp only [opdsT, List.flatMap_cons, List.mem_append]; exact .inr hn) h2⟩

/-! ### parts put into cells -/
theorem foldl_splice (vs : List Value) : ∀ (off k : Nat) (cs : Array Value), off + k + vs.length ≤ cs.size →
    ((vs.zipIdx k).foldl (fun cs (p : Value × Nat) => cs.setIfInBounds (off + p.2) p.1) cs).toList = cs.toList.take (off + k) ++ vs ++ cs.toList.drop (off + k + vs.length) := by
  induction vs with
  | nil => intro off k cs _; simp
  | cons v r ih =>
    intro off k cs h
    simp only [List.length_cons] at h
    rw [List.zipIdx_cons, List.foldl_cons, ih off (k + 1) _ (by simp; omega)]
    simp only [Array.toList_setIfInBounds]
    apply List.ext_getElem?
    intro j
    have hlen : cs.toList.length = cs.size := by simp
    simp only [List.getElem?_append, List.length_take, List.length_set, hlen, List.getElem?_take, List.getElem?_drop, List.length_append, List.length_cons, List.getElem?_set]
    by_cases h1 : j < off + k
    · rw [if_pos (by omega), if_pos (by omega), if_pos (by omega), if_neg (by omega), if_pos (by omega), if_pos (by omega), if_pos (by omega)]
    · by_cases h2 : j = off + k
      · subst h2
        rw [if_pos (by omega), if_pos (by omega), if_pos (by omega), if_pos rfl, if_pos (by omega), if_pos (by omega), if_neg (by omega)]
        rw [show off + k - min (off + k) cs.size = 0 by omega]
        rfl
      · by_cases h3 : j < off + k + 1 + r.length
        · rw [if_pos (by omega), if_neg (by omega), if_pos (by omega), if_neg (by omega)]
          rw [show j - min (off + k) cs.size = (j - min (off + (k + 1)) cs.size) + 1 by omega, List.getElem?_cons_succ]
        · rw [if_neg (by omega), if_neg (by omega)]
          rw [if_neg (by omega)]
          congr 1
          omega
theorem splice_VRs {m : LMap} {l : List AV} {cs : List Value} {news : List AV} {vs : List Value} (h : VRs m l cs) (hn : VRs m news vs) (off : Nat) : VRs m (l.take off ++ news ++ l.drop (off + news.length)) (cs.take off ++ vs ++ cs.drop (off + vs.length)) := by
  rw [hn.length]
  exact ((h.take off).append hn).append (h.drop _)
theorem fill_sound {m : LMap} (place : Nat → Option (Nat × Nat)) : ∀ (ps : List (Nat × Value)) (qs : List (Nat × Nat × AV)) (l r : List AV) (cs : Array Value), ps.length = qs.length →
    (∀ (j : Nat) (p : Nat × Value) (q : Nat × Nat × AV), ps[j]? = some p → qs[j]? = some q → place p.1 = some (q.1, q.2.1) ∧ VR m q.2.2 p.2) → VRs m l cs.toList → l.all oneCell = true → fillA l qs = some r →
    ∃ cs', Instr.fill place cs ps = some cs' ∧ VRs m r cs'.toList ∧ r.all oneCell = true
  | [], [], l, r, cs, _, _, hl, h1, hr => by simp only [fillA, Option.some.injEq] at hr; subst hr; exact ⟨cs, rfl, hl, h1⟩
  | [], _ :: _, _, _, _, h, _, _, _, _ => by simp at h
  | _ :: _, [], _, _, _, h, _, _, _, _ => by simp at h
  | (i, v) :: ps, (off, n, x) :: qs, l, r, cs, hlen, hp, hl, h1, hr => by
    obtain ⟨h2, h3⟩ := hp 0 _ _ rfl rfl
    simp only at h2 h3
    simp only [fillA] at hr
    split at hr
    · rename_i hc
      obtain ⟨hc1, hc2, hc3⟩ := hc
      obtain ⟨h4, h5⟩ := h3.cells hc3
      have h6 := h4.length
      have h7 := hl.length
      have hvs : v.cells.size = n := by rw [← hc1, ← h6]; simp
      have hsz : cs.size = l.length := by rw [← h7]; simp
      have hsp := foldl_splice v.cells.toList off 0 cs (by simp; omega)
      have hfold : v.cells.zipIdx.foldl (fun cs (c, j) => cs.setIfInBounds (off + j) c) cs = (v.cells.toList.zipIdx 0).foldl (fun cs (p : Value × Nat) => cs.setIfInBounds (off + p.2) p.1) cs := by
        rw [← Array.foldl_toList, Array.toList_zipIdx]
      have hnew : VRs m (l.take off ++ cellsOf x ++ l.drop (off + n)) (v.cells.zipIdx.foldl (fun cs (c, j) => cs.setIfInBounds (off + j) c) cs).toList := by
        rw [hfold, hsp]
        have := splice_VRs hl h4 off
        rw [hc1] at this
        simpa using this
      have hall : (l.take off ++ cellsOf x ++ l.drop (off + n)).all oneCell = true := by
        simp only [List.all_append, Bool.and_eq_true]
        refine ⟨⟨?_, hc3⟩, ?_⟩
        · rw [List.all_eq_true] at h1 ⊢; exact fun y hy => h1 y (List.mem_of_mem_take hy)
        · rw [List.all_eq_true] at h1 ⊢; exact fun y hy => h1 y (List.mem_of_mem_drop hy)
      obtain ⟨cs', h8, h9⟩ := fill_sound place ps qs _ r _ (by simpa using hlen) (fun j p q hj hq => hp (j + 1) p q (by simpa using hj) (by simpa using hq)) hnew hall hr
      refine ⟨cs', ?_, h9⟩
      unfold Instr.fill
      rw [h2]
      simp only []
      rw [if_neg (by simp [hvs]; omega)]
      exact h8
    · cases hr
end Go.Proofs.YtlecbjcloleiiaaDoor.Ram

import Derived.Test.YtlecbjcloleiiaaDoorRamA
/-! How the abstract machine's values and heap stand to the model's: 'VR', 'HR', and what a step keeps: 'Ext'. -/
namespace Go.Proofs.YtlecbjcloleiiaaDoor.Ram
open Go Go.RowKit

structure Loc where
  b : Nat
  o : Nat
  n : Nat

abbrev LMap := Nat → Option Loc

mutual
def VR (m : LMap) : AV → Value → Prop
  | .int k n, v => v = .int k n
  | .bool b, v => v = .bool b
  | .str s, v => v = .string ⟨⟨s⟩⟩
  | .ptr none, v => v = .pointer none
  | .ptr (some (i, off)), v => ∃ loc, m i = some loc ∧ v = .pointer (some ⟨loc.b, loc.o + off, none⟩)
  | .sl none _ len _, v => v = .slice none 0 0 ∧ len = 0
  | .sl (some (i, off)) sz len cap, v => ∃ loc c ad, m i = some loc ∧ v = .slice (some ad) len c ∧ (0 < c → ad = ⟨loc.b, loc.o + off, none⟩) ∧ len ≤ c ∧ off + c * sz ≤ loc.n ∧ c ≤ maxLen ∧ ∀ d, cap = some d → c = d
  | .map none, v => v = .map none
  | .map (some i), v => ∃ loc, m i = some loc ∧ v = .map (some loc.b)
  | .fn f caps, v => ∃ cs : Array Value, v = .func (.func f) #[] cs ∧ VRs m caps cs.toList
  | .nilFn, v => v = .nilFunc
  | .nilI, v => v = .nilIface
  | .und, v => v = undef
  | .ifc t x, v => ∃ y, v = .iface t y ∧ VR m x y
  | .agg l, v => ∃ cs : Array Value, v = .agg cs ∧ VRs m l cs.toList ∧ l.all oneCell = true
  | .tup l, v => ∃ cs : Array Value, v = .tuple cs ∧ VRs m l cs.toList
def VRs (m : LMap) : List AV → List Value → Prop
  | [], vs => vs = []
  | x :: l, vs => ∃ v r, vs = v :: r ∧ VR m x v ∧ VRs m l r
end

def LSub (m m' : LMap) : Prop := ∀ i loc, m i = some loc → m' i = some loc

mutual
theorem VR.mono {m m' : LMap} (h : LSub m m') : ∀ {x : AV} {v : Value}, VR m x v → VR m' x v
  | .int _ _, _, hv => hv
  | .bool _, _, hv => hv
  | .str _, _, hv => hv
  | .ptr none, _, hv => hv
  | .ptr (some (_, _)), _, hv => by
    obtain ⟨loc, h1, h2⟩ := (by simpa only [VR] using hv)
    simp only [VR]; exact ⟨loc, h _ _ h1, h2⟩
  | .sl none _ _ _, _, hv => hv
  | .sl (some (_, _)) _ _ _, _, hv => by
    obtain ⟨loc, c, ad, h1, h2⟩ := (by simpa only [VR] using hv)
    simp only [VR]; exact ⟨loc, c, ad, h _ _ h1, h2⟩
  | .map none, _, hv => hv
  | .map (some _), _, hv => by
    obtain ⟨loc, h1, h2⟩ := (by simpa only [VR] using hv)
    simp only [VR]; exact ⟨loc, h _ _ h1, h2⟩
  | .fn _ _, _, hv => by
    obtain ⟨cs, h1, h2⟩ := (by simpa only [VR] using hv)
    simp only [VR]; exact ⟨cs, h1, VRs.mono h h2⟩
  | .nilFn, _, hv => hv
  | .nilI, _, hv => hv
  | .und, _, hv => hv
  | .ifc _ _, _, hv => by
    obtain ⟨y, h1, h2⟩ := (by simpa only [VR] using hv)
    simp only [VR]; exact ⟨y, h1, VR.mono h h2⟩
  | .agg _, _, hv => by
    obtain ⟨cs, h1, h2, h3⟩ := (by simpa only [VR] using hv)
    simp only [VR]; exact ⟨cs, h1, VRs.mono h h2, h3⟩
  | .tup _, _, hv => by
    obtain ⟨cs, h1, h2⟩ := (by simpa only [VR] using hv)
    simp only [VR]; exact ⟨cs, h1, VRs.mono h h2⟩
theorem VRs.mono {m m' : LMap} (h : LSub m m') : ∀ {l : List AV} {vs : List Value}, VRs m l vs → VRs m' l vs
  | [], _, hv => hv
  | _ :: _, _, hv => by
    obtain ⟨v, r, h1, h2, h3⟩ := (by simpa only [VRs] using hv)
    simp only [VRs]; exact ⟨v, r, h1, VR.mono h h2, VRs.mono h h3⟩
end

theorem VRs.length {m : LMap} : ∀ {l : List AV} {vs : List Value}, VRs m l vs → vs.length = l.length
  | [], _, h => by simp only [VRs] at h; subst h; rfl
  | _ :: l, _, h => by
    simp only [VRs] at h
    obtain ⟨v, r, rfl, _, h3⟩ := h
    simp [VRs.length h3]
theorem VRs.get {m : LMap} : ∀ {l : List AV} {vs : List Value} {j : Nat} {x : AV}, VRs m l vs → l[j]? = some x → ∃ v, vs[j]? = some v ∧ VR m x v
  | [], _, _, _, _, hx => by simp at hx
  | y :: l, _, 0, x, h, hx => by
    simp only [VRs] at h
    obtain ⟨v, r, rfl, h2, h3⟩ := h
    simp at hx; subst hx
    exact ⟨v, rfl, h2⟩
  | y :: l, _, j + 1, x, h, hx => by
    simp only [VRs] at h
    obtain ⟨v, r, rfl, h2, h3⟩ := h
    simp at hx
    obtain ⟨v', hv, hr⟩ := VRs.get h3 hx
    exact ⟨v', by simpa using hv, hr⟩
theorem VRs.of_get {m : LMap} : ∀ {l : List AV} {vs : List Value}, vs.length = l.length → (∀ (j : Nat) (x : AV), l[j]? = some x → ∃ v, vs[j]? = some v ∧ VR m x v) → VRs m l vs
  | [], vs, hl, _ => by simp only [VRs]; simpa using hl
  | x :: l, vs, hl, h => by
    cases vs with
    | nil => simp at hl
    | cons v r =>
      simp only [VRs]
      obtain ⟨v', hv', hr⟩ := h 0 x rfl
      simp at hv'; subst hv'
      exact ⟨v, r, rfl, hr, VRs.of_get (by simpa using hl) fun j y hy => by
        obtain ⟨u, hu, hur⟩ := h (j + 1) y (by simpa using hy)
        exact ⟨u, by simpa using hu, hur⟩⟩
theorem VRs.append {m : LMap} {l l' : List AV} {vs vs' : List Value} (h : VRs m l vs) (h' : VRs m l' vs') : VRs m (l ++ l') (vs ++ vs') := by
  have e := h.length
  refine VRs.of_get (by simp [h.length, h'.length]) fun j x hx => ?_
  by_cases hj : j < l.length
  · rw [List.getElem?_append_left hj] at hx
    obtain ⟨v, hv, hr⟩ := h.get hx
    exact ⟨v, by rw [List.getElem?_append_left (by omega)]; exact hv, hr⟩
  · rw [List.getElem?_append_right (by omega)] at hx
    obtain ⟨v, hv, hr⟩ := h'.get hx
    exact ⟨v, by rw [List.getElem?_append_right (by omega), e]; exact hv, hr⟩
theorem VRs.drop {m : LMap} {l : List AV} {vs : List Value} (h : VRs m l vs) (k : Nat) : VRs m (l.drop k) (vs.drop k) := by
  refine VRs.of_get (by simp [h.length]) fun j x hx => ?_
  rw [List.getElem?_drop] at hx
  obtain ⟨v, hv, hr⟩ := h.get hx
  exact ⟨v, by rw [List.getElem?_drop]; exact hv, hr⟩
theorem VRs.take {m : LMap} {l : List AV} {vs : List Value} (h : VRs m l vs) (k : Nat) : VRs m (l.take k) (vs.take k) := by
  refine VRs.of_get (by simp [h.length]) fun j x hx => ?_
  rw [List.getElem?_take] at hx ⊢
  split at hx
  · rename_i hj; rw [if_pos hj]; exact h.get hx
  · cases hx

/-- A value of one cell. -/
theorem VR.one {m : LMap} {x : AV} {v : Value} (h : VR m x v) (hx : oneCell x = true) : v.oneCell' = true := by
  cases x with
  | agg l => cases hx
  | tup l => cases hx
  | und => cases hx
  | ptr a => cases a with | none => simp only [VR] at h; subst h; rfl | some p => obtain ⟨i, off⟩ := p; simp only [VR] at h; obtain ⟨_, _, rfl⟩ := h; rfl
  | sl a sz len cap => cases a with | none => simp only [VR] at h; obtain ⟨rfl, _⟩ := h; rfl | some p => obtain ⟨i, off⟩ := p; simp only [VR] at h; obtain ⟨_, _, _, _, rfl, _⟩ := h; rfl
  | map a => cases a with | none => simp only [VR] at h; subst h; rfl | some p => simp only [VR] at h; obtain ⟨_, _, rfl⟩ := h; rfl
  | fn f caps => simp only [VR] at h; obtain ⟨_, rfl, _⟩ := h; rfl
  | ifc t y => simp only [VR] at h; obtain ⟨_, rfl, _⟩ := h; rfl
  | int k n => simp only [VR] at h; subst h; rfl
  | bool b => simp only [VR] at h; subst h; rfl
  | str s => simp only [VR] at h; subst h; rfl
  | nilFn => simp only [VR] at h; subst h; rfl
  | nilI => simp only [VR] at h; subst h; rfl
theorem cells_one {v : Value} (h : v.oneCell' = true) : v.cells = #[v] := by
  cases v <;> first | rfl | (simp [Value.oneCell'] at h)
/-- The cells of a value. -/
theorem VR.cells {m : LMap} {x : AV} {v : Value} (h : VR m x v) (hx : (cellsOf x).all oneCell = true) : VRs m (cellsOf x) v.cells.toList ∧ ∀ u ∈ v.cells.toList, u.oneCell' = true := by
  by_cases ha : ∃ l, x = .agg l
  · obtain ⟨l, rfl⟩ := ha
    simp only [VR] at h
    obtain ⟨cs, rfl, h2, h3⟩ := h
    refine ⟨h2, fun u hu => ?_⟩
    obtain ⟨j, hj⟩ := List.mem_iff_getElem?.1 hu
    have hjl : j < l.length := by have := (List.getElem?_eq_some_iff.1 hj).1; rw [← h2.length]; exact this
    obtain ⟨v, hv, hr⟩ := h2.get (List.getElem?_eq_getElem hjl)
    have : v = u := by have e := hv.symm.trans hj; exact Option.some.inj e
    subst this
    exact hr.one (List.all_eq_true.1 h3 _ (List.getElem_mem hjl))
  · have hc : cellsOf x = [x] := by cases x <;> first | rfl | exact absurd ⟨_, rfl⟩ ha
    rw [hc] at hx ⊢
    have hx1 : oneCell x = true := by simpa using hx
    have h1 := h.one hx1
    rw [cells_one h1]
    refine ⟨by simp only [VRs]; exact ⟨v, [], rfl, h, rfl⟩, fun u hu => ?_⟩
    simp at hu; subst hu; exact h1

/-! ### objects, heaps -/
inductive MapR (m : LMap) : List (List UInt8 × AV) → List MapEntry → Prop where
  | nil : MapR m [] []
  | cons {s : List UInt8} {x : AV} {e : MapEntry} {l : List (List UInt8 × AV)} {es : List MapEntry} (hk : e.key = .string ⟨⟨s⟩⟩) (hv : VR m x e.val) (h : MapR m l es) : MapR m ((s, x) :: l) (e :: es)
theorem MapR.mono {m m' : LMap} (h : LSub m m') {l : List (List UInt8 × AV)} {es : List MapEntry} (hr : MapR m l es) : MapR m' l es := by
  induction hr with
  | nil => exact .nil
  | cons hk hv _ ih => exact .cons hk (hv.mono h) ih

def CellsR (m : LMap) (l : List AV) (c : Array Value) (o : Nat) : Prop := ∀ j x, l[j]? = some x → ∃ v, c[o + j]? = some v ∧ VR m x v ∧ oneCell x = true
def ObjR (m : LMap) (w : World) (loc : Loc) : AObj → Prop
  | .cells l ro => ∃ c e f, w.heap[loc.b]? = some (.cells c e f) ∧ (ro = false → f = (0, 0)) ∧ loc.o + loc.n = c.size ∧ l.length ≤ loc.n ∧ CellsR m l c loc.o
  | .map l _ => ∃ es ck, w.heap[loc.b]? = some (.map es ck) ∧ MapR m l es.toList
def AObj.ro : AObj → Bool
  | .cells _ r => r
  | .map _ r => r

theorem CellsR.mono {m m' : LMap} (h : LSub m m') {l : List AV} {c : Array Value} {o : Nat} (hr : CellsR m l c o) : CellsR m' l c o := fun j x hx => by
  obtain ⟨v, hv, hvr, h1⟩ := hr j x hx
  exact ⟨v, hv, hvr.mono h, h1⟩
theorem ObjR.mono {m m' : LMap} (h : LSub m m') {w w' : World} {loc : Loc} (hb : w'.heap[loc.b]? = w.heap[loc.b]?) {o : AObj} (hr : ObjR m w loc o) : ObjR m' w' loc o := by
  cases o with
  | cells l r => obtain ⟨c, e, f, h1, h2, h3, h4, h5⟩ := hr; exact ⟨c, e, f, hb.trans h1, h2, h3, h4, h5.mono h⟩
  | map l r => obtain ⟨es, ck, h1, h2⟩ := hr; exact ⟨es, ck, hb.trans h1, h2.mono h⟩

structure HR (m : LMap) (H : AH) (w : World) : Prop where
  wf : ∀ i, H.next ≤ i → H.get i = none
  dom : ∀ i loc, m i = some loc → i < H.next ∧ loc.b < w.heap.size
  ok : ∀ i loc o, m i = some loc → H.get i = some o → ObjR m w loc o
  sep : ∀ i j li lj oi oj, m i = some li → m j = some lj → H.get i = some oi → H.get j = some oj → i ≠ j → (shar i oi.ro && shar j oj.ro) = false → li.b ≠ lj.b
  tipo : ∀ j, H.tip j = true → j < H.next ∧ 100 ≤ j ∧ ∃ l, H.get j = some (.cells l true)
  tip : ∀ j lj l, H.tip j = true → m j = some lj → H.get j = some (.cells l true) → (∃ c e, w.heap[lj.b]? = some (.cells c e (0, 0))) ∧
    ∀ i li oi, m i = some li → H.get i = some oi → li.b = lj.b → i ≠ j → H.tip i = false ∧ ∀ l' r, oi = .cells l' r → li.o + l'.length ≤ lj.o + l.length

/-- Is block b one that the run may write? -/
def Mine (m : LMap) (H : AH) (b : Nat) : Prop := ∃ i loc o, m i = some loc ∧ H.get i = some o ∧ (o.ro = false ∨ H.tip i = true) ∧ loc.b = b

structure Ext (m : LMap) (H : AH) (w : World) (m' : LMap) (H' : AH) (w' : World) : Prop where
  next : H.next ≤ H'.next
  sub : LSub m m'
  new : ∀ i loc, m' i = some loc → m i = none → H.next ≤ i ∧ (w.heap.size ≤ loc.b ∨ Mine m H loc.b)
  unm : ∀ i, i < H.next → m i = none → H'.get i = H.get i
  ro : ∀ i, i < H.next → ∀ o', H'.get i = some o' → ∃ o, H.get i = some o ∧ o.ro = o'.ro
  rok : ∀ i o, H.get i = some o → o.ro = true → H'.get i = some o
  tip : ∀ i, i < H.next → H'.tip i = true → H.tip i = true
  frame : ∀ b, b < w.heap.size → ¬ Mine m H b → w'.heap[b]? = w.heap[b]?
  size : w.heap.size ≤ w'.heap.size
  os : w'.os = w.os
  tape : w'.tape = w.tape
  output : w'.output = w.output

theorem Ext.refl (m : LMap) (H : AH) (w : World) : Ext m H w m H w where
  next := Nat.le_refl _
  sub := fun _ _ h => h
  new := fun i loc h h' => by rw [h'] at h; cases h
  unm := fun _ _ _ => rfl
  ro := fun i _ o' h => ⟨o', h, rfl⟩
  rok := fun _ _ h _ => h
  tip := fun _ _ h => h
  frame := fun _ _ _ => rfl
  size := Nat.le_refl _
  os := rfl
  tape := rfl
  output := rfl
/-- What is the run's own later was its own ahead, or is new. -/
theorem Ext.mine {m m' : LMap} {H H' : AH} {w w' : World} (h : Ext m H w m' H' w') {b : Nat} (hb : b < w.heap.size) (hm : Mine m' H' b) (hd : ∀ i loc, m i = some loc → i < H.next) : Mine m H b := by
  obtain ⟨i, loc, o, h1, h2, h3, h4⟩ := hm
  cases hi : m i with
  | none =>
    obtain ⟨_, h5 | h5⟩ := h.new i loc h1 hi
    · omega
    · rw [h4] at h5; exact h5
  | some loc0 =>
    have := h.sub i loc0 hi
    rw [this] at h1
    obtain rfl := Option.some.inj h1
    obtain ⟨o0, h5, h6⟩ := h.ro i (hd i _ hi) o h2
    exact ⟨i, loc0, o0, hi, h5, h3.imp (fun h3 => h6.trans h3) (fun h3 => h.tip i (hd i _ hi) h3), h4⟩
theorem Ext.trans {m m1 m2 : LMap} {H H1 H2 : AH} {w w1 w2 : World} (h : Ext m H w m1 H1 w1) (k : Ext m1 H1 w1 m2 H2 w2) (hd : ∀ i loc, m i = some loc → i < H.next) : Ext m H w m2 H2 w2 where
  next := Nat.le_trans h.next k.next
  sub := fun i loc hi => k.sub i loc (h.sub i loc hi)
  new := fun i loc hi hn => by
    cases h1 : m1 i with
    | none =>
      obtain ⟨ha, hb⟩ := k.new i loc hi h1
      refine ⟨Nat.le_trans h.next ha, ?_⟩
      rcases hb with hb | hb
      · exact .inl (Nat.le_trans h.size hb)
      · by_cases hlt : loc.b < w.heap.size
        · exact .inr (h.mine hlt hb hd)
        · exact .inl (by omega)
    | some loc1 =>
      have := k.sub i loc1 h1
      rw [this] at hi
      obtain rfl := Option.some.inj hi
      exact h.new i loc1 h1 hn
  unm := fun i hi hn => by
    have h1 : m1 i = none := by
      cases h1 : m1 i with
      | none => rfl
      | some loc => have := (h.new i loc h1 hn).1; omega
    rw [k.unm i (Nat.lt_of_lt_of_le hi h.next) h1, h.unm i hi hn]
  ro := fun i hi o2 h2 => by
    obtain ⟨o1, h1, e1⟩ := k.ro i (Nat.lt_of_lt_of_le hi h.next) o2 h2
    obtain ⟨o0, h0, e0⟩ := h.ro i hi o1 h1
    exact ⟨o0, h0, e0.trans e1⟩
  rok := fun i o ho hr => k.rok i o (h.rok i o ho hr) hr
  tip := fun i hi ht => h.tip i hi (k.tip i (Nat.lt_of_lt_of_le hi h.next) ht)
  frame := fun b hb hm => by
    rw [k.frame b (Nat.lt_of_lt_of_le hb h.size) (fun hm1 => hm (h.mine hb hm1 hd)), h.frame b hb hm]
  size := Nat.le_trans h.size k.size
  os := k.os.trans h.os
  tape := k.tape.trans h.tape
  output := k.output.trans h.output
/-- A draw turns nothing. -/
theorem Ext.drew {m m' : LMap} {H H' : AH} {w w' : World} (h : Ext m H w m' H' w') (n : Nat) : Ext m H w m' H' { w' with drawn := n } :=
  { h with frame := h.frame, size := h.size, os := h.os, tape := h.tape, output := h.output }
theorem HR.drew {m : LMap} {H : AH} {w : World} (h : HR m H w) (n : Nat) : HR m H { w with drawn := n } where
  wf := h.wf
  dom := h.dom
  ok := fun i loc o h1 h2 => (h.ok i loc o h1 h2).mono (fun _ _ h => h) rfl
  sep := h.sep
  tipo := h.tipo
  tip := h.tip

/-- A new block for a new number. -/
def LMap.put (m : LMap) (i : Nat) (loc : Loc) : LMap := fun j => if j = i then some loc else m j
theorem LMap.put_sub {m : LMap} {i : Nat} {loc : Loc} (h : m i = none) : LSub m (m.put i loc) := fun j l hj => by
  unfold LMap.put
  split
  · rename_i e; subst e; rw [h] at hj; cases hj
  · exact hj
theorem LMap.put_self (m : LMap) (i : Nat) (loc : Loc) : m.put i loc i = some loc := by simp [LMap.put]

theorem AH.get_set (H : AH) (i : Nat) (o : AObj) (j : Nat) : (H.set i o).get j = if j = i then some o else H.get j := rfl
theorem AH.get_kill (H : AH) (i j : Nat) : (H.kill i).get j = if j = i then none else H.get j := rfl
theorem AH.get_push (H : AH) (o : AObj) (j : Nat) : (H.push o).get j = if j = H.next then some o else H.get j := rfl

theorem HR.tipo_push {m : LMap} {H : AH} {w : World} (h : HR m H w) (o : AObj) : ∀ j, (H.push o).tip j = true → j < (H.push o).next ∧ 100 ≤ j ∧ ∃ l, (H.push o).get j = some (.cells l true) := fun j ht => by
  obtain ⟨h1, h2, l, h3⟩ := h.tipo j ht
  exact ⟨by simp only [AH.push]; omega, h2, l, by rw [AH.get_push, if_neg (by omega)]; exact h3⟩
theorem HR.fresh {m : LMap} {H : AH} {w : World} (h : HR m H w) : m H.next = none := by
  cases hm : m H.next with
  | none => rfl
  | some loc => have := (h.dom _ _ hm).1; omega

/-- A new object, in a new block. -/
theorem HR.push {m : LMap} {H : AH} {w : World} (h : HR m H w) (bo : Obj) (o : AObj) (n : Nat) (hr : ∀ m', LSub m m' → ObjR m' (w.alloc bo) ⟨w.heap.size, 0, n⟩ o) :
    HR (m.put H.next ⟨w.heap.size, 0, n⟩) (H.push o) (w.alloc bo) := by
  have hsub := LMap.put_sub (loc := ⟨w.heap.size, 0, n⟩) h.fresh
  have hsz : (w.alloc bo).heap.size = w.heap.size + 1 := by simp
  refine ⟨fun i hi => ?_, fun i loc hi => ?_, fun i loc o' hi ho => ?_, fun i j li lj oi oj hi hj hoi hoj hne hsh => ?_, h.tipo_push o, fun j lj l ht hj hl => ?_⟩
  rotate_left 4
  · obtain ⟨hjn, _, _⟩ := h.tipo j ht
    rw [AH.get_push, if_neg (by omega)] at hl
    unfold LMap.put at hj
    rw [if_neg (by omega)] at hj
    obtain ⟨⟨c, e, hc⟩, ho⟩ := h.tip j lj l ht hj hl
    refine ⟨⟨c, e, (Below.heap_alloc _ _ _ (h.dom j lj hj).2).trans hc⟩, fun i li oi hi hoi hb hne => ?_⟩
    unfold LMap.put at hi
    rw [AH.get_push] at hoi
    split at hi
    · rename_i e; subst e; obtain rfl := Option.some.inj hi; have := (h.dom j lj hj).2; simp only at hb; omega
    · rename_i e; rw [if_neg e] at hoi; exact ho i li oi hi hoi hb hne
  · rw [AH.get_push, if_neg (by simp only [AH.push] at hi; omega)]
    exact h.wf i (by simp only [AH.push] at hi; omega)
  · unfold LMap.put at hi
    split at hi
    · rename_i e; subst e; obtain rfl := Option.some.inj hi; exact ⟨Nat.lt_succ_self _, by rw [hsz]; exact Nat.lt_succ_self _⟩
    · have := h.dom i loc hi; simp only [AH.push]; exact ⟨by omega, by omega⟩
  · unfold LMap.put at hi
    rw [AH.get_push] at ho
    split at hi
    · rename_i e; subst e
      rw [if_pos rfl] at ho
      obtain rfl := Option.some.inj hi
      obtain rfl := Option.some.inj ho
      exact hr _ hsub
    · rename_i e
      rw [if_neg e] at ho
      exact (h.ok i loc o' hi ho).mono hsub (Below.heap_alloc _ _ _ (h.dom i loc hi).2)
  · unfold LMap.put at hi hj
    rw [AH.get_push] at hoi hoj
    split at hi <;> split at hj
    · rename_i e e'; exact absurd (e.trans e'.symm) hne
    · obtain rfl := Option.some.inj hi; have := (h.dom j lj hj).2; simp only; omega
    · obtain rfl := Option.some.inj hj; have := (h.dom i li hi).2; simp only; omega
    · rename_i e e'
      rw [if_neg e] at hoi
      rw [if_neg e'] at hoj
      exact h.sep i j li lj oi oj hi hj hoi hoj hne hsh
theorem Ext.push {m : LMap} {H : AH} {w : World} (h : HR m H w) (bo : Obj) (o : AObj) (n : Nat) : Ext m H w (m.put H.next ⟨w.heap.size, 0, n⟩) (H.push o) (w.alloc bo) where
  next := by simp [AH.push]
  sub := LMap.put_sub h.fresh
  new := fun i loc hi hn => by
    unfold LMap.put at hi
    split at hi
    · rename_i e; subst e; obtain rfl := Option.some.inj hi; exact ⟨Nat.le_refl _, .inl (Nat.le_refl _)⟩
    · rw [hn] at hi; cases hi
  unm := fun i hi _ => by rw [AH.get_push, if_neg (by omega)]
  ro := fun i hi o' ho => by rw [AH.get_push, if_neg (by omega)] at ho; exact ⟨o', ho, rfl⟩
  rok := fun i o' ho _ => by
    rw [AH.get_push]
    split
    · rename_i e; subst e; rw [h.wf _ (Nat.le_refl _)] at ho; cases ho
    · exact ho
  tip := fun _ _ h => h
  frame := fun b hb _ => Below.heap_alloc _ _ _ hb
  size := by simp
  os := rfl
  tape := rfl
  output := rfl
/-- An object that is pushed by the abstract run alone (its block is to come). -/
theorem HR.push_unmapped {m : LMap} {H : AH} {w : World} (h : HR m H w) (o : AObj) : HR m (H.push o) w := by
  refine ⟨fun i hi => ?_, fun i loc hi => ?_, fun i loc o' hi ho => ?_, fun i j li lj oi oj hi hj hoi hoj hne hsh => ?_, h.tipo_push o, fun j lj l ht hj hl => ?_⟩
  rotate_left 4
  · rw [AH.get_push, if_neg (by have := (h.dom j lj hj).1; omega)] at hl
    obtain ⟨h1, h2⟩ := h.tip j lj l ht hj hl
    exact ⟨h1, fun i li oi hi hoi hb hne => by
      rw [AH.get_push, if_neg (by have := (h.dom i li hi).1; omega)] at hoi
      exact h2 i li oi hi hoi hb hne⟩
  · rw [AH.get_push, if_neg (by simp only [AH.push] at hi; omega)]
    exact h.wf i (by simp only [AH.push] at hi; omega)
  · have := h.dom i loc hi; simp only [AH.push]; exact ⟨by omega, this.2⟩
  · rw [AH.get_push, if_neg (by have := (h.dom i loc hi).1; omega)] at ho; exact h.ok i loc o' hi ho
  · rw [AH.get_push, if_neg (by have := (h.dom i li hi).1; omega)] at hoi
    rw [AH.get_push, if_neg (by have := (h.dom j lj hj).1; omega)] at hoj
    exact h.sep i j li lj oi oj hi hj hoi hoj hne hsh
end Go.Proofs.YtlecbjcloleiiaaDoor.Ram

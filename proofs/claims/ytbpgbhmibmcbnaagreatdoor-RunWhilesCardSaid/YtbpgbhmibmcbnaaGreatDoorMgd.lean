/-
  Parts of the proof: RamB, RamC, RamD, RamE, RamF, RamO, RamG.
-/
import Derived.MapKept
import Derived.Test.YtbpgbhmibmcbnaaGreatDoorMga
/-! How the abstract machine's values and heap stand to the model's: 'VR', 'HR', and what a step keeps: 'Ext'. -/
namespace Go.Proofs.YtbpgbhmibmcbnaaGreatDoor.Ram
open Go Go.RowKit

structure Loc where
  b : Nat
  o : Nat
  n : Nat
  /-- Is its block's frozen range known to be none? -/
  z : Bool

abbrev LMap := Nat → Option Loc

mutual
def VR (m : LMap) : AV → Value → Prop
  | .int k n, v => v = .int k n
  | .bool b, v => v = .bool b
  | .str s, v => v = .string ⟨⟨s⟩⟩
  | .ptr none, v => v = .pointer none
  | .ptr (some (i, off)), v => ∃ loc, m i = some loc ∧ v = .pointer (some ⟨loc.b, loc.o + off, none⟩)
  | .sl none _ len _, v => v = .slice none 0 0 ∧ len = 0
  | .sl (some (i, off)) sz len cap, v => ∃ loc c ad, m i = some loc ∧ v = .slice (some ad) len c ∧ (0 < c → ad = ⟨loc.b, loc.o + off, none⟩) ∧ len ≤ c ∧ off + c * sz ≤ loc.n ∧ c ≤ maxLen ∧ ∀ d, cap = some d → c = d
  | .map none, v => v = .map none
  | .map (some i), v => ∃ loc, m i = some loc ∧ v = .map (some loc.b)
  | .fn f caps, v => ∃ cs : Array Value, v = .func (.func f) #[] cs ∧ VRs m caps cs.toList
  | .nilFn, v => v = .nilFunc
  | .nilI, v => v = .nilIface
  | .und, v => v = undef
  | .ifc t x, v => ∃ y, v = .iface t y ∧ VR m x y
  | .agg l, v => ∃ cs : Array Value, v = .agg cs ∧ VRs m l cs.toList ∧ l.all oneCell = true
  | .tup l, v => ∃ cs : Array Value, v = .tuple cs ∧ VRs m l cs.toList
  | .raw b o, v => v = .pointer (some ⟨b, o, none⟩)
def VRs (m : LMap) : List AV → List Value → Prop
  | [], vs => vs = []
  | x :: l, vs => ∃ v r, vs = v :: r ∧ VR m x v ∧ VRs m l r
end

def LSub (m m' : LMap) : Prop := ∀ i loc, m i = some loc → m' i = some loc

mutual
theorem VR.mono {m m' : LMap} (h : LSub m m') : ∀ {x : AV} {v : Value}, VR m x v → VR m' x v
  | .int _ _, _, hv => hv
  | .bool _, _, hv => hv
  | .str _, _, hv => hv
  | .ptr none, _, hv => hv
  | .ptr (some (_, _)), _, hv => by
    obtain ⟨loc, h1, h2⟩ := (by simpa only [VR] using hv)
    simp only [VR]; exact ⟨loc, h _ _ h1, h2⟩
  | .sl none _ _ _, _, hv => hv
  | .sl (some (_, _)) _ _ _, _, hv => by
    obtain ⟨loc, c, ad, h1, h2⟩ := (by simpa only [VR] using hv)
    simp only [VR]; exact ⟨loc, c, ad, h _ _ h1, h2⟩
  | .map none, _, hv => hv
  | .map (some _), _, hv => by
    obtain ⟨loc, h1, h2⟩ := (by simpa only [VR] using hv)
    simp only [VR]; exact ⟨loc, h _ _ h1, h2⟩
  | .fn _ _, _, hv => by
    obtain ⟨cs, h1, h2⟩ := (by simpa only [VR] using hv)
    simp only [VR]; exact ⟨cs, h1, VRs.mono h h2⟩
  | .nilFn, _, hv => hv
  | .nilI, _, hv => hv
  | .und, _, hv => hv
  | .ifc _ _, _, hv => by
    obtain ⟨y, h1, h2⟩ := (by simpa only [VR] using hv)
    simp only [VR]; exact ⟨y, h1, VR.mono h h2⟩
  | .agg _, _, hv => by
    obtain ⟨cs, h1, h2, h3⟩ := (by simpa only [VR] using hv)
    simp only [VR]; exact ⟨cs, h1, VRs.mono h h2, h3⟩
  | .tup _, _, hv => by
    obtain ⟨cs, h1, h2⟩ := (by simpa only [VR] using hv)
    simp only [VR]; exact ⟨cs, h1, VRs.mono h h2⟩
  | .raw _ _, _, hv => hv
theorem VRs.mono {m m' : LMap} (h : LSub m m') : ∀ {l : List AV} {vs : List Value}, VRs m l vs → VRs m' l vs
  | [], _, hv => hv
  | _ :: _, _, hv => by
    obtain ⟨v, r, h1, h2, h3⟩ := (by simpa only [VRs] using hv)
    simp only [VRs]; exact ⟨v, r, h1, VR.mono h h2, VRs.mono h h3⟩
end

theorem VRs.length {m : LMap} : ∀ {l : List AV} {vs : List Value}, VRs m l vs → vs.length = l.length
  | [], _, h => by simp only [VRs] at h; subst h; rfl
  | _ :: l, _, h => by
    simp only [VRs] at h
    obtain ⟨v, r, rfl, _, h3⟩ := h
    simp [VRs.length h3]
theorem VRs.get {m : LMap} : ∀ {l : List AV} {vs : List Value} {j : Nat} {x : AV}, VRs m l vs → l[j]? = some x → ∃ v, vs[j]? = some v ∧ VR m x v
  | [], _, _, _, _, hx => by simp at hx
  | y :: l, _, 0, x, h, hx => by
    simp only [VRs] at h
    obtain ⟨v, r, rfl, h2, h3⟩ := h
    simp at hx; subst hx
    exact ⟨v, rfl, h2⟩
  | y :: l, _, j + 1, x, h, hx => by
    simp only [VRs] at h
    obtain ⟨v, r, rfl, h2, h3⟩ := h
    simp at hx
    obtain ⟨v', hv, hr⟩ := VRs.get h3 hx
    exact ⟨v', by simpa using hv, hr⟩
theorem VRs.of_get {m : LMap} : ∀ {l : List AV} {vs : List Value}, vs.length = l.length → (∀ (j : Nat) (x : AV), l[j]? = some x → ∃ v, vs[j]? = some v ∧ VR m x v) → VRs m l vs
  | [], vs, hl, _ => by simp only [VRs]; simpa using hl
  | x :: l, vs, hl, h => by
    cases vs with
    | nil => simp at hl
    | cons v r =>
      simp only [VRs]
      obtain ⟨v', hv', hr⟩ := h 0 x rfl
      simp at hv'; subst hv'
      exact ⟨v, r, rfl, hr, VRs.of_get (by simpa using hl) fun j y hy => by
        obtain ⟨u, hu, hur⟩ := h (j + 1) y (by simpa using hy)
        exact ⟨u, by simpa using hu, hur⟩⟩
theorem VRs.append {m : LMap} {l l' : List AV} {vs vs' : List Value} (h : VRs m l vs) (h' : VRs m l' vs') : VRs m (l ++ l') (vs ++ vs') := by
  have e := h.length
  refine VRs.of_get (by simp [h.length, h'.length]) fun j x hx => ?_
  by_cases hj : j < l.length
  · rw [List.getElem?_append_left hj] at hx
    obtain ⟨v, hv, hr⟩ := h.get hx
    exact ⟨v, by rw [List.getElem?_append_left (by omega)]; exact hv, hr⟩
  · rw [List.getElem?_append_right (by omega)] at hx
    obtain ⟨v, hv, hr⟩ := h'.get hx
    exact ⟨v, by rw [List.getElem?_append_right (by omega), e]; exact hv, hr⟩
theorem VRs.drop {m : LMap} {l : List AV} {vs : List Value} (h : VRs m l vs) (k : Nat) : VRs m (l.drop k) (vs.drop k) := by
  refine VRs.of_get (by simp [h.length]) fun j x hx => ?_
  rw [List.getElem?_drop] at hx
  obtain ⟨v, hv, hr⟩ := h.get hx
  exact ⟨v, by rw [List.getElem?_drop]; exact hv, hr⟩
theorem VRs.take {m : LMap} {l : List AV} {vs : List Value} (h : VRs m l vs) (k : Nat) : VRs m (l.take k) (vs.take k) := by
  refine VRs.of_get (by simp [h.length]) fun j x hx => ?_
  rw [List.getElem?_take] at hx ⊢
  split at hx
  · rename_i hj; rw [if_pos hj]; exact h.get hx
  · cases hx

theorem VR.one {m : LMap} {x : AV} {v : Value} (h : VR m x v) (hx : oneCell x = true) : v.oneCell' = true := by
  cases x with
  | agg l => cases hx
  | tup l => cases hx
  | und => cases hx
  | ptr a => cases a with | none => simp only [VR] at h; subst h; rfl | some p => obtain ⟨i, off⟩ := p; simp only [VR] at h; obtain ⟨_, _, rfl⟩ := h; rfl
  | sl a sz len cap => cases a with | none => simp only [VR] at h; obtain ⟨rfl, _⟩ := h; rfl | some p => obtain ⟨i, off⟩ := p; simp only [VR] at h; obtain ⟨_, _, _, _, rfl, _⟩ := h; rfl
  | map a => cases a with | none => simp only [VR] at h; subst h; rfl | some p => simp only [VR] at h; obtain ⟨_, _, rfl⟩ := h; rfl
  | fn f caps => simp only [VR] at h; obtain ⟨_, rfl, _⟩ := h; rfl
  | ifc t y => simp only [VR] at h; obtain ⟨_, rfl, _⟩ := h; rfl
  | int k n => simp only [VR] at h; subst h; rfl
  | bool b => simp only [VR] at h; subst h; rfl
  | str s => simp only [VR] at h; subst h; rfl
  | nilFn => simp only [VR] at h; subst h; rfl
  | nilI => simp only [VR] at h; subst h; rfl
  | raw b o => simp only [VR] at h; subst h; rfl
theorem cells_one {v : Value} (h : v.oneCell' = true) : v.cells = #[v] := by
  cases v <;> first | rfl | (simp [Value.oneCell'] at h)
theorem VR.cells {m : LMap} {x : AV} {v : Value} (h : VR m x v) (hx : (cellsOf x).all oneCell = true) : VRs m (cellsOf x) v.cells.toList ∧ ∀ u ∈ v.cells.toList, u.oneCell' = true := by
  by_cases ha : ∃ l, x = .agg l
  · obtain ⟨l, rfl⟩ := ha
    simp only [VR] at h
    obtain ⟨cs, rfl, h2, h3⟩ := h
    refine ⟨h2, fun u hu => ?_⟩
    obtain ⟨j, hj⟩ := List.mem_iff_getElem?.1 hu
    have hjl : j < l.length := by have := (List.getElem?_eq_some_iff.1 hj).1; rw [← h2.length]; exact this
    obtain ⟨v, hv, hr⟩ := h2.get (List.getElem?_eq_getElem hjl)
    have : v = u := by have e := hv.symm.trans hj; exact Option.some.inj e
    subst this
    exact hr.one (List.all_eq_true.1 h3 _ (List.getElem_mem hjl))
  · have hc : cellsOf x = [x] := by cases x <;> first | rfl | exact absurd ⟨_, rfl⟩ ha
    rw [hc] at hx ⊢
    have hx1 : oneCell x = true := by simpa using hx
    have h1 := h.one hx1
    rw [cells_one h1]
    refine ⟨by simp only [VRs]; exact ⟨v, [], rfl, h, rfl⟩, fun u hu => ?_⟩
    simp at hu; subst hu; exact h1

/-! ### objects, heaps -/
inductive MapR (m : LMap) : List (List UInt8 × AV) → List MapEntry → Prop where
  | nil : MapR m [] []
  | cons {s : List UInt8} {x : AV} {e : MapEntry} {l : List (List UInt8 × AV)} {es : List MapEntry} (hk : e.key = .string ⟨⟨s⟩⟩) (hv : VR m x e.val) (h : MapR m l es) : MapR m ((s, x) :: l) (e :: es)
theorem MapR.mono {m m' : LMap} (h : LSub m m') {l : List (List UInt8 × AV)} {es : List MapEntry} (hr : MapR m l es) : MapR m' l es := by
  induction hr with
  | nil => exact .nil
  | cons hk hv _ ih => exact .cons hk (hv.mono h) ih

def CellsR (m : LMap) (l : List AV) (c : Array Value) (o : Nat) : Prop := ∀ j x, l[j]? = some x → ∃ v, c[o + j]? = some v ∧ VR m x v ∧ oneCell x = true
def ObjR (m : LMap) (w : World) (loc : Loc) : AObj → Prop
  | .cells l ro => ∃ c e f, w.heap[loc.b]? = some (.cells c e f) ∧ (ro = false ∨ loc.z = true → f = (0, 0) ∧ (ro = false → loc.o = 0)) ∧ loc.o + loc.n = c.size ∧ l.length ≤ loc.n ∧ CellsR m l c loc.o
  | .map l _ => ∃ es ck, w.heap[loc.b]? = some (.map es ck) ∧ MapR m l es.toList ∧ MapKept.Stamped es ck
def AObj.ro : AObj → Bool
  | .cells _ r => r
  | .map _ r => r

theorem CellsR.mono {m m' : LMap} (h : LSub m m') {l : List AV} {c : Array Value} {o : Nat} (hr : CellsR m l c o) : CellsR m' l c o := fun j x hx => by
  obtain ⟨v, hv, hvr, h1⟩ := hr j x hx
  exact ⟨v, hv, hvr.mono h, h1⟩
theorem ObjR.mono {m m' : LMap} (h : LSub m m') {w w' : World} {loc : Loc} (hb : w'.heap[loc.b]? = w.heap[loc.b]?) {o : AObj} (hr : ObjR m w loc o) : ObjR m' w' loc o := by
  cases o with
  | cells l r => obtain ⟨c, e, f, h1, h2, h3, h4, h5⟩ := hr; exact ⟨c, e, f, hb.trans h1, h2, h3, h4, h5.mono h⟩
  | map l r => obtain ⟨es, ck, h1, h2⟩ := hr; exact ⟨es, ck, hb.trans h1, h2.1.mono h, h2.2⟩

structure HR (m : LMap) (H : AH) (w : World) : Prop where
  wf : ∀ i, H.next ≤ i → H.get i = none
  dom : ∀ i loc, m i = some loc → i < H.next ∧ loc.b < w.heap.size
  ok : ∀ i loc o, m i = some loc → H.get i = some o → ObjR m w loc o
  sep : ∀ i j li lj oi oj, m i = some li → m j = some lj → H.get i = some oi → H.get j = some oj → i ≠ j → (shar i oi.ro && shar j oj.ro) = false → li.b ≠ lj.b
  tipo : ∀ j, H.tip j = true → j < H.next ∧ 100 ≤ j ∧ ∃ l, H.get j = some (.cells l true)
  tip : ∀ j lj l, H.tip j = true → m j = some lj → H.get j = some (.cells l true) → (∃ c e, w.heap[lj.b]? = some (.cells c e (0, 0))) ∧
    ∀ i li oi, m i = some li → H.get i = some oi → li.b = lj.b → i ≠ j → H.tip i = false ∧ ∀ l' r, oi = .cells l' r → li.o + l'.length ≤ lj.o + l.length

def Mine (m : LMap) (H : AH) (b : Nat) : Prop := ∃ i loc o, m i = some loc ∧ H.get i = some o ∧ (o.ro = false ∨ H.tip i = true) ∧ loc.b = b

structure Ext (m : LMap) (H : AH) (w : World) (m' : LMap) (H' : AH) (w' : World) : Prop where
  next : H.next ≤ H'.next
  sub : LSub m m'
  new : ∀ i loc, m' i = some loc → m i = none → H.next ≤ i ∧ (w.heap.size ≤ loc.b ∨ Mine m H loc.b)
  unm : ∀ i, i < H.next → m i = none → H'.get i = H.get i
  ro : ∀ i, i < H.next → ∀ o', H'.get i = some o' → ∃ o, H.get i = some o ∧ o.ro = o'.ro
  rok : ∀ i o, H.get i = some o → o.ro = true → H'.get i = some o
  tip : ∀ i, i < H.next → H'.tip i = true → H.tip i = true
  frame : ∀ b, b < w.heap.size → ¬ Mine m H b → w'.heap[b]? = w.heap[b]?
  size : w.heap.size ≤ w'.heap.size
  os : w'.os = w.os
  tape : w'.tape = w.tape
  output : w'.output = w.output

theorem Ext.refl (m : LMap) (H : AH) (w : World) : Ext m H w m H w where
  next := Nat.le_refl _
  sub := fun _ _ h => h
  new := fun i loc h h' => by rw [h'] at h; cases h
  unm := fun _ _ _ => rfl
  ro := fun i _ o' h => ⟨o', h, rfl⟩
  rok := fun _ _ h _ => h
  tip := fun _ _ h => h
  frame := fun _ _ _ => rfl
  size := Nat.le_refl _
  os := rfl
  tape := rfl
  output := rfl
theorem Ext.mine {m m' : LMap} {H H' : AH} {w w' : World} (h : Ext m H w m' H' w') {b : Nat} (hb : b < w.heap.size) (hm : Mine m' H' b) (hd : ∀ i loc, m i = some loc → i < H.next) : Mine m H b := by
  obtain ⟨i, loc, o, h1, h2, h3, h4⟩ := hm
  cases hi : m i with
  | none =>
    obtain ⟨_, h5 | h5⟩ := h.new i loc h1 hi
    · omega
    · rw [h4] at h5; exact h5
  | some loc0 =>
    have := h.sub i loc0 hi
    rw [this] at h1
    obtain rfl := Option.some.inj h1
    obtain ⟨o0, h5, h6⟩ := h.ro i (hd i _ hi) o h2
    exact ⟨i, loc0, o0, hi, h5, h3.imp (fun h3 => h6.trans h3) (fun h3 => h.tip i (hd i _ hi) h3), h4⟩
theorem Ext.trans {m m1 m2 : LMap} {H H1 H2 : AH} {w w1 w2 : World} (h : Ext m H w m1 H1 w1) (k : Ext m1 H1 w1 m2 H2 w2) (hd : ∀ i loc, m i = some loc → i < H.next) : Ext m H w m2 H2 w2 where
  next := Nat.le_trans h.next k.next
  sub := fun i loc hi => k.sub i loc (h.sub i loc hi)
  new := fun i loc hi hn => by
    cases h1 : m1 i with
    | none =>
      obtain ⟨ha, hb⟩ := k.new i loc hi h1
      refine ⟨Nat.le_trans h.next ha, ?_⟩
      rcases hb with hb | hb
      · exact .inl (Nat.le_trans h.size hb)
      · by_cases hlt : loc.b < w.heap.size
        · exact .inr (h.mine hlt hb hd)
        · exact .inl (by omega)
    | some loc1 =>
      have := k.sub i loc1 h1
      rw [this] at hi
      obtain rfl := Option.some.inj hi
      exact h.new i loc1 h1 hn
  unm := fun i hi hn => by
    have h1 : m1 i = none := by
      cases h1 : m1 i with
      | none => rfl
      | some loc => have := (h.new i loc h1 hn).1; omega
    rw [k.unm i (Nat.lt_of_lt_of_le hi h.next) h1, h.unm i hi hn]
  ro := fun i hi o2 h2 => by
    obtain ⟨o1, h1, e1⟩ := k.ro i (Nat.lt_of_lt_of_le hi h.next) o2 h2
    obtain ⟨o0, h0, e0⟩ := h.ro i hi o1 h1
    exact ⟨o0, h0, e0.trans e1⟩
  rok := fun i o ho hr => k.rok i o (h.rok i o ho hr) hr
  tip := fun i hi ht => h.tip i hi (k.tip i (Nat.lt_of_lt_of_le hi h.next) ht)
  frame := fun b hb hm => by
    rw [k.frame b (Nat.lt_of_lt_of_le hb h.size) (fun hm1 => hm (h.mine hb hm1 hd)), h.frame b hb hm]
  size := Nat.le_trans h.size k.size
  os := k.os.trans h.os
  tape := k.tape.trans h.tape
  output := k.output.trans h.output
theorem Ext.drew {m m' : LMap} {H H' : AH} {w w' : World} (h : Ext m H w m' H' w') (n : Nat) : Ext m H w m' H' { w' with drawn := n } :=
  { h with frame := h.frame, size := h.size, os := h.os, tape := h.tape, output := h.output }
theorem HR.drew {m : LMap} {H : AH} {w : World} (h : HR m H w) (n : Nat) : HR m H { w with drawn := n } where
  wf := h.wf
  dom := h.dom
  ok := fun i loc o h1 h2 => (h.ok i loc o h1 h2).mono (fun _ _ h => h) rfl
  sep := h.sep
  tipo := h.tipo
  tip := h.tip

def LMap.put (m : LMap) (i : Nat) (loc : Loc) : LMap := fun j => if j = i then some loc else m j
theorem LMap.put_sub {m : LMap} {i : Nat} {loc : Loc} (h : m i = none) : LSub m (m.put i loc) := fun j l hj => by
  unfold LMap.put
  split
  · rename_i e; subst e; rw [h] at hj; cases hj
  · exact hj
theorem LMap.put_self (m : LMap) (i : Nat) (loc : Loc) : m.put i loc i = some loc := by simp [LMap.put]

theorem AH.get_set (H : AH) (i : Nat) (o : AObj) (j : Nat) : (H.set i o).get j = if j = i then some o else H.get j := rfl
theorem AH.get_kill (H : AH) (i j : Nat) : (H.kill i).get j = if j = i then none else H.get j := rfl
theorem AH.get_push (H : AH) (o : AObj) (j : Nat) : (H.push o).get j = if j = H.next then some o else H.get j := rfl

theorem HR.tipo_push {m : LMap} {H : AH} {w : World} (h : HR m H w) (o : AObj) : ∀ j, (H.push o).tip j = true → j < (H.push o).next ∧ 100 ≤ j ∧ ∃ l, (H.push o).get j = some (.cells l true) := fun j ht => by
  obtain ⟨h1, h2, l, h3⟩ := h.tipo j ht
  exact ⟨by simp only [AH.push]; omega, h2, l, by rw [AH.get_push, if_neg (by omega)]; exact h3⟩
theorem HR.fresh {m : LMap} {H : AH} {w : World} (h : HR m H w) : m H.next = none := by
  cases hm : m H.next with
  | none => rfl
  | some loc => have := (h.dom _ _ hm).1; omega

theorem HR.push {m : LMap} {H : AH} {w : World} (h : HR m H w) (bo : Obj) (o : AObj) (n : Nat) (hr : ∀ m', LSub m m' → ObjR m' (w.alloc bo) ⟨w.heap.size, 0, n, false⟩ o) :
    HR (m.put H.next ⟨w.heap.size, 0, n, false⟩) (H.push o) (w.alloc bo) := by
  have hsub := LMap.put_sub (loc := ⟨w.heap.size, 0, n, false⟩) h.fresh
  have hsz : (w.alloc bo).heap.size = w.heap.size + 1 := by simp
  refine ⟨fun i hi => ?_, fun i loc hi => ?_, fun i loc o' hi ho => ?_, fun i j li lj oi oj hi hj hoi hoj hne hsh => ?_, h.tipo_push o, fun j lj l ht hj hl => ?_⟩
  rotate_left 4
  · obtain ⟨hjn, _, _⟩ := h.tipo j ht
    rw [AH.get_push, if_neg (by omega)] at hl
    unfold LMap.put at hj
    rw [if_neg (by omega)] at hj
    obtain ⟨⟨c, e, hc⟩, ho⟩ := h.tip j lj l ht hj hl
    refine ⟨⟨c, e, (Below.heap_alloc _ _ _ (h.dom j lj hj).2).trans hc⟩, fun i li oi hi hoi hb hne => ?_⟩
    unfold LMap.put at hi
    rw [AH.get_push] at hoi
    split at hi
    · rename_i e; subst e; obtain rfl := Option.some.inj hi; have := (h.dom j lj hj).2; simp only at hb; omega
    · rename_i e; rw [if_neg e] at hoi; exact ho i li oi hi hoi hb hne
  · rw [AH.get_push, if_neg (by simp only [AH.push] at hi; omega)]
    exact h.wf i (by simp only [AH.push] at hi; omega)
  · unfold LMap.put at hi
    split at hi
    · rename_i e; subst e; obtain rfl := Option.some.inj hi; exact ⟨Nat.lt_succ_self _, by rw [hsz]; exact Nat.lt_succ_self _⟩
    · have := h.dom i loc hi; simp only [AH.push]; exact ⟨by omega, by omega⟩
  · unfold LMap.put at hi
    rw [AH.get_push] at ho
    split at hi
    · rename_i e; subst e
      rw [if_pos rfl] at ho
      obtain rfl := Option.some.inj hi
      obtain rfl := Option.some.inj ho
      exact hr _ hsub
    · rename_i e
      rw [if_neg e] at ho
      exact (h.ok i loc o' hi ho).mono hsub (Below.heap_alloc _ _ _ (h.dom i loc hi).2)
  · unfold LMap.put at hi hj
    rw [AH.get_push] at hoi hoj
    split at hi <;> split at hj
    · rename_i e e'; exact absurd (e.trans e'.symm) hne
    · obtain rfl := Option.some.inj hi; have := (h.dom j lj hj).2; simp only; omega
    · obtain rfl := Option.some.inj hj; have := (h.dom i li hi).2; simp only; omega
    · rename_i e e'
      rw [if_neg e] at hoi
      rw [if_neg e'] at hoj
      exact h.sep i j li lj oi oj hi hj hoi hoj hne hsh
theorem Ext.push {m : LMap} {H : AH} {w : World} (h : HR m H w) (bo : Obj) (o : AObj) (n : Nat) : Ext m H w (m.put H.next ⟨w.heap.size, 0, n, false⟩) (H.push o) (w.alloc bo) where
  next := by simp [AH.push]
  sub := LMap.put_sub h.fresh
  new := fun i loc hi hn => by
    unfold LMap.put at hi
    split at hi
    · rename_i e; subst e; obtain rfl := Option.some.inj hi; exact ⟨Nat.le_refl _, .inl (Nat.le_refl _)⟩
    · rw [hn] at hi; cases hi
  unm := fun i hi _ => by rw [AH.get_push, if_neg (by omega)]
  ro := fun i hi o' ho => by rw [AH.get_push, if_neg (by omega)] at ho; exact ⟨o', ho, rfl⟩
  rok := fun i o' ho _ => by
    rw [AH.get_push]
    split
    · rename_i e; subst e; rw [h.wf _ (Nat.le_refl _)] at ho; cases ho
    · exact ho
  tip := fun _ _ h => h
  frame := fun b hb _ => Below.heap_alloc _ _ _ hb
  size := by simp
  os := rfl
  tape := rfl
  output := rfl
theorem HR.push_unmapped {m : LMap} {H : AH} {w : World} (h : HR m H w) (o : AObj) : HR m (H.push o) w := by
  refine ⟨fun i hi => ?_, fun i loc hi => ?_, fun i loc o' hi ho => ?_, fun i j li lj oi oj hi hj hoi hoj hne hsh => ?_, h.tipo_push o, fun j lj l ht hj hl => ?_⟩
  rotate_left 4
  · rw [AH.get_push, if_neg (by have := (h.dom j lj hj).1; omega)] at hl
    obtain ⟨h1, h2⟩ := h.tip j lj l ht hj hl
    exact ⟨h1, fun i li oi hi hoi hb hne => by
      rw [AH.get_push, if_neg (by have := (h.dom i li hi).1; omega)] at hoi
      exact h2 i li oi hi hoi hb hne⟩
  · rw [AH.get_push, if_neg (by simp only [AH.push] at hi; omega)]
    exact h.wf i (by simp only [AH.push] at hi; omega)
  · have := h.dom i loc hi; simp only [AH.push]; exact ⟨by omega, this.2⟩
  · rw [AH.get_push, if_neg (by have := (h.dom i loc hi).1; omega)] at ho; exact h.ok i loc o' hi ho
  · rw [AH.get_push, if_neg (by have := (h.dom i li hi).1; omega)] at hoi
    rw [AH.get_push, if_neg (by have := (h.dom j lj hj).1; omega)] at hoj
    exact h.sep i j li lj oi oj hi hj hoi hoj hne hsh
end Go.Proofs.YtbpgbhmibmcbnaaGreatDoor.Ram

/-! The operations that ask nothing of memory. -/
namespace Go.Proofs.YtbpgbhmibmcbnaaGreatDoor.Ram
open Go Go.RowKit

structure OnlyBlock (w w' : World) (b : Nat) : Prop where
  other : ∀ k, k ≠ b → w'.heap[k]? = w.heap[k]?
  size : w'.heap.size = w.heap.size
  os : w'.os = w.os
  tape : w'.tape = w.tape
  output : w'.output = w.output
theorem HR.upd {m : LMap} {H : AH} {w w' : World} (h : HR m H w) {i : Nat} {loc : Loc} {o : AObj} (hm : m i = some loc) (ho : H.get i = some o) (o' : AObj) (hb : OnlyBlock w w' loc.b) (hr : ObjR m w' loc o') (hro : o.ro = false) (hro' : o'.ro = false) : HR m (H.set i o') w' := by
  have htip : ∀ j, H.tip j = true → j ≠ i := fun j ht e => by
    subst e
    obtain ⟨_, _, l, hl⟩ := h.tipo _ ht
    rw [ho] at hl; obtain rfl := Option.some.inj hl; cases hro
  refine ⟨fun j hj => ?_, fun j lj hj => ?_, fun j lj oj hj hoj => ?_, fun j k lj lk oj ok hj hk hoj hok hne hsh => ?_, fun j ht => ?_, fun j lj l ht hj hl => ?_⟩
  rotate_left 4
  · obtain ⟨h1, h2, l, h3⟩ := h.tipo j ht
    exact ⟨h1, h2, l, by rw [AH.get_set, if_neg (htip j ht)]; exact h3⟩
  · have hji := htip j ht
    rw [AH.get_set, if_neg hji] at hl
    obtain ⟨⟨c, e, hc⟩, h2⟩ := h.tip j lj l ht hj hl
    have hbne : lj.b ≠ loc.b := h.sep j i lj loc _ o hj hm hl ho hji (by simp [shar, hro])
    refine ⟨⟨c, e, (hb.other _ hbne).trans hc⟩, fun q lq oq hq hoq hqb hne => ?_⟩
    by_cases hqi : q = i
    · subst hqi; rw [hm] at hq; obtain rfl := Option.some.inj hq; exact absurd hqb.symm hbne
    · rw [AH.get_set, if_neg hqi] at hoq
      exact h2 q lq oq hq hoq hqb hne
  · rw [AH.get_set, if_neg (by intro e; subst e; have := (h.dom _ _ hm).1; simp only [AH.set] at hj; omega)]
    exact h.wf j hj
  · have := h.dom j lj hj; exact ⟨this.1, by rw [hb.size]; exact this.2⟩
  · rw [AH.get_set] at hoj
    split at hoj
    · rename_i e; subst e
      rw [hm] at hj
      obtain rfl := Option.some.inj hj
      obtain rfl := Option.some.inj hoj
      exact hr
    · rename_i e
      exact (h.ok j lj oj hj hoj).mono (fun _ _ h => h) (hb.other _ (h.sep j i lj loc oj o hj hm hoj ho e (by simp [shar, hro])))
  · rw [AH.get_set] at hoj hok
    have key : ∀ q oq, (if q = i then some o' else H.get q) = some oq → ∃ oq', H.get q = some oq' ∧ oq'.ro = oq.ro := fun q oq hq => by
      split at hq
      · rename_i e; subst e; exact ⟨o, ho, by obtain rfl := Option.some.inj hq; rw [hro, hro']⟩
      · exact ⟨oq, hq, rfl⟩
    obtain ⟨oj', hoj', e1⟩ := key j oj hoj
    obtain ⟨ok', hok', e2⟩ := key k ok hok
    exact h.sep j k lj lk oj' ok' hj hk hoj' hok' hne (by rw [e1, e2]; exact hsh)
theorem Ext.upd {m : LMap} {H : AH} {w w' : World} {i : Nat} {loc : Loc} {o o' : AObj} (hm : m i = some loc) (ho : H.get i = some o) (hro : o.ro = false) (hro' : o'.ro = false) (hb : OnlyBlock w w' loc.b) : Ext m H w m (H.set i o') w' where
  next := Nat.le_refl _
  sub := fun _ _ h => h
  new := fun j lj h1 h2 => by rw [h2] at h1; cases h1
  unm := fun j _ hn => by rw [AH.get_set, if_neg (by intro e; subst e; rw [hn] at hm; cases hm)]
  ro := fun j _ oj hj => by
    rw [AH.get_set] at hj
    split at hj
    · rename_i e; subst e; obtain rfl := Option.some.inj hj; exact ⟨o, ho, hro.trans hro'.symm⟩
    · exact ⟨oj, hj, rfl⟩
  rok := fun j oj hj hr => by
    rw [AH.get_set, if_neg (by intro e; subst e; rw [ho] at hj; obtain rfl := Option.some.inj hj; rw [hro] at hr; cases hr)]
    exact hj
  tip := fun _ _ h => h
  frame := fun b _ hm' => hb.other b (fun e => hm' ⟨i, loc, o, hm, ho, .inl hro, e.symm⟩)
  size := Nat.le_of_eq hb.size.symm
  os := hb.os
  tape := hb.tape
  output := hb.output

/-! ### operands -/
mutual
def okVal : Value → AV → Bool
  | .int k n, .int k' n' => decide (k = k') && decide (n = n')
  | .bool b, .bool b' => b == b'
  | .string z, .str s => decide (z.data.toList = s)
  | .pointer none, .ptr none => true
  | .slice none 0 0, .sl none _ 0 _ => true
  | .map none, .map none => true
  | .nilFunc, .nilFn => true
  | .nilIface, .nilI => true
  | .iface t v, .ifc t' x => decide (t = t') && okVal v x
  | .agg cs, .agg l => okVals cs.toList l && l.all oneCell
  | _, _ => false
def okVals : List Value → List AV → Bool
  | [], [] => true
  | v :: r, x :: l => okVal v x && okVals r l
  | _, _ => false
end
mutual
theorem okVal_sound {m : LMap} : ∀ {v : Value} {x : AV}, okVal v x = true → VR m x v := by
  intro v x h
  cases x with
  | int k n => cases v <;> simp [okVal] at h; obtain ⟨rfl, rfl⟩ := h; simp [VR]
  | bool b => cases v <;> simp [okVal] at h; subst h; simp [VR]
  | str s =>
    cases v <;> simp [okVal] at h
    subst h; simp [VR]
  | ptr a => cases a <;> rcases v with _ | _ | _ | _ | _ | (_ | _) | _ | _ | _ | _ | _ | _ | _ | _ | _ <;> simp [okVal] at h; simp [VR]
  | sl a sz len cap =>
    cases a with
    | some p => cases v <;> simp [okVal] at h
    | none =>
      unfold okVal at h
      split at h <;> first | (rename_i e; cases e; done) | skip
      all_goals first | (rename_i e _; cases e; done) | (rename_i e; cases e; simp [VR]; done) | (cases h; done) | (simp_all [VR]; done)
  | map a => cases a <;> rcases v with _ | _ | _ | _ | _ | _ | _ | (_ | _) | _ | _ | _ | _ | _ | _ | _ <;> simp [okVal] at h; simp [VR]
  | fn f caps => cases v <;> simp [okVal] at h
  | nilFn => cases v <;> simp [okVal] at h; simp [VR]
  | nilI => cases v <;> simp [okVal] at h; simp [VR]
  | und => cases v <;> simp [okVal] at h
  | raw b o => cases v <;> simp [okVal] at h
  | ifc t y => cases v <;> simp [okVal] at h; obtain ⟨rfl, h⟩ := h; simp only [VR]; exact ⟨_, rfl, okVal_sound h⟩
  | agg l => cases v <;> simp [okVal] at h; simp only [VR]; exact ⟨_, rfl, okVals_sound h.1, by simpa using h.2⟩
  | tup l => cases v <;> simp [okVal] at h
theorem okVals_sound {m : LMap} : ∀ {vs : List Value} {l : List AV}, okVals vs l = true → VRs m l vs := by
  intro vs l h
  cases l with
  | nil => cases vs <;> simp [okVals] at h; simp [VRs]
  | cons x l =>
    cases vs <;> simp [okVals] at h
    simp only [VRs]
    exact ⟨_, _, rfl, okVal_sound h.1, okVals_sound h.2⟩
end

def okOpd (G : List Nat) : Operand → Opd → Bool
  | .tmp n, .t n' => decide (n = n')
  | .const v, .c x => okVal v x
  | .global g, .g g' => decide (g = g') && G.contains g && decide (g < 1000)
  | .func f, .f f' => decide (f = f')
  | _, _ => false
def okOpds (G : List Nat) : List Operand → List Opd → Bool
  | [], [] => true
  | x :: l, y :: l' => okOpd G x y && okOpds G l l'
  | _, _ => false
def Opd.tmps : Opd → List Nat
  | .t n => [n]
  | _ => []
def optT : Option Opd → List Nat
  | none => []
  | some x => x.tmps
def opdsT (l : List Opd) : List Nat := l.flatMap Opd.tmps
def partsT (l : List (Nat × Nat × Opd)) : List Nat := l.flatMap fun p => p.2.2.tmps
def AOp.tmps : AOp → List Nat
  | .mov x | .box x | .nilchk x | .not x | .neg x | .conv _ x | .convS x | .mkIfc _ x | .fieldA _ x | .field _ _ _ x | .extract x _ | .len _ x | .load _ _ x | .clear _ _ x => x.tmps
  | .pick c a b => c.tmps ++ a.tmps ++ b.tmps
  | .alloc _ | .mkMap => []
  | .build _ ps | .bslice _ _ _ _ ps => partsT ps
  | .store _ a v | .bin _ a v | .eq _ _ a v | .indexA _ a v | .index a v | .lookup _ _ a v | .mdel a v | .append _ _ _ a v | .copy _ a v | .minmax _ a v => a.tmps ++ v.tmps
  | .mkFn _ l => opdsT l
  | .mkSlice _ _ _ _ a b => a.tmps ++ b.tmps
  | .slc _ x lo hi => x.tmps ++ optT lo ++ optT hi
  | .slc3 _ x a b => x.tmps ++ a.tmps ++ b.tmps
  | .mset a b c => a.tmps ++ b.tmps ++ c.tmps
  | .callF _ l => opdsT l
  | .callV x l => x.tmps ++ opdsT l

structure GOk (G : List Nat) (m : LMap) : Prop where
  glob : ∀ g, g ∈ G → g < 1000 → ∃ n z, m g = some ⟨g, 0, n, z⟩
  /-- From 1000 on: the blocks whose pointers may be compared. -/
  sent : ∀ s, 1000 + s ∈ G → ∃ loc, m s = some loc ∧ loc.z = true
  diff : ∀ s s' l l', 1000 + s ∈ G → 1000 + s' ∈ G → s ≠ s' → m s = some l → m s' = some l' → l.b = l'.b → l.o ≠ l'.o
theorem GOk.mono {G : List Nat} {m m' : LMap} (h : GOk G m) (hs : LSub m m') : GOk G m' where
  glob := fun g hg h1 => by
    obtain ⟨n, z, hn⟩ := h.glob g hg h1
    exact ⟨n, z, hs _ _ hn⟩
  sent := fun s hg => by
    obtain ⟨loc, h1, h2⟩ := h.sent s hg
    exact ⟨loc, hs _ _ h1, h2⟩
  diff := fun s s' l l' h1 h2 h3 h4 h5 => by
    obtain ⟨k, k1, _⟩ := h.sent s h1
    obtain ⟨k', k2, _⟩ := h.sent s' h2
    have e1 := hs _ _ k1
    have e2 := hs _ _ k2
    rw [h4] at e1; rw [h5] at e2
    obtain rfl := Option.some.inj e1
    obtain rfl := Option.some.inj e2
    exact h.diff s s' _ _ h1 h2 h3 k1 k2
def FOn (m : LMap) (fr : Fr) (a : Act) (l : List Nat) : Prop := ∀ n ∈ l, ∀ v, Fr.get fr n = some v → VR m v (a.tmps.getD n undef)

theorem ev_sound {G : List Nat} {m : LMap} (hG : GOk G m) {fr : Fr} {a : Act} {x : Operand} {y : Opd} (hok : okOpd G x y = true) (hf : FOn m fr a y.tmps) {v : AV} (hv : y.ev fr = some v) : VR m v (a.eval x) := by
  cases x <;> cases y <;> simp [okOpd] at hok
  · subst hok
    exact hf _ (by simp [Opd.tmps]) v hv
  · simp only [Opd.ev, Option.some.injEq] at hv; subst hv
    exact okVal_sound hok
  · obtain ⟨⟨rfl, hg⟩, hl⟩ := hok
    obtain ⟨n, z, hn⟩ := hG.glob _ hg hl
    simp only [Opd.ev, Option.some.injEq] at hv; subst hv
    simp only [VR, Act.eval]
    exact ⟨_, hn, by simp⟩
  · subst hok
    simp only [Opd.ev, Option.some.injEq] at hv; subst hv
    simp only [VR, Act.eval]
    exact ⟨#[], rfl, by simp [VRs]⟩
theorem FOn.sub {m : LMap} {fr : Fr} {a : Act} {l l' : List Nat} (h : FOn m fr a l) (hs : ∀ n ∈ l', n ∈ l) : FOn m fr a l' := fun n hn v hv => h n (hs n hn) v hv
theorem evs_sound {G : List Nat} {m : LMap} (hG : GOk G m) {fr : Fr} {a : Act} : ∀ {xs : List Operand} {ys : List Opd} {vs : List AV}, okOpds G xs ys = true → FOn m fr a (opdsT ys) → evs fr ys = some vs → VRs m vs (xs.map a.eval)
  | [], [], vs, _, _, hv => by simp only [evs, Option.some.injEq] at hv; subst hv; simp [VRs]
  | [], _ :: _, _, h, _, _ => by simp [okOpds] at h
  | _ :: _, [], _, h, _, _ => by simp [okOpds] at h
  | x :: xs, y :: ys, vs, h, hf, hv => by
    simp only [okOpds, Bool.and_eq_true] at h
    simp only [evs, Option.bind_eq_some_iff, Option.map_eq_some_iff] at hv
    obtain ⟨v, h1, r, h2, rfl⟩ := hv
    simp only [List.map_cons, VRs]
    exact ⟨_, _, rfl, ev_sound hG h.1 (hf.sub fun n hn => by simp [opdsT, hn]) h1, evs_sound hG h.2 (hf.sub fun n hn => by simp only [opdsT, List.flatMap_cons, List.mem_append]; exact .inr hn) h2⟩

/-! ### parts put into cells -/
theorem foldl_splice (vs : List Value) : ∀ (off k : Nat) (cs : Array Value), off + k + vs.length ≤ cs.size →
    ((vs.zipIdx k).foldl (fun cs (p : Value × Nat) => cs.setIfInBounds (off + p.2) p.1) cs).toList = cs.toList.take (off + k) ++ vs ++ cs.toList.drop (off + k + vs.length) := by
  induction vs with
  | nil => intro off k cs _; simp
  | cons v r ih =>
    intro off k cs h
    simp only [List.length_cons] at h
    rw [List.zipIdx_cons, List.foldl_cons, ih off (k + 1) _ (by simp; omega)]
    simp only [Array.toList_setIfInBounds]
    apply List.ext_getElem?
    intro j
    have hlen : cs.toList.length = cs.size := by simp
    simp only [List.getElem?_append, List.length_take, List.length_set, hlen, List.getElem?_take, List.getElem?_drop, List.length_append, List.length_cons, List.getElem?_set]
    by_cases h1 : j < off + k
    · rw [if_pos (by omega), if_pos (by omega), if_pos (by omega), if_neg (by omega), if_pos (by omega), if_pos (by omega), if_pos (by omega)]
    · by_cases h2 : j = off + k
      · subst h2
        rw [if_pos (by omega), if_pos (by omega), if_pos (by omega), if_pos rfl, if_pos (by omega), if_pos (by omega), if_neg (by omega)]
        rw [show off + k - min (off + k) cs.size = 0 by omega]
        rfl
      · by_cases h3 : j < off + k + 1 + r.length
        · rw [if_pos (by omega), if_neg (by omega), if_pos (by omega), if_neg (by omega)]
          rw [show j - min (off + k) cs.size = (j - min (off + (k + 1)) cs.size) + 1 by omega, List.getElem?_cons_succ]
        · rw [if_neg (by omega), if_neg (by omega)]
          rw [if_neg (by omega)]
          congr 1
          omega
theorem splice_VRs {m : LMap} {l : List AV} {cs : List Value} {news : List AV} {vs : List Value} (h : VRs m l cs) (hn : VRs m news vs) (off : Nat) : VRs m (l.take off ++ news ++ l.drop (off + news.length)) (cs.take off ++ vs ++ cs.drop (off + vs.length)) := by
  rw [hn.length]
  exact ((h.take off).append hn).append (h.drop _)
theorem fill_sound {m : LMap} (place : Nat → Option (Nat × Nat)) : ∀ (ps : List (Nat × Value)) (qs : List (Nat × Nat × AV)) (l r : List AV) (cs : Array Value), ps.length = qs.length →
    (∀ (j : Nat) (p : Nat × Value) (q : Nat × Nat × AV), ps[j]? = some p → qs[j]? = some q → place p.1 = some (q.1, q.2.1) ∧ VR m q.2.2 p.2) → VRs m l cs.toList → l.all oneCell = true → fillA l qs = some r →
    ∃ cs', Instr.fill place cs ps = some cs' ∧ VRs m r cs'.toList ∧ r.all oneCell = true
  | [], [], l, r, cs, _, _, hl, h1, hr => by simp only [fillA, Option.some.injEq] at hr; subst hr; exact ⟨cs, rfl, hl, h1⟩
  | [], _ :: _, _, _, _, h, _, _, _, _ => by simp at h
  | _ :: _, [], _, _, _, h, _, _, _, _ => by simp at h
  | (i, v) :: ps, (off, n, x) :: qs, l, r, cs, hlen, hp, hl, h1, hr => by
    obtain ⟨h2, h3⟩ := hp 0 _ _ rfl rfl
    simp only at h2 h3
    simp only [fillA] at hr
    split at hr
    · rename_i hc
      obtain ⟨hc1, hc2, hc3⟩ := hc
      obtain ⟨h4, h5⟩ := h3.cells hc3
      have h6 := h4.length
      have h7 := hl.length
      have hvs : v.cells.size = n := by rw [← hc1, ← h6]; simp
      have hsz : cs.size = l.length := by rw [← h7]; simp
      have hsp := foldl_splice v.cells.toList off 0 cs (by simp; omega)
      have hfold : v.cells.zipIdx.foldl (fun cs (c, j) => cs.setIfInBounds (off + j) c) cs = (v.cells.toList.zipIdx 0).foldl (fun cs (p : Value × Nat) => cs.setIfInBounds (off + p.2) p.1) cs := by
        rw [← Array.foldl_toList, Array.toList_zipIdx]
      have hnew : VRs m (l.take off ++ cellsOf x ++ l.drop (off + n)) (v.cells.zipIdx.foldl (fun cs (c, j) => cs.setIfInBounds (off + j) c) cs).toList := by
        rw [hfold, hsp]
        have := splice_VRs hl h4 off
        rw [hc1] at this
        simpa using this
      have hall : (l.take off ++ cellsOf x ++ l.drop (off + n)).all oneCell = true := by
        simp only [List.all_append, Bool.and_eq_true]
        refine ⟨⟨?_, hc3⟩, ?_⟩
        · rw [List.all_eq_true] at h1 ⊢; exact fun y hy => h1 y (List.mem_of_mem_take hy)
        · rw [List.all_eq_true] at h1 ⊢; exact fun y hy => h1 y (List.mem_of_mem_drop hy)
      obtain ⟨cs', h8, h9⟩ := fill_sound place ps qs _ r _ (by simpa using hlen) (fun j p q hj hq => hp (j + 1) p q (by simpa using hj) (by simpa using hq)) hnew hall hr
      refine ⟨cs', ?_, h9⟩
      unfold Instr.fill
      rw [h2]
      simp only []
      rw [if_neg (by simp [hvs]; omega)]
      exact h8
    · cases hr
end Go.Proofs.YtbpgbhmibmcbnaaGreatDoor.Ram

/-! The pure operations: the check, and what they come to. -/
namespace Go.Proofs.YtbpgbhmibmcbnaaGreatDoor.Ram
open Go Go.RowKit

def isAggB (P : Program) (t : TypeId) : Option Bool := match P.underlying t with
  | some (.struct _) => some true
  | some (.array _ _) => some true
  | some _ => some false
  | none => none
def sizeB (P : Program) (t : TypeId) : Option Nat := (P.info? t).map (·.size)

def okParts (G : List Nat) (pl : Nat → Option (Nat × Nat)) : List (Nat × Operand) → List (Nat × Nat × Opd) → Bool
  | [], [] => true
  | (i, x) :: l, (off, n, y) :: l' => (match pl i with | some p => decide (p.1 = off ∧ p.2 = n) | none => false) && okOpd G x y && okParts G pl l l'
  | _, _ => false
def okOptOpd (G : List Nat) : Option Operand → Option Opd → Bool
  | none, none => true
  | some x, some y => okOpd G x y
  | _, _ => false
def okZero (P : Program) (t : TypeId) (z : List AV) : Bool := match P.info? t with
  | some i => (match i.zero with | some v => okVals v.cells.toList z && z.all oneCell | none => false)
  | none => false
def structPlaces (P : Program) (t : TypeId) : Option (List (Nat × Nat)) := match P.underlying t with
  | some (.struct fields) => fields.toList.mapM (fun f => (P.info? f.type).map fun i => (f.offset, i.size))
  | _ => none
def okSlT (P : Program) (t : TypeId) (sz : Nat) : Bool := match P.underlying t with
  | some (.slice e) => decide (sizeB P e = some sz) && decide (0 < sz)
  | _ => false
def isStrT (P : Program) (t : TypeId) : Bool := match P.underlying t with | some .string => true | _ => false
def isIntT (P : Program) (t : TypeId) (k : IntKind) : Bool := match P.underlying t with | some (.int k') => decide (k' = k) | _ => false
def isAnyIntT (P : Program) (t : TypeId) : Bool := match P.underlying t with | some (.int _) => true | _ => false
def notIfcT (P : Program) (t : TypeId) : Bool := match P.underlying t with | some (.interface _) => false | some _ => true | none => false
def fieldB (P : Program) (s : TypeId) (f off : Nat) : Bool := match P.underlying s with
  | some (.struct fields) => (match fields[f]? with | some fd => decide (fd.offset = off) && (match sizeB P fd.type with | some n => decide (0 < n) | none => false) | none => false)
  | _ => false
def fieldV (P : Program) (s : TypeId) (f off n : Nat) (ag : Bool) : Bool := match P.underlying s with
  | some (.struct fields) => (match fields[f]? with | some fd => decide (fd.offset = off) && decide (isAggB P fd.type = some ag) && decide (sizeB P fd.type = some n) | none => false)
  | _ => false

def okPure (P : Program) (G : List Nat) : Op → AOp → Bool
  | .move x, .mov y => okOpd G x y
  | .assign x, .mov y => okOpd G x y
  | .pick c a b, .pick c' a' b' => okOpd G c c' && okOpd G a a' && okOpd G b b'
  | .move x, .pick (.c (.bool true)) y _ => okOpd G x y
  | .build t ps, .build z qs => okZero P t z && (match structPlaces P t with | some pl => okParts G (fun i => pl[i]?) ps.toList qs | none => false)
  | .nilCheck x, .nilchk y => okOpd G x y
  | .binOp op _ x y _, .bin op' x' y' => decide (op = op') && okOpd G x x' && okOpd G y y'
  | .unOp .not _ x, .not y => okOpd G x y
  | .unOp .neg _ x, .neg y => okOpd G x y
  | .convert src dst x, .conv k y => isAnyIntT P src && isIntT P dst k && okOpd G x y
  | .convert src dst x, .convS y => isStrT P src && isStrT P dst && okOpd G x y
  | .makeInterface t x, .mkIfc t' y => decide (t = t') && notIfcT P t && okOpd G x y
  | .makeFunc (.func f) first caps, .mkFn f' l => decide (f = f') && decide (first.size = 0) && okOpds G caps.toList l
  | .slice t x lo hi none, .slc sz y lo' hi' => (if sz = 0 then isStrT P t else okSlT P t sz) && okOpd G x y && okOptOpd G lo lo' && okOptOpd G hi hi'
  | .fieldAddr s x f, .fieldA off y => fieldB P s f off && okOpd G x y
  | .field s x f, .field off n ag y => fieldV P s f off n ag && okOpd G x y
  | .indexAddr t x i, .indexA sz y j => okSlT P t sz && okOpd G x y && okOpd G i j
  | .index t x i, .index y j => isStrT P t && okOpd G x y && okOpd G i j
  | .extract x i, .extract y j => decide (i = j) && okOpd G x y
  | .call ⟨.builtin .len, args, ts⟩, .len st y => (match args.toList, ts.toList with | [x], [t] => (if st then isStrT P t else (match P.underlying t with | some (.slice _) => true | _ => false)) && okOpd G x y | _, _ => false)
  | .call ⟨.builtin .min, args, _⟩, .minmax false y y' => (match args.toList with | [x, x'] => okOpd G x y && okOpd G x' y' | _ => false)
  | .call ⟨.builtin .max, args, _⟩, .minmax true y y' => (match args.toList with | [x, x'] => okOpd G x y && okOpd G x' y' | _ => false)
  | _, _ => false

theorem run_underlying' {P : Program} {t : TypeId} {d : TypeDesc} (h : P.underlying t = some d) (w : World) : (underlying t).run P w = .ok d w := by simp [underlying, h]

theorem toList_mk (z : List UInt8) : (⟨⟨z⟩⟩ : ByteArray).toList = z := by rw [ByteArray.toList_eq]
def BndIs (c : Option Value) (n d : Nat) : Prop := match c with
  | none => n = d
  | some v => ∃ k i, v = .int k i ∧ 0 ≤ i ∧ i.toNat = n
theorem run_bound_ok {P : Program} {w : World} {k : IntKind} {i : Int} {y : Nat} (code : BoundsCode) (h0 : 0 ≤ i) (h1 : i.toNat ≤ y) : (Instr.sliceBound (.int k i) y code).run P w = .ok i.toNat w := by
  have : i ≤ (y : Int) := by omega
  simp [Instr.sliceBound, asIntOf, h0, this]
theorem run_sliceBounds_ok {P : Program} {w : World} {isSlice : Bool} {len cap l h : Nat} (low high : Option Value)
    (hh : BndIs high h len) (hl : BndIs low l 0) (h1 : l ≤ h) (h2 : h ≤ cap) :
    (Instr.sliceBounds isSlice len cap low high none).run P w = .ok (l, h, cap) w := by
  cases high with
  | none =>
    simp only [BndIs] at hh; subst hh
    cases low with
    | none => simp only [BndIs] at hl; subst hl; simp [Instr.sliceBounds]
    | some v =>
      obtain ⟨k, i, rfl, h3, rfl⟩ := hl
      simp [Instr.sliceBounds, run_bound_ok _ h3 h1]
  | some v =>
    obtain ⟨k, i, rfl, h3, rfl⟩ := hh
    cases low with
    | none =>
      simp only [BndIs] at hl; subst hl
      simp [Instr.sliceBounds, run_bound_ok _ h3 h2]
    | some v =>
      obtain ⟨k', i', rfl, h4, rfl⟩ := hl
      simp [Instr.sliceBounds, run_bound_ok _ h3 h2, run_bound_ok _ h4 h1]

section
variable {P : Program} {G : List Nat} {m : LMap} {fr : Fr} {a : Act} (hG : GOk G m)
include hG

theorem natOf_sound {x : Operand} {y : Opd} (hok : okOpd G x y = true) (hf : FOn m fr a y.tmps) {v : AV} {n : Nat} (hv : y.ev fr = some v) (hn : natOf v = some n) : ∃ k i, a.eval x = .int k i ∧ 0 ≤ i ∧ i.toNat = n := by
  have h := ev_sound hG hok hf hv
  cases v <;> simp [natOf] at hn
  simp only [VR] at h
  exact ⟨_, _, h, hn.1, hn.2⟩

theorem parts_sound (pl : Nat → Option (Nat × Nat)) : ∀ {ps : List (Nat × Operand)} {qs : List (Nat × Nat × Opd)} {rs : List (Nat × Nat × AV)}, okParts G pl ps qs = true → FOn m fr a (partsT qs) → evParts fr qs = some rs →
    (ps.map fun p => (p.1, a.eval p.2)).length = rs.length ∧ ∀ (j : Nat) (p : Nat × Value) (q : Nat × Nat × AV), (ps.map fun p => (p.1, a.eval p.2))[j]? = some p → rs[j]? = some q → pl p.1 = some (q.1, q.2.1) ∧ VR m q.2.2 p.2
  | [], [], rs, _, _, h => by simp only [evParts, Option.some.injEq] at h; subst h; simp
  | [], _ :: _, _, h, _, _ => by simp [okParts] at h
  | _ :: _, [], _, h, _, _ => by simp [okParts] at h
  | (i, x) :: ps, (off, n, y) :: qs, rs, h, hf, hr => by
    simp only [okParts, Bool.and_eq_true] at h
    obtain ⟨⟨h1, h2⟩, h3⟩ := h
    simp only [evParts, Option.bind_eq_some_iff, Option.map_eq_some_iff] at hr
    obtain ⟨v, hv, r, hr, rfl⟩ := hr
    obtain ⟨e1, e2⟩ := parts_sound pl h3 (hf.sub fun n hn => by simp only [partsT, List.flatMap_cons, List.mem_append]; exact .inr hn) hr
    refine ⟨by simpa using e1, fun j p q hp hq => ?_⟩
    cases j with
    | zero =>
      simp at hp hq; subst hp; subst hq
      split at h1
      · rename_i p hp
        simp at h1
        obtain ⟨rfl, rfl⟩ := h1
        exact ⟨hp, ev_sound hG h2 (hf.sub fun n hn => by simp [partsT, hn]) hv⟩
      · cases h1
    | succ j => exact e2 j p q (by simpa using hp) (by simpa using hq)

def BndRel (o : Option AV) (c : Option Value) : Prop := match o, c with
  | none, none => True
  | some l, some v => ∀ n, natOf l = some n → ∃ k i, v = .int k i ∧ 0 ≤ i ∧ i.toNat = n
  | _, _ => False
omit hG in
theorem bnd_sound {d n : Nat} {o : Option AV} {c : Option Value} (h1 : BndRel o c) (h2 : bndA d o = some n) : BndIs c n d := by
  cases o <;> cases c <;> simp [BndRel, bndA] at h1 h2
  · subst h2; rfl
  · obtain ⟨k, i, e, h3, h4⟩ := h1 n h2; exact ⟨k, i, e, h3, h4⟩
omit hG in
theorem slc_sound {t : TypeId} {sz : Nat} (hok : (if sz = 0 then isStrT P t else okSlT P t sz) = true) {x : AV} {xv : Value} (hx : VR m x xv) {lo hi : Option AV} {low high : Option Value}
    (hlo : BndRel lo low) (hhi : BndRel hi high) {r : AV} (hr : slcA sz x lo hi = some r) :
    ∃ cv, VR m r cv ∧ ∀ w, (Instr.sliceAt t xv low high none).run P w = .ok cv w := by
  unfold slcA at hr
  cases x with
  | str s =>
    simp only [VR] at hx; subst hx
    simp only [Option.bind_eq_some_iff] at hr
    obtain ⟨l, hl, h, hh, hr⟩ := hr
    split at hr
    · rename_i hc
      simp only [Option.some.injEq] at hr; subst hr
      have hsz : (⟨⟨s⟩⟩ : ByteArray).size = s.length := rfl
      refine ⟨.string ⟨⟨(s.take h).drop l⟩⟩, by simp [VR], fun w => ?_⟩
      have hb := fun w => run_sliceBounds_ok (P := P) (w := w) (isSlice := false) (cap := s.length) low high (bnd_sound hhi hh) (bnd_sound hlo hl) hc.2.1 hc.2.2
      rw [if_pos hc.1] at hok
      have hst := hok
      unfold isStrT at hst
      split at hst
      · rename_i hu
        have hex : (⟨⟨s⟩⟩ : ByteArray).extract l h = ⟨⟨(s.take h).drop l⟩⟩ := by
          apply ByteArray.ext
          simp [ByteArray.data_extract, List.drop_take]
        simp [Instr.sliceAt, Instr.slice, run_underlying' hu, hsz, hb, hex]
      · cases hst
    · cases hr
  | sl p sz' len cap =>
    have hnz : sz ≠ 0 := by
      rintro rfl
      cases p <;> simp at hr
    rw [if_neg hnz] at hok
    unfold okSlT at hok
    split at hok
    · rename_i e hu
      simp only [Bool.and_eq_true, decide_eq_true_eq] at hok
      obtain ⟨hsz, hpos⟩ := hok
      unfold sizeB at hsz
      cases hi' : P.info? e with
      | none => rw [hi'] at hsz; cases hsz
      | some inf =>
        rw [hi'] at hsz
        simp at hsz
        have hso : ∀ w, (sizeOf e).run P w = .ok sz w := fun w => by simp [sizeOf, typeInfo, hi', hsz]
        cases p with
        | none =>
          simp only [Option.bind_eq_some_iff] at hr
          obtain ⟨l, hl, h, hh, hr⟩ := hr
          split at hr
          · rename_i hc
            obtain ⟨_, rfl, rfl⟩ := hc
            simp only [Option.some.injEq] at hr; subst hr
            simp only [VR] at hx
            obtain ⟨rfl, rfl⟩ := hx
            refine ⟨.slice none 0 0, by simp [nilSl, VR], fun w => ?_⟩
            have hb := fun w => run_sliceBounds_ok (P := P) (w := w) (isSlice := true) (len := 0) (cap := 0) low high (bnd_sound hhi hh) (bnd_sound hlo hl) (Nat.le_refl _) (Nat.le_refl _)
            simp [Instr.sliceAt, Instr.slice, run_underlying' hu, hb, hso]
          · cases hr
        | some q =>
          obtain ⟨i, off⟩ := q
          simp only [Option.bind_eq_some_iff] at hr
          obtain ⟨l, hl, h, hh, hr⟩ := hr
          split at hr
          · rename_i hc
            obtain ⟨_, rfl, h1, h2⟩ := hc
            simp only [Option.some.injEq] at hr; subst hr
            simp only [VR] at hx
            obtain ⟨loc, c, ad, hm, rfl, had, h3, h4, h5, h6⟩ := hx
            have hb := fun w => run_sliceBounds_ok (P := P) (w := w) (isSlice := true) (len := len) (cap := c) low high (bnd_sound hhi hh) (bnd_sound hlo hl) h1 (Nat.le_trans h2 h3)
            have hmul : l * sz' + (c - l) * sz' = c * sz' := by rw [← Nat.add_mul]; congr 1; omega
            refine ⟨.slice (some (if c = l then ad else ad.add (l * sz'))) (h - l) (c - l), ?_, fun w => ?_⟩
            · simp only [VR]
              refine ⟨loc, c - l, _, hm, rfl, fun hc0 => ?_, by omega, by omega, by omega, fun d hd => ?_⟩
              · rw [if_neg (by omega), had (by omega)]
                unfold Addr.add
                split
                · rename_i h0; rw [h0]; rfl
                · simp [Nat.add_assoc]
              · cases cap with
                | none => cases hd
                | some c0 => simp at hd; have := h6 c0 rfl; omega
            · simp [Instr.sliceAt, Instr.slice, run_underlying' hu, hb, hso]
              split <;> rfl
          · cases hr
    · cases hok
  | _ => cases hr

def OptEv (fr : Fr) (y : Option Opd) (o : Option AV) : Prop := match y with
  | none => o = none
  | some y => ∃ v, y.ev fr = some v ∧ o = some v
theorem optOpd_sound {x : Option Operand} {y : Option Opd} (hok : okOptOpd G x y = true) (hf : FOn m fr a (optT y)) {o : Option AV} (ho : OptEv fr y o) : BndRel o (x.map a.eval) := by
  cases x <;> cases y <;> simp [okOptOpd] at hok
  · simp only [OptEv] at ho; subst ho; simp [BndRel]
  · obtain ⟨v, hv, rfl⟩ := ho
    simp only [BndRel, Option.map_some]
    exact fun n hn => natOf_sound hG hok hf hv hn

omit hG in
theorem zero_sound {t : TypeId} {z : List AV} (h : okZero P t z = true) : ∃ i v, P.info? t = some i ∧ i.zero = some v ∧ VRs m z v.cells.toList ∧ z.all oneCell = true := by
  unfold okZero at h
  split at h
  · rename_i i hi
    split at h
    · rename_i v hv
      simp only [Bool.and_eq_true] at h
      exact ⟨i, v, hi, hv, okVals_sound h.1, h.2⟩
    · cases h
  · cases h
theorem build_sound {t : TypeId} {ps : Array (Nat × Operand)} {z : List AV} {qs : List (Nat × Nat × Opd)} (hz : okZero P t z = true) {pl : List (Nat × Nat)} (hpl : structPlaces P t = some pl) (hok : okParts G (fun i => pl[i]?) ps.toList qs = true)
    (hf : FOn m fr a (partsT qs)) {v : AV} (hv : pureA fr (.build z qs) = some v) : ∃ cv, VR m v cv ∧ ∀ w, (Instr.build t (ps.map fun (i, x) => (i, a.eval x))).run P w = .ok cv w := by
  obtain ⟨i, zv, h1, h2, h3, h4⟩ := zero_sound (m := m) hz
  simp only [pureA, Option.bind_eq_some_iff, Option.map_eq_some_iff] at hv
  obtain ⟨rs, hrs, r, hr, rfl⟩ := hv
  obtain ⟨e1, e2⟩ := parts_sound hG _ hok hf hrs
  obtain ⟨cs', h5, h6, h7⟩ := fill_sound (m := m) (fun i => pl[i]?) (ps.toList.map fun p => (p.1, a.eval p.2)) rs z r zv.cells e1 e2 h3 h4 hr
  refine ⟨.agg cs', by simp only [VR]; exact ⟨cs', rfl, h6, h7⟩, fun w => run_build w t _ cs' ?_⟩
  unfold structPlaces at hpl
  split at hpl
  · rename_i fields hu
    unfold Program.built
    rw [h1, hu]
    simp only [h2, hpl]
    simpa using h5
  · cases hpl

omit hG in
theorem vr_int (k : IntKind) (n : Int) : VR m (.int k n) (.int k n) := by simp only [VR]
omit hG in
theorem vr_bool (b : Bool) : VR m (.bool b) (.bool b) := by simp only [VR]
omit hG in
theorem vr_str (s : List UInt8) : VR m (.str s) (.string ⟨⟨s⟩⟩) := by simp only [VR]
omit hG in
theorem bin_sound {op : BinOp} {xt : TypeId} {x y : Operand} {u v r : AV} {cu cv : Value} (hu : VR m u cu) (hv : VR m v cv) (h : binA op u v = some r) : ∃ cr, VR m r cr ∧ ∀ w, (do eqGuard op xt x y cu cv; binOp op xt cu cv).run P w = .ok cr w := by
  unfold binA at h
  split at h
  · rename_i k n k' n'
    simp only [VR] at hu hv; subst hu; subst hv
    have hg : ∀ w, (eqGuard op xt x y (.int k n) (.int k' n')).run P w = .ok () w := fun w => by unfold eqGuard; split <;> rfl
    have hb : ∀ w (s : Sem Value), (do eqGuard op xt x y (.int k n) (.int k' n'); s).run P w = s.run P w := fun w s => by
      show (Sem.run P (eqGuard op xt x y (.int k n) (.int k' n') >>= fun _ => s) w) = _
      rw [Sem.run_bind, hg]; rfl
    cases op
    all_goals simp only [] at h
    case shl =>
      split at h
      · rename_i h0; obtain rfl := Option.some.inj h
        exact ⟨_, vr_int _ _, fun w => by rw [hb]; simp only [binOp, Op.shift]; rw [if_neg (by omega)]; rfl⟩
      · cases h
    case shr =>
      split at h
      · rename_i h0; obtain rfl := Option.some.inj h
        exact ⟨_, vr_int _ _, fun w => by rw [hb]; simp only [binOp, Op.shift]; rw [if_neg (by omega)]; rfl⟩
      · cases h
    case quo =>
      split at h
      · rename_i hk; subst hk
        split at h
        · cases h
        · rename_i hz; obtain rfl := Option.some.inj h
          exact ⟨_, vr_int _ _, fun w => by rw [hb]; simp [binOp, Op.intDiv, hz]⟩
      · cases h
    case rem =>
      split at h
      · rename_i hk; subst hk
        split at h
        · cases h
        · rename_i hz; obtain rfl := Option.some.inj h
          exact ⟨_, vr_int _ _, fun w => by rw [hb]; simp [binOp, Op.intDiv, hz]⟩
      · cases h
    case andNot =>
      split at h <;> cases h
    case add | sub | mul | and | or | xor =>
      split at h
      · rename_i hk; subst hk
        obtain rfl := Option.some.inj h
        exact ⟨_, vr_int _ _, fun w => by rw [hb]; simp [binOp, Op.intArith, Op.intBits]⟩
      · cases h
    case eql | neq | lss | leq | gtr | geq =>
      split at h
      · rename_i hk; subst hk
        obtain rfl := Option.some.inj h
        exact ⟨_, vr_bool _, fun w => by rw [hb]; simp [binOp, Op.intCmp]⟩
      · cases h
  · rename_i s s'
    simp only [VR] at hu hv; subst hu; subst hv
    have hg : ∀ w, (eqGuard op xt x y (.string ⟨⟨s⟩⟩) (.string ⟨⟨s'⟩⟩)).run P w = .ok () w := fun w => by unfold eqGuard; split <;> rfl
    have hb : ∀ w (q : Sem Value), (do eqGuard op xt x y (.string ⟨⟨s⟩⟩) (.string ⟨⟨s'⟩⟩); q).run P w = q.run P w := fun w q => by
      show (Sem.run P (eqGuard op xt x y (.string ⟨⟨s⟩⟩) (.string ⟨⟨s'⟩⟩) >>= fun _ => q) w) = _
      rw [Sem.run_bind, hg]; rfl
    have ht : ∀ z : List UInt8, (⟨⟨z⟩⟩ : ByteArray).toList = z := fun z => toList_mk z
    have hsz : ∀ z : List UInt8, (⟨⟨z⟩⟩ : ByteArray).size = z.length := fun z => rfl
    cases op
    all_goals simp only [] at h
    case add =>
      split at h
      · rename_i h0; obtain rfl := Option.some.inj h
        refine ⟨.string ⟨⟨s ++ s'⟩⟩, vr_str _, fun w => ?_⟩
        rw [hb]
        simp only [binOp, Op.stringOp, hsz]
        rw [if_neg (by omega)]
        congr 2
      · cases h
    case eql | neq | lss | leq | gtr | geq =>
      obtain rfl := Option.some.inj h
      exact ⟨_, vr_bool _, fun w => by rw [hb]; simp [binOp, Op.stringOp, ht, bytesLt]⟩
    all_goals cases h
  · cases h

theorem pure_sound {o : Oper} {ao : AOp} (hok : okPure P G o.op ao = true) (hf : FOn m fr a ao.tmps) {v : AV} (hv : pureA fr ao = some v) : ∃ cv, VR m v cv ∧ ∀ w, (execOp a.eval o).run P w = .ok (.value cv) w := by
  obtain ⟨dst, op, type, pos, after, guard⟩ := o
  simp only at hok
  unfold okPure at hok
  split at hok
  · -- move
    rename_i x y
    simp only [pureA] at hv
    exact ⟨_, ev_sound hG hok hf hv, fun w => rfl⟩
  · rename_i x y
    simp only [pureA] at hv
    exact ⟨_, ev_sound hG hok hf hv, fun w => rfl⟩
  · -- pick
    rename_i c a' b' c' a'' b''
    simp only [Bool.and_eq_true] at hok
    simp only [AOp.tmps] at hf
    simp only [pureA] at hv
    split at hv
    · rename_i hc
      have h1 := ev_sound hG hok.1.1 (hf.sub fun n hn => by simp [hn]) hc
      simp only [VR] at h1
      exact ⟨_, ev_sound hG hok.1.2 (hf.sub fun n hn => by simp [hn]) hv, fun w => by simp [execOp, h1, asBool]⟩
    · rename_i hc
      have h1 := ev_sound hG hok.1.1 (hf.sub fun n hn => by simp [hn]) hc
      simp only [VR] at h1
      exact ⟨_, ev_sound hG hok.2 (hf.sub fun n hn => by simp [hn]) hv, fun w => by simp [execOp, h1, asBool]⟩
    · cases hv
  · -- a move that keeps the right where it is
    rename_i x y z
    simp only [AOp.tmps] at hf
    simp only [pureA, Opd.ev] at hv
    exact ⟨_, ev_sound hG hok (hf.sub fun n hn => by simp [hn]) hv, fun w => rfl⟩
  · -- build
    rename_i t ps z qs
    simp only [Bool.and_eq_true] at hok
    split at hok
    · rename_i pl hpl
      obtain ⟨cv, h1, h2⟩ := build_sound hG hok.1 hpl hok.2 hf hv
      exact ⟨cv, h1, fun w => by simp [execOp, h2]⟩
    · simp at hok
  · -- nilchk
    rename_i x y
    simp only [pureA] at hv
    split at hv
    · rename_i p hp
      simp only [Option.some.injEq] at hv; subst hv
      have h1 := ev_sound hG hok hf hp
      obtain ⟨i, off⟩ := p
      have h2 := h1
      simp only [VR] at h2
      obtain ⟨loc, hm, e⟩ := h2
      exact ⟨_, h1, fun w => by simp [execOp, e]⟩
    · cases hv
  · -- bin
    rename_i op xt x y yt op' x' y'
    simp only [Bool.and_eq_true, decide_eq_true_eq] at hok
    obtain ⟨⟨rfl, h1⟩, h2⟩ := hok
    simp only [pureA, Option.bind_eq_some_iff] at hv
    obtain ⟨u, hu, v', hv', hr⟩ := hv
    obtain ⟨cr, h3, h4⟩ := bin_sound (P := P) (xt := xt) (x := x) (y := y) (ev_sound hG h1 (hf.sub fun n hn => by simp [AOp.tmps, hn]) hu) (ev_sound hG h2 (hf.sub fun n hn => by simp [AOp.tmps, hn]) hv') hr
    refine ⟨cr, h3, fun w => ?_⟩
    have := h4 w
    simp only [execOp]
    show (Sem.run P ((eqGuard op xt x y (a.eval x) (a.eval y) >>= fun _ => binOp op xt (a.eval x) (a.eval y)) >>= fun v => pure (Next.value v)) w) = _
    rw [Sem.run_bind, this]; rfl
  · -- not
    rename_i ty x y
    simp only [pureA] at hv
    split at hv
    · rename_i b hb
      simp only [Option.some.injEq] at hv; subst hv
      have h1 := ev_sound hG hok hf hb
      simp only [VR] at h1
      exact ⟨.bool !b, by simp [VR], fun w => by simp [execOp, h1, Op.unary]⟩
    · cases hv
  · rename_i ty x y
    simp only [pureA] at hv
    split at hv
    · rename_i k n hb
      simp only [Option.some.injEq] at hv; subst hv
      have h1 := ev_sound hG hok hf hb
      simp only [VR] at h1
      exact ⟨.int k (k.wrap (-n)), by simp [VR], fun w => by simp [execOp, h1, Op.unary, Op.intArith]⟩
    · cases hv
  · -- conv
    rename_i src dst' x k y
    simp only [Bool.and_eq_true] at hok
    obtain ⟨⟨h1, h2⟩, h3⟩ := hok
    simp only [pureA] at hv
    split at hv
    · rename_i k' n hx
      obtain rfl := Option.some.inj hv
      have h4 := ev_sound hG h3 hf hx
      simp only [VR] at h4
      unfold isAnyIntT at h1
      unfold isIntT at h2
      split at h1
      · rename_i ks hs
        split at h2
        · rename_i kd hd
          simp only [decide_eq_true_eq] at h2; subst h2
          exact ⟨_, vr_int _ _, fun w => by simp [execOp, convert, run_underlying' hs, run_underlying' hd, h4, Conv.intToInt]⟩
        · cases h2
      · cases h1
    · cases hv
  · -- convS
    rename_i src dst' x y
    simp only [Bool.and_eq_true] at hok
    obtain ⟨⟨h1, h2⟩, h3⟩ := hok
    simp only [pureA] at hv
    split at hv
    · rename_i s hx
      obtain rfl := Option.some.inj hv
      have h4 := ev_sound hG h3 hf hx
      simp only [VR] at h4
      unfold isStrT at h1 h2
      split at h1
      · rename_i hs
        split at h2
        · rename_i hd
          exact ⟨_, vr_str _, fun w => by simp [execOp, convert, run_underlying' hs, run_underlying' hd, h4]⟩
        · cases h2
      · cases h1
    · cases hv
  · -- mkIfc
    rename_i t x t' y
    simp only [Bool.and_eq_true, decide_eq_true_eq] at hok
    obtain ⟨⟨rfl, h1⟩, h2⟩ := hok
    simp only [pureA, Option.map_eq_some_iff] at hv
    obtain ⟨u, hu, rfl⟩ := hv
    have h4 := ev_sound hG h2 hf hu
    refine ⟨.iface t (a.eval x), by simp only [VR]; exact ⟨_, rfl, h4⟩, fun w => ?_⟩
    unfold notIfcT at h1
    split at h1
    · cases h1
    · rename_i d hne hd
      cases d <;> first
        | exact absurd rfl (hne _)
        | simp [execOp, Instr.makeInterface, run_underlying' hd]
    · cases h1
  · -- mkFn
    rename_i f first caps f' l
    simp only [Bool.and_eq_true, decide_eq_true_eq] at hok
    obtain ⟨⟨rfl, h1⟩, h2⟩ := hok
    simp only [pureA, Option.map_eq_some_iff] at hv
    obtain ⟨vs, hvs, rfl⟩ := hv
    have h4 := evs_sound hG h2 hf hvs
    have h5 : first = #[] := by simpa using h1
    subst h5
    exact ⟨.func (.func f) #[] (caps.map a.eval), by simp only [VR]; exact ⟨_, rfl, by simpa using h4⟩, fun w => by simp [execOp, Instr.makeFunc]⟩
  · -- slc
    rename_i t x lo hi sz y lo' hi'
    simp only [Bool.and_eq_true] at hok
    obtain ⟨⟨⟨h1, h2⟩, h3⟩, h4⟩ := hok
    simp only [pureA, Option.bind_eq_some_iff] at hv
    obtain ⟨u, hu, hv⟩ := hv
    have hx := ev_sound hG h2 (hf.sub fun n hn => by simp [AOp.tmps, hn]) hu
    have hfl : FOn m fr a (optT lo') := hf.sub fun n hn => by simp [AOp.tmps, hn]
    have hfh : FOn m fr a (optT hi') := hf.sub fun n hn => by simp [AOp.tmps, hn]
    have fin : ∀ (l h : Option AV), OptEv fr lo' l → OptEv fr hi' h → slcA sz u l h = some v →
        ∃ cv, VR m v cv ∧ ∀ w, (execOp a.eval { dst, op := .slice t x lo hi none, type, pos, after, guard }).run P w = .ok (.value cv) w := fun l h hl hh hr => by
      obtain ⟨cv, h5, h6⟩ := slc_sound (P := P) h1 hx (optOpd_sound hG h3 hfl hl) (optOpd_sound hG h4 hfh hh) hr
      exact ⟨cv, h5, fun w => by simp [execOp, h6]⟩
    cases lo' <;> cases hi'
    · exact fin none none rfl rfl hv
    · simp only [Option.bind_eq_some_iff] at hv
      obtain ⟨h, hh, hv⟩ := hv
      exact fin none (some h) rfl ⟨h, hh, rfl⟩ hv
    · simp only [Option.bind_eq_some_iff] at hv
      obtain ⟨l, hl, hv⟩ := hv
      exact fin (some l) none ⟨l, hl, rfl⟩ rfl hv
    · simp only [Option.bind_eq_some_iff] at hv
      obtain ⟨l, hl, h, hh, hv⟩ := hv
      exact fin (some l) (some h) ⟨l, hl, rfl⟩ ⟨h, hh, rfl⟩ hv
  · -- fieldA
    rename_i s x f off y
    simp only [Bool.and_eq_true] at hok
    obtain ⟨h1, h2⟩ := hok
    simp only [pureA] at hv
    split at hv
    · rename_i i o hx
      obtain rfl := Option.some.inj hv
      have h4 := ev_sound hG h2 hf hx
      simp only [VR] at h4
      obtain ⟨loc, hm, h5⟩ := h4
      unfold fieldB at h1
      split at h1
      · rename_i fields hu
        split at h1
        · rename_i fd hfd
          simp only [Bool.and_eq_true, decide_eq_true_eq] at h1
          obtain ⟨rfl, h6⟩ := h1
          split at h6
          · rename_i n hn
            simp only [decide_eq_true_eq] at h6
            refine ⟨.pointer (some ⟨loc.b, loc.o + (o + fd.offset), none⟩), by simp only [VR]; exact ⟨loc, hm, rfl⟩, fun w => ?_⟩
            have hsz : ∀ w, (sizeOf fd.type).run P w = .ok n w := fun w => by
              unfold sizeB at hn
              cases hi : P.info? fd.type with
              | none => rw [hi] at hn; cases hn
              | some inf => rw [hi] at hn; simp at hn; simp [sizeOf, typeInfo, hi, hn]
            have hadd : (⟨loc.b, loc.o + o, none⟩ : Addr).add fd.offset = ⟨loc.b, loc.o + (o + fd.offset), none⟩ := by
              unfold Addr.add
              split
              · rename_i h0; rw [h0]; rfl
              · simp [Nat.add_assoc]
            simp only [execOp, Instr.fieldAt, fieldPlace, h5, Instr.sureAddr]
            simp [run_underlying' hu, hfd, hsz, hadd, show ¬ n = 0 by omega]
          · cases h6
        · cases h1
      · cases h1
    · cases hv
  · -- field
    rename_i s x f off n ag y
    simp only [Bool.and_eq_true] at hok
    obtain ⟨h1, h2⟩ := hok
    simp only [pureA] at hv
    split at hv
    · rename_i l hx
      have h4 := ev_sound hG h2 hf hx
      simp only [VR] at h4
      obtain ⟨cs, h5, h6, h7⟩ := h4
      unfold fieldV at h1
      split at h1
      · rename_i fields hu
        split at h1
        · rename_i fd hfd
          simp only [Bool.and_eq_true, decide_eq_true_eq] at h1
          obtain ⟨⟨rfl, h8⟩, h9⟩ := h1
          have hsz : ∀ w, (sizeOf fd.type).run P w = .ok n w := fun w => by
            unfold sizeB at h9
            cases hi : P.info? fd.type with
            | none => rw [hi] at h9; cases h9
            | some inf => rw [hi] at h9; simp at h9; simp [sizeOf, typeInfo, hi, h9]
          have hag : ∀ w, (isAgg fd.type).run P w = .ok ag w := fun w => by
            unfold isAggB at h8
            unfold isAgg
            cases hq : P.underlying fd.type with
            | none => rw [hq] at h8; cases h8
            | some d =>
              rw [hq] at h8
              simp only [Sem.run_bind, run_underlying' hq, Result.andThen]
              cases d <;> simp at h8 <;> subst h8 <;> rfl
          cases ag with
          | true =>
            simp only [if_true] at hv
            split at hv
            · rename_i hle
              obtain rfl := Option.some.inj hv
              refine ⟨.agg (cs.extract fd.offset (fd.offset + n)), ?_, fun w => ?_⟩
              · simp only [VR]
                refine ⟨_, rfl, ?_, ?_⟩
                · have := (h6.drop fd.offset).take n
                  simpa [Array.toList_extract, List.extract_eq_take_drop] using this
                · rw [List.all_eq_true] at h7 ⊢; exact fun y hy => h7 y (List.mem_of_mem_drop (List.mem_of_mem_take hy))
              · simp only [execOp, Instr.field, h5]
                simp [run_underlying' hu, hfd, part, hag, hsz, asAgg]
            · cases hv
          | false =>
            simp only [Bool.false_eq_true, if_false] at hv
            obtain ⟨cv, h10, h11⟩ := h6.get hv
            refine ⟨cv, h11, fun w => ?_⟩
            simp only [execOp, Instr.field, h5]
            have : cs[fd.offset]? = some cv := by simpa using h10
            simp [run_underlying' hu, hfd, part, hag, asAgg, this]
        · cases h1
      · cases h1
    · cases hv
  · -- indexA
    rename_i t x i sz y j
    simp only [Bool.and_eq_true] at hok
    obtain ⟨⟨h1, h2⟩, h3⟩ := hok
    simp only [pureA, Option.bind_eq_some_iff] at hv
    obtain ⟨u, hu, k, hk, hv⟩ := hv
    have h4 := ev_sound hG h2 (hf.sub fun n hn => by simp [AOp.tmps, hn]) hu
    have h5 := ev_sound hG h3 (hf.sub fun n hn => by simp [AOp.tmps, hn]) hk
    unfold indexAA at hv
    split at hv
    · rename_i id off sz' len cap kk n
      split at hv
      · rename_i hc
        obtain ⟨rfl, h6, h7⟩ := hc
        obtain rfl := Option.some.inj hv
        simp only [VR] at h4 h5
        obtain ⟨loc, c, ad, hm, e, had, h8, h9, h10, h11⟩ := h4
        have hc0 : 0 < c := by omega
        rw [had hc0] at e
        refine ⟨.pointer (some ⟨loc.b, loc.o + (off + n.toNat * sz'), none⟩), by simp only [VR]; exact ⟨loc, hm, rfl⟩, fun w => ?_⟩
        unfold okSlT at h1
        split at h1
        · rename_i el hel
          simp only [Bool.and_eq_true, decide_eq_true_eq] at h1
          have hsz : ∀ w, (sizeOf el).run P w = .ok sz' w := fun w => by
            have h1 := h1.1
            unfold sizeB at h1
            cases hi : P.info? el with
            | none => rw [hi] at h1; cases h1
            | some inf => rw [hi] at h1; simp at h1; simp [sizeOf, typeInfo, hi, h1]
          have hadd : (⟨loc.b, loc.o + off, none⟩ : Addr).add (n.toNat * sz') = ⟨loc.b, loc.o + (off + n.toNat * sz'), none⟩ := by
            unfold Addr.add
            split
            · rename_i h0; rw [h0]; rfl
            · simp [Nat.add_assoc]
          simp only [execOp, Instr.indexAt, e, h5]
          simp [run_underlying' hel, asIntOf, h6, h7, hsz, hadd]
        · cases h1
      · cases hv
    · cases hv
  · -- index
    rename_i t x i y j
    simp only [Bool.and_eq_true] at hok
    obtain ⟨⟨h1, h2⟩, h3⟩ := hok
    simp only [pureA] at hv
    split at hv
    · rename_i s k n hs hn
      have h4 := ev_sound hG h2 (hf.sub fun n hn => by simp [AOp.tmps, hn]) hs
      have h5 := ev_sound hG h3 (hf.sub fun n hn => by simp [AOp.tmps, hn]) hn
      simp only [VR] at h4 h5
      split at hv
      · rename_i h0
        simp only [Option.map_eq_some_iff] at hv
        obtain ⟨b, hb, rfl⟩ := hv
        refine ⟨_, vr_int _ _, fun w => ?_⟩
        unfold isStrT at h1
        split at h1
        · rename_i hu
          have hget : (⟨⟨s⟩⟩ : ByteArray)[n.toNat]? = some b := by
            rw [getElem?_def]
            have hlt : n.toNat < s.length := (List.getElem?_eq_some_iff.1 hb).1
            have hlt' : n.toNat < (⟨⟨s⟩⟩ : ByteArray).size := hlt
            rw [dif_pos hlt']
            congr 1
            exact (List.getElem?_eq_some_iff.1 hb).2
          simp only [execOp, Instr.index, h4, h5]
          simp [run_underlying' hu, asIntOf, h0, hget]
        · cases h1
      · cases hv
    · cases hv
  · -- extract
    rename_i x i y j
    simp only [Bool.and_eq_true, decide_eq_true_eq] at hok
    obtain ⟨rfl, h2⟩ := hok
    simp only [pureA] at hv
    split at hv
    · rename_i l hl
      have h4 := ev_sound hG h2 hf hl
      simp only [VR] at h4
      obtain ⟨cs, h5, h6⟩ := h4
      obtain ⟨cv, h7, h8⟩ := h6.get hv
      refine ⟨cv, h8, fun w => ?_⟩
      have : cs[i]? = some cv := by simpa using h7
      simp [execOp, Instr.extract, h5, this]
    · cases hv
  · -- len
    rename_i args ts st y
    split at hok
    · rename_i x t hargs hts
      simp only [Bool.and_eq_true] at hok
      obtain ⟨h1, h2⟩ := hok
      have ha : args = #[x] := by rw [← Array.toArray_toList (xs := args), hargs]
      have ht : ts = #[t] := by rw [← Array.toArray_toList (xs := ts), hts]
      subst ha; subst ht
      simp only [pureA] at hv
      split at hv
      · rename_i p sz n cap hx
        split at hv
        · rename_i hst; subst hst
          obtain rfl := Option.some.inj hv
          have h4 := ev_sound hG h2 hf hx
          refine ⟨_, vr_int _ _, fun w => ?_⟩
          simp only [Bool.false_eq_true, if_false] at h1
          split at h1
          · rename_i e hu
            have : ∃ ad c, a.eval x = .slice ad n c := by
              cases p with
              | none => simp only [VR] at h4; obtain ⟨h4, rfl⟩ := h4; exact ⟨_, _, h4⟩
              | some q => obtain ⟨i, off⟩ := q; simp only [VR] at h4; obtain ⟨_, _, _, _, h4, _⟩ := h4; exact ⟨_, _, h4⟩
            obtain ⟨ad, c, e⟩ := this
            simp [execOp, resolve, invoke, builtin, Builtin.len_, run_underlying' hu, e, goInt]
          · cases h1
        · cases hv
      · rename_i s hx
        split at hv
        · rename_i hst; subst hst
          obtain rfl := Option.some.inj hv
          have h4 := ev_sound hG h2 hf hx
          simp only [VR] at h4
          refine ⟨_, vr_int _ _, fun w => ?_⟩
          simp only [if_true] at h1
          unfold isStrT at h1
          split at h1
          · rename_i hu
            have : (⟨⟨s⟩⟩ : ByteArray).size = s.length := rfl
            simp [execOp, resolve, invoke, builtin, Builtin.len_, run_underlying' hu, h4, goInt, this]
          · cases h1
        · cases hv
      · cases hv
    · cases hok
  · -- min
    rename_i args ts y y'
    split at hok
    · rename_i x x' hargs
      simp only [Bool.and_eq_true] at hok
      have ha : args = #[x, x'] := by rw [← Array.toArray_toList (xs := args), hargs]
      subst ha
      simp only [pureA] at hv
      split at hv
      · rename_i k n k' n' h1 h2
        split at hv
        · rename_i hk; subst hk
          obtain rfl := Option.some.inj hv
          have h4 := ev_sound hG hok.1 (hf.sub fun n hn => by simp [AOp.tmps, hn]) h1
          have h5 := ev_sound hG hok.2 (hf.sub fun n hn => by simp [AOp.tmps, hn]) h2
          simp only [VR] at h4 h5
          exact ⟨_, vr_int _ _, fun w => by simp [execOp, resolve, invoke, builtin, Builtin.min_, Builtin.min2, h4, h5]⟩
        · cases hv
      · cases hv
    · cases hok
  · -- max
    rename_i args ts y y'
    split at hok
    · rename_i x x' hargs
      simp only [Bool.and_eq_true] at hok
      have ha : args = #[x, x'] := by rw [← Array.toArray_toList (xs := args), hargs]
      subst ha
      simp only [pureA] at hv
      split at hv
      · rename_i k n k' n' h1 h2
        split at hv
        · rename_i hk; subst hk
          obtain rfl := Option.some.inj hv
          have h4 := ev_sound hG hok.1 (hf.sub fun n hn => by simp [AOp.tmps, hn]) h1
          have h5 := ev_sound hG hok.2 (hf.sub fun n hn => by simp [AOp.tmps, hn]) h2
          simp only [VR] at h4 h5
          exact ⟨_, vr_int _ _, fun w => by simp [execOp, resolve, invoke, builtin, Builtin.max_, Builtin.max2, h4, h5]⟩
        · cases hv
      · cases hv
    · cases hok
  · cases hok
end
end Go.Proofs.YtbpgbhmibmcbnaaGreatDoor.Ram

/-! The operations that read memory alone. -/
namespace Go.Proofs.YtbpgbhmibmcbnaaGreatDoor.Ram
open Go Go.RowKit

def okKind (P : Program) (t : TypeId) : Nat → Bool
  | 0 => isAnyIntT P t
  | 1 => isStrT P t
  | 2 => (match P.underlying t with | some .bool => true | _ => false)
  | _ => false
def okFlat (P : Program) : List Field → Nat → List Nat → Bool
  | [], _, [] => true
  | f :: fs, j, k :: ks => decide (f.offset = j) && decide (f.name ≠ "_") && okKind P f.type k && okFlat P fs (j + 1) ks
  | _, _, _ => false
def okEqK (P : Program) (t : TypeId) : EqK → Bool
  | .bool => (match P.underlying t with | some .bool => true | _ => false)
  | .ptr => (match P.underlying t with | some (.pointer e) => (match sizeB P e with | some n => decide (0 < n) | none => false) | _ => false)
  | .ifc => (match P.underlying t with | some (.interface _) => true | _ => false)
  | .flat ks => (match P.underlying t with | some (.struct fs) => okFlat P fs.toList 0 ks | _ => false) && !P.stoodInHeld t && !P.eqGuardType P.depth t
  | .nilS => (match P.underlying t with | some (.slice _) => true | _ => false)
  | .nilM => (match P.underlying t with | some (.map _ _) => true | _ => false)
  | .nilF => (match P.underlying t with | some (.func ..) => true | _ => false)
def okEnv (P : Program) (G : List Nat) (E : Env) : Bool := (E.sent.all fun s => G.contains (1000 + s)) && E.ptrTypes.all fun t => (match P.info? t with | some i => i.comparable | none => false) && okEqK P t .ptr
def okRead (P : Program) (G : List Nat) : Op → AOp → Bool
  | .load t x, .load n ag y => decide (isAggB P t = some ag) && decide (sizeB P t = some n) && okOpd G x y
  | .binOp .eql t x y _, .eq false k x' y' => okEqK P t k && okOpd G x x' && okOpd G y y'
  | .binOp .neq t x y _, .eq true k x' y' => okEqK P t k && okOpd G x x' && okOpd G y y'
  | .lookup t mm k ok, .lookup d ok' m' k' => decide (ok = ok') && (match P.underlying t with
      | some (.map kt et) => isStrT P kt && (match P.info? et with | some i => (match i.zero with | some z => okVal z d | none => false) | none => false)
      | _ => false) && okOpd G mm m' && okOpd G k k'
  | _, _ => false

theorem cell_of {w : World} {b o : Nat} {c : Array Value} {e : TypeId} {f : Nat × Nat} (h : w.heap[b]? = some (.cells c e f)) : w.cell? ⟨b, o, none⟩ = c[o]? := by
  simp [World.cell?, h]
theorem frozen_of {w : World} {b o : Nat} {c : Array Value} {e : TypeId} (h : w.heap[b]? = some (.cells c e (0, 0))) : w.frozen? ⟨b, o, none⟩ = false := by
  simp [World.frozen?, h]
theorem shape_of {w : World} {b : Nat} {c : Array Value} {e : TypeId} {f : Nat × Nat} (h : w.heap[b]? = some (.cells c e f)) : w.shape? b = some (e, c.size) := by
  simp [World.shape?, h]

theorem run_sameAddr' {P : Program} {w : World} {b1 b2 o1 o2 : Nat} {c1 c2 : Array Value} {e1 e2 : TypeId} (h1 : w.heap[b1]? = some (.cells c1 e1 (0, 0))) (h2 : w.heap[b2]? = some (.cells c2 e2 (0, 0))) :
    (sameAddr ⟨b1, o1, none⟩ ⟨b2, o2, none⟩).run P w = .ok (decide (b1 = b2 ∧ o1 = o2)) w := by
  by_cases hb : b1 = b2
  · subst hb
    simp [sameAddr]
    by_cases ho : o1 = o2
    · subst ho; simp
    · simp [ho]
  · simp [sameAddr, hb, noView, viewAt, mayBeOne, stringish, frozen_of h1, frozen_of h2, shape_of h1, shape_of h2]

section
variable {P : Program} {G : List Nat} {m : LMap} {H : AH} {w : World} {fr : Fr} {a : Act}
theorem live_sound (hh : HR m H w) {i : Nat} {loc : Loc} (hm : m i = some loc) (hl : H.live i = true) : ∃ c e, w.heap[loc.b]? = some (.cells c e (0, 0)) := by
  unfold AH.live at hl
  split at hl
  · rename_i l r hg
    obtain ⟨c, e, f, h1, h2, _⟩ := hh.ok _ _ _ hm hg
    obtain ⟨rfl, _⟩ := h2 (.inl (by simpa using hl))
    exact ⟨c, e, h1⟩
  · cases hl
theorem there_sound (hh : HR m H w) {i : Nat} {loc : Loc} (hm : m i = some loc) (hz : loc.z = true) (hl : H.there i = true) : ∃ c e, w.heap[loc.b]? = some (.cells c e (0, 0)) := by
  unfold AH.there at hl
  split at hl
  · rename_i l r hg
    obtain ⟨c, e, f, h1, h2, _⟩ := hh.ok _ _ _ hm hg
    obtain ⟨rfl, _⟩ := h2 (.inr hz)
    exact ⟨c, e, h1⟩
  · cases hl
theorem ptrEq_sound {E : Env} (hE : okEnv P G E = true) (hG : GOk G m) (hh : HR m H w) {p q : Option (Nat × Nat)} {v u : Value} (hv : VR m (.ptr p) v) (hu : VR m (.ptr q) u) {r : Bool} (hr : ptrEq E H p q = some r) (d : Nat) {t e : TypeId} {n : Nat} (ht : P.underlying t = some (.pointer e)) (he : sizeB P e = some n) (hn : 0 < n) :
    (Op.equalIn (d + 1) t v u).run P w = .ok r w := by
  have hsz : ∀ w, (sizeOf e).run P w = .ok n w := fun w => by
    unfold sizeB at he
    cases hi : P.info? e with
    | none => rw [hi] at he; cases he
    | some inf => rw [hi] at he; simp at he; simp [sizeOf, typeInfo, hi, he]
  cases p with
  | none =>
    simp only [VR] at hv; subst hv
    cases q with
    | none => simp only [VR] at hu; subst hu; simp [ptrEq] at hr; subst hr; simp [Op.equalIn, run_underlying' ht]
    | some q => obtain ⟨j, o'⟩ := q; simp only [VR] at hu; obtain ⟨_, _, rfl⟩ := hu; simp [ptrEq] at hr; subst hr; simp [Op.equalIn, run_underlying' ht]
  | some p =>
    obtain ⟨i, o⟩ := p
    simp only [VR] at hv
    obtain ⟨li, hi, rfl⟩ := hv
    cases q with
    | none => simp only [VR] at hu; subst hu; simp [ptrEq] at hr; subst hr; simp [Op.equalIn, run_underlying' ht]
    | some q =>
      obtain ⟨j, o'⟩ := q
      simp only [VR] at hu
      obtain ⟨lj, hj, rfl⟩ := hu
      simp only [ptrEq] at hr
      split at hr
      · rename_i hl
        simp only [Bool.and_eq_true] at hl
        obtain ⟨c1, e1, h1⟩ := live_sound hh hi hl.1
        obtain ⟨c2, e2, h2⟩ := live_sound hh hj hl.2
        obtain rfl := Option.some.inj hr
        simp only [Op.equalIn, Sem.run_bind, run_underlying' ht, Result.andThen_ok, hsz]
        simp only [show n ≠ 0 by omega, ne_eq, not_false_eq_true, if_true]
        rw [run_sameAddr' h1 h2]
        congr 1
        by_cases hij : i = j
        · subst hij
          rw [hi] at hj
          obtain rfl := Option.some.inj hj
          by_cases ho : o = o' <;> simp [ho]
        · have hne : li.b ≠ lj.b := by
            have hg : ∀ k, H.live k = true → ∃ ob, H.get k = some ob ∧ shar k ob.ro = false := fun k hk => by
              unfold AH.live at hk
              split at hk
              · rename_i l r hg; exact ⟨_, hg, by simp only [Bool.not_eq_true'] at hk; simp [shar, AObj.ro, hk]⟩
              · cases hk
            obtain ⟨oi, hoi, e1⟩ := hg i hl.1
            obtain ⟨oj, hoj, _⟩ := hg j hl.2
            exact hh.sep i j li lj oi oj hi hj hoi hoj hij (by rw [e1]; rfl)
          simp [hne, hij]
      · split at hr
        · rename_i hl
          simp only [Bool.and_eq_true, List.contains_iff_mem, beq_iff_eq] at hl
          obtain ⟨⟨⟨s1, s2⟩, t1, t2⟩, rfl, rfl⟩ := hl
          simp only [okEnv, Bool.and_eq_true, List.all_eq_true] at hE
          have g1 : 1000 + i ∈ G := by simpa using hE.1 i s1
          have g2 : 1000 + j ∈ G := by simpa using hE.1 j s2
          obtain ⟨k1, e1, z1⟩ := hG.sent i g1
          obtain ⟨k2, e2, z2⟩ := hG.sent j g2
          rw [hi] at e1; obtain rfl := Option.some.inj e1
          rw [hj] at e2; obtain rfl := Option.some.inj e2
          obtain ⟨c1, e1, h1⟩ := there_sound hh hi z1 t1
          obtain ⟨c2, e2, h2⟩ := there_sound hh hj z2 t2
          obtain rfl := Option.some.inj hr
          simp only [Op.equalIn, Sem.run_bind, run_underlying' ht, Result.andThen_ok, hsz]
          simp only [show n ≠ 0 by omega, ne_eq, not_false_eq_true, if_true]
          rw [run_sameAddr' h1 h2]
          congr 1
          by_cases hij : i = j
          · subst hij
            rw [hi] at hj
            obtain rfl := Option.some.inj hj
            simp
          · have := hG.diff i j li lj g1 g2 hij hi hj
            simp only [beq_eq_false_iff_ne.2 hij, decide_eq_false_iff_not, not_and, Nat.add_zero]
            exact this
        · cases hr

theorem flat_sound {xs ys : Array Value} : ∀ {fs : List Field} {j : Nat} {ks : List Nat} {l l' : List AV} {r : Bool} (d : Nat), okFlat P fs j ks = true → VRs m l (xs.toList.drop j) → VRs m l' (ys.toList.drop j) → flatEq ks l l' = some r →
    (Op.eqFields (d + 1) xs ys fs).run P w = .ok r w
  | [], j, ks, l, l', r, d, hok, _, _, hr => by
    cases ks with
    | nil =>
      cases l <;> cases l' <;> simp [flatEq] at hr
      subst hr; rfl
    | cons k ks => simp [okFlat] at hok
  | f :: fs, j, ks, l, l', r, d, hok, hx, hy, hr => by
    cases ks with
    | nil => simp [okFlat] at hok
    | cons k ks =>
      cases l with
      | nil => simp [flatEq] at hr
      | cons x l =>
        cases l' with
        | nil => simp [flatEq] at hr
        | cons y l' =>
          simp only [okFlat, Bool.and_eq_true, decide_eq_true_eq] at hok
          obtain ⟨⟨⟨h1, h2⟩, h3⟩, h4⟩ := hok
          simp only [flatEq, Option.bind_eq_some_iff, Option.map_eq_some_iff] at hr
          obtain ⟨b, hb, r', hr', rfl⟩ := hr
          simp only [VRs] at hx hy
          obtain ⟨v, rv, ev, hv, hrv⟩ := hx
          obtain ⟨u, ru, eu, hu, hru⟩ := hy
          have hxv : xs[j]? = some v := by
            have := congrArg (fun z => z[0]?) ev
            simpa [List.getElem?_drop] using this
          have hyu : ys[j]? = some u := by
            have := congrArg (fun z => z[0]?) eu
            simpa [List.getElem?_drop] using this
          have hx' : VRs m l (xs.toList.drop (j + 1)) := by
            have : xs.toList.drop (j + 1) = rv := by rw [← List.drop_drop, ev]; rfl
            rw [this]; exact hrv
          have hy' : VRs m l' (ys.toList.drop (j + 1)) := by
            have : ys.toList.drop (j + 1) = ru := by rw [← List.drop_drop, eu]; rfl
            rw [this]; exact hru
          have ih := flat_sound d h4 hx' hy' hr'
          have hpart : ∀ (zs : Array Value) (z : Value), zs[j]? = some z → isAggB P f.type = some false → (part f.type zs f.offset).run P w = .ok z w := fun zs z hz hag => by
            have : (isAgg f.type).run P w = .ok false w := by
              unfold isAggB at hag
              unfold isAgg
              cases hq : P.underlying f.type with
              | none => rw [hq] at hag; cases hag
              | some dd =>
                rw [hq] at hag
                simp only [Sem.run_bind, run_underlying' hq, Result.andThen]
                cases dd <;> simp at hag <;> rfl
            simp [part, this, h1, hz]
          have main : isAggB P f.type = some false ∧ (Op.equalIn (d + 1) f.type v u).run P w = .ok b w := by
            unfold flatEq1 at hb
            split at hb
            · rename_i k1 n1 k2 n2
              split at hb
              · rename_i hk; subst hk
                obtain rfl := Option.some.inj hb
                simp only [VR] at hv hu; subst hv; subst hu
                simp only [okKind, isAnyIntT] at h3
                split at h3
                · rename_i hu'; exact ⟨by simp [isAggB, hu'], run_equalIn_int w d _ _ _ _ _ hu'⟩
                · cases h3
              · cases hb
            · obtain rfl := Option.some.inj hb
              simp only [VR] at hv hu; subst hv; subst hu
              simp only [okKind, isStrT] at h3
              split at h3
              · rename_i hu'; exact ⟨by simp [isAggB, hu'], by rw [run_equalIn_string w d _ _ _ hu', toList_mk, toList_mk]⟩
              · cases h3
            · obtain rfl := Option.some.inj hb
              simp only [VR] at hv hu; subst hv; subst hu
              simp only [okKind] at h3
              split at h3
              · rename_i hu'; exact ⟨by simp [isAggB, hu'], run_equalIn_bool' w d _ _ _ hu'⟩
              · cases h3
            · cases hb
          unfold Op.eqFields
          rw [if_pos h2]
          simp only [Sem.run_bind, hpart xs v hxv main.1, hpart ys u hyu main.1, Result.andThen_ok, main.2]
          cases b
          · simp
          · simp only [Bool.not_true, Bool.false_eq_true, if_false, ih, Bool.true_and]

theorem load_sound (hh : HR m H w) {t : TypeId} {n : Nat} {ag : Bool} (h1 : isAggB P t = some ag) (h2 : sizeB P t = some n) {x : AV} {xv : Value} (hx : VR m x xv) {v : AV} (hv : loadA H n ag x = some v) :
    ∃ cv, VR m v cv ∧ (Instr.loadAt t xv).run P w = .ok cv w := by
  have hsz : ∀ w, (sizeOf t).run P w = .ok n w := fun w => by
    unfold sizeB at h2
    cases hi : P.info? t with
    | none => rw [hi] at h2; cases h2
    | some inf => rw [hi] at h2; simp at h2; simp [sizeOf, typeInfo, hi, h2]
  have hag : ∀ w, (isAgg t).run P w = .ok ag w := fun w => by
    unfold isAggB at h1
    unfold isAgg
    cases hq : P.underlying t with
    | none => rw [hq] at h1; cases h1
    | some dd =>
      rw [hq] at h1
      simp only [Sem.run_bind, run_underlying' hq, Result.andThen]
      cases dd <;> simp at h1 <;> subst h1 <;> rfl
  unfold loadA at hv
  split at hv
  · rename_i i off
    split at hv
    · rename_i l r hg
      simp only [VR] at hx
      obtain ⟨loc, hm, rfl⟩ := hx
      obtain ⟨c, e, _, hc, _, hc2, hc3, hc4⟩ := hh.ok _ _ _ hm hg
      cases ag with
      | true =>
        simp only [if_true] at hv
        split at hv
        · rename_i hle
          obtain rfl := Option.some.inj hv
          have hlen : ((c.toList.drop (loc.o + off)).take n).length = n := by simp; omega
          have hrun := run_loadCells_list (P := P) w ⟨loc.b, loc.o + off, none⟩ ((c.toList.drop (loc.o + off)).take n) (fun j v hj => by
            have hadd : (⟨loc.b, loc.o + off, none⟩ : Addr).add j = ⟨loc.b, loc.o + off + j, none⟩ := by unfold Addr.add; split <;> simp_all
            rw [hadd, cell_of hc]
            rw [List.getElem?_take] at hj
            split at hj
            · rw [List.getElem?_drop] at hj; simpa using hj
            · cases hj)
          rw [hlen] at hrun
          refine ⟨.agg ((c.toList.drop (loc.o + off)).take n).toArray, ?_, ?_⟩
          · simp only [VR]
            refine ⟨_, rfl, VRs.of_get (by simp; omega) fun j x hx => ?_, ?_⟩
            · rw [List.getElem?_take] at hx
              split at hx
              · rename_i hjn
                rw [List.getElem?_drop] at hx
                obtain ⟨cv, h5, h6, _⟩ := hc4 _ _ hx
                refine ⟨cv, ?_, h6⟩
                simp only [List.getElem?_take, if_pos hjn, List.getElem?_drop]
                rw [show loc.o + off + j = loc.o + (off + j) by omega]
                simpa using h5
              · cases hx
            · rw [List.all_eq_true]
              intro y hy
              have hy' := List.mem_of_mem_drop (List.mem_of_mem_take hy)
              obtain ⟨k, hk⟩ := List.mem_iff_getElem?.1 hy'
              obtain ⟨_, _, _, h7⟩ := hc4 _ _ hk
              exact h7
          · simp [Instr.loadAt, Instr.sureAddr, loadVar, hag, hsz, hrun]
        · cases hv
      | false =>
        simp only [Bool.false_eq_true, if_false] at hv
        obtain ⟨cv, h5, h6, h7⟩ := hc4 _ _ hv
        refine ⟨cv, h6, ?_⟩
        have : w.cell? ⟨loc.b, loc.o + off, none⟩ = some cv := by rw [cell_of hc]; exact h5
        simp [Instr.loadAt, Instr.sureAddr, loadVar, hag, run_load, this]
    · cases hv
  · cases hv

theorem run_eqGuard_plain {t : TypeId} (op : BinOp) (hop : op = .eql ∨ op = .neq) (xo yo : Operand) {v u : Value} (h1 : ∀ cs, v ≠ .agg cs) (h2 : v ≠ .nilIface ∨ u ≠ .nilIface) : (eqGuard op t xo yo v u).run P w = .ok () w := by
  unfold eqGuard
  rcases hop with rfl | rfl <;> simp only [Bool.not_true, Bool.false_eq_true, if_false] <;> split <;> first
    | rfl
    | exact absurd rfl (h1 _)
    | (rcases h2 with h2 | h2 <;> exact absurd rfl h2)
theorem run_eqGuard_nil {t : TypeId} (op : BinOp) (hop : op = .eql ∨ op = .neq) (xo yo : Operand) (h : (∃ c, xo = .const c) ∨ (∃ c, yo = .const c)) : (eqGuard op t xo yo .nilIface .nilIface).run P w = .ok () w := by
  unfold eqGuard
  rcases hop with rfl | rfl <;> rcases h with ⟨c, rfl⟩ | ⟨c, rfl⟩ <;> simp
theorem equal_of {t : TypeId} {v u : Value} {r : Bool} (h : ∀ d, (Op.equalIn (d + 1) t v u).run P w = .ok r w) : (Op.equal t v u).run P w = .ok r w := h 9999
theorem equal_of2 {t : TypeId} {v u : Value} {r : Bool} (h : ∀ d, (Op.equalIn (d + 2) t v u).run P w = .ok r w) : (Op.equal t v u).run P w = .ok r w := h 9998
structure EqV (v : Value) : Prop where
  int : ∀ k n, v ≠ .int k n
  str : ∀ s, v ≠ .string s
  flt : ∀ k b, v ≠ .float k b
  cpx : ∀ k x y, v ≠ .complex k x y
theorem binOp_eql {t : TypeId} {v : Value} (h : EqV v) (u : Value) : binOp .eql t v u = (do pure (.bool (← Op.equal t v u))) := by
  cases v <;> first
    | exact absurd rfl (h.int _ _)
    | exact absurd rfl (h.str _)
    | exact absurd rfl (h.flt _ _)
    | exact absurd rfl (h.cpx _ _ _)
    | (cases u <;> rfl)
theorem binOp_neq {t : TypeId} {v : Value} (h : EqV v) (u : Value) : binOp .neq t v u = (do pure (.bool (!(← Op.equal t v u)))) := by
  cases v <;> first
    | exact absurd rfl (h.int _ _)
    | exact absurd rfl (h.str _)
    | exact absurd rfl (h.flt _ _)
    | exact absurd rfl (h.cpx _ _ _)
    | (cases u <;> rfl)
theorem eqA_sound {E : Env} (hE : okEnv P G E = true) (hG : GOk G m) (hh : HR m H w) {t : TypeId} {k : EqK} (hk : okEqK P t k = true) {cst : Bool} {x y : AV} {v u : Value} (hx : VR m x v) (hy : VR m y u) {r : Bool} (hr : eqA E H cst k x y = some r) (op : BinOp) (hop : op = .eql ∨ op = .neq) (xo yo : Operand)
    (hc : cst = true → (∃ c, xo = .const c) ∨ (∃ c, yo = .const c)) :
    (eqGuard op t xo yo v u).run P w = .ok () w ∧ (Op.equal t v u).run P w = .ok r w ∧ EqV v := by
  have guardE := fun {v u : Value} (h1 : ∀ cs, v ≠ .agg cs) (h2 : v ≠ .nilIface ∨ u ≠ .nilIface) => run_eqGuard_plain (P := P) (w := w) (t := t) op hop xo yo h1 h2
  unfold eqA at hr
  split at hr
  · -- bool
    rename_i b b'
    obtain rfl := Option.some.inj hr
    simp only [VR] at hx hy; subst hx; subst hy
    simp only [okEqK] at hk
    split at hk
    · rename_i hu
      exact ⟨guardE (by simp) (by simp), equal_of fun d => by simp [Op.equalIn, run_underlying' hu], ⟨by simp, by simp, by simp, by simp⟩⟩
    · cases hk
  · -- ptr
    rename_i p q
    simp only [okEqK] at hk
    split at hk
    · rename_i e hu
      split at hk
      · rename_i n hn
        simp only [decide_eq_true_eq] at hk
        have hv : (∀ cs, v ≠ .agg cs) ∧ v ≠ .nilIface ∧ EqV v := by
          cases p with
          | none => simp only [VR] at hx; subst hx; exact ⟨by simp, by simp, ⟨by simp, by simp, by simp, by simp⟩⟩
          | some p => obtain ⟨i, o⟩ := p; simp only [VR] at hx; obtain ⟨_, _, rfl⟩ := hx; exact ⟨by simp, by simp, ⟨by simp, by simp, by simp, by simp⟩⟩
        exact ⟨guardE hv.1 (.inl hv.2.1), equal_of fun d => ptrEq_sound hE hG hh hx hy hr d hu hn hk, hv.2.2⟩
      · cases hk
    · cases hk
  · -- nil nil
    split at hr
    · rename_i hcst
      obtain rfl := Option.some.inj hr
      simp only [VR] at hx hy; subst hx; subst hy
      simp only [okEqK] at hk
      split at hk
      · rename_i ms hu
        refine ⟨?_, equal_of fun d => by simp [Op.equalIn, run_underlying' hu], ⟨by simp, by simp, by simp, by simp⟩⟩
        exact run_eqGuard_nil op hop xo yo (hc hcst)
      · cases hk
    · cases hr
  · rename_i t' x'
    obtain rfl := Option.some.inj hr
    simp only [VR] at hx hy; subst hx; obtain ⟨z, rfl, _⟩ := hy
    simp only [okEqK] at hk
    split at hk
    · rename_i ms hu
      exact ⟨guardE (by simp) (by simp), equal_of fun d => by simp [Op.equalIn, run_underlying' hu], ⟨by simp, by simp, by simp, by simp⟩⟩
    · cases hk
  · rename_i t' x'
    obtain rfl := Option.some.inj hr
    simp only [VR] at hx hy; subst hy; obtain ⟨z, rfl, _⟩ := hx
    simp only [okEqK] at hk
    split at hk
    · rename_i ms hu
      exact ⟨guardE (by simp) (by simp), equal_of fun d => by simp [Op.equalIn, run_underlying' hu], ⟨by simp, by simp, by simp, by simp⟩⟩
    · cases hk
  · rename_i t1 p t2 q
    simp only [VR] at hx hy
    obtain ⟨v', rfl, hv'⟩ := hx
    obtain ⟨u', rfl, hu'⟩ := hy
    simp only [okEqK] at hk
    split at hk
    · rename_i ms hu
      refine ⟨guardE (by simp) (by simp), ?_, ⟨by simp, by simp, by simp, by simp⟩⟩
      split at hr
      · rename_i ht; subst ht
        split at hr
        · rename_i hin
          have hE2 := hE
          simp only [okEnv, Bool.and_eq_true] at hE2
          have hE' := List.all_eq_true.1 hE2.2 t1 (by simpa using hin)
          simp only [Bool.and_eq_true, okEqK] at hE'
          obtain ⟨h1, h2⟩ := hE'
          split at h2
          · rename_i e hue
            split at h2
            · rename_i n hn
              simp only [decide_eq_true_eq] at h2
              split at h1
              · rename_i inf hinf
                refine equal_of2 fun d => ?_
                have := ptrEq_sound (P := P) hE hG hh hv' hu' hr d hue hn h2
                rw [show d + 2 = (d + 1) + 1 from rfl, Op.equalIn.eq_2]
                simp [run_underlying' hu, typeInfo, hinf, h1, this]
              · cases h1
            · cases h2
          · cases h2
        · cases hr
      · rename_i ht
        obtain rfl := Option.some.inj hr
        exact equal_of fun d => by simp [Op.equalIn, run_underlying' hu, ht]
    · cases hk
  · -- flat
    rename_i ks l l'
    simp only [VR] at hx hy
    obtain ⟨cs, rfl, h1, _⟩ := hx
    obtain ⟨cs', rfl, h2, _⟩ := hy
    simp only [okEqK, Bool.and_eq_true, Bool.not_eq_true'] at hk
    obtain ⟨⟨hk1, hk2⟩, hk3⟩ := hk
    split at hk1
    · rename_i fs hu
      refine ⟨run_eqGuard_agg w op t xo yo cs cs' hk3, ?_, ⟨by simp, by simp, by simp, by simp⟩⟩
      have hfo : P.fieldsOf t = fs := by simp [Program.fieldsOf, hu]
      refine equal_of2 fun d => ?_
      have := run_equalIn_struct (P := P) w (d + 1) t cs cs' (by rw [hfo]; exact hu) hk2
      rw [hfo] at this
      rw [show d + 2 = (d + 1) + 1 from rfl, this]
      exact flat_sound d hk1 (by simpa using h1) (by simpa using h2) hr
    · cases hk1
  · rename_i sz n cap p sz' n' cap'
    obtain rfl := Option.some.inj hr
    simp only [okEqK] at hk
    split at hk
    · rename_i e hu
      simp only [VR] at hx; obtain ⟨rfl, _⟩ := hx
      cases p with
      | none => simp only [VR] at hy; obtain ⟨rfl, _⟩ := hy; exact ⟨guardE (by simp) (by simp), equal_of fun d => by simp [Op.equalIn, run_underlying' hu], ⟨by simp, by simp, by simp, by simp⟩⟩
      | some q => obtain ⟨i, o⟩ := q; simp only [VR] at hy; obtain ⟨_, _, _, _, rfl, _⟩ := hy; exact ⟨guardE (by simp) (by simp), equal_of fun d => by simp [Op.equalIn, run_underlying' hu], ⟨by simp, by simp, by simp, by simp⟩⟩
    · cases hk
  · rename_i p sz n cap sz' n' cap' _
    obtain rfl := Option.some.inj hr
    simp only [okEqK] at hk
    split at hk
    · rename_i e hu
      simp only [VR] at hy; obtain ⟨rfl, _⟩ := hy
      cases p with
      | none => simp only [VR] at hx; obtain ⟨rfl, _⟩ := hx; exact ⟨guardE (by simp) (by simp), equal_of fun d => by simp [Op.equalIn, run_underlying' hu], ⟨by simp, by simp, by simp, by simp⟩⟩
      | some q => obtain ⟨i, o⟩ := q; simp only [VR] at hx; obtain ⟨_, _, _, _, rfl, _⟩ := hx; exact ⟨guardE (by simp) (by simp), equal_of fun d => by simp [Op.equalIn, run_underlying' hu], ⟨by simp, by simp, by simp, by simp⟩⟩
    · cases hk
  · rename_i p
    obtain rfl := Option.some.inj hr
    simp only [okEqK] at hk
    split at hk
    · rename_i e e' hu
      simp only [VR] at hx; subst hx
      cases p with
      | none => simp only [VR] at hy; subst hy; exact ⟨guardE (by simp) (by simp), equal_of fun d => by simp [Op.equalIn, run_underlying' hu], ⟨by simp, by simp, by simp, by simp⟩⟩
      | some q => simp only [VR] at hy; obtain ⟨_, _, rfl⟩ := hy; exact ⟨guardE (by simp) (by simp), equal_of fun d => by simp [Op.equalIn, run_underlying' hu], ⟨by simp, by simp, by simp, by simp⟩⟩
    · cases hk
  · rename_i p _
    obtain rfl := Option.some.inj hr
    simp only [okEqK] at hk
    split at hk
    · rename_i e e' hu
      simp only [VR] at hy; subst hy
      cases p with
      | none => simp only [VR] at hx; subst hx; exact ⟨guardE (by simp) (by simp), equal_of fun d => by simp [Op.equalIn, run_underlying' hu], ⟨by simp, by simp, by simp, by simp⟩⟩
      | some q => simp only [VR] at hx; obtain ⟨_, _, rfl⟩ := hx; exact ⟨guardE (by simp) (by simp), equal_of fun d => by simp [Op.equalIn, run_underlying' hu], ⟨by simp, by simp, by simp, by simp⟩⟩
    · cases hk
  · obtain rfl := Option.some.inj hr
    simp only [VR] at hx hy; subst hx; subst hy
    simp only [okEqK] at hk
    split at hk
    · rename_i e1 e2 e3 hu
      exact ⟨guardE (by simp) (by simp), equal_of fun d => by simp [Op.equalIn, run_underlying' hu], ⟨by simp, by simp, by simp, by simp⟩⟩
    · cases hk
  · obtain rfl := Option.some.inj hr
    simp only [VR] at hx hy; subst hx; obtain ⟨_, rfl, _⟩ := hy
    simp only [okEqK] at hk
    split at hk
    · rename_i e1 e2 e3 hu
      exact ⟨guardE (by simp) (by simp), equal_of fun d => by simp [Op.equalIn, run_underlying' hu], ⟨by simp, by simp, by simp, by simp⟩⟩
    · cases hk
  · obtain rfl := Option.some.inj hr
    simp only [VR] at hx hy; subst hy; obtain ⟨_, rfl, _⟩ := hx
    simp only [okEqK] at hk
    split at hk
    · rename_i e1 e2 e3 hu
      exact ⟨guardE (by simp) (by simp), equal_of fun d => by simp [Op.equalIn, run_underlying' hu], ⟨by simp, by simp, by simp, by simp⟩⟩
    · cases hk
  · cases hr

theorem isC_sound {x : Operand} {y : Opd} (h : okOpd G x y = true) (hc : y.isC = true) : ∃ c, x = .const c := by
  cases y <;> simp [Opd.isC] at hc
  cases x <;> simp [okOpd] at h
  exact ⟨_, rfl⟩

theorem findNow_sound {s : List UInt8} : ∀ {l : List (List UInt8 × AV)} {es : List MapEntry} (i : Nat), MapR m l es →
    ∃ r, Instr.findNow .string (.string ⟨⟨s⟩⟩) es i = some r ∧ (match mapGet l s with | none => r = none | some x => ∃ k v, r = some (k, v) ∧ VR m x v)
  | [], [], _, _ => ⟨none, rfl, rfl⟩
  | [], _ :: _, _, h => by cases h
  | _ :: _, [], _, h => by cases h
  | (s', x) :: l, e :: es, i, h => by
    cases h with
    | cons hk hv h =>
      unfold Instr.findNow
      rw [hk]
      have hb : ((⟨⟨s⟩⟩ : ByteArray) == ⟨⟨s'⟩⟩) = (s == s') := by rw [beq_toListBytes, toList_mk, toList_mk]
      simp only [Instr.sameNow, hb]
      by_cases hs : s = s'
      · subst hs
        simp only [beq_self_eq_true]
        exact ⟨_, rfl, by simp [mapGet]; exact ⟨_, _, ⟨rfl, rfl⟩, hv⟩⟩
      · have h1 : (s == s') = false := by simpa using hs
        have h2 : (s' == s) = false := by simpa using fun e => hs e.symm
        simp only [h1]
        obtain ⟨r, h3, h4⟩ := findNow_sound (i + 1) h
        refine ⟨r, h3, ?_⟩
        have : mapGet ((s', x) :: l) s = mapGet l s := by simp [mapGet, h2]
        rw [this]; exact h4
theorem run_checkKey {kt : TypeId} (hk : P.underlying kt = some .string) (b : Bool) (z : ByteArray) : (Instr.checkKey b 10000 kt (.string z)).run P w = .ok () w := by
  show (Instr.checkKey b (9999 + 1) kt (.string z)).run P w = _
  generalize 9999 = d
  simp [Instr.checkKey, run_underlying' hk]

theorem read_sound {E : Env} (hE : okEnv P G E = true) (hG : GOk G m) (hh : HR m H w) {o : Oper} {ao : AOp} (hok : okRead P G o.op ao = true) (hf : FOn m fr a ao.tmps) {v : AV} (hv : readA E fr H ao = some v) : ∃ cv, VR m v cv ∧ (execOp a.eval o).run P w = .ok (.value cv) w := by
  obtain ⟨dst, op, type, pos, after, guard⟩ := o
  simp only at hok
  unfold okRead at hok
  split at hok
  · -- load
    rename_i t x n ag y
    simp only [Bool.and_eq_true, decide_eq_true_eq] at hok
    obtain ⟨⟨h1, h2⟩, h3⟩ := hok
    simp only [readA, Option.bind_eq_some_iff] at hv
    obtain ⟨u, hu, hv⟩ := hv
    obtain ⟨cv, h4, h5⟩ := load_sound hh h1 h2 (ev_sound hG h3 hf hu) hv
    exact ⟨cv, h4, by simp [execOp, h5]⟩
  · -- eql
    rename_i t x y yt k x' y'
    simp only [Bool.and_eq_true] at hok
    obtain ⟨⟨h1, h2⟩, h3⟩ := hok
    simp only [readA, Option.bind_eq_some_iff, Option.map_eq_some_iff] at hv
    obtain ⟨u, hu, v', hv', r, hr, rfl⟩ := hv
    obtain ⟨h4, h5, h6⟩ := eqA_sound hE hG hh h1 (ev_sound hG h2 (hf.sub fun n hn => by simp [AOp.tmps, hn]) hu) (ev_sound hG h3 (hf.sub fun n hn => by simp [AOp.tmps, hn]) hv') hr .eql (.inl rfl) x y
      (fun hc => by
        simp only [Bool.or_eq_true] at hc
        exact hc.imp (isC_sound h2) (isC_sound h3))
    refine ⟨_, vr_bool _, ?_⟩
    simp only [execOp]
    show (Sem.run P ((eqGuard .eql t x y (a.eval x) (a.eval y) >>= fun _ => binOp .eql t (a.eval x) (a.eval y)) >>= fun v => pure (Next.value v)) w) = _
    simp only [Sem.run_bind, h4, Result.andThen_ok, binOp_eql h6, h5]
    rfl
  · -- neq
    rename_i t x y yt k x' y'
    simp only [Bool.and_eq_true] at hok
    obtain ⟨⟨h1, h2⟩, h3⟩ := hok
    simp only [readA, Option.bind_eq_some_iff, Option.map_eq_some_iff] at hv
    obtain ⟨u, hu, v', hv', r, hr, rfl⟩ := hv
    obtain ⟨h4, h5, h6⟩ := eqA_sound hE hG hh h1 (ev_sound hG h2 (hf.sub fun n hn => by simp [AOp.tmps, hn]) hu) (ev_sound hG h3 (hf.sub fun n hn => by simp [AOp.tmps, hn]) hv') hr .neq (.inr rfl) x y
      (fun hc => by
        simp only [Bool.or_eq_true] at hc
        exact hc.imp (isC_sound h2) (isC_sound h3))
    refine ⟨_, vr_bool _, ?_⟩
    simp only [execOp]
    show (Sem.run P ((eqGuard .neq t x y (a.eval x) (a.eval y) >>= fun _ => binOp .neq t (a.eval x) (a.eval y)) >>= fun v => pure (Next.value v)) w) = _
    simp only [Sem.run_bind, h4, Result.andThen_ok, binOp_neq h6, h5]
    rfl
  · -- lookup
    rename_i t mm k ok d ok' m' k'
    simp only [Bool.and_eq_true, decide_eq_true_eq] at hok
    obtain ⟨⟨⟨rfl, h1⟩, h2⟩, h3⟩ := hok
    simp only [readA, Option.bind_eq_some_iff] at hv
    obtain ⟨mv, hmv, kv, hkv, hv⟩ := hv
    have hm := ev_sound hG h2 (hf.sub fun n hn => by simp [AOp.tmps, hn]) hmv
    have hk := ev_sound hG h3 (hf.sub fun n hn => by simp [AOp.tmps, hn]) hkv
    split at h1
    · rename_i kt et hut
      simp only [Bool.and_eq_true] at h1
      obtain ⟨h4, h5⟩ := h1
      split at h5
      · rename_i inf hinf
        split at h5
        · rename_i z hz
          have hd : VR m d z := okVal_sound h5
          unfold isStrT at h4
          split at h4
          · rename_i hkt
            have hzero : (zeroValue et).run P w = .ok z w := by simp [zeroValue, typeInfo, hinf, hz]
            split at hv
            · rename_i s
              simp only [VR] at hm hk
              obtain rfl := Option.some.inj hv
              have hrun : (Instr.lookup t (.map none) (.string ⟨⟨s⟩⟩) ok).run P w = .ok (if ok then .tuple #[z, .bool false] else z) w := by
                simp [Instr.lookup, run_underlying' hut, run_checkKey hkt, Instr.findKey, run_underlying' hkt, Instr.findNow, hzero]
              cases ok
              · exact ⟨z, by simpa using hd, by simp only [execOp, hm, hk]; simp [hrun]⟩
              · refine ⟨.tuple #[z, .bool false], ?_, by simp only [execOp, hm, hk]; simp [hrun]⟩
                simp only [if_true, VR]
                exact ⟨_, rfl, by simp [VRs, VR]; exact hd⟩
            · rename_i i s
              split at hv
              · rename_i l r hg
                simp only [VR] at hm hk
                obtain ⟨loc, hml, hm⟩ := hm
                obtain ⟨es, ck, h6, h7, _⟩ := hh.ok _ _ _ hml hg
                obtain ⟨fr', h8, h9⟩ := findNow_sound (s := s) 0 h7
                have hgo : (getObj loc.b).run P w = .ok (.map es ck) w := by simp [getObj, Sem.run, h6]
                have hrun : ∀ (c : Value × Bool), (match fr' with | some (_, v) => c = (v, true) | none => c = (z, false)) → (Instr.lookup t (.map (some loc.b)) (.string ⟨⟨s⟩⟩) ok).run P w = .ok (if ok then .tuple #[c.1, .bool c.2] else c.1) w := fun c hc => by
                  have hfk : (Instr.findKey kt (.string ⟨⟨s⟩⟩) es.toList).run P w = .ok fr' w := by simp [Instr.findKey, run_underlying' hkt, h8]
                  simp only [Instr.lookup, Sem.run_bind, run_underlying' hut, Result.andThen_ok, hgo, run_checkKey hkt, Sem.run_pure, hfk]
                  cases fr' with
                  | none => subst hc; simp [hzero]
                  | some q => obtain ⟨q1, q2⟩ := q; subst hc; simp
                obtain rfl := Option.some.inj hv
                cases hmg : mapGet l s with
                | none =>
                  rw [hmg] at h9; simp only at h9; subst h9
                  have hr := hrun (z, false) rfl
                  cases ok
                  · exact ⟨z, by simpa using hd, by simp only [execOp, hm, hk]; simp [hr]⟩
                  · refine ⟨.tuple #[z, .bool false], ?_, by simp only [execOp, hm, hk]; simp [hr]⟩
                    simp only [if_true, VR]
                    exact ⟨_, rfl, by simp [VRs, VR]; exact hd⟩
                | some x =>
                  rw [hmg] at h9
                  obtain ⟨q, cv, rfl, hcv⟩ := h9
                  have hr := hrun (cv, true) rfl
                  cases ok
                  · exact ⟨cv, by simpa using hcv, by simp only [execOp, hm, hk]; simp [hr]⟩
                  · refine ⟨.tuple #[cv, .bool true], ?_, by simp only [execOp, hm, hk]; simp [hr]⟩
                    simp only [if_true, VR]
                    exact ⟨_, rfl, by simp [VRs, VR]; exact hcv⟩
              · cases hv
            · cases hv
          · cases h4
        · cases h5
      · cases h5
    · cases h1
  · cases hok
end
end Go.Proofs.YtbpgbhmibmcbnaaGreatDoor.Ram

/-! The operations that make a block, or write. -/
namespace Go.Proofs.YtbpgbhmibmcbnaaGreatDoor.Ram
open Go Go.RowKit

def rowZero (z : Array Value) (n : Nat) : List Value := (List.range n).map (fun j => z[j % z.size]!)
def okMake (P : Program) (G : List Nat) : Op → AOp → Bool
  | .alloc e, .alloc z => okZero P e z
  | .box _ x, .box y => okOpd G x y
  | .buildSlice t n ps, .bslice _ sz n' z qs => (match P.underlying t with
      | some (.slice e) => (match P.info? e with
        | some i => (match i.zero with
          | some zv => decide (n = n') && decide (i.size = sz) && decide (0 < sz) && decide (n * sz ≤ 2 ^ 24) && okVals (rowZero zv.cells (n * sz)) z && z.all oneCell
          | none => false)
        | none => false)
      | _ => false) && okParts G (fun i => some (i * sz, sz)) ps.toList qs
  | .makeMap _ none, .mkMap => true
  | _, _ => false

section
variable {P : Program} {G : List Nat} {m : LMap} {H : AH} {w : World} {fr : Fr} {a : Act}

theorem CellsR.of_VRs {l : List AV} {vs : List Value} (h : VRs m l vs) (h1 : l.all oneCell = true) {c : Array Value} (hc : c.toList = vs) : CellsR m l c 0 := fun j x hx => by
  obtain ⟨v, hv, hr⟩ := h.get hx
  refine ⟨v, ?_, hr, List.all_eq_true.1 h1 x (List.mem_of_getElem? hx)⟩
  rw [Nat.zero_add, ← Array.getElem?_toList, hc]; exact hv
theorem heap_alloc_self (w : World) (o : Obj) : (w.alloc o).heap[w.heap.size]? = some o := by show (w.heap.push o)[w.heap.size]? = _; simp
theorem objR_new {l : List AV} {vs : Array Value} (h : VRs m l vs.toList) (h1 : l.all oneCell = true) (e : TypeId) (w : World) (ro : Bool) : ∀ m', LSub m m' → ObjR m' (w.alloc (.cells vs e)) ⟨w.heap.size, 0, vs.size, false⟩ (.cells l ro) := fun m' hs =>
  ⟨vs, e, _, heap_alloc_self _ _, fun _ => ⟨rfl, fun _ => rfl⟩, by simp, by rw [← h.length]; simp, (CellsR.of_VRs h h1 rfl).mono hs⟩

structure Made (m : LMap) (w : World) (val : Nat → AV) (obj : AObj) (cv : Value) (bo : Obj) (n : Nat) : Prop where
  objR : ∀ m', LSub m m' → ObjR m' (w.alloc bo) ⟨w.heap.size, 0, n, false⟩ obj
  valR : ∀ (m' : LMap) i, m' i = some ⟨w.heap.size, 0, n, false⟩ → VR m' (val i) cv
  ro : obj.ro = false

theorem make_sound (hG : GOk G m) {o : Oper} {ao : AOp} (hok : okMake P G o.op ao = true) (hf : FOn m fr a ao.tmps) {val : Nat → AV} {obj : AObj} (hv : makeA fr ao = some (val, obj)) :
    ∃ cv bo n, (execOp a.eval o).run P w = .ok (.value cv) (w.alloc bo) ∧ Made m w val obj cv bo n := by
  obtain ⟨dst, op, type, pos, after, guard⟩ := o
  simp only at hok
  unfold okMake at hok
  split at hok
  · -- alloc
    rename_i e z
    obtain ⟨i, zv, h1, h2, h3, h4⟩ := zero_sound (m := m) hok
    simp only [makeA, Option.some.injEq, Prod.mk.injEq] at hv
    obtain ⟨rfl, rfl⟩ := hv
    refine ⟨.pointer (some ⟨w.heap.size, 0, none⟩), .cells zv.cells e, zv.cells.size, ?_, objR_new h3 h4 e w false, fun m' i hi => by simp only [VR]; exact ⟨_, hi, by simp⟩, rfl⟩
    simp [execOp, Instr.alloc, zeroValue, typeInfo, h1, h2, newVar, newRow]
  · -- box
    rename_i e x y
    simp only [makeA, Option.bind_eq_some_iff] at hv
    obtain ⟨v, hv, h1⟩ := hv
    split at h1
    · rename_i h2
      simp only [Option.some.injEq, Prod.mk.injEq] at h1
      obtain ⟨rfl, rfl⟩ := h1
      have h3 := ev_sound hG hok hf hv
      obtain ⟨h4, _⟩ := h3.cells h2
      refine ⟨.pointer (some ⟨w.heap.size, 0, none⟩), .cells (a.eval x).cells e, (a.eval x).cells.size, ?_, objR_new h4 h2 e w false, fun m' i hi => by simp only [VR]; exact ⟨_, hi, by simp⟩, rfl⟩
      simp [execOp, Instr.box, newVar, newRow]
    · cases h1
  · -- buildSlice
    rename_i t n ps hp sz n' z qs
    simp only [Bool.and_eq_true] at hok
    obtain ⟨hok, hps⟩ := hok
    split at hok
    · rename_i e hu
      split at hok
      · rename_i i hi
        split at hok
        · rename_i zv hz
          simp only [Bool.and_eq_true, decide_eq_true_eq] at hok
          obtain ⟨⟨⟨⟨⟨rfl, rfl⟩, h1⟩, h3⟩, h4⟩, h5⟩ := hok
          simp only [makeA, Option.bind_eq_some_iff, Option.map_eq_some_iff, Prod.mk.injEq] at hv
          obtain ⟨rs, hrs, r, hr, rfl, rfl⟩ := hv
          obtain ⟨e1, e2⟩ := parts_sound hG _ hps hf hrs
          have hz0 : VRs m z ((Array.range (n * i.size)).map (fun j => zv.cells[j % zv.cells.size]!)).toList := by
            have : ((Array.range (n * i.size)).map (fun j => zv.cells[j % zv.cells.size]!)).toList = rowZero zv.cells (n * i.size) := by simp [rowZero]
            rw [this]; exact okVals_sound h4
          obtain ⟨cs', h6, h7, h8⟩ := fill_sound (m := m) (fun j => some (j * i.size, i.size)) (ps.toList.map fun p => (p.1, a.eval p.2)) rs z r _ e1 e2 hz0 h5 hr
          have hlen : cs'.size = n * i.size := by
            have a1 := h7.length
            have a2 : r.length = z.length := by
              have : ∀ (qs : List (Nat × Nat × AV)) (l r : List AV), fillA l qs = some r → r.length = l.length := by
                intro qs
                induction qs with
                | nil => intro l r h; simp only [fillA, Option.some.injEq] at h; subst h; rfl
                | cons q qs ih =>
                  intro l r h
                  obtain ⟨o1, o2, o3⟩ := q
                  simp only [fillA] at h
                  split at h
                  · rename_i hc; have := ih _ _ h; rw [this]; simp; omega
                  · cases h
              exact this _ _ _ hr
            have a3 := hz0.length
            simp at a1 a3
            omega
          have hle : n ≤ n * i.size := Nat.le_mul_of_pos_right n h1
          refine ⟨.slice (some ⟨w.heap.size, 0, none⟩) n n, .cells cs' e, cs'.size, ?_, objR_new h7 h8 e w false, fun m' j hj => ?_, rfl⟩
          · have h6' : Instr.fill (fun j => some (j * i.size, i.size)) ((Array.range (n * i.size)).map (fun j => zv.cells[j % zv.cells.size]!)) (ps.map fun p => (p.1, a.eval p.2)).toList = some cs' := by simpa using h6
            have hn1 : ¬ (16777216 < n * i.size) := by omega
            simp only [execOp, Instr.buildSlice]
            by_cases hn0 : n = 0
            · subst hn0
              have e0 : ∀ f : Nat → Value, (Array.range 0).map f = #[] := fun f => by apply Array.ext'; simp
              simp only [Nat.zero_mul, e0] at h6
              simp [run_underlying' hu, sizeOf, typeInfo, hi, newRow, e0]
              rw [h6]; simp
            · simp [run_underlying' hu, sizeOf, typeInfo, hi, hn1, zeroValue, hz, newRow]
              rw [if_neg (by omega), h6]; simp
          · simp only [VR]
            exact ⟨_, n, _, hj, rfl, fun _ => by simp, Nat.le_refl _, by simp; omega, by unfold maxLen; omega, fun d hd => by simpa using hd⟩
        · cases hok
      · cases hok
    · cases hok
  · -- makeMap
    simp only [makeA, Option.some.injEq, Prod.mk.injEq] at hv
    obtain ⟨rfl, rfl⟩ := hv
    refine ⟨.map (some w.heap.size), .map #[] 0, 0, ?_, fun m' _ => ⟨#[], 0, heap_alloc_self _ _, .nil, MapKept.stamped_empty 0⟩, fun m' i hi => by simp only [VR]; exact ⟨_, hi, rfl⟩, rfl⟩
    simp [execOp, Instr.makeMap]
  · cases hok

/-! ### writing into what is there -/
theorem onlyBlock_setRow (w : World) (g : Nat) (cs : Array Value) : OnlyBlock w (w.setRow g cs) g where
  other := fun k hk => setRow_other w g k cs hk
  size := by simp
  os := rfl
  tape := rfl
  output := rfl
theorem put_CellsR {l news : List AV} {vs : List Value} {c : Array Value} {o off : Nat} (h : CellsR m l c o) (hn : VRs m news vs) (h1 : news.all oneCell = true) (hle : off + news.length ≤ l.length) (hc : o + l.length ≤ c.size) :
    CellsR m (putCells l off news) (c.toList.take (o + off) ++ vs ++ c.toList.drop (o + off + vs.length)).toArray o := by
  intro j x hx
  have hv := hn.length
  unfold putCells at hx
  have hcl : c.toList.length = c.size := by simp
  simp only [List.getElem?_append, List.length_append, List.length_take, List.getElem?_take, List.getElem?_drop] at hx
  simp only [List.getElem?_toArray, List.getElem?_append, List.length_append, List.length_take, List.getElem?_take, List.getElem?_drop, hcl]
  by_cases h2 : j < off
  · rw [if_pos (by omega), if_pos (by omega), if_pos h2] at hx
    rw [if_pos (by omega), if_pos (by omega), if_pos (by omega)]
    obtain ⟨v, h3, h4⟩ := h j x hx
    exact ⟨v, by simpa using h3, h4⟩
  · by_cases h3 : j < off + news.length
    · rw [if_pos (by omega), if_neg (by omega)] at hx
      rw [if_pos (by omega), if_neg (by omega)]
      have : j - min off l.length = o + j - min (o + off) c.size := by omega
      rw [this] at hx
      obtain ⟨v, h5, h6⟩ := hn.get hx
      exact ⟨v, h5, h6, List.all_eq_true.1 h1 x (List.mem_of_getElem? hx)⟩
    · rw [if_neg (by omega)] at hx
      rw [if_neg (by omega)]
      obtain ⟨v, h5, h6⟩ := h _ x hx
      refine ⟨v, ?_, h6⟩
      rw [← h5, Array.getElem?_toList]
      congr 1
      omega
theorem putCells_length {l news : List AV} {off : Nat} (h : off + news.length ≤ l.length) : (putCells l off news).length = l.length := by
  unfold putCells; simp; omega
theorem storeCells_sound (hh : HR m H w) {i off : Nat} {loc : Loc} {l news : List AV} {vs : List Value} (hm : m i = some loc) (hg : H.get i = some (.cells l false)) (hn : VRs m news vs) (h1 : news.all oneCell = true) (h2 : ∀ u ∈ vs, u.oneCell' = true) (hle : off + news.length ≤ l.length) :
    ∃ w', (storeCells ⟨loc.b, loc.o + off, none⟩ vs).run P w = .ok () w' ∧ HR m (H.set i (.cells (putCells l off news) false)) w' ∧ Ext m H w m (H.set i (.cells (putCells l off news) false)) w' ∧ w'.heap.size = w.heap.size := by
  obtain ⟨c, e, f0, hc, hf0, hc2, hc3, hc4⟩ := hh.ok _ _ _ hm hg
  obtain ⟨rfl, hlo⟩ := hf0 (.inl rfl)
  have hlo := hlo rfl
  have hv := hn.length
  have hrun := run_storeCells_at P loc.b (loc.o + off) e vs 0 c w hc (by omega) h2
  simp only [Nat.add_zero] at hrun
  have hb := onlyBlock_setRow w loc.b (c.toList.take (loc.o + off) ++ vs ++ c.toList.drop (loc.o + off + vs.length)).toArray
  refine ⟨_, hrun, hh.upd hm hg _ hb ?_ rfl rfl, Ext.upd hm hg rfl rfl hb, by simp⟩
  refine ⟨_, e, _, setRow_heap w loc.b c _ e (0, 0) hc, fun _ => ⟨rfl, fun _ => hlo⟩, ?_, ?_, put_CellsR hc4 hn h1 hle (by omega)⟩
  · simp; omega
  · rw [putCells_length hle]; exact hc3

theorem store_sound (hh : HR m H w) {t : TypeId} {n : Nat} (hn : sizeB P t = some n) {p v : AV} {pv vv : Value} (hp : VR m p pv) (hv : VR m v vv) {H' : AH} (h : storeA H n p v = some H') :
    ∃ w', (Instr.storeAt t pv vv).run P w = .ok () w' ∧ HR m H' w' ∧ Ext m H w m H' w' := by
  unfold storeA at h
  split at h
  · rename_i i off
    split at h
    · rename_i l ro hg
      split at h
      · rename_i hc
        obtain ⟨rfl, h1, h2, h3⟩ := hc
        obtain rfl := Option.some.inj h
        simp only [VR] at hp
        obtain ⟨loc, hm, rfl⟩ := hp
        obtain ⟨h4, h5⟩ := hv.cells h3
        obtain ⟨w', h6, h7, h8, _⟩ := storeCells_sound (P := P) (off := off) hh hm hg h4 h3 h5 (by omega)
        refine ⟨w', ?_, h7, h8⟩
        have hsz : (sizeOf t).run P w = .ok n w := by
          unfold sizeB at hn
          cases hi : P.info? t with
          | none => rw [hi] at hn; cases hn
          | some inf => rw [hi] at hn; simp at hn; simp [sizeOf, typeInfo, hi, hn]
        have hlen : vv.cells.size = n := by have := h4.length; simp at this; omega
        simp only [Instr.storeAt, Instr.sureAddr, storeVar]
        simp [hsz, hlen, h6]
      · cases h
    · cases h
  · cases h

theorem sliceCells_sound (hh : HR m H w) {sz k : Nat} {x : AV} {xv : Value} (hx : VR m x xv) {news : List AV} (h : sliceCells H sz k x = some news) :
    ∃ vs : List Value, (Builtin.firstCells sz k xv).run P w = .ok vs.toArray w ∧ VRs m news vs ∧ news.all oneCell = true ∧ (∀ u ∈ vs, u.oneCell' = true) ∧ vs.length = k * sz := by
  unfold sliceCells at h
  split at h
  · rename_i sz' n' cap'
    split at h
    · rename_i hk; subst hk
      obtain rfl := Option.some.inj h
      simp only [VR] at hx; obtain ⟨rfl, _⟩ := hx
      exact ⟨[], by simp [Builtin.firstCells], by simp [VRs], rfl, by simp, by simp⟩
    · cases h
  · rename_i i off sz' len cap
    split at h
    · rename_i l ro hg
      split at h
      · rename_i hc
        obtain ⟨rfl, h1, h2⟩ := hc
        obtain rfl := Option.some.inj h
        simp only [VR] at hx
        obtain ⟨loc, c, ad, hm, rfl, had, h3, h4, h5, h6⟩ := hx
        obtain ⟨cells, e, _, hc, _, hc2, hc3, hc4⟩ := hh.ok _ _ _ hm hg
        have hlen : ((cells.toList.drop (loc.o + off)).take (k * sz')).length = k * sz' := by simp; omega
        refine ⟨(cells.toList.drop (loc.o + off)).take (k * sz'), ?_, VRs.of_get (by simp; omega) fun j y hy => ?_, ?_, ?_, hlen⟩
        · refine run_firstCells_some w sz' k ad len c _ hlen fun j v hj => ?_
          rw [List.getElem?_take] at hj
          split at hj
          · rename_i hjk
            have hc0 : 0 < c := by
              rcases Nat.eq_zero_or_pos c with h0 | h0
              · have : k = 0 := by omega
                subst this; omega
              · exact h0
            rw [had hc0]
            have hadd : (⟨loc.b, loc.o + off, none⟩ : Addr).add j = ⟨loc.b, loc.o + off + j, none⟩ := by unfold Addr.add; split <;> simp_all
            rw [hadd, cell_of hc]
            rw [List.getElem?_drop] at hj
            simpa using hj
          · cases hj
        · rw [List.getElem?_take] at hy
          split at hy
          · rename_i hjn
            rw [List.getElem?_drop] at hy
            obtain ⟨cv, h7, h8, _⟩ := hc4 _ _ hy
            refine ⟨cv, ?_, h8⟩
            simp only [List.getElem?_take, if_pos hjn, List.getElem?_drop]
            rw [show loc.o + off + j = loc.o + (off + j) by omega]
            simpa using h7
          · cases hy
        · rw [List.all_eq_true]
          intro y hy
          obtain ⟨q, hq⟩ := List.mem_iff_getElem?.1 (List.mem_of_mem_drop (List.mem_of_mem_take hy))
          obtain ⟨_, _, _, h9⟩ := hc4 _ _ hq
          exact h9
        · intro u hu
          obtain ⟨q, hq⟩ := List.mem_iff_getElem?.1 hu
          rw [List.getElem?_take] at hq
          split at hq
          · rename_i hql
            rw [List.getElem?_drop] at hq
            obtain ⟨y, hy⟩ : ∃ y, l[off + q]? = some y := ⟨_, List.getElem?_eq_getElem (by omega)⟩
            obtain ⟨cv, h7, h8, h9⟩ := hc4 _ _ hy
            have : cv = u := by
              rw [show loc.o + off + q = loc.o + (off + q) by omega] at hq
              rw [Array.getElem?_toList, h7] at hq
              exact Option.some.inj hq
            subst this
            exact h8.one h9
          · cases hq
      · cases h
    · cases h
  · rename_i s
    split at h
    · rename_i hc
      obtain ⟨rfl, h1⟩ := hc
      obtain rfl := Option.some.inj h
      simp only [VR] at hx; subst hx
      refine ⟨(s.take k).map fun b => .int .u8 b.toNat, ?_, ?_, ?_, ?_, by simp; omega⟩
      · have : (⟨⟨s⟩⟩ : ByteArray).extract 0 k = ⟨⟨s.take k⟩⟩ := by apply ByteArray.ext; simp [ByteArray.data_extract]
        simp [Builtin.firstCells, this]
      · refine VRs.of_get (by simp) fun j y hy => ?_
        simp only [List.getElem?_map, Option.map_eq_some_iff] at hy ⊢
        obtain ⟨b, hb, rfl⟩ := hy
        exact ⟨_, ⟨b, hb, rfl⟩, vr_int _ _⟩
      · rw [List.all_eq_true]
        intro y hy
        obtain ⟨b, _, rfl⟩ := List.mem_map.1 hy
        rfl
      · intro u hu
        simp only [List.mem_map] at hu
        obtain ⟨b, _, rfl⟩ := hu; rfl
    · cases h
  · cases h
theorem lenA_sound {x : AV} {xv : Value} (hx : VR m x xv) {n : Nat} (h : lenA x = some n) (w : World) : (Builtin.lenOf xv).run P w = .ok n w := by
  unfold lenA at h
  split at h
  · rename_i p sz k cap
    obtain rfl := Option.some.inj h
    cases p with
    | none => simp only [VR] at hx; obtain ⟨rfl, rfl⟩ := hx; rfl
    | some q => obtain ⟨i, o⟩ := q; simp only [VR] at hx; obtain ⟨_, _, _, _, rfl, _⟩ := hx; rfl
  · obtain rfl := Option.some.inj h
    simp only [VR] at hx; subst hx; rfl
  · cases h

theorem HR.kill (hh : HR m H w) (i : Nat) : HR m (H.kill i) w := by
  have key : ∀ j, (H.kill i).tip j = true → j ≠ i ∧ H.tip j = true := fun j ht => by
    simp only [AH.kill] at ht
    split at ht
    · cases ht
    · rename_i h1; exact ⟨h1, ht⟩
  refine ⟨fun j hj => ?_, hh.dom, fun j lj o hj ho => ?_, fun j k lj lk oj ok hj hk hoj hok hne hsh => ?_, fun j ht => ?_, fun j lj l ht hj hl => ?_⟩
  rotate_left 3
  · obtain ⟨h1, h2⟩ := key j ht
    obtain ⟨h3, h4, l, h5⟩ := hh.tipo j h2
    exact ⟨h3, h4, l, by rw [AH.get_kill, if_neg h1]; exact h5⟩
  · obtain ⟨h1, h2⟩ := key j ht
    rw [AH.get_kill, if_neg h1] at hl
    obtain ⟨h3, h4⟩ := hh.tip j lj l h2 hj hl
    refine ⟨h3, fun q lq oq hq hoq hb hne => ?_⟩
    rw [AH.get_kill] at hoq
    split at hoq
    · cases hoq
    · obtain ⟨h5, h6⟩ := h4 q lq oq hq hoq hb hne
      refine ⟨?_, h6⟩
      simp only [AH.kill]; split
      · rfl
      · exact h5
  · rw [AH.get_kill]; split
    · rfl
    · exact hh.wf j hj
  · rw [AH.get_kill] at ho
    split at ho
    · cases ho
    · exact hh.ok j lj o hj ho
  · rw [AH.get_kill] at hoj hok
    split at hoj
    · cases hoj
    · split at hok
      · cases hok
      · exact hh.sep j k lj lk oj ok hj hk hoj hok hne hsh
theorem Ext.kill {m' : LMap} {H' : AH} {w' : World} (h : Ext m H w m' H' w') {i : Nat} {loc : Loc} {o : AObj} (hm : m i = some loc) (hg : H.get i = some o) (hro : o.ro = false) : Ext m H w m' (H'.kill i) w' :=
  { h with
    unm := fun j hj hn => by rw [AH.get_kill, if_neg (by intro e; subst e; rw [hn] at hm; cases hm)]; exact h.unm j hj hn
    ro := fun j hj o' ho => by
      rw [AH.get_kill] at ho
      split at ho
      · cases ho
      · exact h.ro j hj o' ho
    rok := fun j oj hj hr => by
      rw [AH.get_kill, if_neg (by intro e; subst e; rw [hg] at hj; obtain rfl := Option.some.inj hj; rw [hro] at hr; cases hr)]
      exact h.rok j oj hj hr
    tip := fun j hj ht => by
      simp only [AH.kill] at ht
      split at ht
      · cases ht
      · exact h.tip j hj ht }

structure AppT (P : Program) (t t2 e : TypeId) (i : TypeInfo) (z : Value) (sz bytes : Nat) : Prop where
  ht : P.underlying t = some (.slice e)
  hi : P.info? e = some i
  hz : i.zero = some z
  hzs : z.cells.size = sz
  hsz : i.size = sz
  hby : i.bytes = bytes
  d2 : (∃ e2, P.underlying t2 = some (.slice e2)) ∨ P.underlying t2 = some .string

theorem run_append_gen {t t2 ty e : TypeId} {i : TypeInfo} {z : Value} {sz bytes : Nat} (T : AppT P t t2 e i z sz bytes) {base : Option Addr} {sLen sCap n : Nat} {xv : Value} (hl : ∀ w, (Builtin.lenOf xv).run P w = .ok n w)
    (hfit : sLen + n ≤ sCap ∨ (sCap < sLen + n ∧ (sLen + n) * bytes ≤ 140737488355328 ∧ 0 < bytes)) :
    (Builtin.append_ #[t, t2] ty #[.slice base sLen sCap, xv]).run P w =
      if sLen + n ≤ sCap then ((Builtin.firstCells sz n xv).run P w).andThen fun news w => (match base with | some a => (storeCells (a.add (sLen * sz)) news.toList).run P w | none => .ok () w).andThen fun _ w => .ok (.slice base (sLen + n) sCap) w
      else ((Builtin.firstCells sz sLen (.slice base sLen sCap)).run P w.drew).andThen fun old w1 => ((Builtin.firstCells sz n xv).run P w1).andThen fun news w2 =>
        .ok (.slice (some ⟨w2.heap.size, 0, none⟩) (sLen + n) (grownCap w (sLen + n) sCap e)) (w2.alloc (.cells (old ++ news ++ Builtin.zeroCells z.cells (grownCap w (sLen + n) sCap e - (sLen + n))) e)) := by
  have hsz := T.hsz
  have hby := T.hby
  have hbytes : ¬ (sLen + n ≤ sCap) → ¬ (281474976710656 < Builtin.nextslicecap (sLen + n) sCap * bytes) ∧ (sLen + n : Int) ≤ 9223372036854775807 := fun hr => by
    rcases hfit with h | ⟨h1, h2, h3⟩
    · exact absurd h hr
    · refine ⟨by have := growslice_fits h1 h2; omega, ?_⟩
      have : sLen + n ≤ (sLen + n) * bytes := Nat.le_mul_of_pos_right _ h3
      omega
  by_cases hr : sLen + n ≤ sCap
  · rw [if_pos hr]
    cases base with
    | none =>
      rcases T.d2 with ⟨e2, hd⟩ | hd
      · simp [Builtin.append_, run_underlying' T.ht, run_underlying' hd, sizeOf, typeInfo, T.hi, hl, hr, hsz]
      · simp [Builtin.append_, run_underlying' T.ht, run_underlying' hd, sizeOf, typeInfo, T.hi, hl, hr, hsz]
    | some ad =>
      rcases T.d2 with ⟨e2, hd⟩ | hd
      · simp [Builtin.append_, run_underlying' T.ht, run_underlying' hd, sizeOf, typeInfo, T.hi, hl, hr, hsz]
      · simp [Builtin.append_, run_underlying' T.ht, run_underlying' hd, sizeOf, typeInfo, T.hi, hl, hr, hsz]
  · rw [if_neg hr]
    obtain ⟨h1, h2⟩ := hbytes hr
    have h3 : ¬ (9223372036854775807 < (sLen : Int) + (n : Int)) := by omega
    rcases T.d2 with ⟨e2, hd⟩ | hd
    · simp [Builtin.append_, run_underlying' T.ht, run_underlying' hd, sizeOf, typeInfo, T.hi, T.hz, zeroValue, hl, hr, hsz, hby, h1, h3, Question.forced, grownCap, newRow]
    · simp [Builtin.append_, run_underlying' T.ht, run_underlying' hd, sizeOf, typeInfo, T.hi, T.hz, zeroValue, hl, hr, hsz, hby, h1, h3, Question.forced, grownCap, newRow]

theorem add_at' (b o k : Nat) : (⟨b, o, none⟩ : Addr).add k = ⟨b, o + k, none⟩ := by
  unfold Addr.add
  split
  · rename_i h0; rw [h0]; rfl
  · rfl
theorem Ext.drew_left {m' : LMap} {H' : AH} {w' : World} (h : Ext m H w.drew m' H' w') : Ext m H w m' H' w' :=
  { next := h.next, sub := h.sub, new := h.new, unm := h.unm, ro := h.ro, rok := h.rok, tip := h.tip, frame := h.frame, size := h.size, os := h.os, tape := h.tape, output := h.output }
theorem HR.drew' (h : HR m H w) : HR m H w.drew := h.drew _
theorem grown_block (hh : HR m H w) {all : List AV} {old news : List Value} {rest : Array Value} {e : TypeId} (h : VRs m all (old ++ news)) (h1 : all.all oneCell = true) :
    ∃ m', HR m' (H.push (.cells all false)) (w.drew.alloc (.cells (old.toArray ++ news.toArray ++ rest) e)) ∧ Ext m H w m' (H.push (.cells all false)) (w.drew.alloc (.cells (old.toArray ++ news.toArray ++ rest) e)) ∧
      m' H.next = some ⟨w.heap.size, 0, old.length + news.length + rest.size, false⟩ := by
  have hh' := hh.drew'
  refine ⟨m.put H.next ⟨w.heap.size, 0, old.length + news.length + rest.size, false⟩, hh'.push _ _ _ fun m' hs => ?_, Ext.drew_left (Ext.push hh' _ _ _), LMap.put_self _ _ _⟩
  refine ⟨_, e, _, heap_alloc_self _ _, fun _ => ⟨rfl, fun _ => rfl⟩, by simp, by rw [← h.length]; simp, fun j x hx => ?_⟩
  obtain ⟨v, hv, hr⟩ := h.get hx
  refine ⟨v, ?_, hr.mono hs, List.all_eq_true.1 h1 x (List.mem_of_getElem? hx)⟩
  have hj : j < (old ++ news).length := (List.getElem?_eq_some_iff.1 hv).1
  rw [Nat.zero_add, ← Array.getElem?_toList]
  simp only [Array.toList_append]
  rw [List.getElem?_append_left hj]
  exact hv

theorem append_sound (hh : HR m H w) {t t2 ty e : TypeId} {i : TypeInfo} {z : Value} {sz bytes : Nat} (T : AppT P t t2 e i z sz bytes) {s x : AV} {sv xv : Value} (hs : VR m s sv) (hx : VR m x xv) {r : AV} {H' : AH} (h : appendA H sz bytes s x = some (r, H')) :
    ∃ cv m' w', (Builtin.append_ #[t, t2] ty #[sv, xv]).run P w = .ok cv w' ∧ VR m' r cv ∧ HR m' H' w' ∧ Ext m H w m' H' w' := by
  unfold appendA at h
  simp only [Option.bind_eq_some_iff] at h
  obtain ⟨n, hn, news, hnews, h⟩ := h
  have hl := lenA_sound (P := P) hx hn
  have hzsz := T.hzs
  split at h
  · -- nil
    rename_i sz0 len0 cap0
    simp only [VR] at hs; obtain ⟨rfl, rfl⟩ := hs
    split at h
    · rename_i h0; subst h0
      simp only [Option.some.injEq, Prod.mk.injEq] at h; obtain ⟨rfl, rfl⟩ := h
      obtain ⟨vs, hv1, _⟩ := sliceCells_sound (P := P) hh hx hnews
      refine ⟨.slice none 0 0, m, w, ?_, by simp [VR], hh, Ext.refl _ _ _⟩
      rw [run_append_gen T hl (.inl (Nat.le_refl _))]
      rw [if_pos (Nat.le_refl _), hv1]
      rfl
    · rename_i h0
      split at h
      · rename_i hc
        obtain ⟨hc1, hc2, hc3⟩ := hc
        simp only [Option.some.injEq, Prod.mk.injEq] at h; obtain ⟨rfl, rfl⟩ := h
        have hh' := hh.drew'
        obtain ⟨vs, hv1, hv2, hv3, hv4, hv5⟩ := sliceCells_sound (P := P) hh' hx hnews
        have hg := grownCap_ge w (0 + n) 0 e
        have hgm := grownCap_le_maxLen w (0 + n) 0 e (by have : n ≤ n * bytes := Nat.le_mul_of_pos_right _ hc2; unfold maxLen; omega)
        obtain ⟨m', h1, h2, h3⟩ := grown_block (old := []) (rest := Builtin.zeroCells z.cells (grownCap w (0 + n) 0 e - (0 + n))) (e := e) hh (by simpa using hv2) hv3
        refine ⟨.slice (some ⟨w.heap.size, 0, none⟩) n (grownCap w (0 + n) 0 e), m', _, ?_, ?_, h1, h2⟩
        · rw [run_append_gen T hl (.inr ⟨by omega, by simpa using hc1, hc2⟩), if_neg (by omega)]
          have : (Builtin.firstCells sz 0 (.slice none 0 0)).run P w.drew = .ok #[] w.drew := by simp [Builtin.firstCells]
          rw [this]
          simp only [Result.andThen_ok, hv1, Nat.zero_add]
          rfl
        · simp only [VR]
          refine ⟨_, _, _, h3, rfl, fun _ => rfl, by omega, ?_, hgm, fun d hd => by cases hd⟩
          simp only [List.length_nil, size_zeroCells, hzsz, hv5, Nat.zero_add]
          rw [← Nat.add_mul]
          exact Nat.mul_le_mul_right _ (by omega)
      · cases h
  · rename_i id off sz' len cap
    split at h
    · rename_i hc
      obtain ⟨rfl, hc1, hc2, hc3⟩ := hc
      simp only [VR] at hs
      obtain ⟨loc, c, ad, hm, rfl, had, hs1, hs2, hs3, hs4⟩ := hs
      split at h
      · rename_i l ro hg
        obtain ⟨cells, et, f0, hcc, hf0, hcc2, hcc3, hcc4⟩ := hh.ok _ _ _ hm hg
        -- growing
        have grow : c < len + n → off + len * sz' ≤ l.length → ∃ m' w', (Builtin.append_ #[t, t2] ty #[.slice (some ad) len c, xv]).run P w = .ok (.slice (some ⟨w.heap.size, 0, none⟩) (len + n) (grownCap w (len + n) c e)) w' ∧
            VR m' (.sl (some (H.next, 0)) sz' (len + n) none) (.slice (some ⟨w.heap.size, 0, none⟩) (len + n) (grownCap w (len + n) c e)) ∧
            HR m' (H.push (.cells ((l.drop off).take (len * sz') ++ news) false)) w' ∧ Ext m H w m' (H.push (.cells ((l.drop off).take (len * sz') ++ news) false)) w' := fun hgr hle => by
          have hh' := hh.drew'
          obtain ⟨vs, hv1, hv2, hv3, hv4, hv5⟩ := sliceCells_sound (P := P) hh' hx hnews
          have hself : sliceCells H sz' len (.sl (some (id, off)) sz' len cap) = some ((l.drop off).take (len * sz')) := by
            simp only [sliceCells, hg]
            rw [if_pos ⟨trivial, Nat.le_refl _, hle⟩]
          obtain ⟨us, hu1, hu2, hu3, hu4, hu5⟩ := sliceCells_sound (P := P) (xv := .slice (some ad) len c) hh' (by simp only [VR]; exact ⟨loc, c, ad, hm, rfl, had, hs1, hs2, hs3, hs4⟩) hself
          have hg := grownCap_ge w (len + n) c e
          have hgm := grownCap_le_maxLen w (len + n) c e (by have : len + n ≤ (len + n) * bytes := Nat.le_mul_of_pos_right _ hc2; unfold maxLen; omega)
          obtain ⟨m', h1, h2, h3⟩ := grown_block (rest := Builtin.zeroCells z.cells (grownCap w (len + n) c e - (len + n))) (e := e) hh (hu2.append hv2) (by rw [List.all_append, hu3, hv3]; rfl)
          refine ⟨m', _, ?_, ?_, h1, h2⟩
          · rw [run_append_gen T hl (.inr ⟨hgr, hc3, hc2⟩), if_neg (by omega), hu1]
            simp only [Result.andThen_ok, hv1]
            rfl
          · simp only [VR]
            refine ⟨_, _, _, h3, rfl, fun _ => rfl, by omega, ?_, hgm, fun d hd => by cases hd⟩
            simp only [size_zeroCells, hzsz, hv5, hu5, Nat.zero_add]
            rw [← Nat.add_mul, ← Nat.add_mul]
            exact Nat.mul_le_mul_right _ (by omega)
        split at h
        · -- capacity known
          rename_i cap0
          have hcap : c = cap0 := hs4 cap0 rfl
          subst hcap
          split at h
          · rename_i hroom
            split at h
            · rename_i h0; subst h0
              simp only [Option.some.injEq, Prod.mk.injEq] at h; obtain ⟨rfl, rfl⟩ := h
              obtain ⟨vs, hv1, _, _, _, hv5⟩ := sliceCells_sound (P := P) hh hx hnews
              refine ⟨.slice (some ad) len c, m, w, ?_, by simp only [VR]; exact ⟨loc, c, ad, hm, rfl, had, hs1, hs2, hs3, hs4⟩, hh, Ext.refl _ _ _⟩
              rw [run_append_gen T hl (.inl hroom), if_pos hroom, hv1]
              have : vs = [] := by rw [← List.length_eq_zero_iff, hv5]; simp
              subst this
              rfl
            · rename_i h0
              split at h
              · rename_i hc4
                obtain ⟨rfl, hc4⟩ := hc4
                simp only [Option.some.injEq, Prod.mk.injEq] at h; obtain ⟨rfl, rfl⟩ := h
                obtain ⟨vs, hv1, hv2, hv3, hv4, hv5⟩ := sliceCells_sound (P := P) hh hx hnews
                have hnl : news.length = n * sz' := by rw [← hv2.length]; exact hv5
                have hmul : (len + n) * sz' = len * sz' + n * sz' := Nat.add_mul _ _ _
                obtain ⟨w', h1, h2, h3, _⟩ := storeCells_sound (P := P) (off := off + len * sz') hh hm hg hv2 hv3 hv4 (by omega)
                refine ⟨.slice (some ad) (len + n) c, m, w', ?_, ?_, h2, h3⟩
                · rw [run_append_gen T hl (.inl hroom), if_pos hroom, hv1]
                  simp only [Result.andThen_ok]
                  rw [had (by omega), add_at', Nat.add_assoc]
                  simp only [h1, Result.andThen_ok]
                · simp only [VR]
                  exact ⟨loc, c, ad, hm, rfl, had, hroom, hs2, hs3, fun d hd => by simpa using hd⟩
              · cases h
          · rename_i hroom
            split at h
            · rename_i hle
              simp only [Option.some.injEq, Prod.mk.injEq] at h; obtain ⟨rfl, rfl⟩ := h
              obtain ⟨m', w', h1, h2, h3, h4⟩ := grow (by omega) hle
              exact ⟨_, m', w', h1, h2, h3, h4⟩
            · cases h
        · -- capacity not known
          split at h
          · rename_i hc4
            obtain ⟨rfl, hc4, hoff⟩ := hc4
            obtain ⟨rfl, hlo⟩ := hf0 (.inl rfl)
            have hlo := hlo rfl
            simp only [Option.some.injEq, Prod.mk.injEq] at h; obtain ⟨rfl, rfl⟩ := h
            by_cases hroom : len + n ≤ c
            · -- in place
              obtain ⟨vs, hv1, hv2, hv3, hv4, hv5⟩ := sliceCells_sound (P := P) hh hx hnews
              have hnl : news.length = n * sz' := by rw [← hv2.length]; exact hv5
              have hmul : (len + n) * sz' = len * sz' + n * sz' := Nat.add_mul _ _ _
              have hcm : (len + n) * sz' ≤ c * sz' := Nat.mul_le_mul_right _ hroom
              have hrun := run_storeCells_at P loc.b (loc.o + (off + len * sz')) et vs 0 cells w hcc (by omega) hv4
              simp only [Nat.add_zero] at hrun
              have hdrop : (l.drop off).length = len * sz' := by simp; omega
              let cs' := (cells.toList.take (loc.o + (off + len * sz')) ++ vs ++ cells.toList.drop (loc.o + (off + len * sz') + vs.length)).toArray
              have hcs : cs'.size = cells.size := by simp [cs']; omega
              have hob := onlyBlock_setRow w loc.b cs'
              let j := H.next
              let locj : Loc := ⟨loc.b, loc.o + off, loc.n - off, false⟩
              have hne : ∀ q lq oq, m q = some lq → H.get q = some oq → q ≠ id → lq.b ≠ loc.b := fun q lq oq h1 h2 h3 => hh.sep q id lq loc oq _ h1 hm h2 hg h3 (by simp [shar, AObj.ro])
              have hsub := LMap.put_sub (loc := locj) hh.fresh
              have hidn : id ≠ H.next := fun e => by have := (hh.dom _ _ hm).1; omega
              have hjobj : ObjR (m.put H.next locj) (w.setRow loc.b cs') locj (.cells (l.drop off ++ news) false) := by
                refine ⟨cs', et, _, setRow_heap w loc.b cells _ et (0, 0) hcc, fun _ => ⟨rfl, fun _ => by simp only [locj]; omega⟩, by rw [hcs]; simp only [locj]; omega, ?_, fun k y hy => ?_⟩
                · simp only [locj, List.length_append, hdrop, hnl]; omega
                · by_cases hk : k < len * sz'
                  · rw [List.getElem?_append_left (by omega), List.getElem?_drop] at hy
                    obtain ⟨v, h5, h6, h7⟩ := hcc4 _ _ hy
                    refine ⟨v, ?_, h6.mono hsub, h7⟩
                    simp only [cs', locj, List.getElem?_toArray]
                    rw [List.append_assoc, List.getElem?_append_left (by simp; omega), List.getElem?_take, if_pos (by omega)]
                    rw [show loc.o + off + k = loc.o + (off + k) by omega]
                    simpa using h5
                  · rw [List.getElem?_append_right (by omega)] at hy
                    obtain ⟨v, h5, h6⟩ := hv2.get hy
                    refine ⟨v, ?_, h6.mono hsub, List.all_eq_true.1 hv3 y (List.mem_of_getElem? hy)⟩
                    have hkv : k - (l.drop off).length < vs.length := (List.getElem?_eq_some_iff.1 h5).1
                    simp only [cs', locj, List.getElem?_toArray]
                    rw [List.getElem?_append_left (by simp; omega), List.getElem?_append_right (by simp; omega)]
                    rw [← h5]
                    congr 1
                    simp
                    omega
              refine ⟨.slice (some ad) (len + n) c, m.put H.next locj, w.setRow loc.b cs', ?_, ?_, ?_, ?_⟩
              · rw [run_append_gen T hl (.inl hroom), if_pos hroom, hv1]
                simp only [Result.andThen_ok]
                by_cases hc0 : 0 < c
                · rw [had hc0, add_at', Nat.add_assoc]
                  simp only [hrun, Result.andThen_ok]
                  rfl
                · have hn0 : n = 0 := by omega
                  have hv0 : vs = [] := by rw [← List.length_eq_zero_iff, hv5, hn0]; simp
                  have hcs0 : w.setRow loc.b cs' = w := by
                    have : cs' = cells := by
                      simp only [cs', hv0, List.append_nil, List.length_nil, Nat.add_zero, List.take_append_drop, Array.toArray_toList]
                    rw [this]; exact setRow_self w loc.b cells et (0, 0) hcc
                  rw [hcs0, hv0]
                  rfl
              · simp only [VR]
                exact ⟨locj, c, ad, LMap.put_self _ _ _, rfl, fun h0 => by simp only [locj]; rw [had h0]; rfl, hroom, by simp only [locj]; omega, hs3, fun d hd => by cases hd⟩
              · refine ⟨fun q hq => ?_, fun q lq hq => ?_, fun q lq oq hq hoq => ?_, fun q q' lq lq' oq oq' hq hq' hoq hoq' hqq hsh => ?_, fun q ht => ?_, fun q lq lx ht hq hl => ?_⟩
                rotate_left 4
                · simp only [AH.kill, AH.push] at ht
                  split at ht
                  · cases ht
                  · rename_i h5
                    obtain ⟨h6, h7, lx, h8⟩ := hh.tipo q ht
                    exact ⟨by simp only [AH.kill, AH.push]; omega, h7, lx, by rw [AH.get_kill, if_neg h5, AH.get_push, if_neg (by omega)]; exact h8⟩
                · simp only [AH.kill, AH.push] at ht
                  split at ht
                  · cases ht
                  · rename_i h5
                    obtain ⟨h6, _, _⟩ := hh.tipo q ht
                    rw [AH.get_kill, if_neg h5, AH.get_push, if_neg (by omega)] at hl
                    unfold LMap.put at hq
                    rw [if_neg (by omega)] at hq
                    obtain ⟨⟨c0, e0, hc0⟩, h8⟩ := hh.tip q lq lx ht hq hl
                    have hqb := hne q lq _ hq hl h5
                    refine ⟨⟨c0, e0, (hob.other _ hqb).trans hc0⟩, fun i2 li2 oi2 h9 h10 h11 h12 => ?_⟩
                    unfold LMap.put at h9
                    rw [AH.get_kill, AH.get_push] at h10
                    split at h9
                    · obtain rfl := Option.some.inj h9; exact absurd h11.symm hqb
                    · rename_i h13
                      split at h10
                      · cases h10
                      · try rw [if_neg h13] at h10
                        obtain ⟨h14, h15⟩ := h8 i2 li2 oi2 h9 h10 h11 h12
                        refine ⟨?_, h15⟩
                        simp only [AH.kill, AH.push]
                        split
                        · rfl
                        · exact h14
                · rw [AH.get_kill, AH.get_push]
                  simp only [AH.kill, AH.push] at hq
                  split
                  · rfl
                  · rw [if_neg (by omega)]; exact hh.wf q (by omega)
                · unfold LMap.put at hq
                  simp only [AH.kill, AH.push]
                  split at hq
                  · rename_i e; subst e; obtain rfl := Option.some.inj hq; exact ⟨by omega, by rw [hob.size]; exact (hh.dom _ _ hm).2⟩
                  · have := hh.dom q lq hq; exact ⟨by omega, by rw [hob.size]; exact this.2⟩
                · rw [AH.get_kill, AH.get_push] at hoq
                  unfold LMap.put at hq
                  split at hoq
                  · cases hoq
                  · rename_i hqid
                    split at hq
                    · rename_i e; subst e
                      rw [if_pos rfl] at hoq
                      obtain rfl := Option.some.inj hq
                      obtain rfl := Option.some.inj hoq
                      exact hjobj
                    · rename_i e
                      rw [if_neg e] at hoq
                      exact (hh.ok q lq oq hq hoq).mono hsub (hob.other _ (hne q lq oq hq hoq hqid))
                · rw [AH.get_kill, AH.get_push] at hoq hoq'
                  unfold LMap.put at hq hq'
                  split at hoq
                  · cases hoq
                  · rename_i h5
                    split at hoq'
                    · cases hoq'
                    · rename_i h6
                      split at hq <;> split at hq'
                      · rename_i e e'; exact absurd (e.trans e'.symm) hqq
                      · rename_i e e'
                        obtain rfl := Option.some.inj hq
                        rw [if_neg e'] at hoq'
                        exact (hne q' lq' oq' hq' hoq' h6).symm
                      · rename_i e e'
                        obtain rfl := Option.some.inj hq'
                        rw [if_neg e] at hoq
                        exact hne q lq oq hq hoq h5
                      · rename_i e e'
                        rw [if_neg e] at hoq
                        rw [if_neg e'] at hoq'
                        exact hh.sep q q' lq lq' oq oq' hq hq' hoq hoq' hqq hsh
              · have hmine : Mine m H loc.b := ⟨id, loc, _, hm, hg, .inl rfl, rfl⟩
                have hext : Ext m H w (m.put H.next locj) (H.push (.cells (l.drop off ++ news) false)) (w.setRow loc.b cs') := {
                  next := by simp [AH.push]
                  sub := hsub
                  new := fun q lq hq hn => by
                    unfold LMap.put at hq
                    split at hq
                    · rename_i e; subst e; obtain rfl := Option.some.inj hq; exact ⟨Nat.le_refl _, .inr hmine⟩
                    · rw [hn] at hq; cases hq
                  unm := fun q hq _ => by rw [AH.get_push, if_neg (by omega)]
                  ro := fun q hq o' ho => by rw [AH.get_push, if_neg (by omega)] at ho; exact ⟨o', ho, rfl⟩
                  rok := fun q o' ho _ => by
                    rw [AH.get_push]
                    split
                    · rename_i e; subst e; rw [hh.wf _ (Nat.le_refl _)] at ho; cases ho
                    · exact ho
                  tip := fun _ _ h => h
                  frame := fun b _ hb => hob.other b (fun e => hb (by rw [e]; exact hmine))
                  size := Nat.le_of_eq hob.size.symm
                  os := rfl
                  tape := rfl
                  output := rfl }
                exact hext.kill hm hg rfl
            · obtain ⟨m', w', h1, h2, h3, h4⟩ := grow (by omega) (by omega)
              have htake : (l.drop off).take (len * sz') = l.drop off := List.take_of_length_le (by simp; omega)
              rw [htake] at h3 h4
              exact ⟨_, m', w', h1, h2, h3.kill id, h4.kill hm hg rfl⟩
          · cases h
      · cases h
    · cases h
  · cases h
end
end Go.Proofs.YtbpgbhmibmcbnaaGreatDoor.Ram

/-! Append whose rows are never written again. -/
namespace Go.Proofs.YtbpgbhmibmcbnaaGreatDoor.Ram
open Go Go.RowKit
section
variable {P : Program} {m : LMap} {H : AH} {w : World}

theorem AH.get_grow (H : AH) (l : List AV) (j : Nat) : (H.grow l).get j = if j = H.next then some (.cells l true) else H.get j := rfl
theorem AH.get_stop (H : AH) (i j : Nat) : (H.stop i).get j = H.get j := rfl

theorem HR.tipOn (hh : HR m H w) {j : Nat} {lj : Loc} {l : List AV} (hm : m j = some lj) (hg : H.get j = some (.cells l true)) (h100 : 100 ≤ j) (hb : ∃ c e, w.heap[lj.b]? = some (.cells c e (0, 0)))
    (hx : ∀ i li oi, m i = some li → H.get i = some oi → li.b = lj.b → i = j) : HR m (H.tipOn j) w := by
  refine ⟨hh.wf, hh.dom, hh.ok, hh.sep, fun i ht => ?_, fun i li l' ht hi hl => ?_⟩
  · simp only [AH.tipOn] at ht
    split at ht
    · rename_i e; subst e; exact ⟨(hh.dom _ _ hm).1, h100, l, hg⟩
    · exact hh.tipo i ht
  · simp only [AH.tipOn] at ht
    split at ht
    · rename_i e; subst e
      rw [hm] at hi
      obtain rfl := Option.some.inj hi
      exact ⟨hb, fun q lq oq hq hoq h1 h2 => absurd (hx q lq oq hq hoq h1) h2⟩
    · rename_i e
      obtain ⟨h1, h2⟩ := hh.tip i li l' ht hi hl
      refine ⟨h1, fun q lq oq hq hoq h3 h4 => ?_⟩
      obtain ⟨h5, h6⟩ := h2 q lq oq hq hoq h3 h4
      refine ⟨?_, h6⟩
      simp only [AH.tipOn]
      split
      · rename_i e2; subst e2
        rw [hm] at hq
        obtain rfl := Option.some.inj hq
        exact absurd (hx i li _ hi hl h3.symm) e
      · exact h5
theorem HR.stop (hh : HR m H w) (j : Nat) : HR m (H.stop j) w := by
  have key : ∀ i, (H.stop j).tip i = true → H.tip i = true := fun i ht => by
    simp only [AH.stop] at ht
    split at ht
    · cases ht
    · exact ht
  refine ⟨hh.wf, hh.dom, hh.ok, hh.sep, fun i ht => hh.tipo i (key i ht), fun i li l' ht hi hl => ?_⟩
  obtain ⟨h1, h2⟩ := hh.tip i li l' (key i ht) hi hl
  refine ⟨h1, fun q lq oq hq hoq h3 h4 => ?_⟩
  obtain ⟨h5, h6⟩ := h2 q lq oq hq hoq h3 h4
  refine ⟨?_, h6⟩
  simp only [AH.stop]
  split
  · rfl
  · exact h5
theorem Ext.stop {m' : LMap} {H' : AH} {w' : World} (h : Ext m H w m' H' w') (j : Nat) : Ext m H w m' (H'.stop j) w' :=
  { h with
    unm := h.unm, ro := h.ro, rok := h.rok
    tip := fun i hi ht => by
      simp only [AH.stop] at ht
      split at ht
      · cases ht
      · exact h.tip i hi ht }
theorem Ext.tipOn {m' : LMap} {H' : AH} {w' : World} (h : Ext m H w m' H' w') {j : Nat} (hj : H.next ≤ j) : Ext m H w m' (H'.tipOn j) w' :=
  { h with
    unm := h.unm, ro := h.ro, rok := h.rok
    tip := fun i hi ht => by
      simp only [AH.tipOn] at ht
      split at ht
      · omega
      · exact h.tip i hi ht }
theorem grown_blockF (hh : HR m H w) {all : List AV} {old news : List Value} {rest : Array Value} {e : TypeId} (h : VRs m all (old ++ news)) (h1 : all.all oneCell = true) (h100 : 100 ≤ H.next) :
    ∃ m', HR m' (H.grow all) (w.drew.alloc (.cells (old.toArray ++ news.toArray ++ rest) e)) ∧ Ext m H w m' (H.grow all) (w.drew.alloc (.cells (old.toArray ++ news.toArray ++ rest) e)) ∧
      m' H.next = some ⟨w.heap.size, 0, old.length + news.length + rest.size, false⟩ := by
  have hh' := hh.drew'
  have hp := hh'.push (.cells (old.toArray ++ news.toArray ++ rest) e) (.cells all true) (old.length + news.length + rest.size) fun m' hs => by
    refine ⟨_, e, _, heap_alloc_self _ _, fun _ => ⟨rfl, fun _ => rfl⟩, by simp, by rw [← h.length]; simp, fun j x hx => ?_⟩
    obtain ⟨v, hv, hr⟩ := h.get hx
    refine ⟨v, ?_, hr.mono hs, List.all_eq_true.1 h1 x (List.mem_of_getElem? hx)⟩
    have hj : j < (old ++ news).length := (List.getElem?_eq_some_iff.1 hv).1
    rw [Nat.zero_add, ← Array.getElem?_toList]
    simp only [Array.toList_append]
    rw [List.getElem?_append_left hj]
    exact hv
  refine ⟨m.put H.next ⟨w.heap.size, 0, old.length + news.length + rest.size, false⟩, ?_, (Ext.drew_left (Ext.push hh' _ _ _)).tipOn (Nat.le_refl _), LMap.put_self _ _ _⟩
  refine hp.tipOn (LMap.put_self _ _ _) (by rw [AH.get_push, if_pos rfl]) h100 ⟨_, _, heap_alloc_self _ _⟩ fun i li oi hi _ hb => ?_
  unfold LMap.put at hi
  split at hi
  · assumption
  · have := (hh.dom i li hi).2; simp only at hb; exfalso; have hw : w.drew.heap.size = w.heap.size := rfl; omega

theorem appendF_sound (hh : HR m H w) {t t2 ty e : TypeId} {i : TypeInfo} {z : Value} {sz bytes : Nat} (T : AppT P t t2 e i z sz bytes) {s x : AV} {sv xv : Value} (hs : VR m s sv) (hx : VR m x xv) {r : AV} {H' : AH} (h : appendF H sz bytes s x = some (r, H')) :
    ∃ cv m' w', (Builtin.append_ #[t, t2] ty #[sv, xv]).run P w = .ok cv w' ∧ VR m' r cv ∧ HR m' H' w' ∧ Ext m H w m' H' w' := by
  unfold appendF at h
  simp only [Option.bind_eq_some_iff] at h
  obtain ⟨n, hn, news, hnews, h⟩ := h
  have hl := lenA_sound (P := P) hx hn
  have hzsz := T.hzs
  split at h
  · -- nil
    rename_i sz0 len0 cap0
    simp only [VR] at hs; obtain ⟨rfl, rfl⟩ := hs
    split at h
    · rename_i h0; subst h0
      simp only [Option.some.injEq, Prod.mk.injEq] at h; obtain ⟨rfl, rfl⟩ := h
      obtain ⟨vs, hv1, _⟩ := sliceCells_sound (P := P) hh hx hnews
      refine ⟨.slice none 0 0, m, w, ?_, by simp [VR], hh, Ext.refl _ _ _⟩
      rw [run_append_gen T hl (.inl (Nat.le_refl _))]
      rw [if_pos (Nat.le_refl _), hv1]
      rfl
    · rename_i h0
      split at h
      · rename_i hc
        obtain ⟨hc1, hc2, hc3, hc4⟩ := hc
        simp only [Option.some.injEq, Prod.mk.injEq] at h; obtain ⟨rfl, rfl⟩ := h
        have hh' := hh.drew'
        obtain ⟨vs, hv1, hv2, hv3, hv4, hv5⟩ := sliceCells_sound (P := P) hh' hx hnews
        have hg := grownCap_ge w (0 + n) 0 e
        have hgm := grownCap_le_maxLen w (0 + n) 0 e (by have : n ≤ n * bytes := Nat.le_mul_of_pos_right _ hc2; unfold maxLen; omega)
        obtain ⟨m', h1, h2, h3⟩ := grown_blockF (old := []) (rest := Builtin.zeroCells z.cells (grownCap w (0 + n) 0 e - (0 + n))) (e := e) hh (by simpa using hv2) hv3 hc4
        refine ⟨.slice (some ⟨w.heap.size, 0, none⟩) n (grownCap w (0 + n) 0 e), m', _, ?_, ?_, h1, h2⟩
        · rw [run_append_gen T hl (.inr ⟨by omega, by simpa using hc1, hc2⟩), if_neg (by omega)]
          have : (Builtin.firstCells sz 0 (.slice none 0 0)).run P w.drew = .ok #[] w.drew := by simp [Builtin.firstCells]
          rw [this]
          simp only [Result.andThen_ok, hv1, Nat.zero_add]
          rfl
        · simp only [VR]
          refine ⟨_, _, _, h3, rfl, fun _ => rfl, by omega, ?_, hgm, fun d hd => by cases hd⟩
          simp only [List.length_nil, size_zeroCells, hzsz, hv5, Nat.zero_add]
          rw [← Nat.add_mul]
          exact Nat.mul_le_mul_right _ (by omega)
      · cases h
  · rename_i id off sz' len cap
    split at h
    · rename_i hc
      obtain ⟨rfl, hc1, hc2, hc3⟩ := hc
      simp only [VR] at hs
      obtain ⟨loc, c, ad, hm, rfl, had, hs1, hs2, hs3, hs4⟩ := hs
      split at h
      · rename_i l ro hg
        obtain ⟨cells, et, f0, hcc, hf0, hcc2, hcc3, hcc4⟩ := hh.ok _ _ _ hm hg
        -- growing
        have grow : c < len + n → off + len * sz' ≤ l.length → 100 ≤ H.next → ∃ m' w', (Builtin.append_ #[t, t2] ty #[.slice (some ad) len c, xv]).run P w = .ok (.slice (some ⟨w.heap.size, 0, none⟩) (len + n) (grownCap w (len + n) c e)) w' ∧
            VR m' (.sl (some (H.next, 0)) sz' (len + n) none) (.slice (some ⟨w.heap.size, 0, none⟩) (len + n) (grownCap w (len + n) c e)) ∧
            HR m' (H.grow ((l.drop off).take (len * sz') ++ news)) w' ∧ Ext m H w m' (H.grow ((l.drop off).take (len * sz') ++ news)) w' := fun hgr hle h100 => by
          have hh' := hh.drew'
          obtain ⟨vs, hv1, hv2, hv3, hv4, hv5⟩ := sliceCells_sound (P := P) hh' hx hnews
          have hself : sliceCells H sz' len (.sl (some (id, off)) sz' len cap) = some ((l.drop off).take (len * sz')) := by
            simp only [sliceCells, hg]
            rw [if_pos ⟨trivial, Nat.le_refl _, hle⟩]
          obtain ⟨us, hu1, hu2, hu3, hu4, hu5⟩ := sliceCells_sound (P := P) (xv := .slice (some ad) len c) hh' (by simp only [VR]; exact ⟨loc, c, ad, hm, rfl, had, hs1, hs2, hs3, hs4⟩) hself
          have hg := grownCap_ge w (len + n) c e
          have hgm := grownCap_le_maxLen w (len + n) c e (by have : len + n ≤ (len + n) * bytes := Nat.le_mul_of_pos_right _ hc2; unfold maxLen; omega)
          obtain ⟨m', h1, h2, h3⟩ := grown_blockF (rest := Builtin.zeroCells z.cells (grownCap w (len + n) c e - (len + n))) (e := e) hh (hu2.append hv2) (by rw [List.all_append, hu3, hv3]; rfl) h100
          refine ⟨m', _, ?_, ?_, h1, h2⟩
          · rw [run_append_gen T hl (.inr ⟨hgr, hc3, hc2⟩), if_neg (by omega), hu1]
            simp only [Result.andThen_ok, hv1]
            rfl
          · simp only [VR]
            refine ⟨_, _, _, h3, rfl, fun _ => rfl, by omega, ?_, hgm, fun d hd => by cases hd⟩
            simp only [size_zeroCells, hzsz, hv5, hu5, Nat.zero_add]
            rw [← Nat.add_mul, ← Nat.add_mul]
            exact Nat.mul_le_mul_right _ (by omega)
        split at h
        · -- capacity known
          rename_i cap0
          have hcap : c = cap0 := hs4 cap0 rfl
          subst hcap
          split at h
          · rename_i hroom
            split at h
            · rename_i h0; subst h0
              simp only [Option.some.injEq, Prod.mk.injEq] at h; obtain ⟨rfl, rfl⟩ := h
              obtain ⟨vs, hv1, _, _, _, hv5⟩ := sliceCells_sound (P := P) hh hx hnews
              refine ⟨.slice (some ad) len c, m, w, ?_, by simp only [VR]; exact ⟨loc, c, ad, hm, rfl, had, hs1, hs2, hs3, hs4⟩, hh, Ext.refl _ _ _⟩
              rw [run_append_gen T hl (.inl hroom), if_pos hroom, hv1]
              have : vs = [] := by rw [← List.length_eq_zero_iff, hv5]; simp
              subst this
              rfl
            · rename_i h0
              split at h
              · rename_i hc4
                obtain ⟨rfl, hc4⟩ := hc4
                simp only [Option.some.injEq, Prod.mk.injEq] at h; obtain ⟨rfl, rfl⟩ := h
                obtain ⟨vs, hv1, hv2, hv3, hv4, hv5⟩ := sliceCells_sound (P := P) hh hx hnews
                have hnl : news.length = n * sz' := by rw [← hv2.length]; exact hv5
                have hmul : (len + n) * sz' = len * sz' + n * sz' := Nat.add_mul _ _ _
                obtain ⟨w', h1, h2, h3, _⟩ := storeCells_sound (P := P) (off := off + len * sz') hh hm hg hv2 hv3 hv4 (by omega)
                refine ⟨.slice (some ad) (len + n) c, m, w', ?_, ?_, h2, h3⟩
                · rw [run_append_gen T hl (.inl hroom), if_pos hroom, hv1]
                  simp only [Result.andThen_ok]
                  rw [had (by omega), add_at', Nat.add_assoc]
                  simp only [h1, Result.andThen_ok]
                · simp only [VR]
                  exact ⟨loc, c, ad, hm, rfl, had, hroom, hs2, hs3, fun d hd => by simpa using hd⟩
              · cases h
          · rename_i hroom
            split at h
            · rename_i hle
              simp only [Option.some.injEq, Prod.mk.injEq] at h; obtain ⟨rfl, rfl⟩ := h
              obtain ⟨m', w', h1, h2, h3, h4⟩ := grow (by omega) hle.1 hle.2
              exact ⟨_, m', w', h1, h2, h3, h4⟩
            · cases h
        · -- capacity not known
          split at h
          · rename_i hc4
            obtain ⟨htip, rfl, hc4, h100⟩ := hc4
            obtain ⟨⟨c0, e0, hc0⟩, htx⟩ := hh.tip id loc l htip hm hg
            rw [hcc] at hc0
            simp only [Option.some.injEq, Obj.cells.injEq] at hc0
            obtain ⟨rfl, rfl, rfl⟩ := hc0
            obtain ⟨hidlt, hid100, _⟩ := hh.tipo id htip
            simp only [Option.some.injEq, Prod.mk.injEq] at h; obtain ⟨rfl, rfl⟩ := h
            by_cases hroom : len + n ≤ c
            · -- in place
              obtain ⟨vs, hv1, hv2, hv3, hv4, hv5⟩ := sliceCells_sound (P := P) hh hx hnews
              have hnl : news.length = n * sz' := by rw [← hv2.length]; exact hv5
              have hmul : (len + n) * sz' = len * sz' + n * sz' := Nat.add_mul _ _ _
              have hcm : (len + n) * sz' ≤ c * sz' := Nat.mul_le_mul_right _ hroom
              have hrun := run_storeCells_at P loc.b (loc.o + (off + len * sz')) et vs 0 cells w hcc (by omega) hv4
              simp only [Nat.add_zero] at hrun
              have hdrop : (l.drop off).length = len * sz' := by simp; omega
              let cs' := (cells.toList.take (loc.o + (off + len * sz')) ++ vs ++ cells.toList.drop (loc.o + (off + len * sz') + vs.length)).toArray
              have hcs : cs'.size = cells.size := by simp [cs']; omega
              have hob := onlyBlock_setRow w loc.b cs'
              let locj : Loc := ⟨loc.b, loc.o + off, loc.n - off, false⟩
              have hsub := LMap.put_sub (loc := locj) hh.fresh
              have hidn : id ≠ H.next := by omega
              -- what stands ahead of the row's end stays
              have hstay : ∀ j v, j < loc.o + l.length → cells[j]? = some v → cs'[j]? = some v := fun j v hj hv => by
                simp only [cs', List.getElem?_toArray]
                rw [List.append_assoc, List.getElem?_append_left (by simp; have := (Array.getElem?_eq_some_iff.1 hv).1; omega), List.getElem?_take, if_pos (by omega)]
                simpa using hv
              have hjobj : ObjR (m.put H.next locj) (w.setRow loc.b cs') locj (.cells (l.drop off ++ news) true) := by
                refine ⟨cs', et, _, setRow_heap w loc.b cells _ et (0, 0) hcc, (fun h => by rcases h with h | h <;> cases h), by rw [hcs]; simp only [locj]; omega, ?_, fun k y hy => ?_⟩
                · simp only [locj, List.length_append, hdrop, hnl]; omega
                · by_cases hk : k < len * sz'
                  · rw [List.getElem?_append_left (by omega), List.getElem?_drop] at hy
                    obtain ⟨v, h5, h6, h7⟩ := hcc4 _ _ hy
                    refine ⟨v, ?_, h6.mono hsub, h7⟩
                    rw [show locj.o + k = loc.o + (off + k) by simp only [locj]; omega]
                    exact hstay _ v (by omega) h5
                  · rw [List.getElem?_append_right (by omega)] at hy
                    obtain ⟨v, h5, h6⟩ := hv2.get hy
                    refine ⟨v, ?_, h6.mono hsub, List.all_eq_true.1 hv3 y (List.mem_of_getElem? hy)⟩
                    have hkv : k - (l.drop off).length < vs.length := (List.getElem?_eq_some_iff.1 h5).1
                    simp only [cs', locj, List.getElem?_toArray]
                    rw [List.getElem?_append_left (by simp; omega), List.getElem?_append_right (by simp; omega)]
                    rw [← h5]
                    congr 1
                    simp
                    omega
              -- who shares the block
              have hshare : ∀ q lq oq, m q = some lq → H.get q = some oq → lq.b = loc.b → ∀ l' r, oq = .cells l' r → lq.o + l'.length ≤ loc.o + l.length := fun q lq oq h1 h2 h3 l' r h4 => by
                by_cases hq : q = id
                · subst hq
                  rw [hm] at h1; obtain rfl := Option.some.inj h1
                  rw [hg] at h2; obtain rfl := Option.some.inj h2
                  cases h4; exact Nat.le_refl _
                · exact (htx q lq oq h1 h2 h3 hq).2 l' r h4
              refine ⟨.slice (some ad) (len + n) c, m.put H.next locj, w.setRow loc.b cs', ?_, ?_, ?_, ?_⟩
              · rw [run_append_gen T hl (.inl hroom), if_pos hroom, hv1]
                simp only [Result.andThen_ok]
                by_cases hc0 : 0 < c
                · rw [had hc0, add_at', Nat.add_assoc]
                  simp only [hrun, Result.andThen_ok]
                  rfl
                · have hn0 : n = 0 := by omega
                  have hv0 : vs = [] := by rw [← List.length_eq_zero_iff, hv5, hn0]; simp
                  have hcs0 : w.setRow loc.b cs' = w := by
                    have : cs' = cells := by
                      simp only [cs', hv0, List.append_nil, List.length_nil, Nat.add_zero, List.take_append_drop, Array.toArray_toList]
                    rw [this]; exact setRow_self w loc.b cells et (0, 0) hcc
                  rw [hcs0, hv0]
                  rfl
              · simp only [VR]
                exact ⟨locj, c, ad, LMap.put_self _ _ _, rfl, fun h0 => by simp only [locj]; rw [had h0]; rfl, hroom, by simp only [locj]; omega, hs3, fun d hd => by cases hd⟩
              · refine ⟨fun q hq => ?_, fun q lq hq => ?_, fun q lq oq hq hoq => ?_, fun q q' lq lq' oq oq' hq hq' hoq hoq' hqq hsh => ?_, fun q ht => ?_, fun q lq lx ht hq hlx => ?_⟩
                · simp only [AH.stop, AH.grow, AH.tipOn, AH.push] at hq
                  rw [AH.get_stop, AH.get_grow, if_neg (by omega)]
                  exact hh.wf q (by omega)
                · unfold LMap.put at hq
                  simp only [AH.stop, AH.grow, AH.tipOn, AH.push]
                  split at hq
                  · rename_i e; subst e; obtain rfl := Option.some.inj hq; exact ⟨by omega, by rw [hob.size]; exact (hh.dom _ _ hm).2⟩
                  · have := hh.dom q lq hq; exact ⟨by omega, by rw [hob.size]; exact this.2⟩
                · rw [AH.get_stop, AH.get_grow] at hoq
                  unfold LMap.put at hq
                  split at hq
                  · rename_i e; subst e
                    rw [if_pos rfl] at hoq
                    obtain rfl := Option.some.inj hq
                    obtain rfl := Option.some.inj hoq
                    exact hjobj
                  · rename_i e
                    rw [if_neg e] at hoq
                    by_cases hb : lq.b = loc.b
                    · have hok := hh.ok q lq oq hq hoq
                      cases oq with
                      | map l' r =>
                        obtain ⟨es, ck, h1, _⟩ := hok
                        rw [hb, hcc] at h1; cases h1
                      | cells l' r =>
                        obtain ⟨c1, e1, f1, h1, h2, h3, h4, h5⟩ := hok
                        rw [hb, hcc] at h1
                        simp only [Option.some.injEq, Obj.cells.injEq] at h1
                        obtain ⟨rfl, rfl, rfl⟩ := h1
                        have hle := hshare q lq _ hq hoq hb l' r rfl
                        refine ⟨cs', et, _, by rw [hb]; exact setRow_heap w loc.b cells _ et (0, 0) hcc, fun h => ⟨rfl, (h2 h).2⟩, by rw [hcs]; exact h3, h4, fun k y hy => ?_⟩
                        obtain ⟨v, h6, h7, h8⟩ := h5 k y hy
                        have := (List.getElem?_eq_some_iff.1 hy).1
                        exact ⟨v, hstay _ v (by omega) h6, h7.mono hsub, h8⟩
                    · exact (hh.ok q lq oq hq hoq).mono hsub (hob.other _ hb)
                · rw [AH.get_stop, AH.get_grow] at hoq hoq'
                  unfold LMap.put at hq hq'
                  have hnew : shar H.next (AObj.cells (l.drop off ++ news) true).ro = true := by simp [shar, AObj.ro]
                  have hidsh : shar id (AObj.cells l true).ro = true := by simp [shar, AObj.ro]
                  have hother : ∀ p lp op, m p = some lp → H.get p = some op → shar p op.ro = false → lp.b ≠ loc.b := fun p lp op h1 h2 h3 => by
                    have hpid : p ≠ id := fun e => by subst e; rw [hg] at h2; obtain rfl := Option.some.inj h2; rw [hidsh] at h3; cases h3
                    exact hh.sep p id lp loc op _ h1 hm h2 hg hpid (by rw [h3]; rfl)
                  split at hq <;> split at hq'
                  · rename_i e e'; exact absurd (e.trans e'.symm) hqq
                  · rename_i e e'
                    obtain rfl := Option.some.inj hq
                    rw [if_pos e] at hoq
                    rw [if_neg e'] at hoq'
                    obtain rfl := Option.some.inj hoq
                    subst e
                    rw [hnew, Bool.true_and] at hsh
                    exact (hother q' lq' oq' hq' hoq' hsh).symm
                  · rename_i e e'
                    obtain rfl := Option.some.inj hq'
                    rw [if_pos e'] at hoq'
                    rw [if_neg e] at hoq
                    obtain rfl := Option.some.inj hoq'
                    subst e'
                    rw [hnew, Bool.and_true] at hsh
                    exact hother q lq oq hq hoq hsh
                  · rename_i e e'
                    rw [if_neg e] at hoq
                    rw [if_neg e'] at hoq'
                    exact hh.sep q q' lq lq' oq oq' hq hq' hoq hoq' hqq hsh
                · simp only [AH.stop, AH.grow, AH.tipOn, AH.push] at ht
                  split at ht
                  · cases ht
                  · split at ht
                    · rename_i e; subst e
                      exact ⟨Nat.lt_succ_self _, h100, _, by rw [AH.get_stop, AH.get_grow, if_pos rfl]⟩
                    · obtain ⟨h6, h7, lx, h8⟩ := hh.tipo q ht
                      exact ⟨Nat.lt_succ_of_lt h6, h7, lx, by rw [AH.get_stop, AH.get_grow, if_neg (by omega)]; exact h8⟩
                · simp only [AH.stop, AH.grow, AH.tipOn, AH.push] at ht
                  rw [AH.get_stop, AH.get_grow] at hlx
                  unfold LMap.put at hq
                  split at ht
                  · cases ht
                  · rename_i hqid
                    split at ht
                    · rename_i e; subst e
                      rw [if_pos rfl] at hq hlx
                      obtain rfl := Option.some.inj hq
                      simp only [Option.some.injEq, AObj.cells.injEq, and_true] at hlx
                      subst hlx
                      refine ⟨⟨cs', et, setRow_heap w loc.b cells _ et (0, 0) hcc⟩, fun p lp op hp hop hb hne => ?_⟩
                      unfold LMap.put at hp
                      rw [if_neg hne] at hp
                      rw [AH.get_stop, AH.get_grow, if_neg hne] at hop
                      refine ⟨?_, fun l' r h9 => ?_⟩
                      · simp only [AH.stop, AH.grow, AH.tipOn, AH.push]
                        split
                        · rfl
                        · rename_i hpid
                          try rw [if_neg hne]
                          exact (htx p lp op hp hop hb hpid).1
                      · have := hshare p lp op hp hop hb l' r h9
                        simp only [locj, List.length_append, hdrop]; omega
                    · rename_i e
                      rw [if_neg e] at hq hlx
                      have hqb : lq.b ≠ loc.b := fun hb => by
                        have := (htx q lq _ hq hlx hb hqid).1
                        rw [ht] at this; cases this
                      obtain ⟨⟨c1, e1, h9⟩, h10⟩ := hh.tip q lq lx ht hq hlx
                      refine ⟨⟨c1, e1, (hob.other _ hqb).trans h9⟩, fun p lp op hp hop hb hne => ?_⟩
                      unfold LMap.put at hp
                      rw [AH.get_stop, AH.get_grow] at hop
                      split at hp
                      · obtain rfl := Option.some.inj hp; exact absurd hb.symm hqb
                      · rename_i h13
                        rw [if_neg h13] at hop
                        obtain ⟨h14, h15⟩ := h10 p lp op hp hop hb hne
                        refine ⟨?_, h15⟩
                        simp only [AH.stop, AH.grow, AH.tipOn, AH.push]
                        split
                        · rfl
                        · try rw [if_neg h13]
                          exact h14
              · have hmine : Mine m H loc.b := ⟨id, loc, _, hm, hg, .inr htip, rfl⟩
                exact {
                  next := by simp [AH.stop, AH.grow, AH.tipOn, AH.push]
                  sub := hsub
                  new := fun q lq hq hn => by
                    unfold LMap.put at hq
                    split at hq
                    · rename_i e; subst e; obtain rfl := Option.some.inj hq; exact ⟨Nat.le_refl _, .inr hmine⟩
                    · rw [hn] at hq; cases hq
                  unm := fun q hq _ => by rw [AH.get_stop, AH.get_grow, if_neg (by omega)]
                  ro := fun q hq o' ho => by rw [AH.get_stop, AH.get_grow, if_neg (by omega)] at ho; exact ⟨o', ho, rfl⟩
                  rok := fun q o' ho _ => by
                    rw [AH.get_stop, AH.get_grow]
                    split
                    · rename_i e; subst e; rw [hh.wf _ (Nat.le_refl _)] at ho; cases ho
                    · exact ho
                  tip := fun q hq ht => by
                    simp only [AH.stop, AH.grow, AH.tipOn, AH.push] at ht
                    split at ht
                    · cases ht
                    · rw [if_neg (by omega)] at ht; exact ht
                  frame := fun b _ hb => hob.other b (fun e => hb (by rw [e]; exact hmine))
                  size := Nat.le_of_eq hob.size.symm
                  os := rfl
                  tape := rfl
                  output := rfl }
            · obtain ⟨m', w', h1, h2, h3, h4⟩ := grow (by omega) (by omega) h100
              have htake : (l.drop off).take (len * sz') = l.drop off := List.take_of_length_le (by simp; omega)
              rw [htake] at h3 h4
              exact ⟨_, m', w', h1, h2, h3.stop id, h4.stop id⟩
          · cases h
      · cases h
    · cases h
  · cases h
theorem appendX_sound (hh : HR m H w) {t t2 ty e : TypeId} {i : TypeInfo} {z : Value} {fz : Bool} {sz bytes : Nat} (T : AppT P t t2 e i z sz bytes) {s x : AV} {sv xv : Value} (hs : VR m s sv) (hx : VR m x xv) {r : AV} {H' : AH} (h : appendX H fz sz bytes s x = some (r, H')) :
    ∃ cv m' w', (Builtin.append_ #[t, t2] ty #[sv, xv]).run P w = .ok cv w' ∧ VR m' r cv ∧ HR m' H' w' ∧ Ext m H w m' H' w' := by
  unfold appendX at h
  split at h
  · exact appendF_sound hh T hs hx h
  · exact append_sound hh T hs hx h
end
end Go.Proofs.YtbpgbhmibmcbnaaGreatDoor.Ram

/-! The acts; one operation, whatever it is. -/
namespace Go.Proofs.YtbpgbhmibmcbnaaGreatDoor.Ram
open Go Go.RowKit

def okAct (P : Program) (G : List Nat) : Op → AOp → Bool
  | .store t x y, .store n x' y' => decide (sizeB P t = some n) && okOpd G x x' && okOpd G y y'
  | .makeSlice t x y, .mkSlice _ sz bytes zero x' y' => (match P.underlying t with
      | some (.slice e) => (match P.info? e with
        | some i => (match i.zero with
          | some z => decide (i.size = sz) && decide (i.bytes = bytes) && decide (zero.length = sz) && decide (0 < sz) && okVals z.cells.toList zero && zero.all oneCell
          | none => false)
        | none => false)
      | _ => false) && okOpd G x x' && okOpd G y y'
  | .slice t x none (some h) (some mx), .slc3 sz x' h' mx' => okSlT P t sz && okOpd G x x' && okOpd G h h' && okOpd G mx mx'
  | .mapUpdate t x k v, .mset x' k' v' => (match P.underlying t with | some (.map kt _) => isStrT P kt | _ => false) && okOpd G x x' && okOpd G k k' && okOpd G v v'
  | .insert t x k v, .mset x' k' v' => (match P.underlying t with | some (.map kt _) => isStrT P kt | _ => false) && okOpd G x x' && okOpd G k k' && okOpd G v v'
  | .call ⟨.builtin .delete, args, ts⟩, .mdel x' k' => (match args.toList, ts.toList with
      | [x, k], t :: _ => (match P.underlying t with | some (.map kt _) => isStrT P kt | _ => false) && okOpd G x x' && okOpd G k k'
      | _, _ => false)
  | .call ⟨.builtin .append, args, ts⟩, .append _ sz bytes x' y' => (match args.toList, ts.toList with
      | [x, y], [t, t2] => (match P.underlying t with
        | some (.slice e) => (match P.info? e with
          | some i => (match i.zero with
            | some z => decide (z.cells.size = sz) && decide (i.size = sz) && decide (i.bytes = bytes)
            | none => false)
          | none => false)
        | _ => false) && (match P.underlying t2 with | some (.slice _) => true | some .string => true | _ => false) && okOpd G x x' && okOpd G y y'
      | _, _ => false)
  | .call ⟨.builtin .copy, args, ts⟩, .copy sz x' y' => (match args.toList, ts.toList with
      | [x, y], t :: _ => okSlT P t sz && okOpd G x x' && okOpd G y y'
      | _, _ => false)
  | .call ⟨.builtin .clear, args, ts⟩, .clear sz zero x' => (match args.toList, ts.toList with
      | [x], t :: _ => (match P.underlying t with
        | some (.slice e) => (match P.info? e with
          | some i => (match i.zero with
            | some z => decide (i.size = sz) && decide (zero.length = sz) && decide (0 < sz) && okVals z.cells.toList zero && zero.all oneCell
            | none => false)
          | none => false)
        | _ => false) && okOpd G x x'
      | _, _ => false)
  | .call ⟨.value f, args, _⟩, .callF n l => (match f with | .func k => decide (k = n) | _ => false) && okOpds G args.toList l
  | .call ⟨.value f, args, _⟩, .callV x l => okOpd G f x && okOpds G args.toList l
  | _, _ => false

def Callable (P : Program) (f : Nat) : Prop := ∃ fn, P.funcs[f]? = some fn ∧ fn.body ≠ none ∧ fn.name ≠ "runtime.NumGoroutine"
theorem run_callFunc' {P : Program} {f : Nat} (h : Callable P f) (args : Array Value) (w : World) : (callFunc f args).run P w = .ok (.enter f args) w := by
  obtain ⟨fn, h1, h2, h3⟩ := h
  simp [callFunc, h1, h3, h2]

def OSound (P : Program) (G : List Nat) (O : Oracle) : Prop := ∀ f vs H r, O f vs H = some r → ∀ m w (cargs : Array Value), GOk G m → HR m H w → VRs m vs cargs.toList →
  Callable P f ∧ Calls P f cargs w fun e w' => ∃ cv m', e = .returned cv ∧ VR m' r.1 cv ∧ HR m' r.2 w' ∧ Ext m H w m' r.2 w'

section
variable {P : Program} {G : List Nat} {m : LMap} {H : AH} {w : World} {fr : Fr} {a : Act}

theorem bs_self (s : List UInt8) : ((⟨⟨s⟩⟩ : ByteArray) == ⟨⟨s⟩⟩) = true := by rw [beq_toListBytes]; simp
theorem map_mod {s : List UInt8} {x : AV} {xv : Value} (hx : VR m x xv) : ∀ {l : List (List UInt8 × AV)} {es : List MapEntry} (i : Nat), MapR m l es →
    (Instr.findNow .string (.string ⟨⟨s⟩⟩) es i = some none ∧ mapSet l s x = l ++ [(s, x)] ∧ mapDel l s = l) ∨
    (∃ k v e, Instr.findNow .string (.string ⟨⟨s⟩⟩) es i = some (some (i + k, v)) ∧ es[k]? = some e ∧ e.key = .string ⟨⟨s⟩⟩ ∧
      MapR m (mapSet l s x) (es.modify k (fun e => { e with key := .string ⟨⟨s⟩⟩, val := xv })) ∧ MapR m (mapDel l s) (es.eraseIdx k))
  | [], [], _, _ => .inl ⟨rfl, rfl, rfl⟩
  | [], _ :: _, _, h => by cases h
  | _ :: _, [], _, h => by cases h
  | (s', y) :: l, e :: es, i, h => by
    cases h with
    | cons hk hv h =>
      have hb : ((⟨⟨s⟩⟩ : ByteArray) == ⟨⟨s'⟩⟩) = (s == s') := by rw [beq_toListBytes, toList_mk, toList_mk]
      by_cases hs : s = s'
      · subst hs
        refine .inr ⟨0, e.val, e, ?_, rfl, hk, ?_, ?_⟩
        · unfold Instr.findNow
          rw [hk]
          simp only [Instr.sameNow, bs_self, Nat.add_zero]
        · simp only [mapSet, beq_self_eq_true, if_true, List.modify_zero_cons]
          exact .cons rfl hx h
        · simp only [mapDel, beq_self_eq_true, if_true, List.eraseIdx_zero, List.tail_cons]
          exact h
      · have h1 : (s == s') = false := by simpa using hs
        have h2 : (s' == s) = false := by simpa using fun e => hs e.symm
        have hf : Instr.findNow .string (.string ⟨⟨s⟩⟩) (e :: es) i = Instr.findNow .string (.string ⟨⟨s⟩⟩) es (i + 1) := by
          conv => lhs; unfold Instr.findNow
          rw [hk]
          simp only [Instr.sameNow, hb, h1]
        rcases map_mod hx (i + 1) h with ⟨h3, h4, h5⟩ | ⟨k, v, e', h3, h4, h5, h6, h7⟩
        · refine .inl ⟨by rw [hf]; exact h3, ?_, ?_⟩
          · simp [mapSet, h2, h4]
          · simp [mapDel, h2, h5]
        · refine .inr ⟨k + 1, v, e', by rw [hf, h3]; congr 3; omega, by simpa using h4, h5, ?_, ?_⟩
          · simp only [mapSet, h2, Bool.false_eq_true, if_false, List.modify_succ_cons]
            exact .cons hk hv h6
          · simp only [mapDel, h2, Bool.false_eq_true, if_false, List.eraseIdx_cons_succ]
            exact .cons hk hv h7

theorem MapR.push {l : List (List UInt8 × AV)} {es : List MapEntry} (h : MapR m l es) {s : List UInt8} {x : AV} {e : MapEntry} (hk : e.key = .string ⟨⟨s⟩⟩) (hv : VR m x e.val) : MapR m (l ++ [(s, x)]) (es ++ [e]) := by
  induction h with
  | nil => exact .cons hk hv .nil
  | cons h1 h2 _ ih => exact .cons h1 h2 ih

theorem mapSet_len {s : List UInt8} {x : AV} : ∀ {l : List (List UInt8 × AV)}, (∀ p ∈ l, p.1 ≠ s) ∨ (mapSet l s x).length = l.length
  | [] => .inl fun p hp => (by cases hp)
  | (k, v) :: l => by
    by_cases e : k = s
    · right; simp [mapSet, e]
    · rcases mapSet_len (s := s) (x := x) (l := l) with h | h
      · left
        intro p hp
        rcases List.mem_cons.1 hp with rfl | hp
        · exact e
        · exact h p hp
      · right; simp [mapSet, e, h]
theorem MapR.keys {m : LMap} {l : List (List UInt8 × AV)} {es : List MapEntry} (h : MapR m l es) {s : List UInt8} (hs : ∀ p ∈ l, p.1 ≠ s) : ∀ e ∈ es, e.key ≠ .string ⟨⟨s⟩⟩ := by
  induction h with
  | nil => intro e he; cases he
  | cons hk _ _ ih =>
    intro e he
    rcases List.mem_cons.1 he with rfl | he
    · rw [hk]; intro h2; exact hs _ List.mem_cons_self (by simpa using h2)
    · exact ih (fun p hp => hs p (List.mem_cons_of_mem _ hp)) e he
theorem setObj_sound (hh : HR m H w) {i : Nat} {loc : Loc} {l l' : List (List UInt8 × AV)} (hm : m i = some loc) (hg : H.get i = some (.map l false)) {es : Array MapEntry} {ck : Nat} (hr : MapR m l' es.toList) (hst : MapKept.Stamped es ck) :
    ∃ w', (setObj loc.b (.map es ck)).run P w = .ok () w' ∧ HR m (H.set i (.map l' false)) w' ∧ Ext m H w m (H.set i (.map l' false)) w' := by
  obtain ⟨es0, ck0, h0, _⟩ := hh.ok _ _ _ hm hg
  have hlt : loc.b < w.heap.size := (hh.dom _ _ hm).2
  let w' : World := { w with heap := w.heap.setIfInBounds loc.b (.map es ck) }
  have hb : OnlyBlock w w' loc.b := ⟨fun k hk => by simp only [w']; rw [Array.getElem?_setIfInBounds_ne (Ne.symm hk)], by simp [w'], rfl, rfl, rfl⟩
  refine ⟨w', ?_, hh.upd hm hg _ hb ⟨es, ck, by simp only [w']; rw [Array.getElem?_setIfInBounds_self_of_lt hlt], hr, hst⟩ rfl rfl, Ext.upd hm hg rfl rfl hb⟩
  simp [setObj, Sem.run, h0, w']

theorem mset_sound (hh : HR m H w) {t kt et : TypeId} (hu : P.underlying t = some (.map kt et)) (hk : P.underlying kt = some .string) {i : Nat} {loc : Loc} {l : List (List UInt8 × AV)} {s : List UInt8} {x : AV} {xv : Value} (hm : m i = some loc) (hg : H.get i = some (.map l false)) (hx : VR m x xv) :
    ∃ w', (Instr.mapUpdate t (.map (some loc.b)) (.string ⟨⟨s⟩⟩) xv).run P w = .ok () w' ∧ HR m (H.set i (.map (mapSet l s x) false)) w' ∧ Ext m H w m (H.set i (.map (mapSet l s x) false)) w' := by
  obtain ⟨es, ck, h0, h1, hst⟩ := hh.ok _ _ _ hm hg
  have hgo : (getObj loc.b).run P w = .ok (.map es ck) w := by simp [getObj, Sem.run, h0]
  rcases map_mod (s := s) hx 0 h1 with ⟨h3, h4, _⟩ | ⟨k, v, e, h3, h4, h5, h6, _⟩
  · have hfk : (Instr.findKey kt (.string ⟨⟨s⟩⟩) es.toList).run P w = .ok none w := by simp [Instr.findKey, run_underlying' hk, h3]
    obtain ⟨w', h5, h6, h7⟩ := setObj_sound (P := P) (es := es.push { key := .string ⟨⟨s⟩⟩, val := xv, born := ck }) (ck := ck + 1) (l' := mapSet l s x) hh hm hg (by rw [h4, Array.toList_push]; exact h1.push rfl hx) (MapKept.stamped_push hst (h1.keys ((mapSet_len (s := s) (x := x) (l := l)).resolve_right fun e => by rw [h4] at e; simp at e)))
    refine ⟨w', ?_, h6, h7⟩
    simp only [Instr.mapUpdate, Sem.run_bind, run_underlying' hu, Result.andThen_ok, hgo, run_checkKey hk, hfk, h5]
  · have hfk : (Instr.findKey kt (.string ⟨⟨s⟩⟩) es.toList).run P w = .ok (some (k, v)) w := by
      simp only [Nat.zero_add] at h3
      simp [Instr.findKey, run_underlying' hk, h3]
    have hkey : (((es[k]?).map (·.key)).getD (.string ⟨⟨s⟩⟩)) = .string ⟨⟨s⟩⟩ := by
      have : es[k]? = some e := by simpa using h4
      rw [this]; exact h5
    have hkts : (Instr.keyThatStays (.string ⟨⟨s⟩⟩) (.string ⟨⟨s⟩⟩)).run P w = .ok (.string ⟨⟨s⟩⟩) w := by
      show (Instr.keyThatStays _ _).run P w = _
      unfold Instr.keyThatStays
      rw [if_pos (by show Instr.sameBits (9999 + 1) _ _ = true; simp [Instr.sameBits, bs_self])]
      rfl
    obtain ⟨w', h8, h9, h10⟩ := setObj_sound (P := P) (es := es.modify k fun e => { e with key := .string ⟨⟨s⟩⟩, val := xv }) (ck := ck) (l' := mapSet l s x) hh hm hg (by rw [Array.toList_modify]; exact h6) (MapKept.stamped_modify hst k _ (fun _ _ => rfl) (fun e' _ he' => by
      have : e' = e := by have h4' : es[k]? = some e := by simpa using h4
                          rw [h4'] at he'; exact (Option.some.inj he').symm
      rw [this]; exact h5.symm))
    refine ⟨w', ?_, h9, h10⟩
    simp only [Instr.mapUpdate, Sem.run_bind, run_underlying' hu, Result.andThen_ok, hgo, run_checkKey hk, hfk, hkey, hkts, h8]

theorem mdel_sound (hh : HR m H w) {t kt et : TypeId} (hu : P.underlying t = some (.map kt et)) (hk : P.underlying kt = some .string) {i : Nat} {loc : Loc} {l : List (List UInt8 × AV)} {s : List UInt8} (hm : m i = some loc) (hg : H.get i = some (.map l false)) {ts : Array TypeId} (ht0 : ts[0]? = some t) (ty : TypeId) :
    ∃ w', (Builtin.delete_ ts ty #[.map (some loc.b), .string ⟨⟨s⟩⟩]).run P w = .ok (.tuple #[]) w' ∧ HR m (H.set i (.map (mapDel l s) false)) w' ∧ Ext m H w m (H.set i (.map (mapDel l s) false)) w' := by
  obtain ⟨es, ck, h0, h1, hst⟩ := hh.ok _ _ _ hm hg
  have hgo : (getObj loc.b).run P w = .ok (.map es ck) w := by simp [getObj, Sem.run, h0]
  rcases map_mod (s := s) (x := .nilI) (xv := .nilIface) (by simp [VR]) 0 h1 with ⟨h3, _, h4⟩ | ⟨k, v, e, h3, h4, h5, _, h6⟩
  · have hfk : (Instr.findKey kt (.string ⟨⟨s⟩⟩) es.toList).run P w = .ok none w := by simp [Instr.findKey, run_underlying' hk, h3]
    obtain ⟨w', h5, h6, h7⟩ := setObj_sound (P := P) (es := es) (ck := ck) (l' := mapDel l s) hh hm hg (by rw [h4]; exact h1) hst
    refine ⟨w', ?_, h6, h7⟩
    simp only [Builtin.delete_, ht0]
    simp [run_underlying' hu, hgo, run_checkKey hk, hfk, h5]
  · have hfk : (Instr.findKey kt (.string ⟨⟨s⟩⟩) es.toList).run P w = .ok (some (k, v)) w := by
      simp only [Nat.zero_add] at h3
      simp [Instr.findKey, run_underlying' hk, h3]
    have hlt : k < es.size := by have := (List.getElem?_eq_some_iff.1 h4).1; simpa using this
    obtain ⟨w', h8, h9, h10⟩ := setObj_sound (P := P) (es := es.eraseIdxIfInBounds k) (ck := ck) (l' := mapDel l s) hh hm hg (by
      have : (es.eraseIdxIfInBounds k).toList = es.toList.eraseIdx k := by simp [Array.eraseIdxIfInBounds, hlt]
      rw [this]; exact h6) (MapKept.stamped_erase hst k)
    refine ⟨w', ?_, h9, h10⟩
    simp only [Builtin.delete_, ht0]
    simp [run_underlying' hu, hgo, run_checkKey hk, hfk, h8]

theorem copy_sound (hh : HR m H w) {t ty e : TypeId} {sz : Nat} (hu : P.underlying t = some (.slice e)) (hsz : sizeB P e = some sz) {d s : AV} {dv sv : Value} (hd : VR m d dv) (hs : VR m s sv) {r : AV} {H' : AH} (h : copyA H sz d s = some (r, H')) {ts : Array TypeId} (ht0 : ts[0]? = some t) :
    ∃ cv w', (Builtin.copy_ ts ty #[dv, sv]).run P w = .ok cv w' ∧ VR m r cv ∧ HR m H' w' ∧ Ext m H w m H' w' := by
  have hso : ∀ w, (sizeOf e).run P w = .ok sz w := fun w => by
    unfold sizeB at hsz
    cases hi : P.info? e with
    | none => rw [hi] at hsz; cases hsz
    | some inf => rw [hi] at hsz; simp at hsz; simp [sizeOf, typeInfo, hi, hsz]
  unfold copyA at h
  split at h
  · rename_i sz' n' cap'
    simp only [Option.bind_eq_some_iff] at h
    obtain ⟨n, hn, h⟩ := h
    simp only [Option.some.injEq, Prod.mk.injEq] at h; obtain ⟨rfl, rfl⟩ := h
    simp only [VR] at hd; obtain ⟨rfl, _⟩ := hd
    refine ⟨.int .i64 0, w, ?_, vr_int _ _, hh, Ext.refl _ _ _⟩
    have hf : (Builtin.firstCells sz 0 sv).run P w = .ok #[] w := by
      cases s with
      | sl p _ _ _ =>
        cases p with
        | none => simp only [VR] at hs; obtain ⟨rfl, _⟩ := hs; simp [Builtin.firstCells]
        | some q => obtain ⟨i, o⟩ := q; simp only [VR] at hs; obtain ⟨_, _, _, _, rfl, _⟩ := hs; simp [Builtin.firstCells, loadCells, loadCellsFrom]
      | str z => simp only [VR] at hs; subst hs; simp [Builtin.firstCells]
      | _ => cases hn
    simp only [Builtin.copy_, ht0]
    simp [run_underlying' hu, lenA_sound (P := P) hs hn, hso, hf, goInt]
  · rename_i i off sz' len cap
    simp only [Option.bind_eq_some_iff] at h
    obtain ⟨n, hn, news, hnews, h⟩ := h
    split at h
    · rename_i l ro hg
      split at h
      · rename_i hc
        obtain ⟨rfl, rfl, hc⟩ := hc
        simp only [Option.some.injEq, Prod.mk.injEq] at h; obtain ⟨rfl, rfl⟩ := h
        simp only [VR] at hd
        obtain ⟨loc, c, ad, hm, rfl, had, h1, h2, h3, h4⟩ := hd
        obtain ⟨vs, hv1, hv2, hv3, hv4, hv5⟩ := sliceCells_sound (P := P) hh hs hnews
        have hnl : news.length = min n len * sz' := by rw [← hv2.length]; exact hv5
        obtain ⟨w', h5, h6, h7, _⟩ := storeCells_sound (P := P) (off := off) hh hm hg hv2 hv3 hv4 (by omega)
        refine ⟨.int .i64 (min n len : Nat), w', ?_, vr_int _ _, h6, h7⟩
        have hst : (storeCells ad vs).run P w = .ok () w' := by
          by_cases hc0 : 0 < c
          · rw [had hc0]; exact h5
          · have hl0 : len = 0 := by omega
            have : vs = [] := by rw [← List.length_eq_zero_iff, hv5, hl0]; simp
            subst this
            have e5 : w' = w := by
              have := h5
              simp only [storeCells] at this
              cases this; rfl
            subst e5; rfl
        simp only [Builtin.copy_, ht0]
        have hmin : Nat.min n len = min n len := rfl
        simp [run_underlying' hu, lenA_sound (P := P) hs hn, hso, hmin, hv1, hst, goInt]
      · cases h
    · cases h
  · cases h

theorem made_flatten (z : Array Value) (n : Nat) : (madeCells z (n * z.size)).toList = (List.replicate n z.toList).flatten := by
  have h1 : ∀ k, (madeCells z k).toList = (List.range k).map (fun j => z[j % z.size]!) := fun k => by simp [madeCells]
  have h0 : (List.range z.size).map (fun j => z[j % z.size]!) = z.toList := by
    apply List.ext_getElem?
    intro j
    by_cases hj : j < z.size
    · simp [hj, Nat.mod_eq_of_lt hj]
    · simp [hj]
  rw [h1]
  induction n with
  | zero => simp
  | succ n ih =>
    rw [Nat.succ_mul, Nat.add_comm, List.range_add, List.map_append, List.replicate_succ, List.flatten_cons, h0, ← ih, List.map_map]
    congr 1
    apply List.map_congr_left
    intro j _
    simp
theorem VRs.replicate {l : List AV} {vs : List Value} (h : VRs m l vs) : ∀ n, VRs m (List.replicate n l).flatten (List.replicate n vs).flatten
  | 0 => by simp [VRs]
  | n + 1 => by
    rw [List.replicate_succ, List.flatten_cons, List.replicate_succ, List.flatten_cons]
    exact h.append (VRs.replicate h n)
theorem flatten_all {l : List AV} (h : l.all oneCell = true) (n : Nat) : ((List.replicate n l).flatten).all oneCell = true := by
  rw [List.all_eq_true]
  intro v hv
  obtain ⟨q, hq, hvq⟩ := List.mem_flatten.1 hv
  rw [(List.mem_replicate.1 hq).2] at hvq
  exact List.all_eq_true.1 h v hvq
theorem clear_sound (hh : HR m H w) {t ty e : TypeId} {i : TypeInfo} {z : Value} {sz : Nat} {zero : List AV} (hu : P.underlying t = some (.slice e)) (hi : P.info? e = some i) (hz : i.zero = some z) (h1 : i.size = sz) (h2 : zero.length = sz) (h3 : 0 < sz) (h4 : okVals z.cells.toList zero = true) (h5 : zero.all oneCell = true)
    {d : AV} {dv : Value} (hd : VR m d dv) {r : AV} {H' : AH} (h : clearA H sz zero d = some (r, H')) {ts : Array TypeId} (ht0 : ts[0]? = some t) :
    ∃ cv w', (Builtin.clear_ ts ty #[dv]).run P w = .ok cv w' ∧ VR m r cv ∧ HR m H' w' ∧ Ext m H w m H' w' := by
  unfold clearA at h
  split at h
  · simp only [Option.some.injEq, Prod.mk.injEq] at h; obtain ⟨rfl, rfl⟩ := h
    simp only [VR] at hd; obtain ⟨rfl, _⟩ := hd
    refine ⟨.tuple #[], w, ?_, by simp [VR, VRs], hh, Ext.refl _ _ _⟩
    simp only [Builtin.clear_, ht0]
    simp [run_underlying' hu]
  · rename_i i off sz' len cap
    split at h
    · rename_i l ro hg
      split at h
      · rename_i hc
        obtain ⟨rfl, rfl, hc⟩ := hc
        simp only [Option.some.injEq, Prod.mk.injEq] at h; obtain ⟨rfl, rfl⟩ := h
        simp only [VR] at hd
        obtain ⟨loc, c, ad, hm, rfl, had, k1, k2, k3, k4⟩ := hd
        have hz0 : VRs m zero z.cells.toList := okVals_sound h4
        have hzl : z.cells.size = sz' := by have := hz0.length; simp at this; omega
        have hrep : VRs m (List.replicate len zero).flatten (Builtin.zeroCells z.cells len).toList := by
          have : (Builtin.zeroCells z.cells len).toList = (List.replicate len z.cells.toList).flatten := made_flatten z.cells len
          rw [this]
          exact VRs.replicate hz0 _
        have hlen : (List.replicate len zero).flatten.length = len * sz' := by simp [h2]
        obtain ⟨w', h6, h7, h8, _⟩ := storeCells_sound (P := P) (off := off) hh hm hg hrep (flatten_all h5 len) (fun u hu' => by
          obtain ⟨j, hj⟩ := List.mem_iff_getElem?.1 hu'
          have hjl : j < (List.replicate len zero).flatten.length := by have := hrep.length; have h9 := (List.getElem?_eq_some_iff.1 hj).1; omega
          obtain ⟨v, hv1, hv2⟩ := hrep.get (List.getElem?_eq_getElem hjl)
          rw [hj] at hv1; obtain rfl := Option.some.inj hv1
          exact hv2.one (List.all_eq_true.1 (flatten_all h5 len) _ (List.getElem_mem hjl))) (by omega)
        refine ⟨.tuple #[], w', ?_, by simp [VR, VRs], h7, h8⟩
        simp only [Builtin.clear_, ht0]
        cases len with
        | zero =>
          have e5 : w' = w := by
            have e0 : Builtin.zeroCells z.cells 0 = #[] := by apply Array.ext'; simp [Builtin.zeroCells]
            rw [e0] at h6
            simp only [storeCells] at h6
            cases h6; rfl
          subst e5
          simp [run_underlying' hu]
        | succ k =>
          rw [had (by omega)]
          simp [run_underlying' hu, zeroValue, typeInfo, hi, hz, h6]
      · cases h
    · cases h
  · cases h

def OpPost (m : LMap) (H : AH) (w : World) (r : Option AV) (H' : AH) (K : Value → World → Prop) : Prop :=
  ∀ cv m' w', (∀ v, r = some v → VR m' v cv) → HR m' H' w' → Ext m H w m' H' w' → K cv w'

theorem wp_of_value {o : Oper} {cv : Value} {w' : World} {K : Act → World → Prop} {Q : Exit → Act → World → Prop} (h : (execOp a.eval o).run P w = .ok (.value cv) w') (hk : K (a.put o.dst cv) w') : o.wp P a w K Q := by
  unfold Oper.wp; rw [h]; exact hk
theorem wp_of_skip {o : Oper} {w' : World} {K : Act → World → Prop} {Q : Exit → Act → World → Prop} (h : (execOp a.eval o).run P w = .ok .skip w') (hk : K (a.put o.dst undef) w') : o.wp P a w K Q := by
  unfold Oper.wp; rw [h]; exact hk

theorem act_sound {O : Oracle} (hO : OSound P G O) (hG : GOk G m) (hh : HR m H w) {o : Oper} {ao : AOp} (hok : okAct P G o.op ao = true) (hf : FOn m fr a ao.tmps) {r : Option AV} {H' : AH} (hv : actA O fr H ao = some (r, H')) {K : Act → World → Prop} {Q : Exit → Act → World → Prop}
    (hk : OpPost m H w r H' fun cv w' => K (a.put o.dst cv) w') : o.wp P a w K Q := by
  obtain ⟨dst, op, type, pos, after, guard⟩ := o
  simp only at hok hk
  unfold okAct at hok
  split at hok
  · -- store
    rename_i t x y n x' y'
    simp only [Bool.and_eq_true, decide_eq_true_eq] at hok
    simp only [actA, Option.bind_eq_some_iff, Option.map_eq_some_iff, Prod.mk.injEq] at hv
    obtain ⟨p, hp, v, hv, H1, h1, rfl, rfl⟩ := hv
    obtain ⟨w', h2, h3, h4⟩ := store_sound (P := P) hh hok.1.1 (ev_sound hG hok.1.2 (hf.sub fun n hn => by simp [AOp.tmps, hn]) hp) (ev_sound hG hok.2 (hf.sub fun n hn => by simp [AOp.tmps, hn]) hv) h1
    refine wp_of_skip (w' := w') ?_ (hk undef m w' (fun v hv => by cases hv) h3 h4)
    simp [execOp, h2]
  · -- makeSlice
    rename_i t x y hp sz bytes zero x' y'
    simp only [Bool.and_eq_true] at hok
    obtain ⟨⟨hok, hx⟩, hy⟩ := hok
    split at hok
    · rename_i e hu
      split at hok
      · rename_i i hi
        split at hok
        · rename_i z hz
          simp only [Bool.and_eq_true, decide_eq_true_eq] at hok
          obtain ⟨⟨⟨⟨⟨rfl, rfl⟩, h1⟩, h2⟩, h3⟩, h4⟩ := hok
          simp only [actA] at hv
          split at hv
          · rename_i kl l kc c hl hc
            split at hv
            · rename_i hcnd
              obtain ⟨c1, c2, c3, c4⟩ := hcnd
              simp only [Option.some.injEq, Prod.mk.injEq] at hv; obtain ⟨rfl, rfl⟩ := hv
              have hxl := ev_sound hG hx (hf.sub fun n hn => by simp [AOp.tmps, hn]) hl
              have hyl := ev_sound hG hy (hf.sub fun n hn => by simp [AOp.tmps, hn]) hc
              simp only [VR] at hxl hyl
              have hrun := run_make (P := P) w t e i z hu hi hz kl kc l c c1 c2 c3 c4
              have hz0 : VRs m zero z.cells.toList := okVals_sound h3
              have hzl : z.cells.size = i.size := by have := hz0.length; simp at this; omega
              have hmade : (madeCells z.cells (c.toNat * i.size)).size = c.toNat * i.size := by simp [madeCells]
              have hrep : VRs m (List.replicate c.toNat zero).flatten (madeCells z.cells (c.toNat * i.size)).toList := by
                rw [← hzl, made_flatten z.cells c.toNat]
                exact VRs.replicate hz0 _
              have hall : ((List.replicate c.toNat zero).flatten).all oneCell = true := by
                rw [List.all_eq_true]
                intro v hv
                obtain ⟨q, hq, hvq⟩ := List.mem_flatten.1 hv
                rw [(List.mem_replicate.1 hq).2] at hvq
                exact List.all_eq_true.1 h4 v hvq
              have ho := objR_new hrep hall e w false
              have hx1 : (execOp a.eval { dst, op := .makeSlice t x y, type, pos, after, guard }).run P w = .ok (.value (.slice (some ⟨w.heap.size, 0, none⟩) l.toNat c.toNat)) (w.alloc (.cells (madeCells z.cells (c.toNat * i.size)) e)) := by simp [execOp, hxl, hyl, hrun]
              refine wp_of_value hx1 (hk _ _ _ (fun v hv => ?_) (hh.push _ _ _ ho) (Ext.push hh _ _ _))
              obtain rfl := Option.some.inj hv
              simp only [VR]
              exact ⟨_, c.toNat, _, LMap.put_self _ _ _, rfl, fun _ => rfl, by omega, by simp only [hmade]; omega, by unfold maxLen; omega, fun d hd => by simpa using hd⟩
            · cases hv
          · cases hv
        · cases hok
      · cases hok
    · cases hok
  · -- slc3
    rename_i t x h mx sz x' h' mx'
    simp only [Bool.and_eq_true] at hok
    obtain ⟨⟨⟨h1, h2⟩, h3⟩, h4⟩ := hok
    unfold okSlT at h1
    split at h1
    · rename_i e hu
      simp only [Bool.and_eq_true, decide_eq_true_eq] at h1
      have hso : ∀ w, (sizeOf e).run P w = .ok sz w := fun w => by
        have h1 := h1.1
        unfold sizeB at h1
        cases hi : P.info? e with
        | none => rw [hi] at h1; cases h1
        | some inf => rw [hi] at h1; simp at h1; simp [sizeOf, typeInfo, hi, h1]
      simp only [actA] at hv
      have hfx : FOn m fr a x'.tmps := hf.sub fun n hn => by simp [AOp.tmps, hn]
      have hfh : FOn m fr a h'.tmps := hf.sub fun n hn => by simp [AOp.tmps, hn]
      have hfm : FOn m fr a mx'.tmps := hf.sub fun n hn => by simp [AOp.tmps, hn]
      split at hv
      · rename_i q1 q2 q3 k1 hn k2 mn e1 e2 e3
        split at hv
        · rename_i hc
          obtain ⟨rfl, rfl⟩ := hc
          simp only [Option.some.injEq, Prod.mk.injEq] at hv; obtain ⟨rfl, rfl⟩ := hv
          have v1 := ev_sound hG h2 hfx e1
          have v2 := ev_sound hG h3 hfh e2
          have v3 := ev_sound hG h4 hfm e3
          simp only [VR] at v1 v2 v3
          have hx1 : (execOp a.eval { dst, op := .slice t x none (some h) (some mx), type, pos, after, guard }).run P w = .ok (.value (.slice none 0 0)) w := by
            simp [execOp, v1.1, v2, v3, Instr.sliceAt, Instr.slice, run_underlying' hu, Instr.sliceBounds, Instr.sliceBound, asIntOf, hso]
          exact wp_of_value hx1 (hk _ _ _ (fun v hv => by obtain rfl := Option.some.inj hv; simp [nilSl, VR]) hh (Ext.refl _ _ _))
        · cases hv
      · rename_i i off sz' len cap k1 hn k2 mn e1 e2 e3
        split at hv
        · rename_i hc
          obtain ⟨rfl, c1, c2, c3⟩ := hc
          simp only [Option.some.injEq, Prod.mk.injEq] at hv; obtain ⟨rfl, rfl⟩ := hv
          have v1 := ev_sound hG h2 hfx e1
          have v2 := ev_sound hG h3 hfh e2
          have v3 := ev_sound hG h4 hfm e3
          simp only [VR] at v1 v2 v3
          obtain ⟨loc, c, ad, hm, v1, had, u1, u2, u3, u4⟩ := v1
          have b1 : (Instr.sliceBound (.int k2 mn) c .slice3Acap).run P w = .ok mn.toNat w := run_bound_ok _ (by omega) (by omega)
          have b2 : (Instr.sliceBound (.int k1 hn) mn.toNat .slice3B).run P w = .ok hn.toNat w := run_bound_ok _ (by omega) (by omega)
          have hx1 : (execOp a.eval { dst, op := .slice t x none (some h) (some mx), type, pos, after, guard }).run P w = .ok (.value (.slice (some ad) hn.toNat mn.toNat)) w := by
            simp only [execOp, v1, v2, v3, Instr.sliceAt, Instr.slice, Option.map_some, Option.map_none]
            simp [run_underlying' hu, Instr.sliceBounds, b1, b2, hso, Addr.add]
          refine wp_of_value hx1 (hk _ _ _ (fun v hv => ?_) hh (Ext.refl _ _ _))
          obtain rfl := Option.some.inj hv
          simp only [VR]
          have : mn.toNat * sz' ≤ c * sz' := Nat.mul_le_mul_right _ (by omega)
          exact ⟨loc, mn.toNat, ad, hm, rfl, fun h0 => had (by omega), by omega, by omega, by omega, fun d hd => by simpa using hd⟩
        · cases hv
      · cases hv
    · cases h1
  · -- mapUpdate
    rename_i t x k v x' k' v'
    simp only [Bool.and_eq_true] at hok
    obtain ⟨⟨⟨h1, h2⟩, h3⟩, h4⟩ := hok
    split at h1
    · rename_i kt et hu
      unfold isStrT at h1
      split at h1
      · rename_i hkt
        simp only [actA] at hv
        split at hv
        · rename_i i s y e1 e2 e3
          split at hv
          · rename_i l hg
            split at hv
            · rename_i h1c
              simp only [Option.some.injEq, Prod.mk.injEq] at hv; obtain ⟨rfl, rfl⟩ := hv
              have v1 := ev_sound hG h2 (hf.sub fun n hn => by simp [AOp.tmps, hn]) e1
              have v2 := ev_sound hG h3 (hf.sub fun n hn => by simp [AOp.tmps, hn]) e2
              have v3 := ev_sound hG h4 (hf.sub fun n hn => by simp [AOp.tmps, hn]) e3
              simp only [VR] at v1 v2
              obtain ⟨loc, hm, v1⟩ := v1
              obtain ⟨w', h5, h6, h7⟩ := mset_sound (P := P) (s := s) hh hu hkt hm hg v3
              exact wp_of_skip (w' := w') (by simp [execOp, v1, v2, h5]) (hk undef m w' (fun v hv => by cases hv) h6 h7)
            · cases hv
          · cases hv
        · cases hv
      · cases h1
    · cases h1
  · -- insert
    rename_i t x k v x' k' v'
    simp only [Bool.and_eq_true] at hok
    obtain ⟨⟨⟨h1, h2⟩, h3⟩, h4⟩ := hok
    split at h1
    · rename_i kt et hu
      unfold isStrT at h1
      split at h1
      · rename_i hkt
        simp only [actA] at hv
        split at hv
        · rename_i i s y e1 e2 e3
          split at hv
          · rename_i l hg
            split at hv
            · rename_i h1c
              simp only [Option.some.injEq, Prod.mk.injEq] at hv; obtain ⟨rfl, rfl⟩ := hv
              have v1 := ev_sound hG h2 (hf.sub fun n hn => by simp [AOp.tmps, hn]) e1
              have v2 := ev_sound hG h3 (hf.sub fun n hn => by simp [AOp.tmps, hn]) e2
              have v3 := ev_sound hG h4 (hf.sub fun n hn => by simp [AOp.tmps, hn]) e3
              simp only [VR] at v1 v2
              obtain ⟨loc, hm, v1⟩ := v1
              obtain ⟨w', h5, h6, h7⟩ := mset_sound (P := P) (s := s) hh hu hkt hm hg v3
              exact wp_of_skip (w' := w') (by simp [execOp, v1, v2, h5]) (hk undef m w' (fun v hv => by cases hv) h6 h7)
            · cases hv
          · cases hv
        · cases hv
      · cases h1
    · cases h1
  · -- delete
    rename_i args ts x' k'
    split at hok
    · rename_i x k t ts' hargs hts
      simp only [Bool.and_eq_true] at hok
      obtain ⟨⟨h1, h2⟩, h3⟩ := hok
      have ha : args = #[x, k] := by rw [← Array.toArray_toList (xs := args), hargs]
      have ht0 : ts[0]? = some t := by rw [← Array.getElem?_toList, hts]; rfl
      subst ha
      split at h1
      · rename_i kt et hu
        unfold isStrT at h1
        split at h1
        · rename_i hkt
          simp only [actA] at hv
          split at hv
          · rename_i i s e1 e2
            split at hv
            · rename_i l hg
              simp only [Option.some.injEq, Prod.mk.injEq] at hv; obtain ⟨rfl, rfl⟩ := hv
              have v1 := ev_sound hG h2 (hf.sub fun n hn => by simp [AOp.tmps, hn]) e1
              have v2 := ev_sound hG h3 (hf.sub fun n hn => by simp [AOp.tmps, hn]) e2
              simp only [VR] at v1 v2
              obtain ⟨loc, hm, v1⟩ := v1
              obtain ⟨w', h5, h6, h7⟩ := mdel_sound (P := P) (s := s) hh hu hkt hm hg ht0 type
              exact wp_of_value (cv := .tuple #[]) (w' := w') (by simp [execOp, resolve, invoke, builtin, v1, v2, h5]) (hk _ m w' (fun v hv => by obtain rfl := Option.some.inj hv; simp [VR, VRs]) h6 h7)
            · cases hv
          · cases hv
        · cases h1
      · cases h1
    · cases hok
  · -- append
    rename_i args ts fz sz bytes x' y'
    split at hok
    · rename_i x y t t2 hargs hts
      simp only [Bool.and_eq_true] at hok
      obtain ⟨⟨⟨h1, h2⟩, h3⟩, h4⟩ := hok
      have ha : args = #[x, y] := by rw [← Array.toArray_toList (xs := args), hargs]
      have hts' : ts = #[t, t2] := by rw [← Array.toArray_toList (xs := ts), hts]
      subst ha; subst hts'
      split at h1
      · rename_i e hu
        split at h1
        · rename_i i hi
          split at h1
          · rename_i z hz
            simp only [Bool.and_eq_true, decide_eq_true_eq] at h1
            have T : AppT P t t2 e i z sz bytes := ⟨hu, hi, hz, h1.1.1, h1.1.2, h1.2, by
              split at h2
              · rename_i e2 hu2; exact .inl ⟨e2, hu2⟩
              · rename_i hu2; exact .inr hu2
              · cases h2⟩
            simp only [actA, Option.bind_eq_some_iff, Option.map_eq_some_iff, Prod.mk.injEq] at hv
            obtain ⟨u, hu', v, hv', r', hr, rfl, rfl⟩ := hv
            obtain ⟨cv, m', w', h5, h6, h7, h8⟩ := appendX_sound (P := P) (ty := type) hh T (ev_sound hG h3 (hf.sub fun n hn => by simp [AOp.tmps, hn]) hu') (ev_sound hG h4 (hf.sub fun n hn => by simp [AOp.tmps, hn]) hv') (show appendX H _ sz bytes u v = some (r'.1, r'.2) from hr)
            exact wp_of_value (cv := cv) (w' := w') (by simp [execOp, resolve, invoke, builtin, h5]) (hk _ m' w' (fun v hv => by obtain rfl := Option.some.inj hv; exact h6) h7 h8)
          · cases h1
        · cases h1
      · cases h1
    · cases hok
  · -- copy
    rename_i args ts sz x' y'
    split at hok
    · rename_i x y t ts' hargs hts
      simp only [Bool.and_eq_true] at hok
      obtain ⟨⟨h1, h2⟩, h3⟩ := hok
      have ha : args = #[x, y] := by rw [← Array.toArray_toList (xs := args), hargs]
      have ht0 : ts[0]? = some t := by rw [← Array.getElem?_toList, hts]; rfl
      subst ha
      unfold okSlT at h1
      split at h1
      · rename_i e hu
        simp only [Bool.and_eq_true, decide_eq_true_eq] at h1
        simp only [actA, Option.bind_eq_some_iff, Option.map_eq_some_iff, Prod.mk.injEq] at hv
        obtain ⟨u, hu', v, hv', r', hr, rfl, rfl⟩ := hv
        obtain ⟨cv, w', h5, h6, h7, h8⟩ := copy_sound (P := P) (ty := type) hh hu h1.1 (ev_sound hG h2 (hf.sub fun n hn => by simp [AOp.tmps, hn]) hu') (ev_sound hG h3 (hf.sub fun n hn => by simp [AOp.tmps, hn]) hv') (show copyA H sz u v = some (r'.1, r'.2) from hr) ht0
        exact wp_of_value (cv := cv) (w' := w') (by simp [execOp, resolve, invoke, builtin, h5]) (hk _ m w' (fun v hv => by obtain rfl := Option.some.inj hv; exact h6) h7 h8)
      · cases h1
    · cases hok
  · -- clear
    rename_i args ts sz zero x'
    split at hok
    · rename_i x t ts' hargs hts
      simp only [Bool.and_eq_true] at hok
      obtain ⟨h1, h2⟩ := hok
      have ha : args = #[x] := by rw [← Array.toArray_toList (xs := args), hargs]
      have ht0 : ts[0]? = some t := by rw [← Array.getElem?_toList, hts]; rfl
      subst ha
      split at h1
      · rename_i e hu
        split at h1
        · rename_i i hi
          split at h1
          · rename_i z hz
            simp only [Bool.and_eq_true, decide_eq_true_eq] at h1
            obtain ⟨⟨⟨⟨g1, g2⟩, g3⟩, g4⟩, g5⟩ := h1
            simp only [actA, Option.bind_eq_some_iff, Option.map_eq_some_iff, Prod.mk.injEq] at hv
            obtain ⟨u, hu', r', hr, rfl, rfl⟩ := hv
            obtain ⟨cv, w', h5, h6, h7, h8⟩ := clear_sound (P := P) (ty := type) hh hu hi hz g1 g2 g3 g4 g5 (ev_sound hG h2 (hf.sub fun n hn => by simp [AOp.tmps, hn]) hu') (show clearA H sz zero u = some (r'.1, r'.2) from hr) ht0
            exact wp_of_value (cv := cv) (w' := w') (by simp [execOp, resolve, invoke, builtin, h5]) (hk _ m w' (fun v hv => by obtain rfl := Option.some.inj hv; exact h6) h7 h8)
          · cases h1
        · cases h1
      · cases h1
    · cases hok
  · -- callF
    rename_i f args ts n l
    simp only [Bool.and_eq_true] at hok
    obtain ⟨h1, h2⟩ := hok
    split at h1
    · rename_i kf
      simp only [decide_eq_true_eq] at h1; subst h1
      simp only [actA, Option.bind_eq_some_iff, Option.map_eq_some_iff, Prod.mk.injEq] at hv
      obtain ⟨vs, hvs, r', hr, rfl, rfl⟩ := hv
      have h3 := evs_sound hG h2 hf hvs
      obtain ⟨h4, h5⟩ := hO _ _ _ _ hr m w (args.map a.eval) hG hh (by simpa using h3)
      have hx1 : (execOp a.eval { dst, op := .call ⟨.value (.func kf), args, ts⟩, type, pos, after, guard }).run P w = .ok (.enter kf (args.map a.eval)) w := by
        simp [execOp, resolve, Act.eval, Deferred.ofValue, invoke, run_callFunc' h4]
      unfold Oper.wp
      rw [hx1]
      refine h5.mono fun e w' he => ?_
      obtain ⟨cv, m', rfl, h6, h7, h8⟩ := he
      exact hk cv m' w' (fun v hv => by obtain rfl := Option.some.inj hv; exact h6) h7 h8
    · cases h1
  · -- callV
    rename_i f args ts x l
    simp only [Bool.and_eq_true] at hok
    obtain ⟨h1, h2⟩ := hok
    simp only [actA] at hv
    split at hv
    · rename_i kf caps hx
      simp only [Option.bind_eq_some_iff, Option.map_eq_some_iff, Prod.mk.injEq] at hv
      obtain ⟨vs, hvs, r', hr, rfl, rfl⟩ := hv
      have hfx := ev_sound hG h1 (hf.sub fun n hn => by simp [AOp.tmps, hn]) hx
      simp only [VR] at hfx
      obtain ⟨cs, hfx, hcs⟩ := hfx
      have h3 := evs_sound hG h2 (hf.sub fun n hn => by simp [AOp.tmps, hn]) hvs
      obtain ⟨h4, h5⟩ := hO _ _ _ _ hr m w (args.map a.eval ++ cs) hG hh (by simpa using h3.append hcs)
      have hx1 : (execOp a.eval { dst, op := .call ⟨.value f, args, ts⟩, type, pos, after, guard }).run P w = .ok (.enter kf (args.map a.eval ++ cs)) w := by
        simp [execOp, resolve, hfx, Deferred.ofValue, invoke, run_callFunc' h4]
      unfold Oper.wp
      rw [hx1]
      refine h5.mono fun e w' he => ?_
      obtain ⟨cv, m', rfl, h6, h7, h8⟩ := he
      exact hk cv m' w' (fun v hv => by obtain rfl := Option.some.inj hv; exact h6) h7 h8
    · cases hv
  · cases hok

def okOp (P : Program) (G : List Nat) (o : Op) (a : AOp) : Bool :=
  if a.isPure then okPure P G o a else if a.isRead then okRead P G o a else if a.isMake then okMake P G o a else okAct P G o a
theorem op_sound {E : Env} {O : Oracle} (hE : okEnv P G E = true) (hO : OSound P G O) (hG : GOk G m) (hh : HR m H w) {o : Oper} {ao : AOp} (hok : okOp P G o.op ao = true) (hf : FOn m fr a ao.tmps) {r : Option AV} {H' : AH} (hv : opA E O fr H ao = some (r, H')) {K : Act → World → Prop} {Q : Exit → Act → World → Prop}
    (hk : OpPost m H w r H' fun cv w' => K (a.put o.dst cv) w') : o.wp P a w K Q := by
  unfold okOp at hok
  unfold opA at hv
  split at hv
  · rename_i hp
    rw [if_pos hp] at hok
    simp only [Option.map_eq_some_iff, Prod.mk.injEq] at hv
    obtain ⟨v, hv, rfl, rfl⟩ := hv
    obtain ⟨cv, h1, h2⟩ := pure_sound hG hok hf hv
    exact wp_of_value (h2 w) (hk cv m w (fun v' e => by obtain rfl := Option.some.inj e; exact h1) hh (Ext.refl _ _ _))
  · rename_i hp
    rw [if_neg hp] at hok
    split at hv
    · rename_i hq
      rw [if_pos hq] at hok
      simp only [Option.map_eq_some_iff, Prod.mk.injEq] at hv
      obtain ⟨v, hv, rfl, rfl⟩ := hv
      obtain ⟨cv, h1, h2⟩ := read_sound hE hG hh hok hf hv
      exact wp_of_value h2 (hk cv m w (fun v' e => by obtain rfl := Option.some.inj e; exact h1) hh (Ext.refl _ _ _))
    · rename_i hq
      rw [if_neg hq] at hok
      split at hv
      · rename_i hm
        rw [if_pos hm] at hok
        simp only [Option.map_eq_some_iff, Prod.mk.injEq] at hv
        obtain ⟨v, hv, rfl, rfl⟩ := hv
        obtain ⟨val, obj⟩ := v
        obtain ⟨cv, bo, n, h1, h2⟩ := make_sound (w := w) hG hok hf hv
        exact wp_of_value h1 (hk cv _ _ (fun v' e => by obtain rfl := Option.some.inj e; exact h2.valR _ _ (LMap.put_self _ _ _)) (hh.push bo obj n h2.objR) (Ext.push hh bo obj n))
      · rename_i hm
        rw [if_neg hm] at hok
        exact act_sound hO hG hh hok hf hv hk
end
end Go.Proofs.YtbpgbhmibmcbnaaGreatDoor.Ram

import Derived.Test.YtlecbjcloleiiaaDoorRamE
/-! The operations that make a block, or write. -/
namespace Go.Proofs.YtlecbjcloleiiaaDoor.Ram
open Go Go.RowKit

def rowZero (z : Array Value) (n : Nat) : List Value := (List.range n).map (fun j => z[j % z.size]!)
def okMake (P : Program) (G : List Nat) : Op → AOp → Bool
  | .alloc e, .alloc z => okZero P e z
  | .box _ x, .box y => okOpd G x y
  | .buildSlice t n ps, .bslice sz n' z qs => (match P.underlying t with
      | some (.slice e) => (match P.info? e with
        | some i => (match i.zero with
          | some zv => decide (n = n') && decide (i.size = sz) && decide (0 < sz) && decide (n * sz ≤ 2 ^ 24) && okVals (rowZero zv.cells (n * sz)) z && z.all oneCell
          | none => false)
        | none => false)
      | _ => false) && okParts G (fun i => some (i * sz, sz)) ps.toList qs
  | .makeMap _ none, .mkMap => true
  | _, _ => false

section
variable {P : Program} {G : List Nat} {m : LMap} {H : AH} {w : World} {fr : Fr} {a : Act}

theorem CellsR.of_VRs {l : List AV} {vs : List Value} (h : VRs m l vs) (h1 : l.all oneCell = true) {c : Array Value} (hc : c.toList = vs) : CellsR m l c 0 := fun j x hx => by
  obtain ⟨v, hv, hr⟩ := h.get hx
  refine ⟨v, ?_, hr, List.all_eq_true.1 h1 x (List.mem_of_getElem? hx)⟩
  rw [Nat.zero_add, ← Array.getElem?_toList, hc]; exact hv
theorem heap_alloc_self (w : World) (o : Obj) : (w.alloc o).heap[w.heap.size]? = some o := by show (w.heap.push o)[w.heap.size]? = _; simp
theorem objR_new {l : List AV} {vs : Array Value} (h : VRs m l vs.toList) (h1 : l.all oneCell = true) (e : TypeId) (w : World) (ro : Bool) : ∀ m', LSub m m' → ObjR m' (w.alloc (.cells vs e)) ⟨w.heap.size, 0, vs.size⟩ (.cells l ro) := fun m' hs =>
  ⟨vs, e, _, heap_alloc_self _ _, fun _ => rfl, by simp, by rw [← h.length]; simp, (CellsR.of_VRs h h1 rfl).mono hs⟩

structure Made (m : LMap) (w : World) (val : Nat → AV) (obj : AObj) (cv : Value) (bo : Obj) (n : Nat) : Prop where
  objR : ∀ m', LSub m m' → ObjR m' (w.alloc bo) ⟨w.heap.size, 0, n⟩ obj
  valR : ∀ (m' : LMap) i, m' i = some ⟨w.heap.size, 0, n⟩ → VR m' (val i) cv
  ro : obj.ro = false

theorem make_sound (hG : GOk G m) {o : Oper} {ao : AOp} (hok : okMake P G o.op ao = true) (hf : FOn m fr a ao.tmps) {val : Nat → AV} {obj : AObj} (hv : makeA fr ao = some (val, obj)) :
    ∃ cv bo n, (execOp a.eval o).run P w = .ok (.value cv) (w.alloc bo) ∧ Made m w val obj cv bo n := by
  obtain ⟨dst, op, type, pos, after, guard⟩ := o
  simp only at hok
  unfold okMake at hok
  split at hok
  · -- alloc
    rename_i e z
    obtain ⟨i, zv, h1, h2, h3, h4⟩ := zero_sound (m := m) hok
    simp only [makeA, Option.some.injEq, Prod.mk.injEq] at hv
    obtain ⟨rfl, rfl⟩ := hv
    refine ⟨.pointer (some ⟨w.heap.size, 0, none⟩), .cells zv.cells e, zv.cells.size, ?_, objR_new h3 h4 e w false, fun m' i hi => by simp only [VR]; exact ⟨_, hi, by simp⟩, rfl⟩
    simp [execOp, Instr.alloc, zeroValue, typeInfo, h1, h2, newVar, newRow]
  · -- box
    rename_i e x y
    simp only [makeA, Option.bind_eq_some_iff] at hv
    obtain ⟨v, hv, h1⟩ := hv
    split at h1
    · rename_i h2
      simp only [Option.some.injEq, Prod.mk.injEq] at h1
      obtain ⟨rfl, rfl⟩ := h1
      have h3 := ev_sound hG hok hf hv
      obtain ⟨h4, _⟩ := h3.cells h2
      refine ⟨.pointer (some ⟨w.heap.size, 0, none⟩), .cells (a.eval x).cells e, (a.eval x).cells.size, ?_, objR_new h4 h2 e w false, fun m' i hi => by simp only [VR]; exact ⟨_, hi, by simp⟩, rfl⟩
      simp [execOp, Instr.box, newVar, newRow]
    · cases h1
  · -- buildSlice
    rename_i t n ps sz n' z qs
    simp only [Bool.and_eq_true] at hok
    obtain ⟨hok, hps⟩ := hok
    split at hok
    · rename_i e hu
      split at hok
      · rename_i i hi
        split at hok
        · rename_i zv hz
          simp only [Bool.and_eq_true, decide_eq_true_eq] at hok
          obtain ⟨⟨⟨⟨⟨rfl, rfl⟩, h1⟩, h3⟩, h4⟩, h5⟩ := hok
          simp only [makeA, Option.bind_eq_some_iff, Option.map_eq_some_iff, Prod.mk.injEq] at hv
          obtain ⟨rs, hrs, r, hr, rfl, rfl⟩ := hv
          obtain ⟨e1, e2⟩ := parts_sound hG _ hps hf hrs
          have hz0 : VRs m z ((Array.range (n * i.size)).map (fun j => zv.cells[j % zv.cells.size]!)).toList := by
            have : ((Array.range (n * i.size)).map (fun j => zv.cells[j % zv.cells.size]!)).toList = rowZero zv.cells (n * i.size) := by simp [rowZero]
            rw [this]; exact okVals_sound h4
          obtain ⟨cs', h6, h7, h8⟩ := fill_sound (m := m) (fun j => some (j * i.size, i.size)) (ps.toList.map fun p => (p.1, a.eval p.2)) rs z r _ e1 e2 hz0 h5 hr
          have hlen : cs'.size = n * i.size := by
            have a1 := h7.length
            have a2 : r.length = z.length := by
              have : ∀ (qs : List (Nat × Nat × AV)) (l r : List AV), fillA l qs = some r → r.length = l.length := by
                intro qs
                induction qs with
                | nil => intro l r h; simp only [fillA, Option.some.injEq] at h; subst h; rfl
                | cons q qs ih =>
                  intro l r h
                  obtain ⟨o1, o2, o3⟩ := q
                  simp only [fillA] at h
                  split at h
                  · rename_i hc; have := ih _ _ h; rw [this]; simp; omega
                  · cases h
              exact this _ _ _ hr
            have a3 := hz0.length
            simp at a1 a3
            omega
          have hle : n ≤ n * i.size := Nat.le_mul_of_pos_right n h1
          refine ⟨.slice (some ⟨w.heap.size, 0, none⟩) n n, .cells cs' e, cs'.size, ?_, objR_new h7 h8 e w false, fun m' j hj => ?_, rfl⟩
          · have h6' : Instr.fill (fun j => some (j * i.size, i.size)) ((Array.range (n * i.size)).map (fun j => zv.cells[j % zv.cells.size]!)) (ps.map fun p => (p.1, a.eval p.2)).toList = some cs' := by simpa using h6
            have hn1 : ¬ (16777216 < n * i.size) := by omega
            simp only [execOp, Instr.buildSlice]
            by_cases hn0 : n = 0
            · subst hn0
              have e0 : ∀ f : Nat → Value, (Array.range 0).map f = #[] := fun f => by apply Array.ext'; simp
              simp only [Nat.zero_mul, e0] at h6
              simp [run_underlying' hu, sizeOf, typeInfo, hi, newRow, e0]
              rw [h6]; simp
            · simp [run_underlying' hu, sizeOf, typeInfo, hi, hn1, zeroValue, hz, newRow]
              rw [if_neg (by omega), h6]; simp
          · simp only [VR]
            exact ⟨_, n, _, hj, rfl, fun _ => by simp, Nat.le_refl _, by simp; omega, by unfold maxLen; omega, fun d hd => by simpa using hd⟩
        · cases hok
      · cases hok
    · cases hok
  · -- makeMap
    simp only [makeA, Option.some.injEq, Prod.mk.injEq] at hv
    obtain ⟨rfl, rfl⟩ := hv
    refine ⟨.map (some w.heap.size), .map #[] 0, 0, ?_, fun m' _ => ⟨#[], 0, heap_alloc_self _ _, .nil⟩, fun m' i hi => by simp only [VR]; exact ⟨_, hi, rfl⟩, rfl⟩
    simp [execOp, Instr.makeMap]
  · cases hok

/-! ### writing into what is there -/
theorem onlyBlock_setRow (w : World) (g : Nat) (cs : Array Value) : OnlyBlock w (w.setRow g cs) g where
  other := fun k hk => setRow_other w g k cs hk
  size := by simp
  os := rfl
  tape := rfl
  output := rfl
theorem put_CellsR {l news : List AV} {vs : List Value} {c : Array Value} {o off : Nat} (h : CellsR m l c o) (hn : VRs m news vs) (h1 : news.all oneCell = true) (hle : off + news.length ≤ l.length) (hc : o + l.length ≤ c.size) :
    CellsR m (putCells l off news) (c.toList.take (o + off) ++ vs ++ c.toList.drop (o + off + vs.length)).toArray o := by
  intro j x hx
  have hv := hn.length
  unfold putCells at hx
  have hcl : c.toList.length = c.size := by simp
  simp only [List.getElem?_append, List.length_append, List.length_take, List.getElem?_take, List.getElem?_drop] at hx
  simp only [List.getElem?_toArray, List.getElem?_append, List.length_append, List.length_take, List.getElem?_take, List.getElem?_drop, hcl]
  by_cases h2 : j < off
  · rw [if_pos (by omega), if_pos (by omega), if_pos h2] at hx
    rw [if_pos (by omega), if_pos (by omega), if_pos (by omega)]
    obtain ⟨v, h3, h4⟩ := h j x hx
    exact ⟨v, by simpa using h3, h4⟩
  · by_cases h3 : j < off + news.length
    · rw [if_pos (by omega), if_neg (by omega)] at hx
      rw [if_pos (by omega), if_neg (by omega)]
      have : j - min off l.length = o + j - min (o + off) c.size := by omega
      rw [this] at hx
      obtain ⟨v, h5, h6⟩ := hn.get hx
      exact ⟨v, h5, h6, List.all_eq_true.1 h1 x (List.mem_of_getElem? hx)⟩
    · rw [if_neg (by omega)] at hx
      rw [if_neg (by omega)]
      obtain ⟨v, h5, h6⟩ := h _ x hx
      refine ⟨v, ?_, h6⟩
      rw [← h5, Array.getElem?_toList]
      congr 1
      omega
theorem putCells_length {l news : List AV} {off : Nat} (h : off + news.length ≤ l.length) : (putCells l off news).length = l.length := by
  unfold putCells; simp; omega
/-- Cells stored, one behind the other, from a place in an object on. -/
theorem storeCells_sound (hh : HR m H w) {i off : Nat} {loc : Loc} {l news : List AV} {vs : List Value} (hm : m i = some loc) (hg : H.get i = some (.cells l false)) (hn : VRs m news vs) (h1 : news.all oneCell = true) (h2 : ∀ u ∈ vs, u.oneCell' = true) (hle : off + news.length ≤ l.length) :
    ∃ w', (storeCells ⟨loc.b, loc.o + off, none⟩ vs).run P w = .ok () w' ∧ HR m (H.set i (.cells (putCells l off news) false)) w' ∧ Ext m H w m (H.set i (.cells (putCells l off news) false)) w' ∧ w'.heap.size = w.heap.size := by
  obtain ⟨c, e, f0, hc, hf0, hc2, hc3, hc4⟩ := hh.ok _ _ _ hm hg
  obtain rfl := hf0 rfl
  have hv := hn.length
  have hrun := run_storeCells_at P loc.b (loc.o + off) e vs 0 c w hc (by omega) h2
  simp only [Nat.add_zero] at hrun
  have hb := onlyBlock_setRow w loc.b (c.toList.take (loc.o + off) ++ vs ++ c.toList.drop (loc.o + off + vs.length)).toArray
  refine ⟨_, hrun, hh.upd hm hg _ hb ?_ rfl rfl, Ext.upd hm hg rfl rfl hb, by simp⟩
  refine ⟨_, e, _, setRow_heap w loc.b c _ e (0, 0) hc, fun _ => rfl, ?_, ?_, put_CellsR hc4 hn h1 hle (by omega)⟩
  · simp; omega
  · rw [putCells_length hle]; exact hc3

theorem all_oneCell {x : AV} {v : Value} (h : VR m x v) (hx : (cellsOf x).all oneCell = true) : VRs m (cellsOf x) v.cells.toList ∧ ∀ u ∈ v.cells.toList, u.oneCell' = true := h.cells hx

theorem store_sound (hh : HR m H w) {t : TypeId} {n : Nat} (hn : sizeB P t = some n) {p v : AV} {pv vv : Value} (hp : VR m p pv) (hv : VR m v vv) {H' : AH} (h : storeA H n p v = some H') :
    ∃ w', (Instr.storeAt t pv vv).run P w = .ok () w' ∧ HR m H' w' ∧ Ext m H w m H' w' := by
  unfold storeA at h
  split at h
  · rename_i i off
    split at h
    · rename_i l ro hg
      split at h
      · rename_i hc
        obtain ⟨rfl, h1, h2, h3⟩ := hc
        obtain rfl := Option.some.inj h
        simp only [VR] at hp
        obtain ⟨loc, hm, rfl⟩ := hp
        obtain ⟨h4, h5⟩ := hv.cells h3
        obtain ⟨w', h6, h7, h8, _⟩ := storeCells_sound (P := P) (off := off) hh hm hg h4 h3 h5 (by omega)
        refine ⟨w', ?_, h7, h8⟩
        have hsz : (sizeOf t).run P w = .ok n w := by
          unfold sizeB at hn
          cases hi : P.info? t with
          | none => rw [hi] at hn; cases hn
          | some inf => rw [hi] at hn; simp at hn; simp [sizeOf, typeInfo, hi, hn]
        have hlen : vv.cells.size = n := by have := h4.length; simp at this; omega
        simp only [Instr.storeAt, Instr.sureAddr, storeVar]
        simp [hsz, hlen, h6]
      · cases h
    · cases h
  · cases h

/-- The first k elements of a slice or a string, read. -/
theorem sliceCells_sound (hh : HR m H w) {sz k : Nat} {x : AV} {xv : Value} (hx : VR m x xv) {news : List AV} (h : sliceCells H sz k x = some news) :
    ∃ vs : List Value, (Builtin.firstCells sz k xv).run P w = .ok vs.toArray w ∧ VRs m news vs ∧ news.all oneCell = true ∧ (∀ u ∈ vs, u.oneCell' = true) ∧ vs.length = k * sz := by
  unfold sliceCells at h
  split at h
  · rename_i sz' n' cap'
    split at h
    · rename_i hk; subst hk
      obtain rfl := Option.some.inj h
      simp only [VR] at hx; obtain ⟨rfl, _⟩ := hx
      exact ⟨[], by simp [Builtin.firstCells], by simp [VRs], rfl, by simp, by simp⟩
    · cases h
  · rename_i i off sz' len cap
    split at h
    · rename_i l ro hg
      split at h
      · rename_i hc
        obtain ⟨rfl, h1, h2⟩ := hc
        obtain rfl := Option.some.inj h
        simp only [VR] at hx
        obtain ⟨loc, c, ad, hm, rfl, had, h3, h4, h5, h6⟩ := hx
        obtain ⟨cells, e, _, hc, _, hc2, hc3, hc4⟩ := hh.ok _ _ _ hm hg
        have hlen : ((cells.toList.drop (loc.o + off)).take (k * sz')).length = k * sz' := by simp; omega
        refine ⟨(cells.toList.drop (loc.o + off)).take (k * sz'), ?_, VRs.of_get (by simp; omega) fun j y hy => ?_, ?_, ?_, hlen⟩
        · refine run_firstCells_some w sz' k ad len c _ hlen fun j v hj => ?_
          rw [List.getElem?_take] at hj
          split at hj
          · rename_i hjk
            have hc0 : 0 < c := by
              rcases Nat.eq_zero_or_pos c with h0 | h0
              · have : k = 0 := by omega
                subst this; omega
              · exact h0
            rw [had hc0]
            have hadd : (⟨loc.b, loc.o + off, none⟩ : Addr).add j = ⟨loc.b, loc.o + off + j, none⟩ := by unfold Addr.add; split <;> simp_all
            rw [hadd, cell_of hc]
            rw [List.getElem?_drop] at hj
            simpa using hj
          · cases hj
        · rw [List.getElem?_take] at hy
          split at hy
          · rename_i hjn
            rw [List.getElem?_drop] at hy
            obtain ⟨cv, h7, h8, _⟩ := hc4 _ _ hy
            refine ⟨cv, ?_, h8⟩
            simp only [List.getElem?_take, if_pos hjn, List.getElem?_drop]
            rw [show loc.o + off + j = loc.o + (off + j) by omega]
            simpa using h7
          · cases hy
        · rw [List.all_eq_true]
          intro y hy
          obtain ⟨q, hq⟩ := List.mem_iff_getElem?.1 (List.mem_of_mem_drop (List.mem_of_mem_take hy))
          obtain ⟨_, _, _, h9⟩ := hc4 _ _ hq
          exact h9
        · intro u hu
          obtain ⟨q, hq⟩ := List.mem_iff_getElem?.1 hu
          rw [List.getElem?_take] at hq
          split at hq
          · rename_i hql
            rw [List.getElem?_drop] at hq
            obtain ⟨y, hy⟩ : ∃ y, l[off + q]? = some y := ⟨_, List.getElem?_eq_getElem (by omega)⟩
            obtain ⟨cv, h7, h8, h9⟩ := hc4 _ _ hy
            have : cv = u := by
              rw [show loc.o + off + q = loc.o + (off + q) by omega] at hq
              rw [Array.getElem?_toList, h7] at hq
              exact Option.some.inj hq
            subst this
            exact h8.one h9
          · cases hq
      · cases h
    · cases h
  · rename_i s
    split at h
    · rename_i hc
      obtain ⟨rfl, h1⟩ := hc
      obtain rfl := Option.some.inj h
      simp only [VR] at hx; subst hx
      refine ⟨(s.take k).map fun b => .int .u8 b.toNat, ?_, ?_, ?_, ?_, by simp; omega⟩
      · have : (⟨⟨s⟩⟩ : ByteArray).extract 0 k = ⟨⟨s.take k⟩⟩ := by apply ByteArray.ext; simp [ByteArray.data_extract]
        simp [Builtin.firstCells, this]
      · refine VRs.of_get (by simp) fun j y hy => ?_
        simp only [List.getElem?_map, Option.map_eq_some_iff] at hy ⊢
        obtain ⟨b, hb, rfl⟩ := hy
        exact ⟨_, ⟨b, hb, rfl⟩, vr_int _ _⟩
      · rw [List.all_eq_true]
        intro y hy
        obtain ⟨b, _, rfl⟩ := List.mem_map.1 hy
        rfl
      · intro u hu
        simp only [List.mem_map] at hu
        obtain ⟨b, _, rfl⟩ := hu; rfl
    · cases h
  · cases h
theorem lenA_sound {x : AV} {xv : Value} (hx : VR m x xv) {n : Nat} (h : lenA x = some n) (w : World) : (Builtin.lenOf xv).run P w = .ok n w := by
  unfold lenA at h
  split at h
  · rename_i p sz k cap
    obtain rfl := Option.some.inj h
    cases p with
    | none => simp only [VR] at hx; obtain ⟨rfl, rfl⟩ := hx; rfl
    | some q => obtain ⟨i, o⟩ := q; simp only [VR] at hx; obtain ⟨_, _, _, _, rfl, _⟩ := hx; rfl
  · obtain rfl := Option.some.inj h
    simp only [VR] at hx; subst hx; rfl
  · cases h

theorem HR.kill (hh : HR m H w) (i : Nat) : HR m (H.kill i) w := by
  have key : ∀ j, (H.kill i).tip j = true → j ≠ i ∧ H.tip j = true := fun j ht => by
    simp only [AH.kill] at ht
    split at ht
    · cases ht
    · rename_i h1; exact ⟨h1, ht⟩
  refine ⟨fun j hj => ?_, hh.dom, fun j lj o hj ho => ?_, fun j k lj lk oj ok hj hk hoj hok hne hsh => ?_, fun j ht => ?_, fun j lj l ht hj hl => ?_⟩
  rotate_left 3
  · obtain ⟨h1, h2⟩ := key j ht
    obtain ⟨h3, h4, l, h5⟩ := hh.tipo j h2
    exact ⟨h3, h4, l, by rw [AH.get_kill, if_neg h1]; exact h5⟩
  · obtain ⟨h1, h2⟩ := key j ht
    rw [AH.get_kill, if_neg h1] at hl
    obtain ⟨h3, h4⟩ := hh.tip j lj l h2 hj hl
    refine ⟨h3, fun q lq oq hq hoq hb hne => ?_⟩
    rw [AH.get_kill] at hoq
    split at hoq
    · cases hoq
    · obtain ⟨h5, h6⟩ := h4 q lq oq hq hoq hb hne
      refine ⟨?_, h6⟩
      simp only [AH.kill]; split
      · rfl
      · exact h5
  · rw [AH.get_kill]; split
    · rfl
    · exact hh.wf j hj
  · rw [AH.get_kill] at ho
    split at ho
    · cases ho
    · exact hh.ok j lj o hj ho
  · rw [AH.get_kill] at hoj hok
    split at hoj
    · cases hoj
    · split at hok
      · cases hok
      · exact hh.sep j k lj lk oj ok hj hk hoj hok hne hsh
/-- An object is dropped, another one of the same content (and more) takes its place. -/
theorem Ext.kill {m' : LMap} {H' : AH} {w' : World} (h : Ext m H w m' H' w') {i : Nat} {loc : Loc} {o : AObj} (hm : m i = some loc) (hg : H.get i = some o) (hro : o.ro = false) : Ext m H w m' (H'.kill i) w' :=
  { h with
    unm := fun j hj hn => by rw [AH.get_kill, if_neg (by intro e; subst e; rw [hn] at hm; cases hm)]; exact h.unm j hj hn
    ro := fun j hj o' ho => by
      rw [AH.get_kill] at ho
      split at ho
      · cases ho
      · exact h.ro j hj o' ho
    rok := fun j oj hj hr => by
      rw [AH.get_kill, if_neg (by intro e; subst e; rw [hg] at hj; obtain rfl := Option.some.inj hj; rw [hro] at hr; cases hr)]
      exact h.rok j oj hj hr
    tip := fun j hj ht => by
      simp only [AH.kill] at ht
      split at ht
      · cases ht
      · exact h.tip j hj ht }

/-- What append's types are. -/
structure AppT (P : Program) (t t2 e : TypeId) (i : TypeInfo) (z : Value) (sz bytes : Nat) : Prop where
  ht : P.underlying t = some (.slice e)
  hi : P.info? e = some i
  hz : i.zero = some z
  hzs : z.cells.size = sz
  hsz : i.size = sz
  hby : i.bytes = bytes
  d2 : (∃ e2, P.underlying t2 = some (.slice e2)) ∨ P.underlying t2 = some .string

theorem run_append_gen {t t2 ty e : TypeId} {i : TypeInfo} {z : Value} {sz bytes : Nat} (T : AppT P t t2 e i z sz bytes) {base : Option Addr} {sLen sCap n : Nat} {xv : Value} (hl : ∀ w, (Builtin.lenOf xv).run P w = .ok n w)
    (hfit : sLen + n ≤ sCap ∨ (sCap < sLen + n ∧ (sLen + n) * bytes ≤ 140737488355328 ∧ 0 < bytes)) :
    (Builtin.append_ #[t, t2] ty #[.slice base sLen sCap, xv]).run P w =
      if sLen + n ≤ sCap then ((Builtin.firstCells sz n xv).run P w).andThen fun news w => (match base with | some a => (storeCells (a.add (sLen * sz)) news.toList).run P w | none => .ok () w).andThen fun _ w => .ok (.slice base (sLen + n) sCap) w
      else ((Builtin.firstCells sz sLen (.slice base sLen sCap)).run P w.drew).andThen fun old w1 => ((Builtin.firstCells sz n xv).run P w1).andThen fun news w2 =>
        .ok (.slice (some ⟨w2.heap.size, 0, none⟩) (sLen + n) (grownCap w (sLen + n) sCap e)) (w2.alloc (.cells (old ++ news ++ Builtin.zeroCells z.cells (grownCap w (sLen + n) sCap e - (sLen + n))) e)) := by
  have hsz := T.hsz
  have hby := T.hby
  have hbytes : ¬ (sLen + n ≤ sCap) → ¬ (281474976710656 < Builtin.nextslicecap (sLen + n) sCap * bytes) ∧ (sLen + n : Int) ≤ 9223372036854775807 := fun hr => by
    rcases hfit with h | ⟨h1, h2, h3⟩
    · exact absurd h hr
    · refine ⟨by have := growslice_fits h1 h2; omega, ?_⟩
      have : sLen + n ≤ (sLen + n) * bytes := Nat.le_mul_of_pos_right _ h3
      omega
  by_cases hr : sLen + n ≤ sCap
  · rw [if_pos hr]
    cases base with
    | none =>
      rcases T.d2 with ⟨e2, hd⟩ | hd
      · simp [Builtin.append_, run_underlying' T.ht, run_underlying' hd, sizeOf, typeInfo, T.hi, hl, hr, hsz]
      · simp [Builtin.append_, run_underlying' T.ht, run_underlying' hd, sizeOf, typeInfo, T.hi, hl, hr, hsz]
    | some ad =>
      rcases T.d2 with ⟨e2, hd⟩ | hd
      · simp [Builtin.append_, run_underlying' T.ht, run_underlying' hd, sizeOf, typeInfo, T.hi, hl, hr, hsz]
      · simp [Builtin.append_, run_underlying' T.ht, run_underlying' hd, sizeOf, typeInfo, T.hi, hl, hr, hsz]
  · rw [if_neg hr]
    obtain ⟨h1, h2⟩ := hbytes hr
    have h3 : ¬ (9223372036854775807 < (sLen : Int) + (n : Int)) := by omega
    rcases T.d2 with ⟨e2, hd⟩ | hd
    · simp [Builtin.append_, run_underlying' T.ht, run_underlying' hd, sizeOf, typeInfo, T.hi, T.hz, zeroValue, hl, hr, hsz, hby, h1, h3, Question.forced, grownCap, newRow]
    · simp [Builtin.append_, run_underlying' T.ht, run_underlying' hd, sizeOf, typeInfo, T.hi, T.hz, zeroValue, hl, hr, hsz, hby, h1, h3, Question.forced, grownCap, newRow]

theorem add_at' (b o k : Nat) : (⟨b, o, none⟩ : Addr).add k = ⟨b, o + k, none⟩ := by
  unfold Addr.add
  split
  · rename_i h0; rw [h0]; rfl
  · rfl
theorem Ext.drew_left {m' : LMap} {H' : AH} {w' : World} (h : Ext m H w.drew m' H' w') : Ext m H w m' H' w' :=
  { next := h.next, sub := h.sub, new := h.new, unm := h.unm, ro := h.ro, rok := h.rok, tip := h.tip, frame := h.frame, size := h.size, os := h.os, tape := h.tape, output := h.output }
theorem HR.drew' (h : HR m H w) : HR m H w.drew := h.drew _
/-- A row of the run's own, grown: a new block. -/
theorem grown_block (hh : HR m H w) {all : List AV} {old news : List Value} {rest : Array Value} {e : TypeId} (h : VRs m all (old ++ news)) (h1 : all.all oneCell = true) :
    ∃ m', HR m' (H.push (.cells all false)) (w.drew.alloc (.cells (old.toArray ++ news.toArray ++ rest) e)) ∧ Ext m H w m' (H.push (.cells all false)) (w.drew.alloc (.cells (old.toArray ++ news.toArray ++ rest) e)) ∧
      m' H.next = some ⟨w.heap.size, 0, old.length + news.length + rest.size⟩ := by
  have hh' := hh.drew'
  refine ⟨m.put H.next ⟨w.heap.size, 0, old.length + news.length + rest.size⟩, hh'.push _ _ _ fun m' hs => ?_, Ext.drew_left (Ext.push hh' _ _ _), LMap.put_self _ _ _⟩
  refine ⟨_, e, _, heap_alloc_self _ _, fun _ => rfl, by simp, by rw [← h.length]; simp, fun j x hx => ?_⟩
  obtain ⟨v, hv, hr⟩ := h.get hx
  refine ⟨v, ?_, hr.mono hs, List.all_eq_true.1 h1 x (List.mem_of_getElem? hx)⟩
  have hj : j < (old ++ news).length := (List.getElem?_eq_some_iff.1 hv).1
  rw [Nat.zero_add, ← Array.getElem?_toList]
  simp only [Array.toList_append]
  rw [List.getElem?_append_left hj]
  exact hv

theorem append_sound (hh : HR m H w) {t t2 ty e : TypeId} {i : TypeInfo} {z : Value} {sz bytes : Nat} (T : AppT P t t2 e i z sz bytes) {s x : AV} {sv xv : Value} (hs : VR m s sv) (hx : VR m x xv) {r : AV} {H' : AH} (h : appendA H sz bytes s x = some (r, H')) :
    ∃ cv m' w', (Builtin.append_ #[t, t2] ty #[sv, xv]).run P w = .ok cv w' ∧ VR m' r cv ∧ HR m' H' w' ∧ Ext m H w m' H' w' := by
  unfold appendA at h
  simp only [Option.bind_eq_some_iff] at h
  obtain ⟨n, hn, news, hnews, h⟩ := h
  have hl := lenA_sound (P := P) hx hn
  have hzsz := T.hzs
  split at h
  · -- nil
    rename_i sz0 len0 cap0
    simp only [VR] at hs; obtain ⟨rfl, rfl⟩ := hs
    split at h
    · rename_i h0; subst h0
      simp only [Option.some.injEq, Prod.mk.injEq] at h; obtain ⟨rfl, rfl⟩ := h
      obtain ⟨vs, hv1, _⟩ := sliceCells_sound (P := P) hh hx hnews
      refine ⟨.slice none 0 0, m, w, ?_, by simp [VR], hh, Ext.refl _ _ _⟩
      rw [run_append_gen T hl (.inl (Nat.le_refl _))]
      rw [if_pos (Nat.le_refl _), hv1]
      rfl
    · rename_i h0
      split at h
      · rename_i hc
        obtain ⟨hc1, hc2, hc3⟩ := hc
        simp only [Option.some.injEq, Prod.mk.injEq] at h; obtain ⟨rfl, rfl⟩ := h
        have hh' := hh.drew'
        obtain ⟨vs, hv1, hv2, hv3, hv4, hv5⟩ := sliceCells_sound (P := P) hh' hx hnews
        have hg := grownCap_ge w (0 + n) 0 e
        have hgm := grownCap_le_maxLen w (0 + n) 0 e (by have : n ≤ n * bytes := Nat.le_mul_of_pos_right _ hc2; unfold maxLen; omega)
        obtain ⟨m', h1, h2, h3⟩ := grown_block (old := []) (rest := Builtin.zeroCells z.cells (grownCap w (0 + n) 0 e - (0 + n))) (e := e) hh (by simpa using hv2) hv3
        refine ⟨.slice (some ⟨w.heap.size, 0, none⟩) n (grownCap w (0 + n) 0 e), m', _, ?_, ?_, h1, h2⟩
        · rw [run_append_gen T hl (.inr ⟨by omega, by simpa using hc1, hc2⟩), if_neg (by omega)]
          have : (Builtin.firstCells sz 0 (.slice none 0 0)).run P w.drew = .ok #[] w.drew := by simp [Builtin.firstCells]
          rw [this]
          simp only [Result.andThen_ok, hv1, Nat.zero_add]
          rfl
        · simp only [VR]
          refine ⟨_, _, _, h3, rfl, fun _ => rfl, by omega, ?_, hgm, fun d hd => by cases hd⟩
          simp only [List.length_nil, size_zeroCells, hzsz, hv5, Nat.zero_add]
          rw [← Nat.add_mul]
          exact Nat.mul_le_mul_right _ (by omega)
      · cases h
  · rename_i id off sz' len cap
    split at h
    · rename_i hc
      obtain ⟨rfl, hc1, hc2, hc3⟩ := hc
      simp only [VR] at hs
      obtain ⟨loc, c, ad, hm, rfl, had, hs1, hs2, hs3, hs4⟩ := hs
      split at h
      · rename_i l ro hg
        obtain ⟨cells, et, f0, hcc, hf0, hcc2, hcc3, hcc4⟩ := hh.ok _ _ _ hm hg
        -- growing
        have grow : c < len + n → off + len * sz' ≤ l.length → ∃ m' w', (Builtin.append_ #[t, t2] ty #[.slice (some ad) len c, xv]).run P w = .ok (.slice (some ⟨w.heap.size, 0, none⟩) (len + n) (grownCap w (len + n) c e)) w' ∧
            VR m' (.sl (some (H.next, 0)) sz' (len + n) none) (.slice (some ⟨w.heap.size, 0, none⟩) (len + n) (grownCap w (len + n) c e)) ∧
            HR m' (H.push (.cells ((l.drop off).take (len * sz') ++ news) false)) w' ∧ Ext m H w m' (H.push (.cells ((l.drop off).take (len * sz') ++ news) false)) w' := fun hgr hle => by
          have hh' := hh.drew'
          obtain ⟨vs, hv1, hv2, hv3, hv4, hv5⟩ := sliceCells_sound (P := P) hh' hx hnews
          have hself : sliceCells H sz' len (.sl (some (id, off)) sz' len cap) = some ((l.drop off).take (len * sz')) := by
            simp only [sliceCells, hg]
            rw [if_pos ⟨trivial, Nat.le_refl _, hle⟩]
          obtain ⟨us, hu1, hu2, hu3, hu4, hu5⟩ := sliceCells_sound (P := P) (xv := .slice (some ad) len c) hh' (by simp only [VR]; exact ⟨loc, c, ad, hm, rfl, had, hs1, hs2, hs3, hs4⟩) hself
          have hg := grownCap_ge w (len + n) c e
          have hgm := grownCap_le_maxLen w (len + n) c e (by have : len + n ≤ (len + n) * bytes := Nat.le_mul_of_pos_right _ hc2; unfold maxLen; omega)
          obtain ⟨m', h1, h2, h3⟩ := grown_block (rest := Builtin.zeroCells z.cells (grownCap w (len + n) c e - (len + n))) (e := e) hh (hu2.append hv2) (by rw [List.all_append, hu3, hv3]; rfl)
          refine ⟨m', _, ?_, ?_, h1, h2⟩
          · rw [run_append_gen T hl (.inr ⟨hgr, hc3, hc2⟩), if_neg (by omega), hu1]
            simp only [Result.andThen_ok, hv1]
            rfl
          · simp only [VR]
            refine ⟨_, _, _, h3, rfl, fun _ => rfl, by omega, ?_, hgm, fun d hd => by cases hd⟩
            simp only [size_zeroCells, hzsz, hv5, hu5, Nat.zero_add]
            rw [← Nat.add_mul, ← Nat.add_mul]
            exact Nat.mul_le_mul_right _ (by omega)
        split at h
        · -- capacity known
          rename_i cap0
          have hcap : c = cap0 := hs4 cap0 rfl
          subst hcap
          split at h
          · rename_i hroom
            split at h
            · rename_i h0; subst h0
              simp only [Option.some.injEq, Prod.mk.injEq] at h; obtain ⟨rfl, rfl⟩ := h
              obtain ⟨vs, hv1, _, _, _, hv5⟩ := sliceCells_sound (P := P) hh hx hnews
              refine ⟨.slice (some ad) len c, m, w, ?_, by simp only [VR]; exact ⟨loc, c, ad, hm, rfl, had, hs1, hs2, hs3, hs4⟩, hh, Ext.refl _ _ _⟩
              rw [run_append_gen T hl (.inl hroom), if_pos hroom, hv1]
              have : vs = [] := by rw [← List.length_eq_zero_iff, hv5]; simp
              subst this
              rfl
            · rename_i h0
              split at h
              · rename_i hc4
                obtain ⟨rfl, hc4⟩ := hc4
                simp only [Option.some.injEq, Prod.mk.injEq] at h; obtain ⟨rfl, rfl⟩ := h
                obtain ⟨vs, hv1, hv2, hv3, hv4, hv5⟩ := sliceCells_sound (P := P) hh hx hnews
                have hnl : news.length = n * sz' := by rw [← hv2.length]; exact hv5
                have hmul : (len + n) * sz' = len * sz' + n * sz' := Nat.add_mul _ _ _
                obtain ⟨w', h1, h2, h3, _⟩ := storeCells_sound (P := P) (off := off + len * sz') hh hm hg hv2 hv3 hv4 (by omega)
                refine ⟨.slice (some ad) (len + n) c, m, w', ?_, ?_, h2, h3⟩
                · rw [run_append_gen T hl (.inl hroom), if_pos hroom, hv1]
                  simp only [Result.andThen_ok]
                  rw [had (by omega), add_at', Nat.add_assoc]
                  simp only [h1, Result.andThen_ok]
                · simp only [VR]
                  exact ⟨loc, c, ad, hm, rfl, had, hroom, hs2, hs3, fun d hd => by simpa using hd⟩
              · cases h
          · rename_i hroom
            split at h
            · rename_i hle
              simp only [Option.some.injEq, Prod.mk.injEq] at h; obtain ⟨rfl, rfl⟩ := h
              obtain ⟨m', w', h1, h2, h3, h4⟩ := grow (by omega) hle
              exact ⟨_, m', w', h1, h2, h3, h4⟩
            · cases h
        · -- capacity not known
          split at h
          · rename_i hc4
            obtain ⟨rfl, hc4⟩ := hc4
            obtain rfl := hf0 rfl
            simp only [Option.some.injEq, Prod.mk.injEq] at h; obtain ⟨rfl, rfl⟩ := h
            by_cases hroom : len + n ≤ c
            · -- in place
              obtain ⟨vs, hv1, hv2, hv3, hv4, hv5⟩ := sliceCells_sound (P := P) hh hx hnews
              have hnl : news.length = n * sz' := by rw [← hv2.length]; exact hv5
              have hmul : (len + n) * sz' = len * sz' + n * sz' := Nat.add_mul _ _ _
              have hcm : (len + n) * sz' ≤ c * sz' := Nat.mul_le_mul_right _ hroom
              have hrun := run_storeCells_at P loc.b (loc.o + (off + len * sz')) et vs 0 cells w hcc (by omega) hv4
              simp only [Nat.add_zero] at hrun
              have hdrop : (l.drop off).length = len * sz' := by simp; omega
              let cs' := (cells.toList.take (loc.o + (off + len * sz')) ++ vs ++ cells.toList.drop (loc.o + (off + len * sz') + vs.length)).toArray
              have hcs : cs'.size = cells.size := by simp [cs']; omega
              have hob := onlyBlock_setRow w loc.b cs'
              let j := H.next
              let locj : Loc := ⟨loc.b, loc.o + off, loc.n - off⟩
              have hne : ∀ q lq oq, m q = some lq → H.get q = some oq → q ≠ id → lq.b ≠ loc.b := fun q lq oq h1 h2 h3 => hh.sep q id lq loc oq _ h1 hm h2 hg h3 (by simp [shar, AObj.ro])
              have hsub := LMap.put_sub (loc := locj) hh.fresh
              have hidn : id ≠ H.next := fun e => by have := (hh.dom _ _ hm).1; omega
              have hjobj : ObjR (m.put H.next locj) (w.setRow loc.b cs') locj (.cells (l.drop off ++ news) false) := by
                refine ⟨cs', et, _, setRow_heap w loc.b cells _ et (0, 0) hcc, fun _ => rfl, by rw [hcs]; simp only [locj]; omega, ?_, fun k y hy => ?_⟩
                · simp only [locj, List.length_append, hdrop, hnl]; omega
                · by_cases hk : k < len * sz'
                  · rw [List.getElem?_append_left (by omega), List.getElem?_drop] at hy
                    obtain ⟨v, h5, h6, h7⟩ := hcc4 _ _ hy
                    refine ⟨v, ?_, h6.mono hsub, h7⟩
                    simp only [cs', locj, List.getElem?_toArray]
                    rw [List.append_assoc, List.getElem?_append_left (by simp; omega), List.getElem?_take, if_pos (by omega)]
                    rw [show loc.o + off + k = loc.o + (off + k) by omega]
                    simpa using h5
                  · rw [List.getElem?_append_right (by omega)] at hy
                    obtain ⟨v, h5, h6⟩ := hv2.get hy
                    refine ⟨v, ?_, h6.mono hsub, List.all_eq_true.1 hv3 y (List.mem_of_getElem? hy)⟩
                    have hkv : k - (l.drop off).length < vs.length := (List.getElem?_eq_some_iff.1 h5).1
                    simp only [cs', locj, List.getElem?_toArray]
                    rw [List.getElem?_append_left (by simp; omega), List.getElem?_append_right (by simp; omega)]
                    rw [← h5]
                    congr 1
                    simp
                    omega
              refine ⟨.slice (some ad) (len + n) c, m.put H.next locj, w.setRow loc.b cs', ?_, ?_, ?_, ?_⟩
              · rw [run_append_gen T hl (.inl hroom), if_pos hroom, hv1]
                simp only [Result.andThen_ok]
                by_cases hc0 : 0 < c
                · rw [had hc0, add_at', Nat.add_assoc]
                  simp only [hrun, Result.andThen_ok]
                  rfl
                · have hn0 : n = 0 := by omega
                  have hv0 : vs = [] := by rw [← List.length_eq_zero_iff, hv5, hn0]; simp
                  have hcs0 : w.setRow loc.b cs' = w := by
                    have : cs' = cells := by
                      simp only [cs', hv0, List.append_nil, List.length_nil, Nat.add_zero, List.take_append_drop, Array.toArray_toList]
                    rw [this]; exact setRow_self w loc.b cells et (0, 0) hcc
                  rw [hcs0, hv0]
                  rfl
              · simp only [VR]
                exact ⟨locj, c, ad, LMap.put_self _ _ _, rfl, fun h0 => by simp only [locj]; rw [had h0]; rfl, hroom, by simp only [locj]; omega, hs3, fun d hd => by cases hd⟩
              · refine ⟨fun q hq => ?_, fun q lq hq => ?_, fun q lq oq hq hoq => ?_, fun q q' lq lq' oq oq' hq hq' hoq hoq' hqq hsh => ?_, fun q ht => ?_, fun q lq lx ht hq hl => ?_⟩
                rotate_left 4
                · simp only [AH.kill, AH.push] at ht
                  split at ht
                  · cases ht
                  · rename_i h5
                    obtain ⟨h6, h7, lx, h8⟩ := hh.tipo q ht
                    exact ⟨by simp only [AH.kill, AH.push]; omega, h7, lx, by rw [AH.get_kill, if_neg h5, AH.get_push, if_neg (by omega)]; exact h8⟩
                · simp only [AH.kill, AH.push] at ht
                  split at ht
                  · cases ht
                  · rename_i h5
                    obtain ⟨h6, _, _⟩ := hh.tipo q ht
                    rw [AH.get_kill, if_neg h5, AH.get_push, if_neg (by omega)] at hl
                    unfold LMap.put at hq
                    rw [if_neg (by omega)] at hq
                    obtain ⟨⟨c0, e0, hc0⟩, h8⟩ := hh.tip q lq lx ht hq hl
                    have hqb := hne q lq _ hq hl h5
                    refine ⟨⟨c0, e0, (hob.other _ hqb).trans hc0⟩, fun i2 li2 oi2 h9 h10 h11 h12 => ?_⟩
                    unfold LMap.put at h9
                    rw [AH.get_kill, AH.get_push] at h10
                    split at h9
                    · obtain rfl := Option.some.inj h9; exact absurd h11.symm hqb
                    · rename_i h13
                      split at h10
                      · cases h10
                      · try rw [if_neg h13] at h10
                        obtain ⟨h14, h15⟩ := h8 i2 li2 oi2 h9 h10 h11 h12
                        refine ⟨?_, h15⟩
                        simp only [AH.kill, AH.push]
                        split
                        · rfl
                        · exact h14
                · rw [AH.get_kill, AH.get_push]
                  simp only [AH.kill, AH.push] at hq
                  split
                  · rfl
                  · rw [if_neg (by omega)]; exact hh.wf q (by omega)
                · unfold LMap.put at hq
                  simp only [AH.kill, AH.push]
                  split at hq
                  · rename_i e; subst e; obtain rfl := Option.some.inj hq; exact ⟨by omega, by rw [hob.size]; exact (hh.dom _ _ hm).2⟩
                  · have := hh.dom q lq hq; exact ⟨by omega, by rw [hob.size]; exact this.2⟩
                · rw [AH.get_kill, AH.get_push] at hoq
                  unfold LMap.put at hq
                  split at hoq
                  · cases hoq
                  · rename_i hqid
                    split at hq
                    · rename_i e; subst e
                      rw [if_pos rfl] at hoq
                      obtain rfl := Option.some.inj hq
                      obtain rfl := Option.some.inj hoq
                      exact hjobj
                    · rename_i e
                      rw [if_neg e] at hoq
                      exact (hh.ok q lq oq hq hoq).mono hsub (hob.other _ (hne q lq oq hq hoq hqid))
                · rw [AH.get_kill, AH.get_push] at hoq hoq'
                  unfold LMap.put at hq hq'
                  split at hoq
                  · cases hoq
                  · rename_i h5
                    split at hoq'
                    · cases hoq'
                    · rename_i h6
                      split at hq <;> split at hq'
                      · rename_i e e'; exact absurd (e.trans e'.symm) hqq
                      · rename_i e e'
                        obtain rfl := Option.some.inj hq
                        rw [if_neg e'] at hoq'
                        exact (hne q' lq' oq' hq' hoq' h6).symm
                      · rename_i e e'
                        obtain rfl := Option.some.inj hq'
                        rw [if_neg e] at hoq
                        exact hne q lq oq hq hoq h5
                      · rename_i e e'
                        rw [if_neg e] at hoq
                        rw [if_neg e'] at hoq'
                        exact hh.sep q q' lq lq' oq oq' hq hq' hoq hoq' hqq hsh
              · have hmine : Mine m H loc.b := ⟨id, loc, _, hm, hg, .inl rfl, rfl⟩
                have hext : Ext m H w (m.put H.next locj) (H.push (.cells (l.drop off ++ news) false)) (w.setRow loc.b cs') := {
                  next := by simp [AH.push]
                  sub := hsub
                  new := fun q lq hq hn => by
                    unfold LMap.put at hq
                    split at hq
                    · rename_i e; subst e; obtain rfl := Option.some.inj hq; exact ⟨Nat.le_refl _, .inr hmine⟩
                    · rw [hn] at hq; cases hq
                  unm := fun q hq _ => by rw [AH.get_push, if_neg (by omega)]
                  ro := fun q hq o' ho => by rw [AH.get_push, if_neg (by omega)] at ho; exact ⟨o', ho, rfl⟩
                  rok := fun q o' ho _ => by
                    rw [AH.get_push]
                    split
                    · rename_i e; subst e; rw [hh.wf _ (Nat.le_refl _)] at ho; cases ho
                    · exact ho
                  tip := fun _ _ h => h
                  frame := fun b _ hb => hob.other b (fun e => hb (by rw [e]; exact hmine))
                  size := Nat.le_of_eq hob.size.symm
                  os := rfl
                  tape := rfl
                  output := rfl }
                exact hext.kill hm hg rfl
            · obtain ⟨m', w', h1, h2, h3, h4⟩ := grow (by omega) (by omega)
              have htake : (l.drop off).take (len * sz') = l.drop off := List.take_of_length_le (by simp; omega)
              rw [htake] at h3 h4
              exact ⟨_, m', w', h1, h2, h3.kill id, h4.kill hm hg rfl⟩
          · cases h
      · cases h
    · cases h
  · cases h
end
end Go.Proofs.YtlecbjcloleiiaaDoor.Ram

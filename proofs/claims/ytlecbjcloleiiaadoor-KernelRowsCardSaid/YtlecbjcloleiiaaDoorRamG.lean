import Derived.Test.YtlecbjcloleiiaaDoorRamO
/-! The acts; one operation, whatever it is. -/
namespace Go.Proofs.YtlecbjcloleiiaaDoor.Ram
open Go Go.RowKit

def okAct (P : Program) (G : List Nat) : Op → AOp → Bool
  | .store t x y, .store n x' y' => decide (sizeB P t = some n) && okOpd G x x' && okOpd G y y'
  | .makeSlice t x y, .mkSlice sz bytes zero x' y' => (match P.underlying t with
      | some (.slice e) => (match P.info? e with
        | some i => (match i.zero with
          | some z => decide (i.size = sz) && decide (i.bytes = bytes) && decide (zero.length = sz) && decide (0 < sz) && okVals z.cells.toList zero && zero.all oneCell
          | none => false)
        | none => false)
      | _ => false) && okOpd G x x' && okOpd G y y'
  | .slice t x none (some h) (some mx), .slc3 sz x' h' mx' => okSlT P t sz && okOpd G x x' && okOpd G h h' && okOpd G mx mx'
  | .mapUpdate t x k v, .mset x' k' v' => (match P.underlying t with | some (.map kt _) => isStrT P kt | _ => false) && okOpd G x x' && okOpd G k k' && okOpd G v v'
  | .insert t x k v, .mset x' k' v' => (match P.underlying t with | some (.map kt _) => isStrT P kt | _ => false) && okOpd G x x' && okOpd G k k' && okOpd G v v'
  | .call ⟨.builtin .delete, args, ts⟩, .mdel x' k' => (match args.toList, ts.toList with
      | [x, k], t :: _ => (match P.underlying t with | some (.map kt _) => isStrT P kt | _ => false) && okOpd G x x' && okOpd G k k'
      | _, _ => false)
  | .call ⟨.builtin .append, args, ts⟩, .append _ sz bytes x' y' => (match args.toList, ts.toList with
      | [x, y], [t, t2] => (match P.underlying t with
        | some (.slice e) => (match P.info? e with
          | some i => (match i.zero with
            | some z => decide (z.cells.size = sz) && decide (i.size = sz) && decide (i.bytes = bytes)
            | none => false)
          | none => false)
        | _ => false) && (match P.underlying t2 with | some (.slice _) => true | some .string => true | _ => false) && okOpd G x x' && okOpd G y y'
      | _, _ => false)
  | .call ⟨.builtin .copy, args, ts⟩, .copy sz x' y' => (match args.toList, ts.toList with
      | [x, y], t :: _ => okSlT P t sz && okOpd G x x' && okOpd G y y'
      | _, _ => false)
  | .call ⟨.builtin .clear, args, ts⟩, .clear sz zero x' => (match args.toList, ts.toList with
      | [x], t :: _ => (match P.underlying t with
        | some (.slice e) => (match P.info? e with
          | some i => (match i.zero with
            | some z => decide (i.size = sz) && decide (zero.length = sz) && decide (0 < sz) && okVals z.cells.toList zero && zero.all oneCell
            | none => false)
          | none => false)
        | _ => false) && okOpd G x x'
      | _, _ => false)
  | .call ⟨.value f, args, _⟩, .callF n l => (match f with | .func k => decide (k = n) | _ => false) && okOpds G args.toList l
  | .call ⟨.value f, args, _⟩, .callV x l => okOpd G f x && okOpds G args.toList l
  | _, _ => false

/-- A function of the program that has a body. -/
def Callable (P : Program) (f : Nat) : Prop := ∃ fn, P.funcs[f]? = some fn ∧ fn.body ≠ none ∧ fn.name ≠ "runtime.NumGoroutine"
theorem run_callFunc' {P : Program} {f : Nat} (h : Callable P f) (args : Array Value) (w : World) : (callFunc f args).run P w = .ok (.enter f args) w := by
  obtain ⟨fn, h1, h2, h3⟩ := h
  simp [callFunc, h1, h3, h2]

/-- What an oracle answers the program does. -/
def OSound (P : Program) (G : List Nat) (O : Oracle) : Prop := ∀ f vs H r, O f vs H = some r → ∀ m w (cargs : Array Value), GOk G m → HR m H w → VRs m vs cargs.toList →
  Callable P f ∧ Calls P f cargs w fun e w' => ∃ cv m', e = .returned cv ∧ VR m' r.1 cv ∧ HR m' r.2 w' ∧ Ext m H w m' r.2 w'

section
variable {P : Program} {G : List Nat} {m : LMap} {H : AH} {w : World} {fr : Fr} {a : Act}

theorem bs_self (s : List UInt8) : ((⟨⟨s⟩⟩ : ByteArray) == ⟨⟨s⟩⟩) = true := by rw [beq_toListBytes]; simp
theorem map_mod {s : List UInt8} {x : AV} {xv : Value} (hx : VR m x xv) : ∀ {l : List (List UInt8 × AV)} {es : List MapEntry} (i : Nat), MapR m l es →
    (Instr.findNow .string (.string ⟨⟨s⟩⟩) es i = some none ∧ mapSet l s x = l ++ [(s, x)] ∧ mapDel l s = l) ∨
    (∃ k v e, Instr.findNow .string (.string ⟨⟨s⟩⟩) es i = some (some (i + k, v)) ∧ es[k]? = some e ∧ e.key = .string ⟨⟨s⟩⟩ ∧
      MapR m (mapSet l s x) (es.modify k (fun e => { e with key := .string ⟨⟨s⟩⟩, val := xv })) ∧ MapR m (mapDel l s) (es.eraseIdx k))
  | [], [], _, _ => .inl ⟨rfl, rfl, rfl⟩
  | [], _ :: _, _, h => by cases h
  | _ :: _, [], _, h => by cases h
  | (s', y) :: l, e :: es, i, h => by
    cases h with
    | cons hk hv h =>
      have hb : ((⟨⟨s⟩⟩ : ByteArray) == ⟨⟨s'⟩⟩) = (s == s') := by rw [beq_toListBytes, toList_mk, toList_mk]
      by_cases hs : s = s'
      · subst hs
        refine .inr ⟨0, e.val, e, ?_, rfl, hk, ?_, ?_⟩
        · unfold Instr.findNow
          rw [hk]
          simp only [Instr.sameNow, bs_self, Nat.add_zero]
        · simp only [mapSet, beq_self_eq_true, if_true, List.modify_zero_cons]
          exact .cons rfl hx h
        · simp only [mapDel, beq_self_eq_true, if_true, List.eraseIdx_zero, List.tail_cons]
          exact h
      · have h1 : (s == s') = false := by simpa using hs
        have h2 : (s' == s) = false := by simpa using fun e => hs e.symm
        have hf : Instr.findNow .string (.string ⟨⟨s⟩⟩) (e :: es) i = Instr.findNow .string (.string ⟨⟨s⟩⟩) es (i + 1) := by
          conv => lhs; unfold Instr.findNow
          rw [hk]
          simp only [Instr.sameNow, hb, h1]
        rcases map_mod hx (i + 1) h with ⟨h3, h4, h5⟩ | ⟨k, v, e', h3, h4, h5, h6, h7⟩
        · refine .inl ⟨by rw [hf]; exact h3, ?_, ?_⟩
          · simp [mapSet, h2, h4]
          · simp [mapDel, h2, h5]
        · refine .inr ⟨k + 1, v, e', by rw [hf, h3]; congr 3; omega, by simpa using h4, h5, ?_, ?_⟩
          · simp only [mapSet, h2, Bool.false_eq_true, if_false, List.modify_succ_cons]
            exact .cons hk hv h6
          · simp only [mapDel, h2, Bool.false_eq_true, if_false, List.eraseIdx_cons_succ]
            exact .cons hk hv h7

theorem MapR.push {l : List (List UInt8 × AV)} {es : List MapEntry} (h : MapR m l es) {s : List UInt8} {x : AV} {e : MapEntry} (hk : e.key = .string ⟨⟨s⟩⟩) (hv : VR m x e.val) : MapR m (l ++ [(s, x)]) (es ++ [e]) := by
  induction h with
  | nil => exact .cons hk hv .nil
  | cons h1 h2 _ ih => exact .cons h1 h2 ih

/-- An object that is no row of cells, written anew. -/
theorem setObj_sound (hh : HR m H w) {i : Nat} {loc : Loc} {l l' : List (List UInt8 × AV)} (hm : m i = some loc) (hg : H.get i = some (.map l false)) {es : Array MapEntry} {ck : Nat} (hr : MapR m l' es.toList) :
    ∃ w', (setObj loc.b (.map es ck)).run P w = .ok () w' ∧ HR m (H.set i (.map l' false)) w' ∧ Ext m H w m (H.set i (.map l' false)) w' := by
  obtain ⟨es0, ck0, h0, _⟩ := hh.ok _ _ _ hm hg
  have hlt : loc.b < w.heap.size := (hh.dom _ _ hm).2
  let w' : World := { w with heap := w.heap.setIfInBounds loc.b (.map es ck) }
  have hb : OnlyBlock w w' loc.b := ⟨fun k hk => by simp only [w']; rw [Array.getElem?_setIfInBounds_ne (Ne.symm hk)], by simp [w'], rfl, rfl, rfl⟩
  refine ⟨w', ?_, hh.upd hm hg _ hb ⟨es, ck, by simp only [w']; rw [Array.getElem?_setIfInBounds_self_of_lt hlt], hr⟩ rfl rfl, Ext.upd hm hg rfl rfl hb⟩
  simp [setObj, Sem.run, h0, w']

theorem mset_sound (hh : HR m H w) {t kt et : TypeId} (hu : P.underlying t = some (.map kt et)) (hk : P.underlying kt = some .string) {i : Nat} {loc : Loc} {l : List (List UInt8 × AV)} {s : List UInt8} {x : AV} {xv : Value} (hm : m i = some loc) (hg : H.get i = some (.map l false)) (hx : VR m x xv) :
    ∃ w', (Instr.mapUpdate t (.map (some loc.b)) (.string ⟨⟨s⟩⟩) xv).run P w = .ok () w' ∧ HR m (H.set i (.map (mapSet l s x) false)) w' ∧ Ext m H w m (H.set i (.map (mapSet l s x) false)) w' := by
  obtain ⟨es, ck, h0, h1⟩ := hh.ok _ _ _ hm hg
  have hgo : (getObj loc.b).run P w = .ok (.map es ck) w := by simp [getObj, Sem.run, h0]
  rcases map_mod (s := s) hx 0 h1 with ⟨h3, h4, _⟩ | ⟨k, v, e, h3, h4, h5, h6, _⟩
  · have hfk : (Instr.findKey kt (.string ⟨⟨s⟩⟩) es.toList).run P w = .ok none w := by simp [Instr.findKey, run_underlying' hk, h3]
    obtain ⟨w', h5, h6, h7⟩ := setObj_sound (P := P) (es := es.push { key := .string ⟨⟨s⟩⟩, val := xv, born := ck }) (ck := ck + 1) (l' := mapSet l s x) hh hm hg (by rw [h4, Array.toList_push]; exact h1.push rfl hx)
    refine ⟨w', ?_, h6, h7⟩
    simp only [Instr.mapUpdate, Sem.run_bind, run_underlying' hu, Result.andThen_ok, hgo, run_checkKey hk, hfk, h5]
  · have hfk : (Instr.findKey kt (.string ⟨⟨s⟩⟩) es.toList).run P w = .ok (some (k, v)) w := by
      simp only [Nat.zero_add] at h3
      simp [Instr.findKey, run_underlying' hk, h3]
    have hkey : (((es[k]?).map (·.key)).getD (.string ⟨⟨s⟩⟩)) = .string ⟨⟨s⟩⟩ := by
      have : es[k]? = some e := by simpa using h4
      rw [this]; exact h5
    have hkts : (Instr.keyThatStays (.string ⟨⟨s⟩⟩) (.string ⟨⟨s⟩⟩)).run P w = .ok (.string ⟨⟨s⟩⟩) w := by
      show (Instr.keyThatStays _ _).run P w = _
      unfold Instr.keyThatStays
      rw [if_pos (by show Instr.sameBits (9999 + 1) _ _ = true; simp [Instr.sameBits, bs_self])]
      rfl
    obtain ⟨w', h8, h9, h10⟩ := setObj_sound (P := P) (es := es.modify k fun e => { e with key := .string ⟨⟨s⟩⟩, val := xv }) (ck := ck) (l' := mapSet l s x) hh hm hg (by rw [Array.toList_modify]; exact h6)
    refine ⟨w', ?_, h9, h10⟩
    simp only [Instr.mapUpdate, Sem.run_bind, run_underlying' hu, Result.andThen_ok, hgo, run_checkKey hk, hfk, hkey, hkts, h8]

theorem mdel_sound (hh : HR m H w) {t kt et : TypeId} (hu : P.underlying t = some (.map kt et)) (hk : P.underlying kt = some .string) {i : Nat} {loc : Loc} {l : List (List UInt8 × AV)} {s : List UInt8} (hm : m i = some loc) (hg : H.get i = some (.map l false)) {ts : Array TypeId} (ht0 : ts[0]? = some t) (ty : TypeId) :
    ∃ w', (Builtin.delete_ ts ty #[.map (some loc.b), .string ⟨⟨s⟩⟩]).run P w = .ok (.tuple #[]) w' ∧ HR m (H.set i (.map (mapDel l s) false)) w' ∧ Ext m H w m (H.set i (.map (mapDel l s) false)) w' := by
  obtain ⟨es, ck, h0, h1⟩ := hh.ok _ _ _ hm hg
  have hgo : (getObj loc.b).run P w = .ok (.map es ck) w := by simp [getObj, Sem.run, h0]
  rcases map_mod (s := s) (x := .nilI) (xv := .nilIface) (by simp [VR]) 0 h1 with ⟨h3, _, h4⟩ | ⟨k, v, e, h3, h4, h5, _, h6⟩
  · have hfk : (Instr.findKey kt (.string ⟨⟨s⟩⟩) es.toList).run P w = .ok none w := by simp [Instr.findKey, run_underlying' hk, h3]
    obtain ⟨w', h5, h6, h7⟩ := setObj_sound (P := P) (es := es) (ck := ck) (l' := mapDel l s) hh hm hg (by rw [h4]; exact h1)
    refine ⟨w', ?_, h6, h7⟩
    simp only [Builtin.delete_, ht0]
    simp [run_underlying' hu, hgo, run_checkKey hk, hfk, h5]
  · have hfk : (Instr.findKey kt (.string ⟨⟨s⟩⟩) es.toList).run P w = .ok (some (k, v)) w := by
      simp only [Nat.zero_add] at h3
      simp [Instr.findKey, run_underlying' hk, h3]
    have hlt : k < es.size := by have := (List.getElem?_eq_some_iff.1 h4).1; simpa using this
    obtain ⟨w', h8, h9, h10⟩ := setObj_sound (P := P) (es := es.eraseIdxIfInBounds k) (ck := ck) (l' := mapDel l s) hh hm hg (by
      have : (es.eraseIdxIfInBounds k).toList = es.toList.eraseIdx k := by simp [Array.eraseIdxIfInBounds, hlt]
      rw [this]; exact h6)
    refine ⟨w', ?_, h9, h10⟩
    simp only [Builtin.delete_, ht0]
    simp [run_underlying' hu, hgo, run_checkKey hk, hfk, h8]

theorem copy_sound (hh : HR m H w) {t ty e : TypeId} {sz : Nat} (hu : P.underlying t = some (.slice e)) (hsz : sizeB P e = some sz) {d s : AV} {dv sv : Value} (hd : VR m d dv) (hs : VR m s sv) {r : AV} {H' : AH} (h : copyA H sz d s = some (r, H')) {ts : Array TypeId} (ht0 : ts[0]? = some t) :
    ∃ cv w', (Builtin.copy_ ts ty #[dv, sv]).run P w = .ok cv w' ∧ VR m r cv ∧ HR m H' w' ∧ Ext m H w m H' w' := by
  have hso : ∀ w, (sizeOf e).run P w = .ok sz w := fun w => by
    unfold sizeB at hsz
    cases hi : P.info? e with
    | none => rw [hi] at hsz; cases hsz
    | some inf => rw [hi] at hsz; simp at hsz; simp [sizeOf, typeInfo, hi, hsz]
  unfold copyA at h
  split at h
  · rename_i sz' n' cap'
    simp only [Option.bind_eq_some_iff] at h
    obtain ⟨n, hn, h⟩ := h
    simp only [Option.some.injEq, Prod.mk.injEq] at h; obtain ⟨rfl, rfl⟩ := h
    simp only [VR] at hd; obtain ⟨rfl, _⟩ := hd
    refine ⟨.int .i64 0, w, ?_, vr_int _ _, hh, Ext.refl _ _ _⟩
    have hf : (Builtin.firstCells sz 0 sv).run P w = .ok #[] w := by
      cases s with
      | sl p _ _ _ =>
        cases p with
        | none => simp only [VR] at hs; obtain ⟨rfl, _⟩ := hs; simp [Builtin.firstCells]
        | some q => obtain ⟨i, o⟩ := q; simp only [VR] at hs; obtain ⟨_, _, _, _, rfl, _⟩ := hs; simp [Builtin.firstCells, loadCells, loadCellsFrom]
      | str z => simp only [VR] at hs; subst hs; simp [Builtin.firstCells]
      | _ => cases hn
    simp only [Builtin.copy_, ht0]
    simp [run_underlying' hu, lenA_sound (P := P) hs hn, hso, hf, goInt]
  · rename_i i off sz' len cap
    simp only [Option.bind_eq_some_iff] at h
    obtain ⟨n, hn, news, hnews, h⟩ := h
    split at h
    · rename_i l ro hg
      split at h
      · rename_i hc
        obtain ⟨rfl, rfl, hc⟩ := hc
        simp only [Option.some.injEq, Prod.mk.injEq] at h; obtain ⟨rfl, rfl⟩ := h
        simp only [VR] at hd
        obtain ⟨loc, c, ad, hm, rfl, had, h1, h2, h3, h4⟩ := hd
        obtain ⟨vs, hv1, hv2, hv3, hv4, hv5⟩ := sliceCells_sound (P := P) hh hs hnews
        have hnl : news.length = min n len * sz' := by rw [← hv2.length]; exact hv5
        obtain ⟨w', h5, h6, h7, _⟩ := storeCells_sound (P := P) (off := off) hh hm hg hv2 hv3 hv4 (by omega)
        refine ⟨.int .i64 (min n len : Nat), w', ?_, vr_int _ _, h6, h7⟩
        have hst : (storeCells ad vs).run P w = .ok () w' := by
          by_cases hc0 : 0 < c
          · rw [had hc0]; exact h5
          · have hl0 : len = 0 := by omega
            have : vs = [] := by rw [← List.length_eq_zero_iff, hv5, hl0]; simp
            subst this
            have e5 : w' = w := by
              have := h5
              simp only [storeCells] at this
              cases this; rfl
            subst e5; rfl
        simp only [Builtin.copy_, ht0]
        have hmin : Nat.min n len = min n len := rfl
        simp [run_underlying' hu, lenA_sound (P := P) hs hn, hso, hmin, hv1, hst, goInt]
      · cases h
    · cases h
  · cases h

theorem made_flatten (z : Array Value) (n : Nat) : (madeCells z (n * z.size)).toList = (List.replicate n z.toList).flatten := by
  have h1 : ∀ k, (madeCells z k).toList = (List.range k).map (fun j => z[j % z.size]!) := fun k => by simp [madeCells]
  have h0 : (List.range z.size).map (fun j => z[j % z.size]!) = z.toList := by
    apply List.ext_getElem?
    intro j
    by_cases hj : j < z.size
    · simp [hj, Nat.mod_eq_of_lt hj]
    · simp [hj]
  rw [h1]
  induction n with
  | zero => simp
  | succ n ih =>
    rw [Nat.succ_mul, Nat.add_comm, List.range_add, List.map_append, List.replicate_succ, List.flatten_cons, h0, ← ih, List.map_map]
    congr 1
    apply List.map_congr_left
    intro j _
    simp
theorem VRs.replicate {l : List AV} {vs : List Value} (h : VRs m l vs) : ∀ n, VRs m (List.replicate n l).flatten (List.replicate n vs).flatten
  | 0 => by simp [VRs]
  | n + 1 => by
    rw [List.replicate_succ, List.flatten_cons, List.replicate_succ, List.flatten_cons]
    exact h.append (VRs.replicate h n)
theorem flatten_all {l : List AV} (h : l.all oneCell = true) (n : Nat) : ((List.replicate n l).flatten).all oneCell = true := by
  rw [List.all_eq_true]
  intro v hv
  obtain ⟨q, hq, hvq⟩ := List.mem_flatten.1 hv
  rw [(List.mem_replicate.1 hq).2] at hvq
  exact List.all_eq_true.1 h v hvq
theorem clear_sound (hh : HR m H w) {t ty e : TypeId} {i : TypeInfo} {z : Value} {sz : Nat} {zero : List AV} (hu : P.underlying t = some (.slice e)) (hi : P.info? e = some i) (hz : i.zero = some z) (h1 : i.size = sz) (h2 : zero.length = sz) (h3 : 0 < sz) (h4 : okVals z.cells.toList zero = true) (h5 : zero.all oneCell = true)
    {d : AV} {dv : Value} (hd : VR m d dv) {r : AV} {H' : AH} (h : clearA H sz zero d = some (r, H')) {ts : Array TypeId} (ht0 : ts[0]? = some t) :
    ∃ cv w', (Builtin.clear_ ts ty #[dv]).run P w = .ok cv w' ∧ VR m r cv ∧ HR m H' w' ∧ Ext m H w m H' w' := by
  unfold clearA at h
  split at h
  · simp only [Option.some.injEq, Prod.mk.injEq] at h; obtain ⟨rfl, rfl⟩ := h
    simp only [VR] at hd; obtain ⟨rfl, _⟩ := hd
    refine ⟨.tuple #[], w, ?_, by simp [VR, VRs], hh, Ext.refl _ _ _⟩
    simp only [Builtin.clear_, ht0]
    simp [run_underlying' hu]
  · rename_i i off sz' len cap
    split at h
    · rename_i l ro hg
      split at h
      · rename_i hc
        obtain ⟨rfl, rfl, hc⟩ := hc
        simp only [Option.some.injEq, Prod.mk.injEq] at h; obtain ⟨rfl, rfl⟩ := h
        simp only [VR] at hd
        obtain ⟨loc, c, ad, hm, rfl, had, k1, k2, k3, k4⟩ := hd
        have hz0 : VRs m zero z.cells.toList := okVals_sound h4
        have hzl : z.cells.size = sz' := by have := hz0.length; simp at this; omega
        have hrep : VRs m (List.replicate len zero).flatten (Builtin.zeroCells z.cells len).toList := by
          have : (Builtin.zeroCells z.cells len).toList = (List.replicate len z.cells.toList).flatten := made_flatten z.cells len
          rw [this]
          exact VRs.replicate hz0 _
        have hlen : (List.replicate len zero).flatten.length = len * sz' := by simp [h2]
        obtain ⟨w', h6, h7, h8, _⟩ := storeCells_sound (P := P) (off := off) hh hm hg hrep (flatten_all h5 len) (fun u hu' => by
          obtain ⟨j, hj⟩ := List.mem_iff_getElem?.1 hu'
          have hjl : j < (List.replicate len zero).flatten.length := by have := hrep.length; have h9 := (List.getElem?_eq_some_iff.1 hj).1; omega
          obtain ⟨v, hv1, hv2⟩ := hrep.get (List.getElem?_eq_getElem hjl)
          rw [hj] at hv1; obtain rfl := Option.some.inj hv1
          exact hv2.one (List.all_eq_true.1 (flatten_all h5 len) _ (List.getElem_mem hjl))) (by omega)
        refine ⟨.tuple #[], w', ?_, by simp [VR, VRs], h7, h8⟩
        simp only [Builtin.clear_, ht0]
        cases len with
        | zero =>
          have e5 : w' = w := by
            have e0 : Builtin.zeroCells z.cells 0 = #[] := by apply Array.ext'; simp [Builtin.zeroCells]
            rw [e0] at h6
            simp only [storeCells] at h6
            cases h6; rfl
          subst e5
          simp [run_underlying' hu]
        | succ k =>
          rw [had (by omega)]
          simp [run_underlying' hu, zeroValue, typeInfo, hi, hz, h6]
      · cases h
    · cases h
  · cases h

/-- What becomes of one operation. -/
def OpPost (m : LMap) (H : AH) (w : World) (r : Option AV) (H' : AH) (K : Value → World → Prop) : Prop :=
  ∀ cv m' w', (∀ v, r = some v → VR m' v cv) → HR m' H' w' → Ext m H w m' H' w' → K cv w'

theorem wp_of_value {o : Oper} {cv : Value} {w' : World} {K : Act → World → Prop} {Q : Exit → Act → World → Prop} (h : (execOp a.eval o).run P w = .ok (.value cv) w') (hk : K (a.put o.dst cv) w') : o.wp P a w K Q := by
  unfold Oper.wp; rw [h]; exact hk
theorem wp_of_skip {o : Oper} {w' : World} {K : Act → World → Prop} {Q : Exit → Act → World → Prop} (h : (execOp a.eval o).run P w = .ok .skip w') (hk : K (a.put o.dst undef) w') : o.wp P a w K Q := by
  unfold Oper.wp; rw [h]; exact hk

theorem act_sound {O : Oracle} (hO : OSound P G O) (hG : GOk G m) (hh : HR m H w) {o : Oper} {ao : AOp} (hok : okAct P G o.op ao = true) (hf : FOn m fr a ao.tmps) {r : Option AV} {H' : AH} (hv : actA O fr H ao = some (r, H')) {K : Act → World → Prop} {Q : Exit → Act → World → Prop}
    (hk : OpPost m H w r H' fun cv w' => K (a.put o.dst cv) w') : o.wp P a w K Q := by
  obtain ⟨dst, op, type, pos, after, guard⟩ := o
  simp only at hok hk
  unfold okAct at hok
  split at hok
  · -- store
    rename_i t x y n x' y'
    simp only [Bool.and_eq_true, decide_eq_true_eq] at hok
    simp only [actA, Option.bind_eq_some_iff, Option.map_eq_some_iff, Prod.mk.injEq] at hv
    obtain ⟨p, hp, v, hv, H1, h1, rfl, rfl⟩ := hv
    obtain ⟨w', h2, h3, h4⟩ := store_sound (P := P) hh hok.1.1 (ev_sound hG hok.1.2 (hf.sub fun n hn => by simp [AOp.tmps, hn]) hp) (ev_sound hG hok.2 (hf.sub fun n hn => by simp [AOp.tmps, hn]) hv) h1
    refine wp_of_skip (w' := w') ?_ (hk undef m w' (fun v hv => by cases hv) h3 h4)
    simp [execOp, h2]
  · -- makeSlice
    rename_i t x y sz bytes zero x' y'
    simp only [Bool.and_eq_true] at hok
    obtain ⟨⟨hok, hx⟩, hy⟩ := hok
    split at hok
    · rename_i e hu
      split at hok
      · rename_i i hi
        split at hok
        · rename_i z hz
          simp only [Bool.and_eq_true, decide_eq_true_eq] at hok
          obtain ⟨⟨⟨⟨⟨rfl, rfl⟩, h1⟩, h2⟩, h3⟩, h4⟩ := hok
          simp only [actA] at hv
          split at hv
          · rename_i kl l kc c hl hc
            split at hv
            · rename_i hcnd
              obtain ⟨c1, c2, c3, c4⟩ := hcnd
              simp only [Option.some.injEq, Prod.mk.injEq] at hv; obtain ⟨rfl, rfl⟩ := hv
              have hxl := ev_sound hG hx (hf.sub fun n hn => by simp [AOp.tmps, hn]) hl
              have hyl := ev_sound hG hy (hf.sub fun n hn => by simp [AOp.tmps, hn]) hc
              simp only [VR] at hxl hyl
              have hrun := run_make (P := P) w t e i z hu hi hz kl kc l c c1 c2 c3 c4
              have hz0 : VRs m zero z.cells.toList := okVals_sound h3
              have hzl : z.cells.size = i.size := by have := hz0.length; simp at this; omega
              have hmade : (madeCells z.cells (c.toNat * i.size)).size = c.toNat * i.size := by simp [madeCells]
              have hrep : VRs m (List.replicate c.toNat zero).flatten (madeCells z.cells (c.toNat * i.size)).toList := by
                rw [← hzl, made_flatten z.cells c.toNat]
                exact VRs.replicate hz0 _
              have hall : ((List.replicate c.toNat zero).flatten).all oneCell = true := by
                rw [List.all_eq_true]
                intro v hv
                obtain ⟨q, hq, hvq⟩ := List.mem_flatten.1 hv
                rw [(List.mem_replicate.1 hq).2] at hvq
                exact List.all_eq_true.1 h4 v hvq
              have ho := objR_new hrep hall e w false
              have hx1 : (execOp a.eval { dst, op := .makeSlice t x y, type, pos, after, guard }).run P w = .ok (.value (.slice (some ⟨w.heap.size, 0, none⟩) l.toNat c.toNat)) (w.alloc (.cells (madeCells z.cells (c.toNat * i.size)) e)) := by simp [execOp, hxl, hyl, hrun]
              refine wp_of_value hx1 (hk _ _ _ (fun v hv => ?_) (hh.push _ _ _ ho) (Ext.push hh _ _ _))
              obtain rfl := Option.some.inj hv
              simp only [VR]
              exact ⟨_, c.toNat, _, LMap.put_self _ _ _, rfl, fun _ => rfl, by omega, by simp only [hmade]; omega, by unfold maxLen; omega, fun d hd => by simpa using hd⟩
            · cases hv
          · cases hv
        · cases hok
      · cases hok
    · cases hok
  · -- slc3
    rename_i t x h mx sz x' h' mx'
    simp only [Bool.and_eq_true] at hok
    obtain ⟨⟨⟨h1, h2⟩, h3⟩, h4⟩ := hok
    unfold okSlT at h1
    split at h1
    · rename_i e hu
      simp only [Bool.and_eq_true, decide_eq_true_eq] at h1
      have hso : ∀ w, (sizeOf e).run P w = .ok sz w := fun w => by
        have h1 := h1.1
        unfold sizeB at h1
        cases hi : P.info? e with
        | none => rw [hi] at h1; cases h1
        | some inf => rw [hi] at h1; simp at h1; simp [sizeOf, typeInfo, hi, h1]
      simp only [actA] at hv
      have hfx : FOn m fr a x'.tmps := hf.sub fun n hn => by simp [AOp.tmps, hn]
      have hfh : FOn m fr a h'.tmps := hf.sub fun n hn => by simp [AOp.tmps, hn]
      have hfm : FOn m fr a mx'.tmps := hf.sub fun n hn => by simp [AOp.tmps, hn]
      split at hv
      · rename_i q1 q2 q3 k1 hn k2 mn e1 e2 e3
        split at hv
        · rename_i hc
          obtain ⟨rfl, rfl⟩ := hc
          simp only [Option.some.injEq, Prod.mk.injEq] at hv; obtain ⟨rfl, rfl⟩ := hv
          have v1 := ev_sound hG h2 hfx e1
          have v2 := ev_sound hG h3 hfh e2
          have v3 := ev_sound hG h4 hfm e3
          simp only [VR] at v1 v2 v3
          have hx1 : (execOp a.eval { dst, op := .slice t x none (some h) (some mx), type, pos, after, guard }).run P w = .ok (.value (.slice none 0 0)) w := by
            simp [execOp, v1.1, v2, v3, Instr.sliceAt, Instr.slice, run_underlying' hu, Instr.sliceBounds, Instr.sliceBound, asIntOf, hso]
          exact wp_of_value hx1 (hk _ _ _ (fun v hv => by obtain rfl := Option.some.inj hv; simp [nilSl, VR]) hh (Ext.refl _ _ _))
        · cases hv
      · rename_i i off sz' len cap k1 hn k2 mn e1 e2 e3
        split at hv
        · rename_i hc
          obtain ⟨rfl, c1, c2, c3⟩ := hc
          simp only [Option.some.injEq, Prod.mk.injEq] at hv; obtain ⟨rfl, rfl⟩ := hv
          have v1 := ev_sound hG h2 hfx e1
          have v2 := ev_sound hG h3 hfh e2
          have v3 := ev_sound hG h4 hfm e3
          simp only [VR] at v1 v2 v3
          obtain ⟨loc, c, ad, hm, v1, had, u1, u2, u3, u4⟩ := v1
          have b1 : (Instr.sliceBound (.int k2 mn) c .slice3Acap).run P w = .ok mn.toNat w := run_bound_ok _ (by omega) (by omega)
          have b2 : (Instr.sliceBound (.int k1 hn) mn.toNat .slice3B).run P w = .ok hn.toNat w := run_bound_ok _ (by omega) (by omega)
          have hx1 : (execOp a.eval { dst, op := .slice t x none (some h) (some mx), type, pos, after, guard }).run P w = .ok (.value (.slice (some ad) hn.toNat mn.toNat)) w := by
            simp only [execOp, v1, v2, v3, Instr.sliceAt, Instr.slice, Option.map_some, Option.map_none]
            simp [run_underlying' hu, Instr.sliceBounds, b1, b2, hso, Addr.add]
          refine wp_of_value hx1 (hk _ _ _ (fun v hv => ?_) hh (Ext.refl _ _ _))
          obtain rfl := Option.some.inj hv
          simp only [VR]
          have : mn.toNat * sz' ≤ c * sz' := Nat.mul_le_mul_right _ (by omega)
          exact ⟨loc, mn.toNat, ad, hm, rfl, fun h0 => had (by omega), by omega, by omega, by omega, fun d hd => by simpa using hd⟩
        · cases hv
      · cases hv
    · cases h1
  · -- mapUpdate
    rename_i t x k v x' k' v'
    simp only [Bool.and_eq_true] at hok
    obtain ⟨⟨⟨h1, h2⟩, h3⟩, h4⟩ := hok
    split at h1
    · rename_i kt et hu
      unfold isStrT at h1
      split at h1
      · rename_i hkt
        simp only [actA] at hv
        split at hv
        · rename_i i s y e1 e2 e3
          split at hv
          · rename_i l hg
            split at hv
            · rename_i h1c
              simp only [Option.some.injEq, Prod.mk.injEq] at hv; obtain ⟨rfl, rfl⟩ := hv
              have v1 := ev_sound hG h2 (hf.sub fun n hn => by simp [AOp.tmps, hn]) e1
              have v2 := ev_sound hG h3 (hf.sub fun n hn => by simp [AOp.tmps, hn]) e2
              have v3 := ev_sound hG h4 (hf.sub fun n hn => by simp [AOp.tmps, hn]) e3
              simp only [VR] at v1 v2
              obtain ⟨loc, hm, v1⟩ := v1
              obtain ⟨w', h5, h6, h7⟩ := mset_sound (P := P) (s := s) hh hu hkt hm hg v3
              exact wp_of_skip (w' := w') (by simp [execOp, v1, v2, h5]) (hk undef m w' (fun v hv => by cases hv) h6 h7)
            · cases hv
          · cases hv
        · cases hv
      · cases h1
    · cases h1
  · -- insert
    rename_i t x k v x' k' v'
    simp only [Bool.and_eq_true] at hok
    obtain ⟨⟨⟨h1, h2⟩, h3⟩, h4⟩ := hok
    split at h1
    · rename_i kt et hu
      unfold isStrT at h1
      split at h1
      · rename_i hkt
        simp only [actA] at hv
        split at hv
        · rename_i i s y e1 e2 e3
          split at hv
          · rename_i l hg
            split at hv
            · rename_i h1c
              simp only [Option.some.injEq, Prod.mk.injEq] at hv; obtain ⟨rfl, rfl⟩ := hv
              have v1 := ev_sound hG h2 (hf.sub fun n hn => by simp [AOp.tmps, hn]) e1
              have v2 := ev_sound hG h3 (hf.sub fun n hn => by simp [AOp.tmps, hn]) e2
              have v3 := ev_sound hG h4 (hf.sub fun n hn => by simp [AOp.tmps, hn]) e3
              simp only [VR] at v1 v2
              obtain ⟨loc, hm, v1⟩ := v1
              obtain ⟨w', h5, h6, h7⟩ := mset_sound (P := P) (s := s) hh hu hkt hm hg v3
              exact wp_of_skip (w' := w') (by simp [execOp, v1, v2, h5]) (hk undef m w' (fun v hv => by cases hv) h6 h7)
            · cases hv
          · cases hv
        · cases hv
      · cases h1
    · cases h1
  · -- delete
    rename_i args ts x' k'
    split at hok
    · rename_i x k t ts' hargs hts
      simp only [Bool.and_eq_true] at hok
      obtain ⟨⟨h1, h2⟩, h3⟩ := hok
      have ha : args = #[x, k] := by rw [← Array.toArray_toList (xs := args), hargs]
      have ht0 : ts[0]? = some t := by rw [← Array.getElem?_toList, hts]; rfl
      subst ha
      split at h1
      · rename_i kt et hu
        unfold isStrT at h1
        split at h1
        · rename_i hkt
          simp only [actA] at hv
          split at hv
          · rename_i i s e1 e2
            split at hv
            · rename_i l hg
              simp only [Option.some.injEq, Prod.mk.injEq] at hv; obtain ⟨rfl, rfl⟩ := hv
              have v1 := ev_sound hG h2 (hf.sub fun n hn => by simp [AOp.tmps, hn]) e1
              have v2 := ev_sound hG h3 (hf.sub fun n hn => by simp [AOp.tmps, hn]) e2
              simp only [VR] at v1 v2
              obtain ⟨loc, hm, v1⟩ := v1
              obtain ⟨w', h5, h6, h7⟩ := mdel_sound (P := P) (s := s) hh hu hkt hm hg ht0 type
              exact wp_of_value (cv := .tuple #[]) (w' := w') (by simp [execOp, resolve, invoke, builtin, v1, v2, h5]) (hk _ m w' (fun v hv => by obtain rfl := Option.some.inj hv; simp [VR, VRs]) h6 h7)
            · cases hv
          · cases hv
        · cases h1
      · cases h1
    · cases hok
  · -- append
    rename_i args ts fz sz bytes x' y'
    split at hok
    · rename_i x y t t2 hargs hts
      simp only [Bool.and_eq_true] at hok
      obtain ⟨⟨⟨h1, h2⟩, h3⟩, h4⟩ := hok
      have ha : args = #[x, y] := by rw [← Array.toArray_toList (xs := args), hargs]
      have hts' : ts = #[t, t2] := by rw [← Array.toArray_toList (xs := ts), hts]
      subst ha; subst hts'
      split at h1
      · rename_i e hu
        split at h1
        · rename_i i hi
          split at h1
          · rename_i z hz
            simp only [Bool.and_eq_true, decide_eq_true_eq] at h1
            have T : AppT P t t2 e i z sz bytes := ⟨hu, hi, hz, h1.1.1, h1.1.2, h1.2, by
              split at h2
              · rename_i e2 hu2; exact .inl ⟨e2, hu2⟩
              · rename_i hu2; exact .inr hu2
              · cases h2⟩
            simp only [actA, Option.bind_eq_some_iff, Option.map_eq_some_iff, Prod.mk.injEq] at hv
            obtain ⟨u, hu', v, hv', r', hr, rfl, rfl⟩ := hv
            obtain ⟨cv, m', w', h5, h6, h7, h8⟩ := appendX_sound (P := P) (ty := type) hh T (ev_sound hG h3 (hf.sub fun n hn => by simp [AOp.tmps, hn]) hu') (ev_sound hG h4 (hf.sub fun n hn => by simp [AOp.tmps, hn]) hv') (show appendX H _ sz bytes u v = some (r'.1, r'.2) from hr)
            exact wp_of_value (cv := cv) (w' := w') (by simp [execOp, resolve, invoke, builtin, h5]) (hk _ m' w' (fun v hv => by obtain rfl := Option.some.inj hv; exact h6) h7 h8)
          · cases h1
        · cases h1
      · cases h1
    · cases hok
  · -- copy
    rename_i args ts sz x' y'
    split at hok
    · rename_i x y t ts' hargs hts
      simp only [Bool.and_eq_true] at hok
      obtain ⟨⟨h1, h2⟩, h3⟩ := hok
      have ha : args = #[x, y] := by rw [← Array.toArray_toList (xs := args), hargs]
      have ht0 : ts[0]? = some t := by rw [← Array.getElem?_toList, hts]; rfl
      subst ha
      unfold okSlT at h1
      split at h1
      · rename_i e hu
        simp only [Bool.and_eq_true, decide_eq_true_eq] at h1
        simp only [actA, Option.bind_eq_some_iff, Option.map_eq_some_iff, Prod.mk.injEq] at hv
        obtain ⟨u, hu', v, hv', r', hr, rfl, rfl⟩ := hv
        obtain ⟨cv, w', h5, h6, h7, h8⟩ := copy_sound (P := P) (ty := type) hh hu h1.1 (ev_sound hG h2 (hf.sub fun n hn => by simp [AOp.tmps, hn]) hu') (ev_sound hG h3 (hf.sub fun n hn => by simp [AOp.tmps, hn]) hv') (show copyA H sz u v = some (r'.1, r'.2) from hr) ht0
        exact wp_of_value (cv := cv) (w' := w') (by simp [execOp, resolve, invoke, builtin, h5]) (hk _ m w' (fun v hv => by obtain rfl := Option.some.inj hv; exact h6) h7 h8)
      · cases h1
    · cases hok
  · -- clear
    rename_i args ts sz zero x'
    split at hok
    · rename_i x t ts' hargs hts
      simp only [Bool.and_eq_true] at hok
      obtain ⟨h1, h2⟩ := hok
      have ha : args = #[x] := by rw [← Array.toArray_toList (xs := args), hargs]
      have ht0 : ts[0]? = some t := by rw [← Array.getElem?_toList, hts]; rfl
      subst ha
      split at h1
      · rename_i e hu
        split at h1
        · rename_i i hi
          split at h1
          · rename_i z hz
            simp only [Bool.and_eq_true, decide_eq_true_eq] at h1
            obtain ⟨⟨⟨⟨g1, g2⟩, g3⟩, g4⟩, g5⟩ := h1
            simp only [actA, Option.bind_eq_some_iff, Option.map_eq_some_iff, Prod.mk.injEq] at hv
            obtain ⟨u, hu', r', hr, rfl, rfl⟩ := hv
            obtain ⟨cv, w', h5, h6, h7, h8⟩ := clear_sound (P := P) (ty := type) hh hu hi hz g1 g2 g3 g4 g5 (ev_sound hG h2 (hf.sub fun n hn => by simp [AOp.tmps, hn]) hu') (show clearA H sz zero u = some (r'.1, r'.2) from hr) ht0
            exact wp_of_value (cv := cv) (w' := w') (by simp [execOp, resolve, invoke, builtin, h5]) (hk _ m w' (fun v hv => by obtain rfl := Option.some.inj hv; exact h6) h7 h8)
          · cases h1
        · cases h1
      · cases h1
    · cases hok
  · -- callF
    rename_i f args ts n l
    simp only [Bool.and_eq_true] at hok
    obtain ⟨h1, h2⟩ := hok
    split at h1
    · rename_i kf
      simp only [decide_eq_true_eq] at h1; subst h1
      simp only [actA, Option.bind_eq_some_iff, Option.map_eq_some_iff, Prod.mk.injEq] at hv
      obtain ⟨vs, hvs, r', hr, rfl, rfl⟩ := hv
      have h3 := evs_sound hG h2 hf hvs
      obtain ⟨h4, h5⟩ := hO _ _ _ _ hr m w (args.map a.eval) hG hh (by simpa using h3)
      have hx1 : (execOp a.eval { dst, op := .call ⟨.value (.func kf), args, ts⟩, type, pos, after, guard }).run P w = .ok (.enter kf (args.map a.eval)) w := by
        simp [execOp, resolve, Act.eval, Deferred.ofValue, invoke, run_callFunc' h4]
      unfold Oper.wp
      rw [hx1]
      refine h5.mono fun e w' he => ?_
      obtain ⟨cv, m', rfl, h6, h7, h8⟩ := he
      exact hk cv m' w' (fun v hv => by obtain rfl := Option.some.inj hv; exact h6) h7 h8
    · cases h1
  · -- callV
    rename_i f args ts x l
    simp only [Bool.and_eq_true] at hok
    obtain ⟨h1, h2⟩ := hok
    simp only [actA] at hv
    split at hv
    · rename_i kf caps hx
      simp only [Option.bind_eq_some_iff, Option.map_eq_some_iff, Prod.mk.injEq] at hv
      obtain ⟨vs, hvs, r', hr, rfl, rfl⟩ := hv
      have hfx := ev_sound hG h1 (hf.sub fun n hn => by simp [AOp.tmps, hn]) hx
      simp only [VR] at hfx
      obtain ⟨cs, hfx, hcs⟩ := hfx
      have h3 := evs_sound hG h2 (hf.sub fun n hn => by simp [AOp.tmps, hn]) hvs
      obtain ⟨h4, h5⟩ := hO _ _ _ _ hr m w (args.map a.eval ++ cs) hG hh (by simpa using h3.append hcs)
      have hx1 : (execOp a.eval { dst, op := .call ⟨.value f, args, ts⟩, type, pos, after, guard }).run P w = .ok (.enter kf (args.map a.eval ++ cs)) w := by
        simp [execOp, resolve, hfx, Deferred.ofValue, invoke, run_callFunc' h4]
      unfold Oper.wp
      rw [hx1]
      refine h5.mono fun e w' he => ?_
      obtain ⟨cv, m', rfl, h6, h7, h8⟩ := he
      exact hk cv m' w' (fun v hv => by obtain rfl := Option.some.inj hv; exact h6) h7 h8
    · cases hv
  · cases hok

/-- One operation, whatever it is. -/
def okOp (P : Program) (G : List Nat) (o : Op) (a : AOp) : Bool :=
  if a.isPure then okPure P G o a else if a.isRead then okRead P G o a else if a.isMake then okMake P G o a else okAct P G o a
theorem op_sound {E : Env} {O : Oracle} (hE : okEnv P E = true) (hO : OSound P G O) (hG : GOk G m) (hh : HR m H w) {o : Oper} {ao : AOp} (hok : okOp P G o.op ao = true) (hf : FOn m fr a ao.tmps) {r : Option AV} {H' : AH} (hv : opA E O fr H ao = some (r, H')) {K : Act → World → Prop} {Q : Exit → Act → World → Prop}
    (hk : OpPost m H w r H' fun cv w' => K (a.put o.dst cv) w') : o.wp P a w K Q := by
  unfold okOp at hok
  unfold opA at hv
  split at hv
  · rename_i hp
    rw [if_pos hp] at hok
    simp only [Option.map_eq_some_iff, Prod.mk.injEq] at hv
    obtain ⟨v, hv, rfl, rfl⟩ := hv
    obtain ⟨cv, h1, h2⟩ := pure_sound hG hok hf hv
    exact wp_of_value (h2 w) (hk cv m w (fun v' e => by obtain rfl := Option.some.inj e; exact h1) hh (Ext.refl _ _ _))
  · rename_i hp
    rw [if_neg hp] at hok
    split at hv
    · rename_i hq
      rw [if_pos hq] at hok
      simp only [Option.map_eq_some_iff, Prod.mk.injEq] at hv
      obtain ⟨v, hv, rfl, rfl⟩ := hv
      obtain ⟨cv, h1, h2⟩ := read_sound hE hG hh hok hf hv
      exact wp_of_value h2 (hk cv m w (fun v' e => by obtain rfl := Option.some.inj e; exact h1) hh (Ext.refl _ _ _))
    · rename_i hq
      rw [if_neg hq] at hok
      split at hv
      · rename_i hm
        rw [if_pos hm] at hok
        simp only [Option.map_eq_some_iff, Prod.mk.injEq] at hv
        obtain ⟨v, hv, rfl, rfl⟩ := hv
        obtain ⟨val, obj⟩ := v
        obtain ⟨cv, bo, n, h1, h2⟩ := make_sound (w := w) hG hok hf hv
        exact wp_of_value h1 (hk cv _ _ (fun v' e => by obtain rfl := Option.some.inj e; exact h2.valR _ _ (LMap.put_self _ _ _)) (hh.push bo obj n h2.objR) (Ext.push hh bo obj n))
      · rename_i hm
        rw [if_neg hm] at hok
        exact act_sound hO hG hh hok hf hv hk
end
end Go.Proofs.YtlecbjcloleiiaaDoor.Ram

import Derived.Test.YtlecbjcloleiiaaDoorRamD
/-! The operations that read memory alone. -/
namespace Go.Proofs.YtlecbjcloleiiaaDoor.Ram
open Go Go.RowKit

def okKind (P : Program) (t : TypeId) : Nat → Bool
  | 0 => isAnyIntT P t
  | 1 => isStrT P t
  | 2 => (match P.underlying t with | some .bool => true | _ => false)
  | _ => false
def okFlat (P : Program) : List Field → Nat → List Nat → Bool
  | [], _, [] => true
  | f :: fs, j, k :: ks => decide (f.offset = j) && decide (f.name ≠ "_") && okKind P f.type k && okFlat P fs (j + 1) ks
  | _, _, _ => false
def okEqK (P : Program) (t : TypeId) : EqK → Bool
  | .bool => (match P.underlying t with | some .bool => true | _ => false)
  | .ptr => (match P.underlying t with | some (.pointer e) => (match sizeB P e with | some n => decide (0 < n) | none => false) | _ => false)
  | .ifc => (match P.underlying t with | some (.interface _) => true | _ => false)
  | .flat ks => (match P.underlying t with | some (.struct fs) => okFlat P fs.toList 0 ks | _ => false) && !P.stoodInHeld t && !P.eqGuardType P.depth t
  | .nilS => (match P.underlying t with | some (.slice _) => true | _ => false)
  | .nilM => (match P.underlying t with | some (.map _ _) => true | _ => false)
  | .nilF => (match P.underlying t with | some (.func ..) => true | _ => false)
def okEnv (P : Program) (E : Env) : Bool := E.ptrTypes.all fun t => (match P.info? t with | some i => i.comparable | none => false) && okEqK P t .ptr
def okRead (P : Program) (G : List Nat) : Op → AOp → Bool
  | .load t x, .load n ag y => decide (isAggB P t = some ag) && decide (sizeB P t = some n) && okOpd G x y
  | .binOp .eql t x y _, .eq false k x' y' => okEqK P t k && okOpd G x x' && okOpd G y y'
  | .binOp .neq t x y _, .eq true k x' y' => okEqK P t k && okOpd G x x' && okOpd G y y'
  | .lookup t mm k ok, .lookup d ok' m' k' => decide (ok = ok') && (match P.underlying t with
      | some (.map kt et) => isStrT P kt && (match P.info? et with | some i => (match i.zero with | some z => okVal z d | none => false) | none => false)
      | _ => false) && okOpd G mm m' && okOpd G k k'
  | _, _ => false

theorem cell_of {w : World} {b o : Nat} {c : Array Value} {e : TypeId} {f : Nat × Nat} (h : w.heap[b]? = some (.cells c e f)) : w.cell? ⟨b, o, none⟩ = c[o]? := by
  simp [World.cell?, h]
theorem frozen_of {w : World} {b o : Nat} {c : Array Value} {e : TypeId} (h : w.heap[b]? = some (.cells c e (0, 0))) : w.frozen? ⟨b, o, none⟩ = false := by
  simp [World.frozen?, h]
theorem shape_of {w : World} {b : Nat} {c : Array Value} {e : TypeId} {f : Nat × Nat} (h : w.heap[b]? = some (.cells c e f)) : w.shape? b = some (e, c.size) := by
  simp [World.shape?, h]

theorem run_sameAddr' {P : Program} {w : World} {b1 b2 o1 o2 : Nat} {c1 c2 : Array Value} {e1 e2 : TypeId} (h1 : w.heap[b1]? = some (.cells c1 e1 (0, 0))) (h2 : w.heap[b2]? = some (.cells c2 e2 (0, 0))) :
    (sameAddr ⟨b1, o1, none⟩ ⟨b2, o2, none⟩).run P w = .ok (decide (b1 = b2 ∧ o1 = o2)) w := by
  by_cases hb : b1 = b2
  · subst hb
    simp [sameAddr]
    by_cases ho : o1 = o2
    · subst ho; simp
    · simp [ho]
  · simp [sameAddr, hb, noView, viewAt, mayBeOne, stringish, frozen_of h1, frozen_of h2, shape_of h1, shape_of h2]

section
variable {P : Program} {G : List Nat} {m : LMap} {H : AH} {w : World} {fr : Fr} {a : Act}
theorem live_sound (hh : HR m H w) {i : Nat} {loc : Loc} (hm : m i = some loc) (hl : H.live i = true) : ∃ c e, w.heap[loc.b]? = some (.cells c e (0, 0)) := by
  unfold AH.live at hl
  split at hl
  · rename_i l r hg
    obtain ⟨c, e, f, h1, h2, _⟩ := hh.ok _ _ _ hm hg
    obtain rfl := h2 (by simpa using hl)
    exact ⟨c, e, h1⟩
  · cases hl
theorem ptrEq_sound (hh : HR m H w) {p q : Option (Nat × Nat)} {v u : Value} (hv : VR m (.ptr p) v) (hu : VR m (.ptr q) u) {r : Bool} (hr : ptrEq H p q = some r) (d : Nat) {t e : TypeId} {n : Nat} (ht : P.underlying t = some (.pointer e)) (he : sizeB P e = some n) (hn : 0 < n) :
    (Op.equalIn (d + 1) t v u).run P w = .ok r w := by
  have hsz : ∀ w, (sizeOf e).run P w = .ok n w := fun w => by
    unfold sizeB at he
    cases hi : P.info? e with
    | none => rw [hi] at he; cases he
    | some inf => rw [hi] at he; simp at he; simp [sizeOf, typeInfo, hi, he]
  cases p with
  | none =>
    simp only [VR] at hv; subst hv
    cases q with
    | none => simp only [VR] at hu; subst hu; simp [ptrEq] at hr; subst hr; simp [Op.equalIn, run_underlying' ht]
    | some q => obtain ⟨j, o'⟩ := q; simp only [VR] at hu; obtain ⟨_, _, rfl⟩ := hu; simp [ptrEq] at hr; subst hr; simp [Op.equalIn, run_underlying' ht]
  | some p =>
    obtain ⟨i, o⟩ := p
    simp only [VR] at hv
    obtain ⟨li, hi, rfl⟩ := hv
    cases q with
    | none => simp only [VR] at hu; subst hu; simp [ptrEq] at hr; subst hr; simp [Op.equalIn, run_underlying' ht]
    | some q =>
      obtain ⟨j, o'⟩ := q
      simp only [VR] at hu
      obtain ⟨lj, hj, rfl⟩ := hu
      simp only [ptrEq] at hr
      split at hr
      · rename_i hl
        simp only [Bool.and_eq_true] at hl
        obtain ⟨c1, e1, h1⟩ := live_sound hh hi hl.1
        obtain ⟨c2, e2, h2⟩ := live_sound hh hj hl.2
        obtain rfl := Option.some.inj hr
        simp only [Op.equalIn, Sem.run_bind, run_underlying' ht, Result.andThen_ok, hsz]
        simp only [show n ≠ 0 by omega, ne_eq, not_false_eq_true, if_true]
        rw [run_sameAddr' h1 h2]
        congr 1
        by_cases hij : i = j
        · subst hij
          rw [hi] at hj
          obtain rfl := Option.some.inj hj
          by_cases ho : o = o' <;> simp [ho]
        · have hne : li.b ≠ lj.b := by
            have hg : ∀ k, H.live k = true → ∃ ob, H.get k = some ob ∧ shar k ob.ro = false := fun k hk => by
              unfold AH.live at hk
              split at hk
              · rename_i l r hg; exact ⟨_, hg, by simp only [Bool.not_eq_true'] at hk; simp [shar, AObj.ro, hk]⟩
              · cases hk
            obtain ⟨oi, hoi, e1⟩ := hg i hl.1
            obtain ⟨oj, hoj, _⟩ := hg j hl.2
            exact hh.sep i j li lj oi oj hi hj hoi hoj hij (by rw [e1]; rfl)
          simp [hne, hij]
      · cases hr

theorem flat_sound {xs ys : Array Value} : ∀ {fs : List Field} {j : Nat} {ks : List Nat} {l l' : List AV} {r : Bool} (d : Nat), okFlat P fs j ks = true → VRs m l (xs.toList.drop j) → VRs m l' (ys.toList.drop j) → flatEq ks l l' = some r →
    (Op.eqFields (d + 1) xs ys fs).run P w = .ok r w
  | [], j, ks, l, l', r, d, hok, _, _, hr => by
    cases ks with
    | nil =>
      cases l <;> cases l' <;> simp [flatEq] at hr
      subst hr; rfl
    | cons k ks => simp [okFlat] at hok
  | f :: fs, j, ks, l, l', r, d, hok, hx, hy, hr => by
    cases ks with
    | nil => simp [okFlat] at hok
    | cons k ks =>
      cases l with
      | nil => simp [flatEq] at hr
      | cons x l =>
        cases l' with
        | nil => simp [flatEq] at hr
        | cons y l' =>
          simp only [okFlat, Bool.and_eq_true, decide_eq_true_eq] at hok
          obtain ⟨⟨⟨h1, h2⟩, h3⟩, h4⟩ := hok
          simp only [flatEq, Option.bind_eq_some_iff, Option.map_eq_some_iff] at hr
          obtain ⟨b, hb, r', hr', rfl⟩ := hr
          simp only [VRs] at hx hy
          obtain ⟨v, rv, ev, hv, hrv⟩ := hx
          obtain ⟨u, ru, eu, hu, hru⟩ := hy
          have hxv : xs[j]? = some v := by
            have := congrArg (fun z => z[0]?) ev
            simpa [List.getElem?_drop] using this
          have hyu : ys[j]? = some u := by
            have := congrArg (fun z => z[0]?) eu
            simpa [List.getElem?_drop] using this
          have hx' : VRs m l (xs.toList.drop (j + 1)) := by
            have : xs.toList.drop (j + 1) = rv := by rw [← List.drop_drop, ev]; rfl
            rw [this]; exact hrv
          have hy' : VRs m l' (ys.toList.drop (j + 1)) := by
            have : ys.toList.drop (j + 1) = ru := by rw [← List.drop_drop, eu]; rfl
            rw [this]; exact hru
          have ih := flat_sound d h4 hx' hy' hr'
          have hpart : ∀ (zs : Array Value) (z : Value), zs[j]? = some z → isAggB P f.type = some false → (part f.type zs f.offset).run P w = .ok z w := fun zs z hz hag => by
            have : (isAgg f.type).run P w = .ok false w := by
              unfold isAggB at hag
              unfold isAgg
              cases hq : P.underlying f.type with
              | none => rw [hq] at hag; cases hag
              | some dd =>
                rw [hq] at hag
                simp only [Sem.run_bind, run_underlying' hq, Result.andThen]
                cases dd <;> simp at hag <;> rfl
            simp [part, this, h1, hz]
          have main : isAggB P f.type = some false ∧ (Op.equalIn (d + 1) f.type v u).run P w = .ok b w := by
            unfold flatEq1 at hb
            split at hb
            · rename_i k1 n1 k2 n2
              split at hb
              · rename_i hk; subst hk
                obtain rfl := Option.some.inj hb
                simp only [VR] at hv hu; subst hv; subst hu
                simp only [okKind, isAnyIntT] at h3
                split at h3
                · rename_i hu'; exact ⟨by simp [isAggB, hu'], run_equalIn_int w d _ _ _ _ _ hu'⟩
                · cases h3
              · cases hb
            · obtain rfl := Option.some.inj hb
              simp only [VR] at hv hu; subst hv; subst hu
              simp only [okKind, isStrT] at h3
              split at h3
              · rename_i hu'; exact ⟨by simp [isAggB, hu'], by rw [run_equalIn_string w d _ _ _ hu', toList_mk, toList_mk]⟩
              · cases h3
            · obtain rfl := Option.some.inj hb
              simp only [VR] at hv hu; subst hv; subst hu
              simp only [okKind] at h3
              split at h3
              · rename_i hu'; exact ⟨by simp [isAggB, hu'], run_equalIn_bool' w d _ _ _ hu'⟩
              · cases h3
            · cases hb
          unfold Op.eqFields
          rw [if_pos h2]
          simp only [Sem.run_bind, hpart xs v hxv main.1, hpart ys u hyu main.1, Result.andThen_ok, main.2]
          cases b
          · simp
          · simp only [Bool.not_true, Bool.false_eq_true, if_false, ih, Bool.true_and]

theorem load_sound (hh : HR m H w) {t : TypeId} {n : Nat} {ag : Bool} (h1 : isAggB P t = some ag) (h2 : sizeB P t = some n) {x : AV} {xv : Value} (hx : VR m x xv) {v : AV} (hv : loadA H n ag x = some v) :
    ∃ cv, VR m v cv ∧ (Instr.loadAt t xv).run P w = .ok cv w := by
  have hsz : ∀ w, (sizeOf t).run P w = .ok n w := fun w => by
    unfold sizeB at h2
    cases hi : P.info? t with
    | none => rw [hi] at h2; cases h2
    | some inf => rw [hi] at h2; simp at h2; simp [sizeOf, typeInfo, hi, h2]
  have hag : ∀ w, (isAgg t).run P w = .ok ag w := fun w => by
    unfold isAggB at h1
    unfold isAgg
    cases hq : P.underlying t with
    | none => rw [hq] at h1; cases h1
    | some dd =>
      rw [hq] at h1
      simp only [Sem.run_bind, run_underlying' hq, Result.andThen]
      cases dd <;> simp at h1 <;> subst h1 <;> rfl
  unfold loadA at hv
  split at hv
  · rename_i i off
    split at hv
    · rename_i l r hg
      simp only [VR] at hx
      obtain ⟨loc, hm, rfl⟩ := hx
      obtain ⟨c, e, _, hc, _, hc2, hc3, hc4⟩ := hh.ok _ _ _ hm hg
      cases ag with
      | true =>
        simp only [if_true] at hv
        split at hv
        · rename_i hle
          obtain rfl := Option.some.inj hv
          have hlen : ((c.toList.drop (loc.o + off)).take n).length = n := by simp; omega
          have hrun := run_loadCells_list (P := P) w ⟨loc.b, loc.o + off, none⟩ ((c.toList.drop (loc.o + off)).take n) (fun j v hj => by
            have hadd : (⟨loc.b, loc.o + off, none⟩ : Addr).add j = ⟨loc.b, loc.o + off + j, none⟩ := by unfold Addr.add; split <;> simp_all
            rw [hadd, cell_of hc]
            rw [List.getElem?_take] at hj
            split at hj
            · rw [List.getElem?_drop] at hj; simpa using hj
            · cases hj)
          rw [hlen] at hrun
          refine ⟨.agg ((c.toList.drop (loc.o + off)).take n).toArray, ?_, ?_⟩
          · simp only [VR]
            refine ⟨_, rfl, VRs.of_get (by simp; omega) fun j x hx => ?_, ?_⟩
            · rw [List.getElem?_take] at hx
              split at hx
              · rename_i hjn
                rw [List.getElem?_drop] at hx
                obtain ⟨cv, h5, h6, _⟩ := hc4 _ _ hx
                refine ⟨cv, ?_, h6⟩
                simp only [List.getElem?_take, if_pos hjn, List.getElem?_drop]
                rw [show loc.o + off + j = loc.o + (off + j) by omega]
                simpa using h5
              · cases hx
            · rw [List.all_eq_true]
              intro y hy
              have hy' := List.mem_of_mem_drop (List.mem_of_mem_take hy)
              obtain ⟨k, hk⟩ := List.mem_iff_getElem?.1 hy'
              obtain ⟨_, _, _, h7⟩ := hc4 _ _ hk
              exact h7
          · simp [Instr.loadAt, Instr.sureAddr, loadVar, hag, hsz, hrun]
        · cases hv
      | false =>
        simp only [Bool.false_eq_true, if_false] at hv
        obtain ⟨cv, h5, h6, h7⟩ := hc4 _ _ hv
        refine ⟨cv, h6, ?_⟩
        have : w.cell? ⟨loc.b, loc.o + off, none⟩ = some cv := by rw [cell_of hc]; exact h5
        simp [Instr.loadAt, Instr.sureAddr, loadVar, hag, run_load, this]
    · cases hv
  · cases hv

theorem run_eqGuard_plain {t : TypeId} (op : BinOp) (hop : op = .eql ∨ op = .neq) (xo yo : Operand) {v u : Value} (h1 : ∀ cs, v ≠ .agg cs) (h2 : v ≠ .nilIface ∨ u ≠ .nilIface) : (eqGuard op t xo yo v u).run P w = .ok () w := by
  unfold eqGuard
  rcases hop with rfl | rfl <;> simp only [Bool.not_true, Bool.false_eq_true, if_false] <;> split <;> first
    | rfl
    | exact absurd rfl (h1 _)
    | (rcases h2 with h2 | h2 <;> exact absurd rfl h2)
theorem run_eqGuard_nil {t : TypeId} (op : BinOp) (hop : op = .eql ∨ op = .neq) (xo yo : Operand) (h : (∃ c, xo = .const c) ∨ (∃ c, yo = .const c)) : (eqGuard op t xo yo .nilIface .nilIface).run P w = .ok () w := by
  unfold eqGuard
  rcases hop with rfl | rfl <;> rcases h with ⟨c, rfl⟩ | ⟨c, rfl⟩ <;> simp
theorem equal_of {t : TypeId} {v u : Value} {r : Bool} (h : ∀ d, (Op.equalIn (d + 1) t v u).run P w = .ok r w) : (Op.equal t v u).run P w = .ok r w := h 9999
theorem equal_of2 {t : TypeId} {v u : Value} {r : Bool} (h : ∀ d, (Op.equalIn (d + 2) t v u).run P w = .ok r w) : (Op.equal t v u).run P w = .ok r w := h 9998
/-- A value that is compared by 'Op.equal'. -/
structure EqV (v : Value) : Prop where
  int : ∀ k n, v ≠ .int k n
  str : ∀ s, v ≠ .string s
  flt : ∀ k b, v ≠ .float k b
  cpx : ∀ k x y, v ≠ .complex k x y
theorem binOp_eql {t : TypeId} {v : Value} (h : EqV v) (u : Value) : binOp .eql t v u = (do pure (.bool (← Op.equal t v u))) := by
  cases v <;> first
    | exact absurd rfl (h.int _ _)
    | exact absurd rfl (h.str _)
    | exact absurd rfl (h.flt _ _)
    | exact absurd rfl (h.cpx _ _ _)
    | (cases u <;> rfl)
theorem binOp_neq {t : TypeId} {v : Value} (h : EqV v) (u : Value) : binOp .neq t v u = (do pure (.bool (!(← Op.equal t v u)))) := by
  cases v <;> first
    | exact absurd rfl (h.int _ _)
    | exact absurd rfl (h.str _)
    | exact absurd rfl (h.flt _ _)
    | exact absurd rfl (h.cpx _ _ _)
    | (cases u <;> rfl)
/-- '==' by its kind: the guard lets it by, the comparison answers. -/
theorem eqA_sound {E : Env} (hE : okEnv P E = true) (hh : HR m H w) {t : TypeId} {k : EqK} (hk : okEqK P t k = true) {cst : Bool} {x y : AV} {v u : Value} (hx : VR m x v) (hy : VR m y u) {r : Bool} (hr : eqA E H cst k x y = some r) (op : BinOp) (hop : op = .eql ∨ op = .neq) (xo yo : Operand)
    (hc : cst = true → (∃ c, xo = .const c) ∨ (∃ c, yo = .const c)) :
    (eqGuard op t xo yo v u).run P w = .ok () w ∧ (Op.equal t v u).run P w = .ok r w ∧ EqV v := by
  have guardE := fun {v u : Value} (h1 : ∀ cs, v ≠ .agg cs) (h2 : v ≠ .nilIface ∨ u ≠ .nilIface) => run_eqGuard_plain (P := P) (w := w) (t := t) op hop xo yo h1 h2
  unfold eqA at hr
  split at hr
  · -- bool
    rename_i b b'
    obtain rfl := Option.some.inj hr
    simp only [VR] at hx hy; subst hx; subst hy
    simp only [okEqK] at hk
    split at hk
    · rename_i hu
      exact ⟨guardE (by simp) (by simp), equal_of fun d => by simp [Op.equalIn, run_underlying' hu], ⟨by simp, by simp, by simp, by simp⟩⟩
    · cases hk
  · -- ptr
    rename_i p q
    simp only [okEqK] at hk
    split at hk
    · rename_i e hu
      split at hk
      · rename_i n hn
        simp only [decide_eq_true_eq] at hk
        have hv : (∀ cs, v ≠ .agg cs) ∧ v ≠ .nilIface ∧ EqV v := by
          cases p with
          | none => simp only [VR] at hx; subst hx; exact ⟨by simp, by simp, ⟨by simp, by simp, by simp, by simp⟩⟩
          | some p => obtain ⟨i, o⟩ := p; simp only [VR] at hx; obtain ⟨_, _, rfl⟩ := hx; exact ⟨by simp, by simp, ⟨by simp, by simp, by simp, by simp⟩⟩
        exact ⟨guardE hv.1 (.inl hv.2.1), equal_of fun d => ptrEq_sound hh hx hy hr d hu hn hk, hv.2.2⟩
      · cases hk
    · cases hk
  · -- nil nil
    split at hr
    · rename_i hcst
      obtain rfl := Option.some.inj hr
      simp only [VR] at hx hy; subst hx; subst hy
      simp only [okEqK] at hk
      split at hk
      · rename_i ms hu
        refine ⟨?_, equal_of fun d => by simp [Op.equalIn, run_underlying' hu], ⟨by simp, by simp, by simp, by simp⟩⟩
        exact run_eqGuard_nil op hop xo yo (hc hcst)
      · cases hk
    · cases hr
  · rename_i t' x'
    obtain rfl := Option.some.inj hr
    simp only [VR] at hx hy; subst hx; obtain ⟨z, rfl, _⟩ := hy
    simp only [okEqK] at hk
    split at hk
    · rename_i ms hu
      exact ⟨guardE (by simp) (by simp), equal_of fun d => by simp [Op.equalIn, run_underlying' hu], ⟨by simp, by simp, by simp, by simp⟩⟩
    · cases hk
  · rename_i t' x'
    obtain rfl := Option.some.inj hr
    simp only [VR] at hx hy; subst hy; obtain ⟨z, rfl, _⟩ := hx
    simp only [okEqK] at hk
    split at hk
    · rename_i ms hu
      exact ⟨guardE (by simp) (by simp), equal_of fun d => by simp [Op.equalIn, run_underlying' hu], ⟨by simp, by simp, by simp, by simp⟩⟩
    · cases hk
  · rename_i t1 p t2 q
    simp only [VR] at hx hy
    obtain ⟨v', rfl, hv'⟩ := hx
    obtain ⟨u', rfl, hu'⟩ := hy
    simp only [okEqK] at hk
    split at hk
    · rename_i ms hu
      refine ⟨guardE (by simp) (by simp), ?_, ⟨by simp, by simp, by simp, by simp⟩⟩
      split at hr
      · rename_i ht; subst ht
        split at hr
        · rename_i hin
          have hE' := List.all_eq_true.1 hE t1 (by simpa using hin)
          simp only [Bool.and_eq_true, okEqK] at hE'
          obtain ⟨h1, h2⟩ := hE'
          split at h2
          · rename_i e hue
            split at h2
            · rename_i n hn
              simp only [decide_eq_true_eq] at h2
              split at h1
              · rename_i inf hinf
                refine equal_of2 fun d => ?_
                have := ptrEq_sound (P := P) hh hv' hu' hr d hue hn h2
                rw [show d + 2 = (d + 1) + 1 from rfl, Op.equalIn.eq_2]
                simp [run_underlying' hu, typeInfo, hinf, h1, this]
              · cases h1
            · cases h2
          · cases h2
        · cases hr
      · rename_i ht
        obtain rfl := Option.some.inj hr
        exact equal_of fun d => by simp [Op.equalIn, run_underlying' hu, ht]
    · cases hk
  · -- flat
    rename_i ks l l'
    simp only [VR] at hx hy
    obtain ⟨cs, rfl, h1, _⟩ := hx
    obtain ⟨cs', rfl, h2, _⟩ := hy
    simp only [okEqK, Bool.and_eq_true, Bool.not_eq_true'] at hk
    obtain ⟨⟨hk1, hk2⟩, hk3⟩ := hk
    split at hk1
    · rename_i fs hu
      refine ⟨run_eqGuard_agg w op t xo yo cs cs' hk3, ?_, ⟨by simp, by simp, by simp, by simp⟩⟩
      have hfo : P.fieldsOf t = fs := by simp [Program.fieldsOf, hu]
      refine equal_of2 fun d => ?_
      have := run_equalIn_struct (P := P) w (d + 1) t cs cs' (by rw [hfo]; exact hu) hk2
      rw [hfo] at this
      rw [show d + 2 = (d + 1) + 1 from rfl, this]
      exact flat_sound d hk1 (by simpa using h1) (by simpa using h2) hr
    · cases hk1
  · rename_i sz n cap p sz' n' cap'
    obtain rfl := Option.some.inj hr
    simp only [okEqK] at hk
    split at hk
    · rename_i e hu
      simp only [VR] at hx; obtain ⟨rfl, _⟩ := hx
      cases p with
      | none => simp only [VR] at hy; obtain ⟨rfl, _⟩ := hy; exact ⟨guardE (by simp) (by simp), equal_of fun d => by simp [Op.equalIn, run_underlying' hu], ⟨by simp, by simp, by simp, by simp⟩⟩
      | some q => obtain ⟨i, o⟩ := q; simp only [VR] at hy; obtain ⟨_, _, _, _, rfl, _⟩ := hy; exact ⟨guardE (by simp) (by simp), equal_of fun d => by simp [Op.equalIn, run_underlying' hu], ⟨by simp, by simp, by simp, by simp⟩⟩
    · cases hk
  · rename_i p sz n cap sz' n' cap' _
    obtain rfl := Option.some.inj hr
    simp only [okEqK] at hk
    split at hk
    · rename_i e hu
      simp only [VR] at hy; obtain ⟨rfl, _⟩ := hy
      cases p with
      | none => simp only [VR] at hx; obtain ⟨rfl, _⟩ := hx; exact ⟨guardE (by simp) (by simp), equal_of fun d => by simp [Op.equalIn, run_underlying' hu], ⟨by simp, by simp, by simp, by simp⟩⟩
      | some q => obtain ⟨i, o⟩ := q; simp only [VR] at hx; obtain ⟨_, _, _, _, rfl, _⟩ := hx; exact ⟨guardE (by simp) (by simp), equal_of fun d => by simp [Op.equalIn, run_underlying' hu], ⟨by simp, by simp, by simp, by simp⟩⟩
    · cases hk
  · rename_i p
    obtain rfl := Option.some.inj hr
    simp only [okEqK] at hk
    split at hk
    · rename_i e e' hu
      simp only [VR] at hx; subst hx
      cases p with
      | none => simp only [VR] at hy; subst hy; exact ⟨guardE (by simp) (by simp), equal_of fun d => by simp [Op.equalIn, run_underlying' hu], ⟨by simp, by simp, by simp, by simp⟩⟩
      | some q => simp only [VR] at hy; obtain ⟨_, _, rfl⟩ := hy; exact ⟨guardE (by simp) (by simp), equal_of fun d => by simp [Op.equalIn, run_underlying' hu], ⟨by simp, by simp, by simp, by simp⟩⟩
    · cases hk
  · rename_i p _
    obtain rfl := Option.some.inj hr
    simp only [okEqK] at hk
    split at hk
    · rename_i e e' hu
      simp only [VR] at hy; subst hy
      cases p with
      | none => simp only [VR] at hx; subst hx; exact ⟨guardE (by simp) (by simp), equal_of fun d => by simp [Op.equalIn, run_underlying' hu], ⟨by simp, by simp, by simp, by simp⟩⟩
      | some q => simp only [VR] at hx; obtain ⟨_, _, rfl⟩ := hx; exact ⟨guardE (by simp) (by simp), equal_of fun d => by simp [Op.equalIn, run_underlying' hu], ⟨by simp, by simp, by simp, by simp⟩⟩
    · cases hk
  · obtain rfl := Option.some.inj hr
    simp only [VR] at hx hy; subst hx; subst hy
    simp only [okEqK] at hk
    split at hk
    · rename_i e1 e2 e3 hu
      exact ⟨guardE (by simp) (by simp), equal_of fun d => by simp [Op.equalIn, run_underlying' hu], ⟨by simp, by simp, by simp, by simp⟩⟩
    · cases hk
  · obtain rfl := Option.some.inj hr
    simp only [VR] at hx hy; subst hx; obtain ⟨_, rfl, _⟩ := hy
    simp only [okEqK] at hk
    split at hk
    · rename_i e1 e2 e3 hu
      exact ⟨guardE (by simp) (by simp), equal_of fun d => by simp [Op.equalIn, run_underlying' hu], ⟨by simp, by simp, by simp, by simp⟩⟩
    · cases hk
  · obtain rfl := Option.some.inj hr
    simp only [VR] at hx hy; subst hy; obtain ⟨_, rfl, _⟩ := hx
    simp only [okEqK] at hk
    split at hk
    · rename_i e1 e2 e3 hu
      exact ⟨guardE (by simp) (by simp), equal_of fun d => by simp [Op.equalIn, run_underlying' hu], ⟨by simp, by simp, by simp, by simp⟩⟩
    · cases hk
  · cases hr

theorem isC_sound {x : Operand} {y : Opd} (h : okOpd G x y = true) (hc : y.isC = true) : ∃ c, x = .const c := by
  cases y <;> simp [Opd.isC] at hc
  cases x <;> simp [okOpd] at h
  exact ⟨_, rfl⟩

theorem findNow_sound {s : List UInt8} : ∀ {l : List (List UInt8 × AV)} {es : List MapEntry} (i : Nat), MapR m l es →
    ∃ r, Instr.findNow .string (.string ⟨⟨s⟩⟩) es i = some r ∧ (match mapGet l s with | none => r = none | some x => ∃ k v, r = some (k, v) ∧ VR m x v)
  | [], [], _, _ => ⟨none, rfl, rfl⟩
  | [], _ :: _, _, h => by cases h
  | _ :: _, [], _, h => by cases h
  | (s', x) :: l, e :: es, i, h => by
    cases h with
    | cons hk hv h =>
      unfold Instr.findNow
      rw [hk]
      have hb : ((⟨⟨s⟩⟩ : ByteArray) == ⟨⟨s'⟩⟩) = (s == s') := by rw [beq_toListBytes, toList_mk, toList_mk]
      simp only [Instr.sameNow, hb]
      by_cases hs : s = s'
      · subst hs
        simp only [beq_self_eq_true]
        exact ⟨_, rfl, by simp [mapGet]; exact ⟨_, _, ⟨rfl, rfl⟩, hv⟩⟩
      · have h1 : (s == s') = false := by simpa using hs
        have h2 : (s' == s) = false := by simpa using fun e => hs e.symm
        simp only [h1]
        obtain ⟨r, h3, h4⟩ := findNow_sound (i + 1) h
        refine ⟨r, h3, ?_⟩
        have : mapGet ((s', x) :: l) s = mapGet l s := by simp [mapGet, h2]
        rw [this]; exact h4
theorem run_checkKey {kt : TypeId} (hk : P.underlying kt = some .string) (b : Bool) (z : ByteArray) : (Instr.checkKey b 10000 kt (.string z)).run P w = .ok () w := by
  show (Instr.checkKey b (9999 + 1) kt (.string z)).run P w = _
  generalize 9999 = d
  simp [Instr.checkKey, run_underlying' hk]

theorem read_sound {E : Env} (hE : okEnv P E = true) (hG : GOk G m) (hh : HR m H w) {o : Oper} {ao : AOp} (hok : okRead P G o.op ao = true) (hf : FOn m fr a ao.tmps) {v : AV} (hv : readA E fr H ao = some v) : ∃ cv, VR m v cv ∧ (execOp a.eval o).run P w = .ok (.value cv) w := by
  obtain ⟨dst, op, type, pos, after, guard⟩ := o
  simp only at hok
  unfold okRead at hok
  split at hok
  · -- load
    rename_i t x n ag y
    simp only [Bool.and_eq_true, decide_eq_true_eq] at hok
    obtain ⟨⟨h1, h2⟩, h3⟩ := hok
    simp only [readA, Option.bind_eq_some_iff] at hv
    obtain ⟨u, hu, hv⟩ := hv
    obtain ⟨cv, h4, h5⟩ := load_sound hh h1 h2 (ev_sound hG h3 hf hu) hv
    exact ⟨cv, h4, by simp [execOp, h5]⟩
  · -- eql
    rename_i t x y yt k x' y'
    simp only [Bool.and_eq_true] at hok
    obtain ⟨⟨h1, h2⟩, h3⟩ := hok
    simp only [readA, Option.bind_eq_some_iff, Option.map_eq_some_iff] at hv
    obtain ⟨u, hu, v', hv', r, hr, rfl⟩ := hv
    obtain ⟨h4, h5, h6⟩ := eqA_sound hE hh h1 (ev_sound hG h2 (hf.sub fun n hn => by simp [AOp.tmps, hn]) hu) (ev_sound hG h3 (hf.sub fun n hn => by simp [AOp.tmps, hn]) hv') hr .eql (.inl rfl) x y
      (fun hc => by
        simp only [Bool.or_eq_true] at hc
        exact hc.imp (isC_sound h2) (isC_sound h3))
    refine ⟨_, vr_bool _, ?_⟩
    simp only [execOp]
    show (Sem.run P ((eqGuard .eql t x y (a.eval x) (a.eval y) >>= fun _ => binOp .eql t (a.eval x) (a.eval y)) >>= fun v => pure (Next.value v)) w) = _
    simp only [Sem.run_bind, h4, Result.andThen_ok, binOp_eql h6, h5]
    rfl
  · -- neq
    rename_i t x y yt k x' y'
    simp only [Bool.and_eq_true] at hok
    obtain ⟨⟨h1, h2⟩, h3⟩ := hok
    simp only [readA, Option.bind_eq_some_iff, Option.map_eq_some_iff] at hv
    obtain ⟨u, hu, v', hv', r, hr, rfl⟩ := hv
    obtain ⟨h4, h5, h6⟩ := eqA_sound hE hh h1 (ev_sound hG h2 (hf.sub fun n hn => by simp [AOp.tmps, hn]) hu) (ev_sound hG h3 (hf.sub fun n hn => by simp [AOp.tmps, hn]) hv') hr .neq (.inr rfl) x y
      (fun hc => by
        simp only [Bool.or_eq_true] at hc
        exact hc.imp (isC_sound h2) (isC_sound h3))
    refine ⟨_, vr_bool _, ?_⟩
    simp only [execOp]
    show (Sem.run P ((eqGuard .neq t x y (a.eval x) (a.eval y) >>= fun _ => binOp .neq t (a.eval x) (a.eval y)) >>= fun v => pure (Next.value v)) w) = _
    simp only [Sem.run_bind, h4, Result.andThen_ok, binOp_neq h6, h5]
    rfl
  · -- lookup
    rename_i t mm k ok d ok' m' k'
    simp only [Bool.and_eq_true, decide_eq_true_eq] at hok
    obtain ⟨⟨⟨rfl, h1⟩, h2⟩, h3⟩ := hok
    simp only [readA, Option.bind_eq_some_iff] at hv
    obtain ⟨mv, hmv, kv, hkv, hv⟩ := hv
    have hm := ev_sound hG h2 (hf.sub fun n hn => by simp [AOp.tmps, hn]) hmv
    have hk := ev_sound hG h3 (hf.sub fun n hn => by simp [AOp.tmps, hn]) hkv
    split at h1
    · rename_i kt et hut
      simp only [Bool.and_eq_true] at h1
      obtain ⟨h4, h5⟩ := h1
      split at h5
      · rename_i inf hinf
        split at h5
        · rename_i z hz
          have hd : VR m d z := okVal_sound h5
          unfold isStrT at h4
          split at h4
          · rename_i hkt
            have hzero : (zeroValue et).run P w = .ok z w := by simp [zeroValue, typeInfo, hinf, hz]
            split at hv
            · rename_i s
              simp only [VR] at hm hk
              obtain rfl := Option.some.inj hv
              have hrun : (Instr.lookup t (.map none) (.string ⟨⟨s⟩⟩) ok).run P w = .ok (if ok then .tuple #[z, .bool false] else z) w := by
                simp [Instr.lookup, run_underlying' hut, run_checkKey hkt, Instr.findKey, run_underlying' hkt, Instr.findNow, hzero]
              cases ok
              · exact ⟨z, by simpa using hd, by simp only [execOp, hm, hk]; simp [hrun]⟩
              · refine ⟨.tuple #[z, .bool false], ?_, by simp only [execOp, hm, hk]; simp [hrun]⟩
                simp only [if_true, VR]
                exact ⟨_, rfl, by simp [VRs, VR]; exact hd⟩
            · rename_i i s
              split at hv
              · rename_i l r hg
                simp only [VR] at hm hk
                obtain ⟨loc, hml, hm⟩ := hm
                obtain ⟨es, ck, h6, h7⟩ := hh.ok _ _ _ hml hg
                obtain ⟨fr', h8, h9⟩ := findNow_sound (s := s) 0 h7
                have hgo : (getObj loc.b).run P w = .ok (.map es ck) w := by simp [getObj, Sem.run, h6]
                have hrun : ∀ (c : Value × Bool), (match fr' with | some (_, v) => c = (v, true) | none => c = (z, false)) → (Instr.lookup t (.map (some loc.b)) (.string ⟨⟨s⟩⟩) ok).run P w = .ok (if ok then .tuple #[c.1, .bool c.2] else c.1) w := fun c hc => by
                  have hfk : (Instr.findKey kt (.string ⟨⟨s⟩⟩) es.toList).run P w = .ok fr' w := by simp [Instr.findKey, run_underlying' hkt, h8]
                  simp only [Instr.lookup, Sem.run_bind, run_underlying' hut, Result.andThen_ok, hgo, run_checkKey hkt, Sem.run_pure, hfk]
                  cases fr' with
                  | none => subst hc; simp [hzero]
                  | some q => obtain ⟨q1, q2⟩ := q; subst hc; simp
                obtain rfl := Option.some.inj hv
                cases hmg : mapGet l s with
                | none =>
                  rw [hmg] at h9; simp only at h9; subst h9
                  have hr := hrun (z, false) rfl
                  cases ok
                  · exact ⟨z, by simpa using hd, by simp only [execOp, hm, hk]; simp [hr]⟩
                  · refine ⟨.tuple #[z, .bool false], ?_, by simp only [execOp, hm, hk]; simp [hr]⟩
                    simp only [if_true, VR]
                    exact ⟨_, rfl, by simp [VRs, VR]; exact hd⟩
                | some x =>
                  rw [hmg] at h9
                  obtain ⟨q, cv, rfl, hcv⟩ := h9
                  have hr := hrun (cv, true) rfl
                  cases ok
                  · exact ⟨cv, by simpa using hcv, by simp only [execOp, hm, hk]; simp [hr]⟩
                  · refine ⟨.tuple #[cv, .bool true], ?_, by simp only [execOp, hm, hk]; simp [hr]⟩
                    simp only [if_true, VR]
                    exact ⟨_, rfl, by simp [VRs, VR]; exact hcv⟩
              · cases hv
            · cases hv
          · cases h4
        · cases h5
      · cases h5
    · cases h1
  · cases hok
end
end Go.Proofs.YtlecbjcloleiiaaDoor.Ram

import Derived.Test.YtlecbjcloleiiaaDoorRamC
/-! The pure operations: the check, and what they come to. -/
namespace Go.Proofs.YtlecbjcloleiiaaDoor.Ram
open Go Go.RowKit

def isAggB (P : Program) (t : TypeId) : Option Bool := match P.underlying t with
  | some (.struct _) => some true
  | some (.array _ _) => some true
  | some _ => some false
  | none => none
def sizeB (P : Program) (t : TypeId) : Option Nat := (P.info? t).map (·.size)

def okParts (G : List Nat) (pl : Nat → Option (Nat × Nat)) : List (Nat × Operand) → List (Nat × Nat × Opd) → Bool
  | [], [] => true
  | (i, x) :: l, (off, n, y) :: l' => (match pl i with | some p => decide (p.1 = off ∧ p.2 = n) | none => false) && okOpd G x y && okParts G pl l l'
  | _, _ => false
def okOptOpd (G : List Nat) : Option Operand → Option Opd → Bool
  | none, none => true
  | some x, some y => okOpd G x y
  | _, _ => false
def okZero (P : Program) (t : TypeId) (z : List AV) : Bool := match P.info? t with
  | some i => (match i.zero with | some v => okVals v.cells.toList z && z.all oneCell | none => false)
  | none => false
def structPlaces (P : Program) (t : TypeId) : Option (List (Nat × Nat)) := match P.underlying t with
  | some (.struct fields) => fields.toList.mapM (fun f => (P.info? f.type).map fun i => (f.offset, i.size))
  | _ => none
def okSlT (P : Program) (t : TypeId) (sz : Nat) : Bool := match P.underlying t with
  | some (.slice e) => decide (sizeB P e = some sz) && decide (0 < sz)
  | _ => false
def isStrT (P : Program) (t : TypeId) : Bool := match P.underlying t with | some .string => true | _ => false
def isIntT (P : Program) (t : TypeId) (k : IntKind) : Bool := match P.underlying t with | some (.int k') => decide (k' = k) | _ => false
def isAnyIntT (P : Program) (t : TypeId) : Bool := match P.underlying t with | some (.int _) => true | _ => false
def notIfcT (P : Program) (t : TypeId) : Bool := match P.underlying t with | some (.interface _) => false | some _ => true | none => false
def fieldB (P : Program) (s : TypeId) (f off : Nat) : Bool := match P.underlying s with
  | some (.struct fields) => (match fields[f]? with | some fd => decide (fd.offset = off) && (match sizeB P fd.type with | some n => decide (0 < n) | none => false) | none => false)
  | _ => false
def fieldV (P : Program) (s : TypeId) (f off n : Nat) (ag : Bool) : Bool := match P.underlying s with
  | some (.struct fields) => (match fields[f]? with | some fd => decide (fd.offset = off) && decide (isAggB P fd.type = some ag) && decide (sizeB P fd.type = some n) | none => false)
  | _ => false

def okPure (P : Program) (G : List Nat) : Op → AOp → Bool
  | .move x, .mov y => okOpd G x y
  | .assign x, .mov y => okOpd G x y
  | .pick c a b, .pick c' a' b' => okOpd G c c' && okOpd G a a' && okOpd G b b'
  | .build t ps, .build z qs => okZero P t z && (match structPlaces P t with | some pl => okParts G (fun i => pl[i]?) ps.toList qs | none => false)
  | .nilCheck x, .nilchk y => okOpd G x y
  | .binOp op _ x y _, .bin op' x' y' => decide (op = op') && okOpd G x x' && okOpd G y y'
  | .unOp .not _ x, .not y => okOpd G x y
  | .unOp .neg _ x, .neg y => okOpd G x y
  | .convert src dst x, .conv k y => isAnyIntT P src && isIntT P dst k && okOpd G x y
  | .convert src dst x, .convS y => isStrT P src && isStrT P dst && okOpd G x y
  | .makeInterface t x, .mkIfc t' y => decide (t = t') && notIfcT P t && okOpd G x y
  | .makeFunc (.func f) first caps, .mkFn f' l => decide (f = f') && decide (first.size = 0) && okOpds G caps.toList l
  | .slice t x lo hi none, .slc sz y lo' hi' => (if sz = 0 then isStrT P t else okSlT P t sz) && okOpd G x y && okOptOpd G lo lo' && okOptOpd G hi hi'
  | .fieldAddr s x f, .fieldA off y => fieldB P s f off && okOpd G x y
  | .field s x f, .field off n ag y => fieldV P s f off n ag && okOpd G x y
  | .indexAddr t x i, .indexA sz y j => okSlT P t sz && okOpd G x y && okOpd G i j
  | .index t x i, .index y j => isStrT P t && okOpd G x y && okOpd G i j
  | .extract x i, .extract y j => decide (i = j) && okOpd G x y
  | .call ⟨.builtin .len, args, ts⟩, .len st y => (match args.toList, ts.toList with | [x], [t] => (if st then isStrT P t else (match P.underlying t with | some (.slice _) => true | _ => false)) && okOpd G x y | _, _ => false)
  | .call ⟨.builtin .min, args, _⟩, .minmax false y y' => (match args.toList with | [x, x'] => okOpd G x y && okOpd G x' y' | _ => false)
  | .call ⟨.builtin .max, args, _⟩, .minmax true y y' => (match args.toList with | [x, x'] => okOpd G x y && okOpd G x' y' | _ => false)
  | _, _ => false

theorem run_underlying' {P : Program} {t : TypeId} {d : TypeDesc} (h : P.underlying t = some d) (w : World) : (underlying t).run P w = .ok d w := by simp [underlying, h]

theorem toList_mk (z : List UInt8) : (⟨⟨z⟩⟩ : ByteArray).toList = z := by rw [ByteArray.toList_eq]
def BndIs (c : Option Value) (n d : Nat) : Prop := match c with
  | none => n = d
  | some v => ∃ k i, v = .int k i ∧ 0 ≤ i ∧ i.toNat = n
theorem run_bound_ok {P : Program} {w : World} {k : IntKind} {i : Int} {y : Nat} (code : BoundsCode) (h0 : 0 ≤ i) (h1 : i.toNat ≤ y) : (Instr.sliceBound (.int k i) y code).run P w = .ok i.toNat w := by
  have : i ≤ (y : Int) := by omega
  simp [Instr.sliceBound, asIntOf, h0, this]
theorem run_sliceBounds_ok {P : Program} {w : World} {isSlice : Bool} {len cap l h : Nat} (low high : Option Value)
    (hh : BndIs high h len) (hl : BndIs low l 0) (h1 : l ≤ h) (h2 : h ≤ cap) :
    (Instr.sliceBounds isSlice len cap low high none).run P w = .ok (l, h, cap) w := by
  cases high with
  | none =>
    simp only [BndIs] at hh; subst hh
    cases low with
    | none => simp only [BndIs] at hl; subst hl; simp [Instr.sliceBounds]
    | some v =>
      obtain ⟨k, i, rfl, h3, rfl⟩ := hl
      simp [Instr.sliceBounds, run_bound_ok _ h3 h1]
  | some v =>
    obtain ⟨k, i, rfl, h3, rfl⟩ := hh
    cases low with
    | none =>
      simp only [BndIs] at hl; subst hl
      simp [Instr.sliceBounds, run_bound_ok _ h3 h2]
    | some v =>
      obtain ⟨k', i', rfl, h4, rfl⟩ := hl
      simp [Instr.sliceBounds, run_bound_ok _ h3 h2, run_bound_ok _ h4 h1]

section
variable {P : Program} {G : List Nat} {m : LMap} {fr : Fr} {a : Act} (hG : GOk G m)
include hG

theorem natOf_sound {x : Operand} {y : Opd} (hok : okOpd G x y = true) (hf : FOn m fr a y.tmps) {v : AV} {n : Nat} (hv : y.ev fr = some v) (hn : natOf v = some n) : ∃ k i, a.eval x = .int k i ∧ 0 ≤ i ∧ i.toNat = n := by
  have h := ev_sound hG hok hf hv
  cases v <;> simp [natOf] at hn
  simp only [VR] at h
  exact ⟨_, _, h, hn.1, hn.2⟩

theorem parts_sound (pl : Nat → Option (Nat × Nat)) : ∀ {ps : List (Nat × Operand)} {qs : List (Nat × Nat × Opd)} {rs : List (Nat × Nat × AV)}, okParts G pl ps qs = true → FOn m fr a (partsT qs) → evParts fr qs = some rs →
    (ps.map fun p => (p.1, a.eval p.2)).length = rs.length ∧ ∀ (j : Nat) (p : Nat × Value) (q : Nat × Nat × AV), (ps.map fun p => (p.1, a.eval p.2))[j]? = some p → rs[j]? = some q → pl p.1 = some (q.1, q.2.1) ∧ VR m q.2.2 p.2
  | [], [], rs, _, _, h => by simp only [evParts, Option.some.injEq] at h; subst h; simp
  | [], _ :: _, _, h, _, _ => by simp [okParts] at h
  | _ :: _, [], _, h, _, _ => by simp [okParts] at h
  | (i, x) :: ps, (off, n, y) :: qs, rs, h, hf, hr => by
    simp only [okParts, Bool.and_eq_true] at h
    obtain ⟨⟨h1, h2⟩, h3⟩ := h
    simp only [evParts, Option.bind_eq_some_iff, Option.map_eq_some_iff] at hr
    obtain ⟨v, hv, r, hr, rfl⟩ := hr
    obtain ⟨e1, e2⟩ := parts_sound pl h3 (hf.sub fun n hn => by simp only [partsT, List.flatMap_cons, List.mem_append]; exact .inr hn) hr
    refine ⟨by simpa using e1, fun j p q hp hq => ?_⟩
    cases j with
    | zero =>
      simp at hp hq; subst hp; subst hq
      split at h1
      · rename_i p hp
        simp at h1
        obtain ⟨rfl, rfl⟩ := h1
        exact ⟨hp, ev_sound hG h2 (hf.sub fun n hn => by simp [partsT, hn]) hv⟩
      · cases h1
    | succ j => exact e2 j p q (by simpa using hp) (by simpa using hq)

def BndRel (o : Option AV) (c : Option Value) : Prop := match o, c with
  | none, none => True
  | some l, some v => ∀ n, natOf l = some n → ∃ k i, v = .int k i ∧ 0 ≤ i ∧ i.toNat = n
  | _, _ => False
omit hG in
theorem bnd_sound {d n : Nat} {o : Option AV} {c : Option Value} (h1 : BndRel o c) (h2 : bndA d o = some n) : BndIs c n d := by
  cases o <;> cases c <;> simp [BndRel, bndA] at h1 h2
  · subst h2; rfl
  · obtain ⟨k, i, e, h3, h4⟩ := h1 n h2; exact ⟨k, i, e, h3, h4⟩
omit hG in
theorem slc_sound {t : TypeId} {sz : Nat} (hok : (if sz = 0 then isStrT P t else okSlT P t sz) = true) {x : AV} {xv : Value} (hx : VR m x xv) {lo hi : Option AV} {low high : Option Value}
    (hlo : BndRel lo low) (hhi : BndRel hi high) {r : AV} (hr : slcA sz x lo hi = some r) :
    ∃ cv, VR m r cv ∧ ∀ w, (Instr.sliceAt t xv low high none).run P w = .ok cv w := by
  unfold slcA at hr
  cases x with
  | str s =>
    simp only [VR] at hx; subst hx
    simp only [Option.bind_eq_some_iff] at hr
    obtain ⟨l, hl, h, hh, hr⟩ := hr
    split at hr
    · rename_i hc
      simp only [Option.some.injEq] at hr; subst hr
      have hsz : (⟨⟨s⟩⟩ : ByteArray).size = s.length := rfl
      refine ⟨.string ⟨⟨(s.take h).drop l⟩⟩, by simp [VR], fun w => ?_⟩
      have hb := fun w => run_sliceBounds_ok (P := P) (w := w) (isSlice := false) (cap := s.length) low high (bnd_sound hhi hh) (bnd_sound hlo hl) hc.2.1 hc.2.2
      rw [if_pos hc.1] at hok
      have hst := hok
      unfold isStrT at hst
      split at hst
      · rename_i hu
        have hex : (⟨⟨s⟩⟩ : ByteArray).extract l h = ⟨⟨(s.take h).drop l⟩⟩ := by
          apply ByteArray.ext
          simp [ByteArray.data_extract, List.drop_take]
        simp [Instr.sliceAt, Instr.slice, run_underlying' hu, hsz, hb, hex]
      · cases hst
    · cases hr
  | sl p sz' len cap =>
    have hnz : sz ≠ 0 := by
      rintro rfl
      cases p <;> simp at hr
    rw [if_neg hnz] at hok
    unfold okSlT at hok
    split at hok
    · rename_i e hu
      simp only [Bool.and_eq_true, decide_eq_true_eq] at hok
      obtain ⟨hsz, hpos⟩ := hok
      unfold sizeB at hsz
      cases hi' : P.info? e with
      | none => rw [hi'] at hsz; cases hsz
      | some inf =>
        rw [hi'] at hsz
        simp at hsz
        have hso : ∀ w, (sizeOf e).run P w = .ok sz w := fun w => by simp [sizeOf, typeInfo, hi', hsz]
        cases p with
        | none =>
          simp only [Option.bind_eq_some_iff] at hr
          obtain ⟨l, hl, h, hh, hr⟩ := hr
          split at hr
          · rename_i hc
            obtain ⟨_, rfl, rfl⟩ := hc
            simp only [Option.some.injEq] at hr; subst hr
            simp only [VR] at hx
            obtain ⟨rfl, rfl⟩ := hx
            refine ⟨.slice none 0 0, by simp [nilSl, VR], fun w => ?_⟩
            have hb := fun w => run_sliceBounds_ok (P := P) (w := w) (isSlice := true) (len := 0) (cap := 0) low high (bnd_sound hhi hh) (bnd_sound hlo hl) (Nat.le_refl _) (Nat.le_refl _)
            simp [Instr.sliceAt, Instr.slice, run_underlying' hu, hb, hso]
          · cases hr
        | some q =>
          obtain ⟨i, off⟩ := q
          simp only [Option.bind_eq_some_iff] at hr
          obtain ⟨l, hl, h, hh, hr⟩ := hr
          split at hr
          · rename_i hc
            obtain ⟨_, rfl, h1, h2⟩ := hc
            simp only [Option.some.injEq] at hr; subst hr
            simp only [VR] at hx
            obtain ⟨loc, c, ad, hm, rfl, had, h3, h4, h5, h6⟩ := hx
            have hb := fun w => run_sliceBounds_ok (P := P) (w := w) (isSlice := true) (len := len) (cap := c) low high (bnd_sound hhi hh) (bnd_sound hlo hl) h1 (Nat.le_trans h2 h3)
            have hmul : l * sz' + (c - l) * sz' = c * sz' := by rw [← Nat.add_mul]; congr 1; omega
            refine ⟨.slice (some (if c = l then ad else ad.add (l * sz'))) (h - l) (c - l), ?_, fun w => ?_⟩
            · simp only [VR]
              refine ⟨loc, c - l, _, hm, rfl, fun hc0 => ?_, by omega, by omega, by omega, fun d hd => ?_⟩
              · rw [if_neg (by omega), had (by omega)]
                unfold Addr.add
                split
                · rename_i h0; rw [h0]; rfl
                · simp [Nat.add_assoc]
              · cases cap with
                | none => cases hd
                | some c0 => simp at hd; have := h6 c0 rfl; omega
            · simp [Instr.sliceAt, Instr.slice, run_underlying' hu, hb, hso]
              split <;> rfl
          · cases hr
    · cases hok
  | _ => cases hr

def OptEv (fr : Fr) (y : Option Opd) (o : Option AV) : Prop := match y with
  | none => o = none
  | some y => ∃ v, y.ev fr = some v ∧ o = some v
theorem optOpd_sound {x : Option Operand} {y : Option Opd} (hok : okOptOpd G x y = true) (hf : FOn m fr a (optT y)) {o : Option AV} (ho : OptEv fr y o) : BndRel o (x.map a.eval) := by
  cases x <;> cases y <;> simp [okOptOpd] at hok
  · simp only [OptEv] at ho; subst ho; simp [BndRel]
  · obtain ⟨v, hv, rfl⟩ := ho
    simp only [BndRel, Option.map_some]
    exact fun n hn => natOf_sound hG hok hf hv hn

omit hG in
theorem zero_sound {t : TypeId} {z : List AV} (h : okZero P t z = true) : ∃ i v, P.info? t = some i ∧ i.zero = some v ∧ VRs m z v.cells.toList ∧ z.all oneCell = true := by
  unfold okZero at h
  split at h
  · rename_i i hi
    split at h
    · rename_i v hv
      simp only [Bool.and_eq_true] at h
      exact ⟨i, v, hi, hv, okVals_sound h.1, h.2⟩
    · cases h
  · cases h
theorem build_sound {t : TypeId} {ps : Array (Nat × Operand)} {z : List AV} {qs : List (Nat × Nat × Opd)} (hz : okZero P t z = true) {pl : List (Nat × Nat)} (hpl : structPlaces P t = some pl) (hok : okParts G (fun i => pl[i]?) ps.toList qs = true)
    (hf : FOn m fr a (partsT qs)) {v : AV} (hv : pureA fr (.build z qs) = some v) : ∃ cv, VR m v cv ∧ ∀ w, (Instr.build t (ps.map fun (i, x) => (i, a.eval x))).run P w = .ok cv w := by
  obtain ⟨i, zv, h1, h2, h3, h4⟩ := zero_sound (m := m) hz
  simp only [pureA, Option.bind_eq_some_iff, Option.map_eq_some_iff] at hv
  obtain ⟨rs, hrs, r, hr, rfl⟩ := hv
  obtain ⟨e1, e2⟩ := parts_sound hG _ hok hf hrs
  obtain ⟨cs', h5, h6, h7⟩ := fill_sound (m := m) (fun i => pl[i]?) (ps.toList.map fun p => (p.1, a.eval p.2)) rs z r zv.cells e1 e2 h3 h4 hr
  refine ⟨.agg cs', by simp only [VR]; exact ⟨cs', rfl, h6, h7⟩, fun w => run_build w t _ cs' ?_⟩
  unfold structPlaces at hpl
  split at hpl
  · rename_i fields hu
    unfold Program.built
    rw [h1, hu]
    simp only [h2, hpl]
    simpa using h5
  · cases hpl

omit hG in
theorem vr_int (k : IntKind) (n : Int) : VR m (.int k n) (.int k n) := by simp only [VR]
omit hG in
theorem vr_bool (b : Bool) : VR m (.bool b) (.bool b) := by simp only [VR]
omit hG in
theorem vr_str (s : List UInt8) : VR m (.str s) (.string ⟨⟨s⟩⟩) := by simp only [VR]
omit hG in
theorem bin_sound {op : BinOp} {xt : TypeId} {x y : Operand} {u v r : AV} {cu cv : Value} (hu : VR m u cu) (hv : VR m v cv) (h : binA op u v = some r) : ∃ cr, VR m r cr ∧ ∀ w, (do eqGuard op xt x y cu cv; binOp op xt cu cv).run P w = .ok cr w := by
  unfold binA at h
  split at h
  · rename_i k n k' n'
    simp only [VR] at hu hv; subst hu; subst hv
    have hg : ∀ w, (eqGuard op xt x y (.int k n) (.int k' n')).run P w = .ok () w := fun w => by unfold eqGuard; split <;> rfl
    have hb : ∀ w (s : Sem Value), (do eqGuard op xt x y (.int k n) (.int k' n'); s).run P w = s.run P w := fun w s => by
      show (Sem.run P (eqGuard op xt x y (.int k n) (.int k' n') >>= fun _ => s) w) = _
      rw [Sem.run_bind, hg]; rfl
    cases op
    all_goals simp only [] at h
    case shl =>
      split at h
      · rename_i h0; obtain rfl := Option.some.inj h
        exact ⟨_, vr_int _ _, fun w => by rw [hb]; simp only [binOp, Op.shift]; rw [if_neg (by omega)]; rfl⟩
      · cases h
    case shr =>
      split at h
      · rename_i h0; obtain rfl := Option.some.inj h
        exact ⟨_, vr_int _ _, fun w => by rw [hb]; simp only [binOp, Op.shift]; rw [if_neg (by omega)]; rfl⟩
      · cases h
    case quo =>
      split at h
      · rename_i hk; subst hk
        split at h
        · cases h
        · rename_i hz; obtain rfl := Option.some.inj h
          exact ⟨_, vr_int _ _, fun w => by rw [hb]; simp [binOp, Op.intDiv, hz]⟩
      · cases h
    case rem =>
      split at h
      · rename_i hk; subst hk
        split at h
        · cases h
        · rename_i hz; obtain rfl := Option.some.inj h
          exact ⟨_, vr_int _ _, fun w => by rw [hb]; simp [binOp, Op.intDiv, hz]⟩
      · cases h
    case andNot =>
      split at h <;> cases h
    case add | sub | mul | and | or | xor =>
      split at h
      · rename_i hk; subst hk
        obtain rfl := Option.some.inj h
        exact ⟨_, vr_int _ _, fun w => by rw [hb]; simp [binOp, Op.intArith, Op.intBits]⟩
      · cases h
    case eql | neq | lss | leq | gtr | geq =>
      split at h
      · rename_i hk; subst hk
        obtain rfl := Option.some.inj h
        exact ⟨_, vr_bool _, fun w => by rw [hb]; simp [binOp, Op.intCmp]⟩
      · cases h
  · rename_i s s'
    simp only [VR] at hu hv; subst hu; subst hv
    have hg : ∀ w, (eqGuard op xt x y (.string ⟨⟨s⟩⟩) (.string ⟨⟨s'⟩⟩)).run P w = .ok () w := fun w => by unfold eqGuard; split <;> rfl
    have hb : ∀ w (q : Sem Value), (do eqGuard op xt x y (.string ⟨⟨s⟩⟩) (.string ⟨⟨s'⟩⟩); q).run P w = q.run P w := fun w q => by
      show (Sem.run P (eqGuard op xt x y (.string ⟨⟨s⟩⟩) (.string ⟨⟨s'⟩⟩) >>= fun _ => q) w) = _
      rw [Sem.run_bind, hg]; rfl
    have ht : ∀ z : List UInt8, (⟨⟨z⟩⟩ : ByteArray).toList = z := fun z => toList_mk z
    have hsz : ∀ z : List UInt8, (⟨⟨z⟩⟩ : ByteArray).size = z.length := fun z => rfl
    cases op
    all_goals simp only [] at h
    case add =>
      split at h
      · rename_i h0; obtain rfl := Option.some.inj h
        refine ⟨.string ⟨⟨s ++ s'⟩⟩, vr_str _, fun w => ?_⟩
        rw [hb]
        simp only [binOp, Op.stringOp, hsz]
        rw [if_neg (by omega)]
        congr 2
      · cases h
    case eql | neq | lss | leq | gtr | geq =>
      obtain rfl := Option.some.inj h
      exact ⟨_, vr_bool _, fun w => by rw [hb]; simp [binOp, Op.stringOp, ht, bytesLt]⟩
    all_goals cases h
  · cases h

theorem pure_sound {o : Oper} {ao : AOp} (hok : okPure P G o.op ao = true) (hf : FOn m fr a ao.tmps) {v : AV} (hv : pureA fr ao = some v) : ∃ cv, VR m v cv ∧ ∀ w, (execOp a.eval o).run P w = .ok (.value cv) w := by
  obtain ⟨dst, op, type, pos, after, guard⟩ := o
  simp only at hok
  unfold okPure at hok
  split at hok
  · -- move
    rename_i x y
    simp only [pureA] at hv
    exact ⟨_, ev_sound hG hok hf hv, fun w => rfl⟩
  · rename_i x y
    simp only [pureA] at hv
    exact ⟨_, ev_sound hG hok hf hv, fun w => rfl⟩
  · -- pick
    rename_i c a' b' c' a'' b''
    simp only [Bool.and_eq_true] at hok
    simp only [AOp.tmps] at hf
    simp only [pureA] at hv
    split at hv
    · rename_i hc
      have h1 := ev_sound hG hok.1.1 (hf.sub fun n hn => by simp [hn]) hc
      simp only [VR] at h1
      exact ⟨_, ev_sound hG hok.1.2 (hf.sub fun n hn => by simp [hn]) hv, fun w => by simp [execOp, h1, asBool]⟩
    · rename_i hc
      have h1 := ev_sound hG hok.1.1 (hf.sub fun n hn => by simp [hn]) hc
      simp only [VR] at h1
      exact ⟨_, ev_sound hG hok.2 (hf.sub fun n hn => by simp [hn]) hv, fun w => by simp [execOp, h1, asBool]⟩
    · cases hv
  · -- build
    rename_i t ps z qs
    simp only [Bool.and_eq_true] at hok
    split at hok
    · rename_i pl hpl
      obtain ⟨cv, h1, h2⟩ := build_sound hG hok.1 hpl hok.2 hf hv
      exact ⟨cv, h1, fun w => by simp [execOp, h2]⟩
    · simp at hok
  · -- nilchk
    rename_i x y
    simp only [pureA] at hv
    split at hv
    · rename_i p hp
      simp only [Option.some.injEq] at hv; subst hv
      have h1 := ev_sound hG hok hf hp
      obtain ⟨i, off⟩ := p
      have h2 := h1
      simp only [VR] at h2
      obtain ⟨loc, hm, e⟩ := h2
      exact ⟨_, h1, fun w => by simp [execOp, e]⟩
    · cases hv
  · -- bin
    rename_i op xt x y yt op' x' y'
    simp only [Bool.and_eq_true, decide_eq_true_eq] at hok
    obtain ⟨⟨rfl, h1⟩, h2⟩ := hok
    simp only [pureA, Option.bind_eq_some_iff] at hv
    obtain ⟨u, hu, v', hv', hr⟩ := hv
    obtain ⟨cr, h3, h4⟩ := bin_sound (P := P) (xt := xt) (x := x) (y := y) (ev_sound hG h1 (hf.sub fun n hn => by simp [AOp.tmps, hn]) hu) (ev_sound hG h2 (hf.sub fun n hn => by simp [AOp.tmps, hn]) hv') hr
    refine ⟨cr, h3, fun w => ?_⟩
    have := h4 w
    simp only [execOp]
    show (Sem.run P ((eqGuard op xt x y (a.eval x) (a.eval y) >>= fun _ => binOp op xt (a.eval x) (a.eval y)) >>= fun v => pure (Next.value v)) w) = _
    rw [Sem.run_bind, this]; rfl
  · -- not
    rename_i ty x y
    simp only [pureA] at hv
    split at hv
    · rename_i b hb
      simp only [Option.some.injEq] at hv; subst hv
      have h1 := ev_sound hG hok hf hb
      simp only [VR] at h1
      exact ⟨.bool !b, by simp [VR], fun w => by simp [execOp, h1, Op.unary]⟩
    · cases hv
  · rename_i ty x y
    simp only [pureA] at hv
    split at hv
    · rename_i k n hb
      simp only [Option.some.injEq] at hv; subst hv
      have h1 := ev_sound hG hok hf hb
      simp only [VR] at h1
      exact ⟨.int k (k.wrap (-n)), by simp [VR], fun w => by simp [execOp, h1, Op.unary, Op.intArith]⟩
    · cases hv
  · -- conv
    rename_i src dst' x k y
    simp only [Bool.and_eq_true] at hok
    obtain ⟨⟨h1, h2⟩, h3⟩ := hok
    simp only [pureA] at hv
    split at hv
    · rename_i k' n hx
      obtain rfl := Option.some.inj hv
      have h4 := ev_sound hG h3 hf hx
      simp only [VR] at h4
      unfold isAnyIntT at h1
      unfold isIntT at h2
      split at h1
      · rename_i ks hs
        split at h2
        · rename_i kd hd
          simp only [decide_eq_true_eq] at h2; subst h2
          exact ⟨_, vr_int _ _, fun w => by simp [execOp, convert, run_underlying' hs, run_underlying' hd, h4, Conv.intToInt]⟩
        · cases h2
      · cases h1
    · cases hv
  · -- convS
    rename_i src dst' x y
    simp only [Bool.and_eq_true] at hok
    obtain ⟨⟨h1, h2⟩, h3⟩ := hok
    simp only [pureA] at hv
    split at hv
    · rename_i s hx
      obtain rfl := Option.some.inj hv
      have h4 := ev_sound hG h3 hf hx
      simp only [VR] at h4
      unfold isStrT at h1 h2
      split at h1
      · rename_i hs
        split at h2
        · rename_i hd
          exact ⟨_, vr_str _, fun w => by simp [execOp, convert, run_underlying' hs, run_underlying' hd, h4]⟩
        · cases h2
      · cases h1
    · cases hv
  · -- mkIfc
    rename_i t x t' y
    simp only [Bool.and_eq_true, decide_eq_true_eq] at hok
    obtain ⟨⟨rfl, h1⟩, h2⟩ := hok
    simp only [pureA, Option.map_eq_some_iff] at hv
    obtain ⟨u, hu, rfl⟩ := hv
    have h4 := ev_sound hG h2 hf hu
    refine ⟨.iface t (a.eval x), by simp only [VR]; exact ⟨_, rfl, h4⟩, fun w => ?_⟩
    unfold notIfcT at h1
    split at h1
    · cases h1
    · rename_i d hne hd
      cases d <;> first
        | exact absurd rfl (hne _)
        | simp [execOp, Instr.makeInterface, run_underlying' hd]
    · cases h1
  · -- mkFn
    rename_i f first caps f' l
    simp only [Bool.and_eq_true, decide_eq_true_eq] at hok
    obtain ⟨⟨rfl, h1⟩, h2⟩ := hok
    simp only [pureA, Option.map_eq_some_iff] at hv
    obtain ⟨vs, hvs, rfl⟩ := hv
    have h4 := evs_sound hG h2 hf hvs
    have h5 : first = #[] := by simpa using h1
    subst h5
    exact ⟨.func (.func f) #[] (caps.map a.eval), by simp only [VR]; exact ⟨_, rfl, by simpa using h4⟩, fun w => by simp [execOp, Instr.makeFunc]⟩
  · -- slc
    rename_i t x lo hi sz y lo' hi'
    simp only [Bool.and_eq_true] at hok
    obtain ⟨⟨⟨h1, h2⟩, h3⟩, h4⟩ := hok
    simp only [pureA, Option.bind_eq_some_iff] at hv
    obtain ⟨u, hu, hv⟩ := hv
    have hx := ev_sound hG h2 (hf.sub fun n hn => by simp [AOp.tmps, hn]) hu
    have hfl : FOn m fr a (optT lo') := hf.sub fun n hn => by simp [AOp.tmps, hn]
    have hfh : FOn m fr a (optT hi') := hf.sub fun n hn => by simp [AOp.tmps, hn]
    have fin : ∀ (l h : Option AV), OptEv fr lo' l → OptEv fr hi' h → slcA sz u l h = some v →
        ∃ cv, VR m v cv ∧ ∀ w, (execOp a.eval { dst, op := .slice t x lo hi none, type, pos, after, guard }).run P w = .ok (.value cv) w := fun l h hl hh hr => by
      obtain ⟨cv, h5, h6⟩ := slc_sound (P := P) h1 hx (optOpd_sound hG h3 hfl hl) (optOpd_sound hG h4 hfh hh) hr
      exact ⟨cv, h5, fun w => by simp [execOp, h6]⟩
    cases lo' <;> cases hi'
    · exact fin none none rfl rfl hv
    · simp only [Option.bind_eq_some_iff] at hv
      obtain ⟨h, hh, hv⟩ := hv
      exact fin none (some h) rfl ⟨h, hh, rfl⟩ hv
    · simp only [Option.bind_eq_some_iff] at hv
      obtain ⟨l, hl, hv⟩ := hv
      exact fin (some l) none ⟨l, hl, rfl⟩ rfl hv
    · simp only [Option.bind_eq_some_iff] at hv
      obtain ⟨l, hl, h, hh, hv⟩ := hv
      exact fin (some l) (some h) ⟨l, hl, rfl⟩ ⟨h, hh, rfl⟩ hv
  · -- fieldA
    rename_i s x f off y
    simp only [Bool.and_eq_true] at hok
    obtain ⟨h1, h2⟩ := hok
    simp only [pureA] at hv
    split at hv
    · rename_i i o hx
      obtain rfl := Option.some.inj hv
      have h4 := ev_sound hG h2 hf hx
      simp only [VR] at h4
      obtain ⟨loc, hm, h5⟩ := h4
      unfold fieldB at h1
      split at h1
      · rename_i fields hu
        split at h1
        · rename_i fd hfd
          simp only [Bool.and_eq_true, decide_eq_true_eq] at h1
          obtain ⟨rfl, h6⟩ := h1
          split at h6
          · rename_i n hn
            simp only [decide_eq_true_eq] at h6
            refine ⟨.pointer (some ⟨loc.b, loc.o + (o + fd.offset), none⟩), by simp only [VR]; exact ⟨loc, hm, rfl⟩, fun w => ?_⟩
            have hsz : ∀ w, (sizeOf fd.type).run P w = .ok n w := fun w => by
              unfold sizeB at hn
              cases hi : P.info? fd.type with
              | none => rw [hi] at hn; cases hn
              | some inf => rw [hi] at hn; simp at hn; simp [sizeOf, typeInfo, hi, hn]
            have hadd : (⟨loc.b, loc.o + o, none⟩ : Addr).add fd.offset = ⟨loc.b, loc.o + (o + fd.offset), none⟩ := by
              unfold Addr.add
              split
              · rename_i h0; rw [h0]; rfl
              · simp [Nat.add_assoc]
            simp only [execOp, Instr.fieldAt, fieldPlace, h5, Instr.sureAddr]
            simp [run_underlying' hu, hfd, hsz, hadd, show ¬ n = 0 by omega]
          · cases h6
        · cases h1
      · cases h1
    · cases hv
  · -- field
    rename_i s x f off n ag y
    simp only [Bool.and_eq_true] at hok
    obtain ⟨h1, h2⟩ := hok
    simp only [pureA] at hv
    split at hv
    · rename_i l hx
      have h4 := ev_sound hG h2 hf hx
      simp only [VR] at h4
      obtain ⟨cs, h5, h6, h7⟩ := h4
      unfold fieldV at h1
      split at h1
      · rename_i fields hu
        split at h1
        · rename_i fd hfd
          simp only [Bool.and_eq_true, decide_eq_true_eq] at h1
          obtain ⟨⟨rfl, h8⟩, h9⟩ := h1
          have hsz : ∀ w, (sizeOf fd.type).run P w = .ok n w := fun w => by
            unfold sizeB at h9
            cases hi : P.info? fd.type with
            | none => rw [hi] at h9; cases h9
            | some inf => rw [hi] at h9; simp at h9; simp [sizeOf, typeInfo, hi, h9]
          have hag : ∀ w, (isAgg fd.type).run P w = .ok ag w := fun w => by
            unfold isAggB at h8
            unfold isAgg
            cases hq : P.underlying fd.type with
            | none => rw [hq] at h8; cases h8
            | some d =>
              rw [hq] at h8
              simp only [Sem.run_bind, run_underlying' hq, Result.andThen]
              cases d <;> simp at h8 <;> subst h8 <;> rfl
          cases ag with
          | true =>
            simp only [if_true] at hv
            split at hv
            · rename_i hle
              obtain rfl := Option.some.inj hv
              refine ⟨.agg (cs.extract fd.offset (fd.offset + n)), ?_, fun w => ?_⟩
              · simp only [VR]
                refine ⟨_, rfl, ?_, ?_⟩
                · have := (h6.drop fd.offset).take n
                  simpa [Array.toList_extract, List.extract_eq_take_drop] using this
                · rw [List.all_eq_true] at h7 ⊢; exact fun y hy => h7 y (List.mem_of_mem_drop (List.mem_of_mem_take hy))
              · simp only [execOp, Instr.field, h5]
                simp [run_underlying' hu, hfd, part, hag, hsz, asAgg]
            · cases hv
          | false =>
            simp only [Bool.false_eq_true, if_false] at hv
            obtain ⟨cv, h10, h11⟩ := h6.get hv
            refine ⟨cv, h11, fun w => ?_⟩
            simp only [execOp, Instr.field, h5]
            have : cs[fd.offset]? = some cv := by simpa using h10
            simp [run_underlying' hu, hfd, part, hag, asAgg, this]
        · cases h1
      · cases h1
    · cases hv
  · -- indexA
    rename_i t x i sz y j
    simp only [Bool.and_eq_true] at hok
    obtain ⟨⟨h1, h2⟩, h3⟩ := hok
    simp only [pureA, Option.bind_eq_some_iff] at hv
    obtain ⟨u, hu, k, hk, hv⟩ := hv
    have h4 := ev_sound hG h2 (hf.sub fun n hn => by simp [AOp.tmps, hn]) hu
    have h5 := ev_sound hG h3 (hf.sub fun n hn => by simp [AOp.tmps, hn]) hk
    unfold indexAA at hv
    split at hv
    · rename_i id off sz' len cap kk n
      split at hv
      · rename_i hc
        obtain ⟨rfl, h6, h7⟩ := hc
        obtain rfl := Option.some.inj hv
        simp only [VR] at h4 h5
        obtain ⟨loc, c, ad, hm, e, had, h8, h9, h10, h11⟩ := h4
        have hc0 : 0 < c := by omega
        rw [had hc0] at e
        refine ⟨.pointer (some ⟨loc.b, loc.o + (off + n.toNat * sz'), none⟩), by simp only [VR]; exact ⟨loc, hm, rfl⟩, fun w => ?_⟩
        unfold okSlT at h1
        split at h1
        · rename_i el hel
          simp only [Bool.and_eq_true, decide_eq_true_eq] at h1
          have hsz : ∀ w, (sizeOf el).run P w = .ok sz' w := fun w => by
            have h1 := h1.1
            unfold sizeB at h1
            cases hi : P.info? el with
            | none => rw [hi] at h1; cases h1
            | some inf => rw [hi] at h1; simp at h1; simp [sizeOf, typeInfo, hi, h1]
          have hadd : (⟨loc.b, loc.o + off, none⟩ : Addr).add (n.toNat * sz') = ⟨loc.b, loc.o + (off + n.toNat * sz'), none⟩ := by
            unfold Addr.add
            split
            · rename_i h0; rw [h0]; rfl
            · simp [Nat.add_assoc]
          simp only [execOp, Instr.indexAt, e, h5]
          simp [run_underlying' hel, asIntOf, h6, h7, hsz, hadd]
        · cases h1
      · cases hv
    · cases hv
  · -- index
    rename_i t x i y j
    simp only [Bool.and_eq_true] at hok
    obtain ⟨⟨h1, h2⟩, h3⟩ := hok
    simp only [pureA] at hv
    split at hv
    · rename_i s k n hs hn
      have h4 := ev_sound hG h2 (hf.sub fun n hn => by simp [AOp.tmps, hn]) hs
      have h5 := ev_sound hG h3 (hf.sub fun n hn => by simp [AOp.tmps, hn]) hn
      simp only [VR] at h4 h5
      split at hv
      · rename_i h0
        simp only [Option.map_eq_some_iff] at hv
        obtain ⟨b, hb, rfl⟩ := hv
        refine ⟨_, vr_int _ _, fun w => ?_⟩
        unfold isStrT at h1
        split at h1
        · rename_i hu
          have hget : (⟨⟨s⟩⟩ : ByteArray)[n.toNat]? = some b := by
            rw [getElem?_def]
            have hlt : n.toNat < s.length := (List.getElem?_eq_some_iff.1 hb).1
            have hlt' : n.toNat < (⟨⟨s⟩⟩ : ByteArray).size := hlt
            rw [dif_pos hlt']
            congr 1
            exact (List.getElem?_eq_some_iff.1 hb).2
          simp only [execOp, Instr.index, h4, h5]
          simp [run_underlying' hu, asIntOf, h0, hget]
        · cases h1
      · cases hv
    · cases hv
  · -- extract
    rename_i x i y j
    simp only [Bool.and_eq_true, decide_eq_true_eq] at hok
    obtain ⟨rfl, h2⟩ := hok
    simp only [pureA] at hv
    split at hv
    · rename_i l hl
      have h4 := ev_sound hG h2 hf hl
      simp only [VR] at h4
      obtain ⟨cs, h5, h6⟩ := h4
      obtain ⟨cv, h7, h8⟩ := h6.get hv
      refine ⟨cv, h8, fun w => ?_⟩
      have : cs[i]? = some cv := by simpa using h7
      simp [execOp, Instr.extract, h5, this]
    · cases hv
  · -- len
    rename_i args ts st y
    split at hok
    · rename_i x t hargs hts
      simp only [Bool.and_eq_true] at hok
      obtain ⟨h1, h2⟩ := hok
      have ha : args = #[x] := by rw [← Array.toArray_toList (xs := args), hargs]
      have ht : ts = #[t] := by rw [← Array.toArray_toList (xs := ts), hts]
      subst ha; subst ht
      simp only [pureA] at hv
      split at hv
      · rename_i p sz n cap hx
        split at hv
        · rename_i hst; subst hst
          obtain rfl := Option.some.inj hv
          have h4 := ev_sound hG h2 hf hx
          refine ⟨_, vr_int _ _, fun w => ?_⟩
          simp only [Bool.false_eq_true, if_false] at h1
          split at h1
          · rename_i e hu
            have : ∃ ad c, a.eval x = .slice ad n c := by
              cases p with
              | none => simp only [VR] at h4; obtain ⟨h4, rfl⟩ := h4; exact ⟨_, _, h4⟩
              | some q => obtain ⟨i, off⟩ := q; simp only [VR] at h4; obtain ⟨_, _, _, _, h4, _⟩ := h4; exact ⟨_, _, h4⟩
            obtain ⟨ad, c, e⟩ := this
            simp [execOp, resolve, invoke, builtin, Builtin.len_, run_underlying' hu, e, goInt]
          · cases h1
        · cases hv
      · rename_i s hx
        split at hv
        · rename_i hst; subst hst
          obtain rfl := Option.some.inj hv
          have h4 := ev_sound hG h2 hf hx
          simp only [VR] at h4
          refine ⟨_, vr_int _ _, fun w => ?_⟩
          simp only [if_true] at h1
          unfold isStrT at h1
          split at h1
          · rename_i hu
            have : (⟨⟨s⟩⟩ : ByteArray).size = s.length := rfl
            simp [execOp, resolve, invoke, builtin, Builtin.len_, run_underlying' hu, h4, goInt, this]
          · cases h1
        · cases hv
      · cases hv
    · cases hok
  · -- min
    rename_i args ts y y'
    split at hok
    · rename_i x x' hargs
      simp only [Bool.and_eq_true] at hok
      have ha : args = #[x, x'] := by rw [← Array.toArray_toList (xs := args), hargs]
      subst ha
      simp only [pureA] at hv
      split at hv
      · rename_i k n k' n' h1 h2
        split at hv
        · rename_i hk; subst hk
          obtain rfl := Option.some.inj hv
          have h4 := ev_sound hG hok.1 (hf.sub fun n hn => by simp [AOp.tmps, hn]) h1
          have h5 := ev_sound hG hok.2 (hf.sub fun n hn => by simp [AOp.tmps, hn]) h2
          simp only [VR] at h4 h5
          exact ⟨_, vr_int _ _, fun w => by simp [execOp, resolve, invoke, builtin, Builtin.min_, Builtin.min2, h4, h5]⟩
        · cases hv
      · cases hv
    · cases hok
  · -- max
    rename_i args ts y y'
    split at hok
    · rename_i x x' hargs
      simp only [Bool.and_eq_true] at hok
      have ha : args = #[x, x'] := by rw [← Array.toArray_toList (xs := args), hargs]
      subst ha
      simp only [pureA] at hv
      split at hv
      · rename_i k n k' n' h1 h2
        split at hv
        · rename_i hk; subst hk
          obtain rfl := Option.some.inj hv
          have h4 := ev_sound hG hok.1 (hf.sub fun n hn => by simp [AOp.tmps, hn]) h1
          have h5 := ev_sound hG hok.2 (hf.sub fun n hn => by simp [AOp.tmps, hn]) h2
          simp only [VR] at h4 h5
          exact ⟨_, vr_int _ _, fun w => by simp [execOp, resolve, invoke, builtin, Builtin.max_, Builtin.max2, h4, h5]⟩
        · cases hv
      · cases hv
    · cases hok
  · cases hok
end
end Go.Proofs.YtlecbjcloleiiaaDoor.Ram

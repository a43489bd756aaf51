import Derived.Test.YtlecbjcloleiiaaDoorValC
/-! States; what asks nothing of memory. -/
namespace Go.Proofs.YtlecbjcloleiiaaDoor.Val
open Go Go.Proofs.YtlecbjcloleiiaaDoor.Ram

inductive Rt where
  | slot (n : Nat)
  | part (n j : Nat)
  | cell (i off : Nat)
def Rt.off (d : Nat) : Rt → Prop
  | .slot n => n ≠ d
  | .part n _ => n ≠ d
  | .cell _ _ => True
def Has (st : VS) : Rt → Prop
  | .slot n => (n, Tag.own) ∈ st.w
  | .part n j => (n, Tag.comp j) ∈ st.w
  | .cell i off => ownAt st.h i off = true
/-- A part, of a tuple, or a nil one of an aggregate. -/
def Pt (o : Option AV) (l : List AV) (a : AV) : Prop := o = some (.tup l) ∨ (o = some (.agg l) ∧ ∃ s c, a = .sl none s 0 c)
theorem Pt.uniq {o : Option AV} {l l' : List AV} {a a' : AV} (h : Pt o l a) (k : Pt o l' a') : l = l' := by
  rcases h with h | ⟨h, _⟩ <;> rcases k with k | ⟨k, _⟩ <;> (rw [h] at k; first | (cases k; rfl) | cases k)
def At (fr : Fr) (H : AH) (φ : Bk) : Rt → AV → Prop
  | .slot n, a => Fr.get fr n = some a
  | .part n j, a => ∃ l, Pt (Fr.get fr n) l a ∧ l[j]? = some a
  | .cell i off, a => ∃ r cs ro, φ i = some r ∧ H.get r = some (.cells cs ro) ∧ cs[off]? = some a
def headId : AV → Option Nat
  | .sl (some (r, _)) _ _ _ => some r
  | _ => none
/-- A list that may be appended to. -/
def Can (G : Fz) (H : AH) (W : Nat → Prop) (a : AV) : Prop :=
  (∃ s c, a = .sl none s 0 c) ∨ ∃ r o sz len c pre, a = .sl (some (r, o)) sz len c ∧ W r ∧ G r = some pre ∧ pre.length = o + len * sz ∧
    (c = none → H.tip r = true ∧ H.get r = some (.cells pre true)) ∧ ∀ d, c = some d → len ≤ d ∧ ∃ l, H.get r = some (.cells l false) ∧ pre <+: l ∧ o + d * sz ≤ l.length
inductive MapV (φ : Bk) (G : Fz) : List (List UInt8 × V) → List (List UInt8 × AV) → Prop where
  | nil : MapV φ G [] []
  | cons {s : List UInt8} {v : V} {a : AV} {l : List (List UInt8 × V)} {l' : List (List UInt8 × AV)} (hv : VRel φ G v a) (h : MapV φ G l l') : MapV φ G ((s, v) :: l) ((s, a) :: l')
theorem MapV.mono {φ φ' : Bk} {G G' : Fz} (h1 : BkLe φ φ') (h2 : FzLe G G') {l : List (List UInt8 × V)} {l' : List (List UInt8 × AV)} (h : MapV φ G l l') : MapV φ' G' l l' := by
  induction h with
  | nil => exact .nil
  | cons hv _ ih => exact .cons (hv.mono h1 h2) ih
theorem MapV.clo {n : Nat} {φ φ' : Bk} {G : Fz} (h1 : ∀ i r, i < 100 ∨ i < n → φ i = some r → φ' i = some r) {l : List (List UInt8 × V)} {l' : List (List UInt8 × AV)} (h : MapV φ G l l') (hc : ∀ p ∈ l, V.clo n p.2 = true) : MapV φ' G l l' := by
  induction h with
  | nil => exact .nil
  | cons hv _ ih => exact .cons (hv.clo h1 (hc _ List.mem_cons_self)) (ih fun p hp => hc p (List.mem_cons_of_mem _ hp))
theorem MapV.clo_of {n : Nat} {φ : Bk} {G : Fz} (h1 : ∀ i r, φ i = some r → i < n) {l : List (List UInt8 × V)} {l' : List (List UInt8 × AV)} (h : MapV φ G l l') : ∀ p ∈ l, V.clo n p.2 = true := by
  induction h with
  | nil => intro p hp; cases hp
  | cons hv _ ih =>
    intro p hp
    rcases List.mem_cons.1 hp with rfl | hp
    · exact hv.clo_of h1
    · exact ih p hp
def ObjV (φ : Bk) (G : Fz) (H : AH) (r : Nat) : VObj → Prop
  | .cells l _ => ∃ cs, H.get r = some (.cells cs false) ∧ VRels φ G l cs
  | .map l => ∃ l', H.get r = some (.map l' false) ∧ MapV φ G l l'
structure Rel (φ : Bk) (G : Fz) (W : Nat → Prop) (st : VS) (fr : Fr) (H : AH) : Prop where
  slots : ∀ n v, VFr.get st.f n = some v → ∃ a, Fr.get fr n = some a ∧ VRel φ G v a
  objs : ∀ i o, st.h.get i = some o → i < st.h.next ∧ ∃ r, φ i = some r ∧ W r ∧ G r = none ∧ ObjV φ G H r o
  inj : ∀ i j r oi oj, st.h.get i = some oi → st.h.get j = some oj → φ i = some r → φ j = some r → i = j
  dom : ∀ i r, φ i = some r → i < st.h.next
  glob : ∀ g, g < 100 → φ g = some g
  n100 : 100 ≤ st.h.next ∧ 100 ≤ H.next
  fz : ∀ r pre, G r = some pre → r < H.next ∧ ∃ l ro, H.get r = some (.cells l ro) ∧ pre <+: l
  win : ∀ r, W r → r < H.next
  rt : ∀ R, Has st R → ∃ a, At fr H φ R a ∧ Can G H W a
  rtx : ∀ R R' a a' r, Has st R → Has st R' → At fr H φ R a → At fr H φ R' a' → headId a = some r → headId a' = some r → R = R'
  alias : ∀ n i off, (n, Tag.cell i off) ∈ st.w → ownAt st.h i off = true → ∃ a, Fr.get fr n = some a ∧ At fr H φ (.cell i off) a
structure Frm (φ : Bk) (G : Fz) (W : Nat → Prop) (H : AH) (φ' : Bk) (G' : Fz) (W' : Nat → Prop) (H' : AH) : Prop where
  next : H.next ≤ H'.next
  phi : BkLe φ φ'
  fz : FzLe G G'
  out : ∀ r, r < H.next → ¬ W r → H'.get r = H.get r ∧ H'.tip r = H.tip r ∧ G' r = G r
  win : ∀ r, W' r → W r ∨ H.next ≤ r
theorem Frm.refl (φ : Bk) (G : Fz) (W : Nat → Prop) (H : AH) : Frm φ G W H φ G W H := ⟨Nat.le_refl _, BkLe.refl _, FzLe.refl _, fun _ _ _ => ⟨rfl, rfl, rfl⟩, fun _ h => .inl h⟩
theorem Frm.trans {φ φ1 φ2 : Bk} {G G1 G2 : Fz} {W W1 W2 : Nat → Prop} {H H1 H2 : AH} (h : Frm φ G W H φ1 G1 W1 H1) (k : Frm φ1 G1 W1 H1 φ2 G2 W2 H2) : Frm φ G W H φ2 G2 W2 H2 where
  next := Nat.le_trans h.next k.next
  phi := h.phi.trans k.phi
  fz := h.fz.trans k.fz
  out := fun r hr hw => by
    obtain ⟨h1, h2, h3⟩ := h.out r hr hw
    obtain ⟨k1, k2, k3⟩ := k.out r (Nat.lt_of_lt_of_le hr h.next) (fun hw1 => (h.win r hw1).elim hw (fun h4 => by omega))
    exact ⟨k1.trans h1, k2.trans h2, k3.trans h3⟩
  win := fun r hr => (k.win r hr).elim (fun h1 => h.win r h1) fun h1 => .inr (Nat.le_trans h.next h1)
section
variable {φ : Bk} {G : Fz} {W : Nat → Prop} {st : VS} {fr : Fr} {H : AH}

theorem Rel.ev (h : Rel φ G W st fr H) {x : Opd} {v : V} (hv : evV st.f x = some v) : ∃ a, x.ev fr = some a ∧ VRel φ G v a := by
  cases x with
  | t n => exact h.slots n v hv
  | c a => exact ⟨a, rfl, ofAV_rel hv⟩
  | g n =>
    simp only [evV] at hv
    split at hv
    · rename_i hn
      obtain rfl := Option.some.inj hv
      exact ⟨_, rfl, by simp only [VRel]; exact ⟨n, h.glob n hn, rfl⟩⟩
    · cases hv
  | f n => simp only [evV, Option.some.injEq] at hv; subst hv; exact ⟨_, rfl, by simp [VRel, VRels]⟩
theorem Rel.evs (h : Rel φ G W st fr H) : ∀ {l : List Opd} {vs : List V}, evsV st.f l = some vs → ∃ as', evs fr l = some as' ∧ VRels φ G vs as'
  | [], _, hv => by simp only [evsV, Option.some.injEq] at hv; subst hv; exact ⟨[], rfl, by simp [VRels]⟩
  | x :: l, _, hv => by
    simp only [evsV, Option.bind_eq_some_iff, Option.map_eq_some_iff] at hv
    obtain ⟨v, h1, vs, h2, rfl⟩ := hv
    obtain ⟨a, h3, h4⟩ := h.ev h1
    obtain ⟨bs, h5, h6⟩ := h.evs h2
    exact ⟨a :: bs, by simp [Ram.evs, h3, h5], by simp only [VRels]; exact ⟨a, bs, rfl, h4, h6⟩⟩
inductive PartsRel (φ : Bk) (G : Fz) : List (Nat × Nat × V) → List (Nat × Nat × AV) → Prop where
  | nil : PartsRel φ G [] []
  | cons {a b : Nat} {v : V} {x : AV} {l : List (Nat × Nat × V)} {l' : List (Nat × Nat × AV)} (hv : VRel φ G v x) (h : PartsRel φ G l l') : PartsRel φ G ((a, b, v) :: l) ((a, b, x) :: l')
theorem Rel.parts (h : Rel φ G W st fr H) : ∀ {l : List (Nat × Nat × Opd)} {ps : List (Nat × Nat × V)}, partsV st.f l = some ps → ∃ qs, evParts fr l = some qs ∧ PartsRel φ G ps qs
  | [], _, hv => by simp only [partsV, Option.some.injEq] at hv; subst hv; exact ⟨[], rfl, .nil⟩
  | (a, b, x) :: l, _, hv => by
    simp only [partsV, Option.bind_eq_some_iff, Option.map_eq_some_iff] at hv
    obtain ⟨v, h1, vs, h2, rfl⟩ := hv
    obtain ⟨y, h3, h4⟩ := h.ev h1
    obtain ⟨bs, h5, h6⟩ := h.parts h2
    exact ⟨(a, b, y) :: bs, by simp [evParts, h3, h5], .cons h4 h6⟩
theorem fill_rel {ps : List (Nat × Nat × V)} {qs : List (Nat × Nat × AV)} (hp : PartsRel φ G ps qs) : ∀ {z r : List V} {y : List AV}, VRels φ G z y → fillV z ps = some r → ∃ s, fillA y qs = some s ∧ VRels φ G r s := by
  induction hp with
  | nil => intro z r y hz h; simp only [fillV, Option.some.injEq] at h; subst h; exact ⟨y, rfl, hz⟩
  | cons hv _ ih =>
    intro z r y hz h
    simp only [fillV] at h
    split at h
    · rename_i hc
      have hcl := hv.cells.length
      obtain ⟨s, h1, h2⟩ := ih (((hz.take _).append hv.cells).append (hz.drop _)) h
      refine ⟨s, ?_, h2⟩
      simp only [fillA]
      rw [if_pos ⟨hcl.trans hc.1, by rw [hz.length]; exact hc.2.1, by rw [hv.cells.one]; exact hc.2.2⟩]
      exact h1
    · cases h
theorem scal_rel {v : V} {a b : AV} (hs : scal v = some b) (h : VRel φ G v a) : a = b := by
  cases v <;> simp only [scal, Option.some.injEq, reduceCtorEq] at hs <;> (subst hs; simpa only [VRel] using h)
theorem natV_rel {v : V} {a : AV} {n : Nat} (h : VRel φ G v a) (hn : natV v = some n) : natOf a = some n := by
  cases v <;> simp only [natV, reduceCtorEq] at hn
  simp only [VRel] at h; subst h; exact hn
def OptRel (φ : Bk) (G : Fz) : Option V → Option AV → Prop
  | none, none => True
  | some x, some y => VRel φ G x y
  | _, _ => False
theorem slc_rel {sz : Nat} {v w : V} {a : AV} {lo hi : Option V} {la ha : Option AV} (h : VRel φ G v a)
    (hlo : OptRel φ G lo la) (hhi : OptRel φ G hi ha) (hs : slcV sz v lo hi = some w) : ∃ b, slcA sz a la ha = some b ∧ VRel φ G w b := by
  have bnd : ∀ {d : Nat} {x : Option V} {y : Option AV} {n : Nat}, OptRel φ G x y → bndV d x = some n → bndA d y = some n := fun {d x y n} h1 h2 => by
    cases x <;> cases y <;> first | exact h1.elim | exact h2 | skip
    exact natV_rel h1 h2
  cases v <;> simp only [slcV, reduceCtorEq] at hs
  · rename_i s
    simp only [VRel] at h; subst h
    simp only [Option.bind_eq_some_iff] at hs
    obtain ⟨l, h1, u, h2, h3⟩ := hs
    split at h3
    · rename_i hc
      obtain rfl := Option.some.inj h3
      refine ⟨_, ?_, (by simp only [VRel]; rfl)⟩
      simp only [slcA, bnd hlo h1, bnd hhi h2, Option.bind_some]
      rw [if_pos hc]
    · cases h3
  · rename_i sz' rows
    simp only [Option.bind_eq_some_iff] at hs
    obtain ⟨l, h1, u, h2, h3⟩ := hs
    split at h3
    · rename_i hc
      obtain ⟨h0, rfl, hlu, hu⟩ := hc
      obtain rfl := Option.some.inj h3
      simp only [VRel] at h
      rcases h with ⟨rfl, s, c, rfl⟩ | ⟨r, o, c, pre, rfl, h4, h5, h6⟩
      · simp at hu
        obtain rfl : u = 0 := hu
        obtain rfl : l = 0 := by omega
        refine ⟨nilSl sz', ?_, ?_⟩
        · simp only [slcA, bnd hlo h1]
          have := bnd hhi h2
          simp only [List.length_nil] at this
          rw [this]
          simp [h0]
        · simp only [VRel, nilSl]; exact .inl ⟨by simp, _, _, rfl⟩
      · have hmul : u * sz' ≤ rows.length * sz' := Nat.mul_le_mul_right _ hu
        have hmul2 : l * sz' ≤ u * sz' := Nat.mul_le_mul_right _ hlu
        have hsub : (u - l) * sz' = u * sz' - l * sz' := Nat.sub_mul _ _ _
        refine ⟨.sl (some (r, o + l * sz')) sz' (u - l) (c.map (· - l)), ?_, ?_⟩
        · simp only [slcA, bnd hlo h1, bnd hhi h2, Option.bind_some]
          rw [if_pos ⟨h0, trivial, hlu, hu⟩]
        · simp only [VRel]
          have hlen : ((rows.take u).drop l).length = u - l := by simp; omega
          refine .inr ⟨r, o + l * sz', c.map (· - l), pre, by rw [hlen], h4, by rw [hlen]; omega, ?_⟩
          have := (h6.take u).drop l
          rw [List.drop_drop] at this
          exact this
    · cases h3
theorem oev_rel (h : Rel φ G W st fr H) {x : Option Opd} {l : Option V} (hv : oev st.f x = some l) : ∃ la : Option AV, OptRel φ G l la ∧ (match x with | none => la = none | some y => ∃ b, y.ev fr = some b ∧ la = some b) := by
  cases x with
  | none => simp only [oev, Option.some.injEq] at hv; subst hv; exact ⟨none, trivial, rfl⟩
  | some y =>
    simp only [oev, Option.map_eq_some_iff] at hv
    obtain ⟨v, h1, rfl⟩ := hv
    obtain ⟨a, h2, h3⟩ := h.ev h1
    exact ⟨some a, h3, a, h2, rfl⟩

/-- A pure operation comes to the same in both machines. -/
theorem pure_rel (h : Rel φ G W st fr H) {op : AOp} (hp : op.isPure = true) {v : V} (hv : pureV st.f op = some v) : ∃ a, pureA fr op = some a ∧ VRel φ G v a := by
  cases op <;> first | (cases hp; done) | skip
  case mov x => exact h.ev hv
  case pick c a b =>
    simp only [pureV, pickV] at hv
    split at hv
    · rename_i hc
      obtain ⟨c', h1, h2⟩ := h.ev hc
      simp only [VRel] at h2; subst h2
      obtain ⟨a', h3, h4⟩ := h.ev hv
      exact ⟨a', by simp only [pureA, h1, h3], h4⟩
    · rename_i hc
      obtain ⟨c', h1, h2⟩ := h.ev hc
      simp only [VRel] at h2; subst h2
      obtain ⟨a', h3, h4⟩ := h.ev hv
      exact ⟨a', by simp only [pureA, h1, h3], h4⟩
    · cases hv
  case build zero parts =>
    simp only [pureV, Option.bind_eq_some_iff, Option.map_eq_some_iff] at hv
    obtain ⟨z, h1, ps, h2, l, h3, rfl⟩ := hv
    obtain ⟨qs, h4, h5⟩ := h.parts h2
    obtain ⟨s, h6, h7⟩ := fill_rel h5 (ofAVs_rel h1) h3
    exact ⟨.agg s, by simp [pureA, h4, h6], by simp only [VRel]; exact ⟨s, rfl, h7⟩⟩
  case nilchk x =>
    simp only [pureV, Option.bind_eq_some_iff] at hv
    obtain ⟨u, h1, h2⟩ := hv
    obtain ⟨a, h3, h4⟩ := h.ev h1
    cases u <;> simp only [nilchkV, reduceCtorEq] at h2
    · rename_i p
      cases p with
      | none => cases h2
      | some q =>
        obtain rfl := Option.some.inj h2
        obtain ⟨i, o⟩ := q
        have h5 := h4
        simp only [VRel] at h4
        obtain ⟨r, _, rfl⟩ := h4
        exact ⟨_, by simp only [pureA, h3], h5⟩
    · obtain rfl := Option.some.inj h2
      have h5 := h4
      simp only [VRel] at h4
      obtain ⟨r, o, pre, _, rfl, _⟩ := h4
      exact ⟨_, by simp only [pureA, h3], h5⟩
  case bin op x y =>
    simp only [pureV, Option.bind_eq_some_iff, binV] at hv
    obtain ⟨u, h1, w, h2, a, h3, b, h4, r, h5, h6⟩ := hv
    obtain ⟨a', k1, k2⟩ := h.ev h1
    obtain ⟨b', k3, k4⟩ := h.ev h2
    obtain rfl := scal_rel h3 k2
    obtain rfl := scal_rel h4 k4
    exact ⟨r, by simp [pureA, k1, k3, h5], ofAV_rel h6⟩
  case not x =>
    simp only [pureV, Option.bind_eq_some_iff] at hv
    obtain ⟨u, h1, h2⟩ := hv
    obtain ⟨a, h3, h4⟩ := h.ev h1
    cases u <;> simp only [notV, reduceCtorEq, Option.some.injEq] at h2
    subst h2
    simp only [VRel] at h4; subst h4
    refine ⟨_, ?_, (by simp only [VRel]; rfl)⟩
    simp only [pureA, h3]
  case neg x =>
    simp only [pureV, Option.bind_eq_some_iff] at hv
    obtain ⟨u, h1, h2⟩ := hv
    obtain ⟨a, h3, h4⟩ := h.ev h1
    cases u <;> simp only [negV, reduceCtorEq, Option.some.injEq] at h2
    subst h2
    simp only [VRel] at h4; subst h4
    refine ⟨_, ?_, (by simp only [VRel]; rfl)⟩
    simp only [pureA, h3]
  case conv k x =>
    simp only [pureV, Option.bind_eq_some_iff] at hv
    obtain ⟨u, h1, h2⟩ := hv
    obtain ⟨a, h3, h4⟩ := h.ev h1
    cases u <;> simp only [convV, reduceCtorEq, Option.some.injEq] at h2
    subst h2
    simp only [VRel] at h4; subst h4
    refine ⟨_, ?_, (by simp only [VRel]; rfl)⟩
    simp only [pureA, h3]
  case convS x =>
    simp only [pureV, Option.bind_eq_some_iff] at hv
    obtain ⟨u, h1, h2⟩ := hv
    obtain ⟨a, h3, h4⟩ := h.ev h1
    cases u <;> simp only [convSV, reduceCtorEq, Option.some.injEq] at h2
    subst h2
    simp only [VRel] at h4; subst h4
    refine ⟨_, ?_, (by simp only [VRel]; rfl)⟩
    simp only [pureA, h3]
  case mkIfc t x =>
    simp only [pureV, Option.map_eq_some_iff] at hv
    obtain ⟨u, h1, rfl⟩ := hv
    obtain ⟨a, h3, h4⟩ := h.ev h1
    exact ⟨.ifc t a, by simp [pureA, h3], by simp only [VRel]; exact ⟨a, rfl, h4⟩⟩
  case mkFn f caps =>
    simp only [pureV, Option.map_eq_some_iff] at hv
    obtain ⟨u, h1, rfl⟩ := hv
    obtain ⟨a, h3, h4⟩ := h.evs h1
    exact ⟨.fn f a, by simp [pureA, h3], by simp only [VRel]; exact ⟨a, rfl, h4⟩⟩
  case slc sz x lo hi =>
    simp only [pureV, Option.bind_eq_some_iff] at hv
    obtain ⟨u, h1, l, h2, m, h3, h4⟩ := hv
    obtain ⟨a, k1, k2⟩ := h.ev h1
    obtain ⟨la, k3, k4⟩ := oev_rel h h2
    obtain ⟨ha, k5, k6⟩ := oev_rel h h3
    obtain ⟨b, k7, k8⟩ := slc_rel k2 k3 k5 h4
    refine ⟨b, ?_, k8⟩
    simp only [pureA, k1, Option.bind_some]
    cases lo with
    | none =>
      obtain rfl := k4
      cases hi with
      | none => obtain rfl := k6; exact k7
      | some y => obtain ⟨c, k9, rfl⟩ := k6; simp only [k9, Option.bind_some]; exact k7
    | some z =>
      obtain ⟨e, k10, rfl⟩ := k4
      cases hi with
      | none => obtain rfl := k6; simp only [k10, Option.bind_some]; exact k7
      | some y => obtain ⟨c, k9, rfl⟩ := k6; simp only [k9, k10, Option.bind_some]; exact k7
  case fieldA off x =>
    simp only [pureV, Option.bind_eq_some_iff] at hv
    obtain ⟨u, h1, h2⟩ := hv
    obtain ⟨a, h3, h4⟩ := h.ev h1
    cases u <;> simp only [fieldAV, reduceCtorEq] at h2
    · rename_i p
      cases p with
      | none => cases h2
      | some q =>
        obtain ⟨i, o⟩ := q
        obtain rfl := Option.some.inj h2
        simp only [VRel] at h4
        obtain ⟨r, k1, rfl⟩ := h4
        refine ⟨.ptr (some (r, o + off)), ?_, (by simp only [VRel]; exact ⟨r, k1, rfl⟩)⟩
        simp only [pureA, h3]
    · obtain rfl := Option.some.inj h2
      simp only [VRel] at h4
      obtain ⟨r, o, pre, k1, rfl, k2⟩ := h4
      rename_i off'
      refine ⟨.ptr (some (r, o + off' + off)), ?_, (by simp only [VRel]; exact ⟨r, o, pre, k1, by rw [Nat.add_assoc], k2⟩)⟩
      simp only [pureA, h3]
  case field off n ag x =>
    simp only [pureV, Option.bind_eq_some_iff] at hv
    obtain ⟨u, h1, h2⟩ := hv
    obtain ⟨a, h3, h4⟩ := h.ev h1
    cases u <;> simp only [fieldV, reduceCtorEq] at h2
    rename_i l
    simp only [VRel] at h4
    obtain ⟨cs, rfl, h5⟩ := h4
    split at h2
    · rename_i hag
      split at h2
      · rename_i hle
        obtain rfl := Option.some.inj h2
        refine ⟨.agg ((cs.drop off).take n), by simp only [pureA, h3]; rw [if_pos hag, if_pos (by rw [h5.length]; exact hle)], by simp only [VRel]; exact ⟨_, rfl, (h5.drop off).take n⟩⟩
      · cases h2
    · rename_i hag
      obtain ⟨b, k1, k2⟩ := h5.get h2
      exact ⟨b, by simp only [pureA, h3]; rw [if_neg hag]; exact k1, k2⟩
  case indexA sz x i =>
    simp only [pureV, Option.bind_eq_some_iff] at hv
    obtain ⟨u, h1, w, h2, h3⟩ := hv
    obtain ⟨a, k1, k2⟩ := h.ev h1
    obtain ⟨b, k3, k4⟩ := h.ev h2
    unfold indexV at h3
    split at h3
    · rename_i sz' rows kk n
      split at h3
      · rename_i hc
        obtain ⟨rfl, h0⟩ := hc
        simp only [Option.map_eq_some_iff] at h3
        obtain ⟨row, h5, rfl⟩ := h3
        simp only [VRel] at k4; subst k4
        have hlt := (List.getElem?_eq_some_iff.1 h5).1
        simp only [VRel] at k2
        rcases k2 with ⟨rfl, _⟩ | ⟨r, o, c, pre, rfl, h6, h7, h8⟩
        · simp at h5
        · obtain ⟨h9, h10⟩ := h8.get h5
          refine ⟨.ptr (some (r, o + n.toNat * sz')), ?_, ?_⟩
          · simp only [pureA, k1, k3, Option.bind_some, indexAA]
            rw [if_pos ⟨trivial, h0, by omega⟩]
          · simp only [VRel]
            refine ⟨r, o + n.toNat * sz', pre, h6, rfl, ?_⟩
            rw [List.drop_drop] at h10
            rw [h9]; exact h10
      · cases h3
    · cases h3
  case index x i =>
    simp only [pureV, Option.bind_eq_some_iff] at hv
    obtain ⟨u, h1, w, h2, h3⟩ := hv
    obtain ⟨a, k1, k2⟩ := h.ev h1
    obtain ⟨b, k3, k4⟩ := h.ev h2
    unfold chrV at h3
    split at h3
    · rename_i s kk n
      simp only [VRel] at k2 k4
      subst k2; subst k4
      split at h3
      · rename_i h0
        simp only [Option.map_eq_some_iff] at h3
        obtain ⟨c, h5, rfl⟩ := h3
        exact ⟨.int .u8 c.toNat, by simp only [pureA, k1, k3]; rw [if_pos h0, h5]; rfl, by simp only [VRel]⟩
      · cases h3
    · cases h3
  case extract x i =>
    simp only [pureV, Option.bind_eq_some_iff] at hv
    obtain ⟨u, h1, h2⟩ := hv
    obtain ⟨a, h3, h4⟩ := h.ev h1
    cases u <;> simp only [extractV, reduceCtorEq] at h2
    simp only [VRel] at h4
    obtain ⟨cs, rfl, h5⟩ := h4
    obtain ⟨b, k1, k2⟩ := h5.get h2
    exact ⟨b, by simp only [pureA, h3]; exact k1, k2⟩
  case len s x =>
    simp only [pureV, Option.bind_eq_some_iff] at hv
    obtain ⟨u, h1, h2⟩ := hv
    obtain ⟨a, h3, h4⟩ := h.ev h1
    cases u <;> simp only [lenV, reduceCtorEq] at h2
    · split at h2
      · rename_i hs
        obtain rfl := Option.some.inj h2
        simp only [VRel] at h4; subst h4
        exact ⟨_, by simp only [pureA, h3]; rw [if_pos hs], by simp only [VRel]⟩
      · cases h2
    · split at h2
      · rename_i hs
        obtain rfl := Option.some.inj h2
        simp only [VRel] at h4
        rcases h4 with ⟨rfl, q, c, rfl⟩ | ⟨r, o, c, pre, rfl, _⟩
        · exact ⟨_, by simp only [pureA, h3]; rw [if_pos hs], by simp only [VRel]; rfl⟩
        · exact ⟨_, by simp only [pureA, h3]; rw [if_pos hs], by simp only [VRel]⟩
      · cases h2
  case minmax mx x y =>
    simp only [pureV, Option.bind_eq_some_iff] at hv
    obtain ⟨u, h1, w, h2, h3⟩ := hv
    obtain ⟨a, k1, k2⟩ := h.ev h1
    obtain ⟨b, k3, k4⟩ := h.ev h2
    unfold minmaxV at h3
    split at h3
    · simp only [VRel] at k2 k4
      subst k2; subst k4
      split at h3
      · rename_i hk
        obtain rfl := Option.some.inj h3
        exact ⟨_, by simp only [pureA, k1, k3]; rw [if_pos hk], by simp only [VRel]⟩
      · cases h3
    · cases h3
end
end Go.Proofs.YtlecbjcloleiiaaDoor.Val

import Derived.Test.YtlecbjcloleiiaaDoorValH
/-! Calls: what a call's machine sees, and what its caller has behind it. -/
namespace Go.Proofs.YtlecbjcloleiiaaDoor.Val
open Go Go.Proofs.YtlecbjcloleiiaaDoor.Ram

theorem vget_zip : ∀ (l : List V) (k n : Nat), VFr.get ((l.zipIdx k).map fun p => (p.2, p.1)) (k + n) = l[n]?
  | [], _, _ => rfl
  | x :: l, k, 0 => by simp [List.zipIdx_cons, VFr.get]
  | x :: l, k, n + 1 => by
    simp only [List.zipIdx_cons, List.map_cons, VFr.get]
    rw [if_neg (by omega), show k + (n + 1) = (k + 1) + n by omega, vget_zip l (k + 1) n]
    simp
theorem vget_frV (l : List V) (n : Nat) : VFr.get (frV l) n = l[n]? := by
  have := vget_zip l 0 n
  simpa [frV] using this
theorem get_zip' : ∀ (l : List AV) (k n : Nat), Fr.get ((l.zipIdx k).map fun p => (p.2, p.1)) (k + n) = l[n]?
  | [], _, _ => rfl
  | x :: l, k, 0 => by simp [List.zipIdx_cons, Fr.get]
  | x :: l, k, n + 1 => by
    simp only [List.zipIdx_cons, List.map_cons, Fr.get]
    rw [if_neg (by omega), show k + (n + 1) = (k + 1) + n by omega, get_zip' l (k + 1) n]
    simp
theorem get_frOf' (l : List AV) (n : Nat) : Fr.get (frOf l) n = l[n]? := by
  have := get_zip' l 0 n
  simpa [frOf] using this
/-- What one machine's oracle answers the other's answers too. -/
def VOSound (O : VOracle) (A : Oracle) : Prop := ∀ f vs rs S v rs' S', O f vs rs S = some (v, rs', S') → ∀ φ G W H as', Rel φ G W ⟨frV vs, rs.map fun k => (k, .own), S⟩ (frOf as') H → as'.length = vs.length →
  ∃ a H' φ' G' W', A f as' H = some (a, H') ∧ Rel φ' G' W' ⟨[(0, v)], gives 0 v rs', S'⟩ [(0, a)] H' ∧ Frm φ G W H φ' G' W' H'
section
variable {φ : Bk} {G : Fz} {W : Nat → Prop} {st : VS} {fr : Fr} {H : AH}

def stays (st : VS) (g : Option (Nat × Nat)) : Rt → Prop
  | .slot n => (n, Tag.own) ∈ gone st.w g
  | .part n j => (n, Tag.comp j) ∈ gone st.w g
  | .cell _ _ => False
theorem stays_has {g : Option (Nat × Nat)} {R : Rt} (h : stays st g R) : Has st R := by
  have sub : ∀ p, p ∈ gone st.w g → p ∈ st.w := fun p hp => by
    cases g with
    | none => exact hp
    | some q => exact (mem_ne.1 hp).1
  cases R with
  | slot n => exact sub _ h
  | part n j => exact sub _ h
  | cell i off => exact h.elim
theorem Rel.callee (h : Rel φ G W st fr H) {args : List Opd} {l : Option Nat} {vs : List V} {as' caps' : List AV} {caps : List V} (hv : evsV st.f args = some vs) (ha : Ram.evs fr args = some as') (hr : VRels φ G (vs ++ caps) (as' ++ caps')) (hc : caps = [] ∨ l = none) :
    Rel φ G (fun r => W r ∧ ¬ ∃ R x, stays st (goes st.w l args) R ∧ At fr H φ R x ∧ headId x = some r) ⟨frV (vs ++ caps), (fstL (goes st.w l args)).map fun k => (k, .own), st.h⟩ (frOf (as' ++ caps')) H := by
  -- the one right that goes along
  have going : ∀ k n, goes st.w l args = some (k, n) → (n, Tag.own) ∈ st.w ∧ ∃ x, Fr.get fr n = some x ∧ (as' ++ caps')[k]? = some x := fun k n hg => by
    unfold goes at hg
    simp only [Option.bind_eq_some_iff] at hg
    obtain ⟨k', rfl, n', ⟨o, h1, h2⟩, h3⟩ := hg
    split at h3
    · rename_i hw
      obtain ⟨rfl, rfl⟩ := Prod.mk.inj (Option.some.inj h3)
      refine ⟨by simpa using hw, ?_⟩
      cases o <;> simp only [tOf, reduceCtorEq, Option.some.injEq] at h2
      rename_i n0
      subst h2
      have key : ∀ (args : List Opd) (as' : List AV) (k : Nat), Ram.evs fr args = some as' → args[k]? = some (.t n0) → ∃ x, Fr.get fr n0 = some x ∧ as'[k]? = some x := by
        intro args
        induction args with
        | nil => intro as' k _ h; simp at h
        | cons o args ih =>
          intro as' k ha h
          simp only [Ram.evs, Option.bind_eq_some_iff, Option.map_eq_some_iff] at ha
          obtain ⟨x, h4, xs, h5, rfl⟩ := ha
          cases k with
          | zero => simp at h; subst h; exact ⟨x, h4, rfl⟩
          | succ k => simp at h; obtain ⟨y, h6, h7⟩ := ih xs k h5 h; exact ⟨y, h6, by simpa using h7⟩
      obtain ⟨x, h6, h7⟩ := key args as' k' ha h1
      refine ⟨x, h6, ?_⟩
      rw [List.getElem?_append_left (List.getElem?_eq_some_iff.1 h7).1]
      exact h7
    · cases h3
  have hhas : ∀ R, Has ⟨frV (vs ++ caps), (fstL (goes st.w l args)).map fun k => (k, .own), st.h⟩ R → (∃ k n, goes st.w l args = some (k, n) ∧ R = .slot k) ∨ ∃ i off, R = .cell i off ∧ Has st R := fun R hR => by
    cases R with
    | slot m =>
      simp only [Has, List.mem_map, Prod.mk.injEq, and_true] at hR
      obtain ⟨k, hk, rfl⟩ := hR
      cases e : goes st.w l args with
      | none => rw [e] at hk; cases hk
      | some q => obtain ⟨k', n⟩ := q; rw [e] at hk; simp only [fstL, List.mem_singleton] at hk; subst hk; exact .inl ⟨k, n, rfl, rfl⟩
    | part m j => simp [Has] at hR
    | cell i off => exact .inr ⟨i, off, rfl, hR⟩
  have hstay : ∀ k n, goes st.w l args = some (k, n) → ¬ stays st (goes st.w l args) (.slot n) := fun k n e hs => by
    rw [e] at hs
    exact (mem_ne.1 hs).2 rfl
  have hWc : ∀ R x r, Has st R → ¬ stays st (goes st.w l args) R → At fr H φ R x → headId x = some r → (W r ∧ ¬ ∃ R x, stays st (goes st.w l args) R ∧ At fr H φ R x ∧ headId x = some r) := fun R x r hR hs hx hr => by
    obtain ⟨y, h1, h2⟩ := h.rt R hR
    obtain rfl := at_uniq hx h1
    refine ⟨(h2.id hr).1, ?_⟩
    rintro ⟨R', x', h3, h4, h5⟩
    exact hs (by rw [h.rtx R R' x x' r hR (stays_has h3) hx h4 hr h5]; exact h3)
  have hcan : ∀ R x, Has st R → ¬ stays st (goes st.w l args) R → At fr H φ R x → Can G H W x → Can G H (fun r => W r ∧ ¬ ∃ R x, stays st (goes st.w l args) R ∧ At fr H φ R x ∧ headId x = some r) x := fun R x hR hs hx hcx => by
    rcases hcx with hcx | ⟨r, o, sz, len, c, pre, rfl, h1, h2⟩
    · exact .inl hcx
    · exact .inr ⟨r, o, sz, len, c, pre, rfl, hWc R _ r hR hs hx rfl, h2⟩
  refine ⟨fun n v hn => ?_, fun i o ho => ?_, h.inj, h.dom, h.glob, h.n100, h.fz, fun r hr => h.win r hr.1, fun R hR => ?_, fun R R' a a' r hR hR' hx hx' hr1 hr2 => ?_, fun n i off hm _ => ?_⟩
  · simp only at hn
    rw [vget_frV] at hn
    obtain ⟨a, h1, h2⟩ := hr.get hn
    exact ⟨a, by rw [get_frOf']; exact h1, h2⟩
  · obtain ⟨h1, r, h2, h3, h4, h5⟩ := h.objs i o ho
    refine ⟨h1, r, h2, ⟨h3, ?_⟩, h4, h5⟩
    rintro ⟨R, x, h6, h7, h8⟩
    obtain ⟨y, h9, h10⟩ := h.rt R (stays_has h6)
    obtain rfl := at_uniq h7 h9
    obtain ⟨_, pre, hp⟩ := h10.id h8
    rw [h4] at hp; cases hp
  · rcases hhas R hR with ⟨k, n, e, rfl⟩ | ⟨i, off, rfl, hc'⟩
    · obtain ⟨h1, x, h2, h3⟩ := going k n e
      obtain ⟨y, h4, h5⟩ := h.rt (.slot n) h1
      have : x = y := by simp only [At] at h4; rw [h2] at h4; exact Option.some.inj h4
      subst this
      exact ⟨x, by simp only [At]; rw [get_frOf']; exact h3, hcan (.slot n) x h1 (hstay k n e) h2 h5⟩
    · obtain ⟨y, h4, h5⟩ := h.rt (.cell i off) hc'
      exact ⟨y, h4, hcan (.cell i off) y hc' id h4 h5⟩
  · rcases hhas R hR with ⟨k, n, e, rfl⟩ | ⟨i, off, rfl, hc'⟩
    · rcases hhas R' hR' with ⟨k', n', e', rfl⟩ | ⟨i', off', rfl, hc''⟩
      · rw [e] at e'; obtain ⟨rfl, rfl⟩ := Prod.mk.inj (Option.some.inj e'); rfl
      · exfalso
        obtain ⟨h1, x, h2, h3⟩ := going k n e
        simp only [At] at hx
        rw [get_frOf', h3] at hx
        obtain rfl := Option.some.inj hx
        cases h.rtx (.slot n) (.cell i' off') x a' r h1 hc'' h2 hx' hr1 hr2
    · rcases hhas R' hR' with ⟨k', n', e', rfl⟩ | ⟨i', off', rfl, hc''⟩
      · exfalso
        obtain ⟨h1, x, h2, h3⟩ := going k' n' e'
        simp only [At] at hx'
        rw [get_frOf', h3] at hx'
        obtain rfl := Option.some.inj hx'
        cases h.rtx (.cell i off) (.slot n') a x r hc' h1 hx h2 hr1 hr2
      · exact h.rtx _ _ a a' r hc' hc'' hx hx' hr1 hr2
  · simp at hm
theorem mem_gives {d m : Nat} {v : V} {rs : List Nat} {t : Tag} (h : (m, t) ∈ gives d v rs) : m = d ∧ ((t = .own ∧ (0, Tag.own) ∈ gives 0 v rs) ∨ ∃ j, t = .comp j ∧ (0, Tag.comp j) ∈ gives 0 v rs) := by
  unfold gives at h ⊢
  split at h
  · simp only [List.mem_map, Prod.mk.injEq] at h
    obtain ⟨j, h1, rfl, rfl⟩ := h
    exact ⟨rfl, .inr ⟨j, rfl, List.mem_map.2 ⟨j, h1, rfl⟩⟩⟩
  · split at h
    · rename_i hc
      simp only [List.mem_singleton, Prod.mk.injEq] at h
      obtain ⟨rfl, rfl⟩ := h
      exact ⟨rfl, .inl ⟨rfl, by rw [if_pos hc]; simp⟩⟩
    · cases h
  · cases h
/-- The caller behind a call. -/
theorem Rel.back (h : Rel φ G W st fr H) {g : Option (Nat × Nat)} {φ' : Bk} {G' : Fz} {W' : Nat → Prop} {H' : AH} {v : V} {a : AV} {rs : List Nat} {S' : VH}
    (hres : Rel φ' G' W' ⟨[(0, v)], gives 0 v rs, S'⟩ [(0, a)] H') (hf : Frm φ G (fun r => W r ∧ ¬ ∃ R x, stays st g R ∧ At fr H φ R x ∧ headId x = some r) H φ' G' W' H') (d : Option Nat) :
    ∃ W2, Rel φ' G' W2 (match d with | some d => ⟨VFr.set st.f d v, gives d v rs ++ (gone st.w.noCell g).del d, S'⟩ | none => ⟨st.f, gone st.w.noCell g, S'⟩) (putD fr d (some a)) H' ∧ Frm φ G W H φ' G' W2 H' := by
  have ha : VRel φ' G' v a := by
    obtain ⟨b, h1, h2⟩ := hres.slots 0 v rfl
    obtain rfl : a = b := by simpa [Fr.get] using h1
    exact h2
  let Ws : Nat → Prop := fun r => W r ∧ ∃ R x, stays st g R ∧ At fr H φ R x ∧ headId x = some r
  have hsplit : ∀ r, W' r → ¬ Ws r := fun r h1 h2 => by
    rcases hf.win r h1 with h3 | h3
    · exact h3.2 h2.2
    · have := h.win r h2.1; omega
  have hout : ∀ r, Ws r → H'.get r = H.get r ∧ H'.tip r = H.tip r ∧ G' r = G r := fun r hr => hf.out r (h.win r hr.1) fun h1 => h1.2 hr.2
  have hfrm : Frm φ G W H φ' G' (fun r => W' r ∨ Ws r) H' := ⟨hf.next, hf.phi, hf.fz, fun r hr hw => hf.out r hr fun h1 => hw h1.1, fun r hr => by
    rcases hr with hr | hr
    · exact (hf.win r hr).imp (fun h => h.1) id
    · exact .inl hr.1⟩
  have gsub : ∀ p, p ∈ gone st.w.noCell g → p ∈ gone st.w g ∧ ∀ i off, p.2 ≠ .cell i off := fun p hp => by
    have nc : ∀ p, p ∈ st.w.noCell → p ∈ st.w ∧ ∀ i off, p.2 ≠ .cell i off := fun p hp => by
      simp only [Rts.noCell, List.mem_filter] at hp
      refine ⟨hp.1, fun i off e => ?_⟩
      rw [e] at hp; cases hp.2
    cases g with
    | none => exact nc p hp
    | some q =>
      obtain ⟨h1, h2⟩ := mem_ne.1 hp
      exact ⟨mem_ne.2 ⟨(nc p h1).1, h2⟩, (nc p h1).2⟩
  -- a staying right
  have stay : ∀ R, stays st g R → ∃ x, At fr H φ R x ∧ Can G' H' (fun r => W' r ∨ Ws r) x ∧ ∀ r, headId x = some r → Ws r := fun R hR => by
    obtain ⟨x, h1, h2⟩ := h.rt R (stays_has hR)
    refine ⟨x, h1, ?_, fun r hr => ⟨(h2.id hr).1, R, x, hR, h1, hr⟩⟩
    rcases h2 with h2 | ⟨r, o, sz, len, c, pre, rfl, k1, k2, k3, k4, k5⟩
    · exact .inl h2
    · have hws : Ws r := ⟨k1, R, _, hR, h1, rfl⟩
      obtain ⟨q1, q2, q3⟩ := hout r hws
      refine .inr ⟨r, o, sz, len, c, pre, rfl, .inr hws, by rw [q3]; exact k2, k3, fun e => ?_, fun d e => ?_⟩
      · obtain ⟨z1, z2⟩ := k4 e; exact ⟨q2.trans z1, q1.trans z2⟩
      · obtain ⟨z1, l, z2, z3, z4⟩ := k5 d e; exact ⟨z1, l, q1.trans z2, z3, z4⟩
  have hat0 : ∀ R x, stays st g R → At fr H φ R x → ∀ fr2 φ2 H2, (∀ n, (∃ j, R = .part n j) ∨ R = .slot n → Fr.get fr2 n = Fr.get fr n) → At fr2 H2 φ2 R x := fun R x hR hx fr2 φ2 H2 hfr => by
    cases R with
    | slot n => simp only [At] at hx ⊢; rw [hfr n (.inr rfl)]; exact hx
    | part n j => obtain ⟨l, h1, h2⟩ := hx; exact ⟨l, by rw [hfr n (.inl ⟨j, rfl⟩)]; exact h1, h2⟩
    | cell i off => exact hR.elim
  have hcanW : ∀ x, Can G' H' W' x → Can G' H' (fun r => W' r ∨ Ws r) x := fun x hx => by
    rcases hx with hx | ⟨r, o, sz, len, c, pre, rfl, k1, k2⟩
    · exact .inl hx
    · exact .inr ⟨r, o, sz, len, c, pre, rfl, .inl k1, k2⟩
  refine ⟨fun r => W' r ∨ Ws r, ?_, hfrm⟩
  -- the rights behind the call: those of the answer, those that stay
  have main : ∀ (f2 : VFr) (w2 : Rts) (fr2 : Fr) (dd : Option Nat), (∀ n u, VFr.get f2 n = some u → ∃ b, Fr.get fr2 n = some b ∧ VRel φ' G' u b) →
      (∀ n t, (n, t) ∈ w2 → (dd = some n ∧ (n, t) ∈ gives n v rs) ∨ ((n, t) ∈ gone st.w.noCell g ∧ dd ≠ some n)) →
      (∀ d, dd = some d → Fr.get fr2 d = some a) → (∀ n, dd ≠ some n → Fr.get fr2 n = Fr.get fr n) → Rel φ' G' (fun r => W' r ∨ Ws r) ⟨f2, w2, S'⟩ fr2 H' := fun f2 w2 fr2 dd hsl hw2 hd hnd => by
    -- where a right comes from
    have src : ∀ R, Has ⟨f2, w2, S'⟩ R → (∃ R0, Has ⟨[(0, v)], gives 0 v rs, S'⟩ R0 ∧ (∀ x, At [(0, a)] H' φ' R0 x ↔ At fr2 H' φ' R x) ∧ (∀ R', Has ⟨f2, w2, S'⟩ R' → (∀ x, At [(0, a)] H' φ' R0 x ↔ At fr2 H' φ' R' x) → (match R0, R' with | .slot _, .slot m => dd = some m | .part _ j, .part m j' => dd = some m ∧ j = j' | .cell i o, .cell i' o' => i = i' ∧ o = o' | _, _ => False) → R = R') ∧ (match R0, R with | .slot _, .slot m => dd = some m | .part _ j, .part m j' => dd = some m ∧ j = j' | .cell i o, .cell i' o' => i = i' ∧ o = o' | _, _ => False)) ∨ (stays st g R ∧ ∀ x, At fr H φ R x → At fr2 H' φ' R x) := fun R hR => by
      cases R with
      | slot m =>
        rcases hw2 m .own hR with ⟨h1, h2⟩ | ⟨h1, h2⟩
        · left
          obtain ⟨_, h3 | ⟨j, h3, _⟩⟩ := mem_gives h2
          · refine ⟨.slot 0, h3.2, fun x => ?_, fun R' _ _ hm => ?_, h1⟩
            · simp only [At]; rw [hd m h1]; simp [Fr.get]
            · cases R' with
              | slot m' => simp only at hm; rw [h1] at hm; rw [Option.some.inj hm]
              | part m' j' => exact hm.elim
              | cell i' o' => exact hm.elim
          · cases h3
        · right
          refine ⟨(gsub _ h1).1, fun x hx => ?_⟩
          simp only [At] at hx ⊢; rw [hnd m h2]; exact hx
      | part m j =>
        rcases hw2 m (.comp j) hR with ⟨h1, h2⟩ | ⟨h1, h2⟩
        · left
          obtain ⟨_, h3 | ⟨j', h3, h4⟩⟩ := mem_gives h2
          · cases h3.1
          · cases h3
            refine ⟨.part 0 j, h4, fun x => ?_, fun R' _ _ hm => ?_, h1, rfl⟩
            · simp only [At]; rw [hd m h1]; simp [Fr.get]
            · cases R' with
              | slot m' => exact hm.elim
              | part m' j' => simp only at hm; rw [h1] at hm; obtain ⟨e, rfl⟩ := hm; rw [Option.some.inj e]
              | cell i' o' => exact hm.elim
        · right
          refine ⟨(gsub _ h1).1, fun x hx => ?_⟩
          obtain ⟨l, h3, h4⟩ := hx
          exact ⟨l, by rw [hnd m h2]; exact h3, h4⟩
      | cell i off =>
        left
        refine ⟨.cell i off, hR, fun x => Iff.rfl, fun R' _ _ hm => ?_, rfl, rfl⟩
        cases R' with
        | slot m' => exact hm.elim
        | part m' j' => exact hm.elim
        | cell i' o' => simp only at hm; obtain ⟨rfl, rfl⟩ := hm; rfl
    refine ⟨hsl, fun i o ho => ?_, hres.inj, hres.dom, hres.glob, hres.n100, hres.fz, fun r hr => ?_, fun R hR => ?_, fun R R' x x' r hR hR' hx hx' hr hr' => ?_, fun n i off hm _ => ?_⟩
    · obtain ⟨h1, r, h2, h3, h4⟩ := hres.objs i o ho
      exact ⟨h1, r, h2, .inl h3, h4⟩
    · rcases hr with hr | hr
      · exact hres.win r hr
      · exact Nat.lt_of_lt_of_le (h.win r hr.1) hf.next
    · rcases src R hR with ⟨R0, h1, h2, _, _⟩ | ⟨h1, h2⟩
      · obtain ⟨x, h3, h4⟩ := hres.rt R0 h1
        exact ⟨x, (h2 x).1 h3, hcanW x h4⟩
      · obtain ⟨x, h3, h4, _⟩ := stay R h1
        exact ⟨x, h2 x h3, h4⟩
    · rcases src R hR with ⟨R0, h1, h2, h3, h4⟩ | ⟨h1, h2⟩
      · have hx0 := (h2 x).2 hx
        obtain ⟨y, g1, g2⟩ := hres.rt R0 h1
        obtain rfl := at_uniq hx0 g1
        rcases src R' hR' with ⟨R0', h1', h2', h3', h4'⟩ | ⟨h1', h2'⟩
        · have hx0' := (h2' x').2 hx'
          have e := hres.rtx R0 R0' x x' r h1 h1' hx0 hx0' hr hr'
          subst e
          exact h3 R' hR' h2' h4'
        · exfalso
          obtain ⟨y', g3, _, g4⟩ := stay R' h1'
          obtain rfl := at_uniq hx' (h2' y' g3)
          exact hsplit r (g2.id hr).1 (g4 r hr')
      · obtain ⟨y, g3, _, g4⟩ := stay R h1
        obtain rfl := at_uniq hx (h2 y g3)
        rcases src R' hR' with ⟨R0', h1', h2', h3', h4'⟩ | ⟨h1', h2'⟩
        · exfalso
          have hx0' := (h2' x').2 hx'
          obtain ⟨y', g1, g2⟩ := hres.rt R0' h1'
          obtain rfl := at_uniq hx0' g1
          exact hsplit r (g2.id hr').1 (g4 r hr)
        · obtain ⟨y', g3', _, _⟩ := stay R' h1'
          obtain rfl := at_uniq hx' (h2' y' g3')
          exact h.rtx R R' x x' r (stays_has h1) (stays_has h1') g3 g3' hr hr'
    · exfalso
      rcases hw2 n _ hm with ⟨_, h2⟩ | ⟨h2, _⟩
      · obtain ⟨_, h3 | ⟨j, h3, _⟩⟩ := mem_gives h2
        · cases h3.1
        · cases h3
      · exact (gsub _ h2).2 i off rfl
  cases d with
  | none =>
    exact main st.f _ fr none (fun n u hu => by obtain ⟨b, h1, h2⟩ := h.slots n u hu; exact ⟨b, h1, h2.mono hf.phi hf.fz⟩) (fun n t hm => .inr ⟨hm, fun e => by cases e⟩) (fun d e => by cases e) (fun n _ => rfl)
  | some d =>
    refine main _ _ (Fr.set fr d a) (some d) (fun n u hu => ?_) (fun n t hm => ?_) (fun d' e => ?_) (fun n hn => ?_)
    · rw [vget_set] at hu
      rw [get_set']
      split at hu
      · rename_i e; obtain rfl := Option.some.inj hu; rw [if_pos e]; exact ⟨a, rfl, ha⟩
      · rename_i e; rw [if_neg e]; obtain ⟨b, h1, h2⟩ := h.slots n u hu; exact ⟨b, h1, h2.mono hf.phi hf.fz⟩
    · rcases List.mem_append.1 hm with h1 | h1
      · obtain ⟨rfl, _⟩ := mem_gives h1; exact .inl ⟨rfl, h1⟩
      · obtain ⟨h2, h3⟩ := mem_del.1 h1; exact .inr ⟨h2, fun e => h3 (Option.some.inj e).symm⟩
    · obtain rfl := Option.some.inj e; rw [get_set', if_pos rfl]
    · rw [get_set', if_neg (fun e => hn (by rw [e]))]
end
end Go.Proofs.YtlecbjcloleiiaaDoor.Val

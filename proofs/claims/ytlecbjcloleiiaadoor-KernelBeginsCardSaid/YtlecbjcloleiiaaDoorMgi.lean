/-
  Parts of the proof: ArgS, ArgF.
-/
import Derived.Test.YtlecbjcloleiiaaDoorMgh
import Derived.LaidMore
/-! Arguments of any shape: numbers, strings, bools, slices of rows of such. -/
namespace Go.Proofs.YtlecbjcloleiiaaDoor.Val
open Go Go.RowKit Go.Proofs.YtlecbjcloleiiaaDoor.Ram

inductive Sh where
  | int (k : IntKind)
  | bool
  | str
  | sl (row : List Sh)
mutual
def Fit : Sh → V → Prop
  | .int k, v => ∃ z, v = .int k z
  | .bool, v => ∃ b, v = .bool b
  | .str, v => ∃ s, v = .str s
  | .sl row, v => ∃ rows, v = .lst row.length rows ∧ ∀ r ∈ rows, Fits row r
def Fits : List Sh → List V → Prop
  | [], l => l = []
  | s :: sh, l => ∃ v r, l = v :: r ∧ Fit s v ∧ Fits sh r
end
theorem Fits.length : ∀ {sh : List Sh} {l : List V}, Fits sh l → l.length = sh.length
  | [], _, h => by simp only [Fits] at h; subst h; rfl
  | _ :: sh, _, h => by
    simp only [Fits] at h
    obtain ⟨v, r, rfl, _, h3⟩ := h
    simp [Fits.length h3]
theorem Fits.append : ∀ {sh sh' : List Sh} {l l' : List V}, Fits sh l → Fits sh' l' → Fits (sh ++ sh') (l ++ l')
  | [], _, _, _, h, h' => by simp only [Fits] at h; subst h; exact h'
  | _ :: _, _, _, _, h, h' => by
    simp only [Fits] at h
    obtain ⟨v, r, rfl, h2, h3⟩ := h
    simp only [List.cons_append, Fits]
    exact ⟨v, _, rfl, h2, Fits.append h3 h'⟩
mutual
def shOf (P : Program) : Nat → TypeId → Option (List Sh)
  | 0, _ => none
  | fuel + 1, t => match P.underlying t with
    | some .bool => some [.bool]
    | some (.int k) => some [.int k]
    | some .string => some [.str]
    | some (.slice e) => (shOf P fuel e).bind fun r => if r.length = P.cellsOf e ∧ 0 < r.length then some [.sl r] else none
    | some (.struct fs) => (shFs P fuel 0 fs.toList).bind fun r => if r.length = P.cellsOf t then some r else none
    | _ => none
def shFs (P : Program) : Nat → Nat → List Field → Option (List Sh)
  | 0, _, _ => none
  | _ + 1, _, [] => some []
  | fuel + 1, off, f :: fs => if f.offset = off then (shOf P fuel f.type).bind fun r => if r.length = P.cellsOf f.type then (shFs P fuel (off + r.length) fs).map (r ++ ·) else none else none
end
section
variable {ng : Nat} {n : Nat → Nat} {W : World}
/-- Cells of the program's are these ones, wherever their blocks are numbered. -/
def ArgL (ng : Nat) (n : Nat → Nat) (W : World) (cs : List Value) (us : List V) : Prop := ∃ (bs : Nat → Bs) (as' : Nat → List AV), ∀ pre post : Bs,
  (∀ a ∈ bs pre.length, ObjR (mapOf ng n (pre ++ bs pre.length ++ post)) W a.1 (.cells a.2 true)) ∧ VRs (mapOf ng n (pre ++ bs pre.length ++ post)) (as' pre.length) cs ∧ VRels phi0 (G0 (pre ++ bs pre.length ++ post)) us (as' pre.length) ∧ (as' pre.length).all oneCell = true
theorem ArgL.nil : ArgL ng n W [] [] := ⟨fun _ => [], fun _ => [], fun _ _ => ⟨fun a ha => (by cases ha), rfl, rfl, rfl⟩⟩
theorem vrs_append {m : LMap} : ∀ {l l' : List AV} {cs cs' : List Value}, VRs m l cs → VRs m l' cs' → VRs m (l ++ l') (cs ++ cs')
  | [], _, _, _, h, h' => by simp only [VRs] at h; subst h; exact h'
  | _ :: _, _, _, _, h, h' => by
    simp only [VRs] at h
    obtain ⟨v, r, rfl, h2, h3⟩ := h
    simp only [List.cons_append, VRs]
    exact ⟨v, _, rfl, h2, vrs_append h3 h'⟩
theorem ArgL.append {cs cs' : List Value} {us us' : List V} (h : ArgL ng n W cs us) (h' : ArgL ng n W cs' us') : ArgL ng n W (cs ++ cs') (us ++ us') := by
  obtain ⟨bs, as1, h⟩ := h
  obtain ⟨bs', as2, h'⟩ := h'
  refine ⟨fun k => bs k ++ bs' (k + (bs k).length), fun k => as1 k ++ as2 (k + (bs k).length), fun pre post => ?_⟩
  obtain ⟨h1, h2, h3, h4⟩ := h pre (bs' (pre.length + (bs pre.length).length) ++ post)
  obtain ⟨k1, k2, k3, k4⟩ := h' (pre ++ bs pre.length) post
  rw [List.length_append] at k1 k2 k3 k4
  have e1 : pre ++ bs pre.length ++ (bs' (pre.length + (bs pre.length).length) ++ post) = pre ++ (bs pre.length ++ bs' (pre.length + (bs pre.length).length)) ++ post := by simp
  have e2 : pre ++ bs pre.length ++ bs' (pre.length + (bs pre.length).length) ++ post = pre ++ (bs pre.length ++ bs' (pre.length + (bs pre.length).length)) ++ post := by simp
  rw [e1] at h1 h2 h3
  rw [e2] at k1 k2 k3
  exact ⟨fun a hm => (List.mem_append.1 hm).elim (h1 a) (k1 a), vrs_append h2 k2, h3.append k3, by rw [List.all_append, h4, k4]; rfl⟩
theorem ArgL.one {v : Value} {u : V} {a : AV} (h1 : ∀ m, VR m a v) (h2 : ∀ φ G, VRel φ G u a) (h3 : oneCell a = true) : ArgL ng n W [v] [u] :=
  ⟨fun _ => [], fun _ => [a], fun _ _ => ⟨fun a ha => (by cases ha), by simp only [VRs]; exact ⟨_, _, rfl, h1 _, rfl⟩, by simp only [VRels]; exact ⟨_, _, rfl, h2 _ _, rfl⟩, by simp [h3]⟩⟩
/-- A slice's block. -/
theorem slice_block {g : Ram.Loc} (hg : ∀ m, ObjR m W g (.cells [] true)) {a : Addr} {sz len cap : Nat} {vs : List Value} (hs : 0 < sz) (hl : len ≤ cap) (hm : cap ≤ maxLen) (hv : vs.length = len * sz)
    (hc : ∀ i v, vs[i]? = some v → W.cell? (a.add i) = some v) (hspot : cap = 0 ∨ a.spot = none) (hlast : cap = 0 ∨ ∃ v, W.cell? (a.add (cap * sz - 1)) = some v) :
    ∃ loc : Ram.Loc, (∀ m xs, VRs m xs vs → xs.all oneCell = true → ObjR m W loc (.cells xs true)) ∧ ∀ m' i, m' i = some loc → VR m' (.sl (some (i, 0)) sz len none) (.slice (some a) len cap) := by
  by_cases h0 : cap = 0
  · subst h0
    obtain rfl : len = 0 := by omega
    have hvs : vs = [] := by rw [Nat.zero_mul] at hv; exact List.length_eq_zero_iff.1 hv
    subst hvs
    refine ⟨g, fun m xs h _ => ?_, fun m' i hi => ?_⟩
    · have := h.length
      have : xs = [] := by simpa using this.symm
      subst this; exact hg m
    · simp only [VR]
      exact ⟨g, 0, a, hi, rfl, fun h => absurd h (by omega), hl, by omega, hm, fun d hd => by cases hd⟩
  · obtain ⟨v0, hv0⟩ := hlast.resolve_left h0
    obtain ⟨b, off, spot⟩ := a
    have hspot : spot = none := hspot.resolve_left h0
    subst hspot
    have hcell : ∀ i v, W.cell? ((⟨b, off, none⟩ : Addr).add i) = some v → W.cell? ⟨b, off + i, none⟩ = some v := fun i v hi => by rw [← Go.WideShapes.add_plain]; exact hi
    have hv1 := hcell _ _ hv0
    obtain ⟨c, e, f, hb⟩ : ∃ c e f, W.heap[b]? = some (.cells c e f) := by
      simp only [World.cell?] at hv1
      split at hv1
      · rename_i c e f hb; exact ⟨c, e, f, hb⟩
      all_goals cases hv1
    have hgetc : ∀ i v, W.cell? ((⟨b, off, none⟩ : Addr).add i) = some v → c[off + i]? = some v := fun i v hi => by
      have := hcell i v hi
      simpa [World.cell?, hb] using this
    have hlt : off + (cap * sz - 1) < c.size := (Array.getElem?_eq_some_iff.1 (hgetc _ _ hv0)).1
    have hcs : 0 < cap * sz := Nat.mul_pos (by omega) hs
    have hls : len * sz ≤ cap * sz := Nat.mul_le_mul_right _ hl
    refine ⟨⟨b, off, c.size - off⟩, fun m xs hx h1 => ⟨c, e, f, hb, fun h => (by cases h), (by dsimp only; omega), ?_, fun j x hj => ?_⟩, fun m' i hi => ?_⟩
    · have := hx.length; dsimp only; omega
    · obtain ⟨v, h2, h3⟩ := hx.get hj
      exact ⟨v, hgetc j v (hc j v h2), h3, List.all_eq_true.1 h1 x (List.mem_of_getElem? hj)⟩
    · simp only [VR]
      exact ⟨_, cap, _, hi, rfl, fun _ => by simp, hl, (by dsimp only; omega), hm, fun d hd => by cases hd⟩
theorem rowsRel_of {φ : Bk} {G : Fz} {sz : Nat} : ∀ {rows : List (List V)} {cs : List AV}, (∀ r ∈ rows, r.length = sz) → VRels φ G rows.flatten cs → RowsRel φ G sz rows cs
  | [], _, _, _ => by simp only [RowsRel]
  | r :: rows, cs, hr, h => by
    simp only [RowsRel]
    have h1 := hr r List.mem_cons_self
    rw [List.flatten_cons] at h
    have k1 := h.take sz
    have k2 := h.drop sz
    rw [List.take_append_of_le_length (by omega), List.take_of_length_le (by omega)] at k1
    rw [List.drop_append_of_le_length (by omega), List.drop_of_length_le (by omega), List.nil_append] at k2
    exact ⟨h1, k1, rowsRel_of (fun r hr' => hr r (List.mem_cons_of_mem _ hr')) k2⟩
theorem ArgL.slice (hng : ng ≤ 100) {g : Ram.Loc} (hg : ∀ m, ObjR m W g (.cells [] true)) {a : Addr} {sz len cap : Nat} {vs : List Value} {rows : List (List V)} (hs : 0 < sz) (hl : len ≤ cap) (hm : cap ≤ maxLen) (hr : ∀ r ∈ rows, r.length = sz) (hrl : rows.length = len)
    (h : ArgL ng n W vs rows.flatten) (hc : ∀ i v, vs[i]? = some v → W.cell? (a.add i) = some v) (hspot : cap = 0 ∨ a.spot = none) (hlast : cap = 0 ∨ ∃ v, W.cell? (a.add (cap * sz - 1)) = some v) :
    ArgL ng n W [.slice (some a) len cap] [.lst sz rows] := by
  obtain ⟨bs, as', h⟩ := h
  have hfl : rows.flatten.length = len * sz := by
    rw [← hrl]; clear h hrl
    induction rows with
    | nil => simp
    | cons r rows ih => rw [List.flatten_cons, List.length_append, hr r List.mem_cons_self, ih fun q hq => hr q (List.mem_cons_of_mem _ hq), List.length_cons, Nat.succ_mul]; omega
  have hvl : vs.length = len * sz := by
    obtain ⟨_, h2, h3, _⟩ := h [] []
    rw [h2.length, h3.length, hfl]
  obtain ⟨loc, k1, k2⟩ := slice_block hg hs hl hm hvl hc hspot hlast
  refine ⟨fun k => bs k ++ [(loc, as' k)], fun k => [.sl (some (100 + k + (bs k).length, 0)) sz len none], fun pre post => ?_⟩
  obtain ⟨h1, h2, h3, h4⟩ := h pre ([(loc, as' pre.length)] ++ post)
  have e1 : pre ++ bs pre.length ++ ([(loc, as' pre.length)] ++ post) = pre ++ (bs pre.length ++ [(loc, as' pre.length)]) ++ post := by simp
  rw [e1] at h1 h2 h3
  have hidx : (pre ++ (bs pre.length ++ [(loc, as' pre.length)]) ++ post)[pre.length + (bs pre.length).length]? = some (loc, as' pre.length) := by
    rw [List.append_assoc, List.getElem?_append_right (by omega), List.append_assoc, List.getElem?_append_right (by omega)]
    simp
  have h5 := h3.length
  refine ⟨fun b hb => ?_, ?_, ?_, rfl⟩
  · rcases List.mem_append.1 hb with hb | hb
    · exact h1 b hb
    · obtain rfl := List.mem_singleton.1 hb
      exact k1 _ _ h2 h4
  · simp only [VRs]
    refine ⟨_, _, rfl, k2 _ _ ?_, rfl⟩
    simp only [mapOf]
    rw [if_neg (by omega), if_pos (by omega), show 100 + pre.length + (bs pre.length).length - 100 = pre.length + (bs pre.length).length by omega, hidx]
    rfl
  · simp only [VRels, VRel]
    refine ⟨_, _, rfl, .inr ⟨100 + pre.length + (bs pre.length).length, 0, none, as' pre.length, by rw [hrl], ?_, by rw [h5, hfl, hrl]; omega, ?_⟩, rfl⟩
    · simp only [G0]
      rw [if_pos (by omega), show 100 + pre.length + (bs pre.length).length - 100 = pre.length + (bs pre.length).length by omega, hidx]
      rfl
    · rw [List.drop_zero]
      exact rowsRel_of hr h3
theorem cells_get {base : Nat} {a : Addr} {k : Nat} {cs : List Value} (h : W.cells? base a k = some cs) : cs.length = k ∧ ∀ i v, cs[i]? = some v → W.cell? (a.add i) = some v := by
  unfold World.cells? at h
  split at h
  · have hl := mapM_some_length h
    rw [List.length_range] at hl
    refine ⟨hl, fun i v hi => ?_⟩
    have hlt := (List.getElem?_eq_some_iff.1 hi).1
    have := mapM_some_get h i i (by rw [List.getElem?_range (by omega)])
    rw [this]; exact hi
  · cases h
theorem add_add {a : Addr} (h : a.spot = none) {i j : Nat} : (a.add i).add j = a.add (i + j) := by
  obtain ⟨b, o, s⟩ := a
  simp only at h; subst h
  simp only [Go.WideShapes.add_plain, Nat.add_assoc]
section
variable {H : Type} {enc : TypeId × Value → H} {P : Program}
theorem open_sh (hng : ng ≤ 100) {g : Ram.Loc} (hg : ∀ m, ObjR m W g (.cells [] true)) : ∀ (fuel : Nat),
    (∀ (t : TypeId) (sh : List Sh) (k : Nat) (cs : List Value) (x : DataW H × List MemPlace), shOf P fuel t = some sh → DataW.trod enc P W 0 (fun _ => true) true k t cs = some x → cs.length = sh.length ∧ ∃ us, Fits sh us ∧ ArgL ng n W cs us) ∧
    (∀ (off : Nat) (fs : List Field) (sh : List Sh) (k : Nat) (cs : List Value), shFs P fuel off fs = some sh → off + sh.length ≤ cs.length → (∀ f ∈ fs, ∃ x, DataW.trod enc P W 0 (fun _ => true) true k f.type ((cs.drop f.offset).take (P.cellsOf f.type)) = some x) → ∃ us, Fits sh us ∧ ArgL ng n W ((cs.drop off).take sh.length) us) := by
  intro fuel
  induction fuel with
  | zero => exact ⟨fun t sh k cs x h => by simp [shOf] at h, fun off fs sh k cs h => by simp [shFs] at h⟩
  | succ fuel ih =>
    obtain ⟨ih1, ih2⟩ := ih
    refine ⟨fun t sh k cs x h hx => ?_, fun off fs sh k cs h hl hf => ?_⟩
    · simp only [shOf] at h
      split at h
      · rename_i ht
        obtain rfl := Option.some.inj h
        obtain ⟨b, rfl, _⟩ := DataW.trod_bool ht hx
        exact ⟨rfl, [.bool b], by simp [Fits, Fit], .one (a := .bool b) (fun m => by simp only [VR]) (fun _ _ => by simp only [VRel]) rfl⟩
      · rename_i kk ht
        obtain rfl := Option.some.inj h
        obtain ⟨z, rfl, _, _⟩ := DataW.trod_int ht hx
        exact ⟨rfl, [.int kk z], by simp [Fits, Fit], .one (a := .int kk z) (fun m => by simp only [VR]) (fun _ _ => by simp only [VRel]) rfl⟩
      · rename_i ht
        obtain rfl := Option.some.inj h
        obtain ⟨s, rfl, _, _⟩ := DataW.trod_string ht hx
        exact ⟨rfl, [.str s.data.toList], by simp [Fits, Fit], .one (a := .str s.data.toList) (fun m => by simp only [VR]) (fun _ _ => by simp only [VRel]) rfl⟩
      · rename_i e ht
        simp only [Option.bind_eq_some_iff] at h
        obtain ⟨r, h1, h⟩ := h
        split at h
        · rename_i hc
          obtain ⟨hc1, hc2⟩ := hc
          obtain rfl := Option.some.inj h
          rcases DataW.trod_slice ht hx with ⟨rfl, _⟩ | ⟨a, len, cap, elems, rest, m, _, rfl, _, _, hle, hm, hel, hE, hS, _⟩
          · exact ⟨rfl, [.lst r.length []], by simp [Fits, Fit], .one (a := .sl none r.length 0 (some 0)) (fun m => by simp [VR]) (fun _ _ => by simp only [VRel]; exact .inl ⟨trivial, _, _, rfl⟩) rfl⟩
          · obtain ⟨hrl, hR⟩ := hS rfl
            -- every element
            have each : ∀ i, i < len → ∃ cs', W.cells? 0 (a.add (i * P.cellsOf e)) (P.cellsOf e) = some cs' ∧ ∃ us, Fits r us ∧ ArgL ng n W cs' us := fun i hi => by
              have h2 := hE i hi
              have h3 : elems[i]? = some (elems[i]'(by omega)) := List.getElem?_eq_getElem (by omega)
              rw [h3, Option.bind_eq_some_iff] at h2
              obtain ⟨cs', h4, h5⟩ := h2
              exact ⟨cs', h4, (ih1 e r m cs' _ h1 h5).2⟩
            have elemc : ∀ i, i < cap → ∃ cs', W.cells? 0 (a.add (i * P.cellsOf e)) (P.cellsOf e) = some cs' := fun i hi => by
              by_cases hlt : i < len
              · obtain ⟨cs', h2, _⟩ := each _ hlt; exact ⟨cs', h2⟩
              · have h2 := hR (i - len) (by omega)
                have h3 : rest[i - len]? = some (rest[i - len]'(by omega)) := List.getElem?_eq_getElem (by omega)
                rw [h3, Option.bind_eq_some_iff, show len + (i - len) = i by omega] at h2
                obtain ⟨cs', h4, _⟩ := h2
                exact ⟨cs', h4⟩
            rw [← hc1] at each elemc
            have hspot : cap = 0 ∨ a.spot = none := by
              by_cases h0 : cap = 0
              · exact .inl h0
              · right
                obtain ⟨cs', h2⟩ := elemc 0 (by omega)
                obtain ⟨l1, l2⟩ := cells_get h2
                have h3 := l2 0 (cs'[0]'(by omega)) (List.getElem?_eq_getElem (by omega))
                have := World.cell?_spot h3
                simpa [Addr.add] using this
            -- all elements, as one row of cells
            have all : ∀ q, q ≤ len → ∃ (vs : List Value) (rows : List (List V)), (∀ x ∈ rows, Fits r x) ∧ rows.length = q ∧ vs.length = q * r.length ∧ ArgL ng n W vs rows.flatten ∧ ∀ i v, vs[i]? = some v → W.cell? (a.add i) = some v := by
              intro q
              induction q with
              | zero => intro _; exact ⟨[], [], fun x hx => (by cases hx), rfl, by simp, .nil, fun i v hi => by simp at hi⟩
              | succ q ihq =>
                intro hq
                obtain ⟨vs, rows, g1, g2, g3, g4, g5⟩ := ihq (by omega)
                obtain ⟨cs', e1, us, e2, e3⟩ := each q (by omega)
                obtain ⟨l1, l2⟩ := cells_get e1
                refine ⟨vs ++ cs', rows ++ [us], fun x hx => (List.mem_append.1 hx).elim (g1 x) (fun h => by rw [List.mem_singleton.1 h]; exact e2), by simp [g2], by rw [List.length_append, g3, l1, Nat.succ_mul], by rw [List.flatten_append]; simpa using g4.append e3, fun i v hi => ?_⟩
                by_cases hlt : i < vs.length
                · rw [List.getElem?_append_left hlt] at hi; exact g5 i v hi
                · rw [List.getElem?_append_right (by omega)] at hi
                  have := l2 _ v hi
                  rw [add_add (hspot.resolve_left (by omega)), g3] at this
                  rw [show q * r.length + (i - q * r.length) = i by omega] at this
                  exact this
            obtain ⟨vs, rows, g1, g2, g3, g4, g5⟩ := all len (Nat.le_refl _)
            refine ⟨rfl, [.lst r.length rows], by simp only [Fits, Fit]; exact ⟨_, _, rfl, ⟨rows, rfl, g1⟩, rfl⟩, ?_⟩
            refine ArgL.slice hng hg hc2 hle hm (fun x hx => (g1 x hx).length) g2 g4 g5 hspot ?_
            by_cases h0 : cap = 0
            · exact .inl h0
            · right
              obtain ⟨cs', h2⟩ := elemc (cap - 1) (by omega)
              obtain ⟨l1, l2⟩ := cells_get h2
              have h3 := l2 (r.length - 1) (cs'[r.length - 1]'(by omega)) (List.getElem?_eq_getElem (by omega))
              rw [add_add (hspot.resolve_left h0)] at h3
              have h4 : (cap - 1) * r.length + (r.length - 1) = cap * r.length - 1 := by
                obtain ⟨c, rfl⟩ : ∃ c, cap = c + 1 := ⟨cap - 1, by omega⟩
                rw [Nat.succ_mul]; simp only [Nat.add_sub_cancel]; omega
              rw [h4] at h3
              exact ⟨_, h3⟩
        · cases h
      · rename_i fs ht
        simp only [Option.bind_eq_some_iff] at h
        obtain ⟨r, h1, h⟩ := h
        split at h
        · rename_i hc
          obtain rfl := Option.some.inj h
          obtain ⟨xs, m, _, _, hcl, hxl, hF⟩ := DataW.trod_struct ht hx
          obtain ⟨us, h2, h3⟩ := ih2 0 fs.toList r m cs h1 (by omega) (fun f hf => by
            obtain ⟨i, hi⟩ := List.getElem?_of_mem hf
            have h4 := hF i f (by simpa using hi)
            have hlt : i < xs.length := by rw [hxl]; have := (List.getElem?_eq_some_iff.1 hi).1; simpa using this
            rw [List.getElem?_eq_getElem hlt] at h4
            exact ⟨_, h4⟩)
          rw [List.drop_zero, List.take_of_length_le (by omega)] at h3
          exact ⟨by omega, us, h2, h3⟩
        · cases h
      · cases h
    · cases fs with
      | nil =>
        simp only [shFs, Option.some.injEq] at h
        subst h
        exact ⟨[], rfl, by simpa using ArgL.nil⟩
      | cons f fs =>
        simp only [shFs] at h
        split at h
        · rename_i ho
          simp only [Option.bind_eq_some_iff] at h
          obtain ⟨r, h1, h⟩ := h
          split at h
          · rename_i hc
            simp only [Option.map_eq_some_iff] at h
            obtain ⟨r2, h2, rfl⟩ := h
            rw [List.length_append] at hl
            obtain ⟨x, hx⟩ := hf f List.mem_cons_self
            obtain ⟨_, us, h3, h4⟩ := ih1 f.type r k _ x h1 hx
            obtain ⟨us2, h5, h6⟩ := ih2 (off + r.length) fs r2 k cs h2 (by omega) fun f' hf' => hf f' (List.mem_cons_of_mem _ hf')
            rw [ho, ← hc] at h4
            refine ⟨us ++ us2, h3.append h5, ?_⟩
            have := h4.append h6
            rw [List.length_append, List.take_add, List.drop_drop]
            exact this
          · cases h
        · cases h
/-- An argument of one cell. -/
theorem arg_cell (hng : ng ≤ 100) {g : Ram.Loc} (hg : ∀ m, ObjR m W g (.cells [] true)) {t : TypeId} {v : Value} {d : DataW H} {p : List MemPlace} {fuel : Nat} {sh : Sh} (hs : shOf P fuel t = some [sh]) (hv : v.cells.toList = [v]) (h : DataW.Trod enc P W 0 (fun _ => true) true t v d p) : ∃ u, Fit sh u ∧ Arg ng n W v u := by
  obtain ⟨k, hk⟩ := h
  rw [hv] at hk
  obtain ⟨_, us, h1, bs, as', h2⟩ := (open_sh (n := n) hng hg fuel).1 t _ k _ _ hs hk
  simp only [Fits] at h1
  obtain ⟨u, r, rfl, h1, rfl⟩ := h1
  refine ⟨u, h1, bs, fun k => (as' k).headD .und, fun pre post => ?_⟩
  obtain ⟨k1, k2, k3, _⟩ := h2 pre post
  simp only [VRels] at k3
  obtain ⟨a, r, e, k3, rfl⟩ := k3
  rw [e] at k2
  simp only [VRs] at k2
  obtain ⟨v', r', e2, k2, _⟩ := k2
  simp only [List.cons.injEq] at e2
  obtain ⟨rfl, _⟩ := e2
  dsimp only
  rw [e]
  exact ⟨k1, k2, k3⟩
/-- An argument of a struct. -/
theorem arg_agg (hng : ng ≤ 100) {g : Ram.Loc} (hg : ∀ m, ObjR m W g (.cells [] true)) {t : TypeId} {cs : Array Value} {d : DataW H} {p : List MemPlace} {fuel : Nat} {sh : List Sh} (hs : shOf P fuel t = some sh) (h : DataW.Trod enc P W 0 (fun _ => true) true t (.agg cs) d p) : ∃ us, Fits sh us ∧ Arg ng n W (.agg cs) (.agg us) := by
  obtain ⟨k, hk⟩ := h
  obtain ⟨_, us, h1, bs, as', h2⟩ := (open_sh (n := n) hng hg fuel).1 t _ k _ _ hs hk
  refine ⟨us, h1, bs, fun k => .agg (as' k), fun pre post => ?_⟩
  obtain ⟨k1, k2, k3, k4⟩ := h2 pre post
  exact ⟨k1, by simp only [VR]; exact ⟨cs, rfl, k2, k4⟩, by simp only [VRel]; exact ⟨_, rfl, k3⟩⟩
end
end
end Go.Proofs.YtlecbjcloleiiaaDoor.Val

/-! Arguments of shapes, as lists. -/
namespace Go.Proofs.YtlecbjcloleiiaaDoor.Val
open Go Go.Proofs.YtlecbjcloleiiaaDoor.Ram

theorem rows_map {α : Type} {e : α → List V} {rows : List (List V)} (h : ∀ r ∈ rows, ∃ x, r = e x) : ∃ l : List α, rows = l.map e := by
  induction rows with
  | nil => exact ⟨[], rfl⟩
  | cons r rows ih =>
    obtain ⟨x, rfl⟩ := h _ List.mem_cons_self
    obtain ⟨l, rfl⟩ := ih fun r hr => h r (List.mem_cons_of_mem _ hr)
    exact ⟨x :: l, rfl⟩
theorem fit_strs {v : V} (h : Fit (.sl [.str]) v) : ∃ l : List Str, v = strsV l := by
  simp only [Fit] at h
  obtain ⟨rows, rfl, h⟩ := h
  obtain ⟨l, rfl⟩ := rows_map (e := strRow) fun r hr => by
    have := h r hr
    simp only [Fits, Fit] at this
    obtain ⟨_, _, rfl, ⟨s, rfl⟩, rfl⟩ := this
    exact ⟨s, rfl⟩
  exact ⟨l, rfl⟩
theorem fit_dos {v : V} (h : Fit (.sl [.int .i64, .int .i64, .int .i64, .str, .str, .sl [.str]]) v) : ∃ l : List Do, v = dosV l := by
  rw [Fit] at h
  obtain ⟨rows, rfl, h⟩ := h
  obtain ⟨l, rfl⟩ := rows_map (e := doRow) fun r hr => by
    have := h r hr
    simp only [Fits] at this
    obtain ⟨_, _, rfl, h1, _, _, rfl, h2, _, _, rfl, h3, _, _, rfl, h4, _, _, rfl, h5, _, _, rfl, h6, rfl⟩ := this
    obtain ⟨l, rfl⟩ := fit_strs h6
    simp only [Fit] at h1 h2 h3 h4 h5
    obtain ⟨a, rfl⟩ := h1
    obtain ⟨b, rfl⟩ := h2
    obtain ⟨c, rfl⟩ := h3
    obtain ⟨d, rfl⟩ := h4
    obtain ⟨e, rfl⟩ := h5
    exact ⟨⟨a, b, c, d, e, l⟩, rfl⟩
  exact ⟨l, rfl⟩
theorem fit_evs {v : V} (h : Fit (.sl [.int .i64, .int .i64, .str, .str, .sl [.str]]) v) : ∃ l : List Event, v = evsV' l := by
  rw [Fit] at h
  obtain ⟨rows, rfl, h⟩ := h
  obtain ⟨l, rfl⟩ := rows_map (e := encEv) fun r hr => by
    have := h r hr
    simp only [Fits] at this
    obtain ⟨_, _, rfl, h1, _, _, rfl, h2, _, _, rfl, h3, _, _, rfl, h4, _, _, rfl, h6, rfl⟩ := this
    obtain ⟨l, rfl⟩ := fit_strs h6
    simp only [Fit] at h1 h2 h3 h4
    obtain ⟨a, rfl⟩ := h1
    obtain ⟨b, rfl⟩ := h2
    obtain ⟨c, rfl⟩ := h3
    obtain ⟨d, rfl⟩ := h4
    exact ⟨⟨a, b, c, d, l⟩, rfl⟩
  exact ⟨l, rfl⟩
end Go.Proofs.YtlecbjcloleiiaaDoor.Val

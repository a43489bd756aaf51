import Derived.Test.YtlecbjcloleiiaaDoorValA
/-! The second machine's runs without a bound as limits. -/
namespace Go.Proofs.YtlecbjcloleiiaaDoor.Val
open Go Go.Proofs.YtlecbjcloleiiaaDoor.Ram

/-- Below: what one oracle answers another one answers too. -/
def VLe (O O' : VOracle) : Prop := ∀ f vs rs S r, O f vs rs S = some r → O' f vs rs S = some r
theorem callR_mono {Fl : Flags} {O O' : VOracle} (h : VLe O O') {st : VS} {d : Option Nat} {f : Nat} {args : List Opd} {vs : List V} {r : VS} (hr : callR Fl O st d f args vs = some r) : callR Fl O' st d f args vs = some r := by
  unfold callR at hr ⊢
  simp only [Option.map_eq_some_iff] at hr ⊢
  obtain ⟨x, hx, e⟩ := hr
  exact ⟨x, h _ _ _ _ _ hx, e⟩
theorem actV_mono {Fl : Flags} {O O' : VOracle} (h : VLe O O') {st : VS} {d : Option Nat} {op : AOp} {r : VS} (hr : actV Fl O st d op = some r) : actV Fl O' st d op = some r := by
  cases op with
  | callF f args =>
    simp only [actV, Option.bind_eq_some_iff] at hr ⊢
    obtain ⟨vs, hv, hx⟩ := hr
    exact ⟨vs, hv, callR_mono h hx⟩
  | callV x args =>
    simp only [actV, Option.bind_eq_some_iff] at hr ⊢
    obtain ⟨c, hc, hx⟩ := hr
    refine ⟨c, hc, ?_⟩
    split at hx
    · split at hx
      · rename_i hl
        try dsimp only
        rw [if_pos hl]
        simp only [Option.bind_eq_some_iff] at hx ⊢
        obtain ⟨vs, hv, hx⟩ := hx
        exact ⟨vs, hv, callR_mono h hx⟩
      · cases hx
    · cases hx
  | _ => simpa only [actV] using hr
theorem opV_mono {E : Env} {Fl : Flags} {O O' : VOracle} (h : VLe O O') {st : VS} {d : Option Nat} {op : AOp} {r : VS} (hr : opV E Fl O st d op = some r) : opV E Fl O' st d op = some r := by
  unfold opV at hr ⊢
  split at hr
  · rename_i hp; rw [if_pos hp]; exact hr
  · rename_i hp
    rw [if_neg hp]
    split at hr
    · rename_i hq; rw [if_pos hq]; exact hr
    · rename_i hq; rw [if_neg hq]; exact actV_mono h hr
theorem stepV_mono {E : Env} {Fl : Flags} {O O' : VOracle} (h : VLe O O') {o : AOper} {st r : VS} (hr : stepV E Fl O o st = some r) : stepV E Fl O' o st = some r := by
  unfold stepV at hr ⊢
  split at hr
  · cases hr
  · exact hr
  · exact opV_mono h hr
theorem opsV_mono {E : Env} {Fl : Flags} {O O' : VOracle} (h : VLe O O') {l : List AOper} : ∀ {st r : VS}, opsV E Fl O l st = some r → opsV E Fl O' l st = some r := by
  induction l with
  | nil => intro st r hr; exact hr
  | cons o l ih =>
    intro st r hr
    simp only [opsV, Option.bind_eq_some_iff] at hr ⊢
    obtain ⟨x, hx, hr⟩ := hr
    exact ⟨x, stepV_mono h hx, ih hr⟩
theorem dregV_mono {E : Env} {Fl : Flags} {O O' : VOracle} (h : VLe O O') {all l : List DOp} : ∀ {st r : VS}, dregV E Fl O all l st = some r → dregV E Fl O' all l st = some r := by
  induction l with
  | nil => intro st r hr; exact hr
  | cons o l ih =>
    intro st r hr
    simp only [dregV, Option.bind_eq_some_iff] at hr ⊢
    obtain ⟨x, hx, hr⟩ := hr
    refine ⟨x, stepV_mono h hx, ?_⟩
    split at hr
    · rename_i hc; rw [if_pos hc]; exact ih hr
    · cases hr
theorem loopNV_mono {s s' : VS → VRes} (h : ∀ st r, s st = some r → s' st = some r) : ∀ {n m : Nat} {st : VS} {r : AEx × VS}, n ≤ m → loopNV s n st = some r → loopNV s' m st = some r := by
  intro n
  induction n with
  | zero => intro m st r _ hr; cases hr
  | succ n ih =>
    intro m st r hm hr
    obtain ⟨m, rfl⟩ : ∃ k, m = k + 1 := ⟨m - 1, by omega⟩
    simp only [loopNV] at hr ⊢
    cases hs : s st with
    | none => rw [hs] at hr; cases hr
    | some p =>
      rw [hs] at hr; rw [h _ _ hs]
      obtain ⟨e, s1⟩ := p
      cases e with
      | norm => exact ih (by omega) hr
      | exit i => exact hr
      | ret => exact hr
theorem seqV_some {r : VRes} {k : VS → VRes} {x : AEx × VS} : seqV r k = some x ↔ (∃ s, r = some (.norm, s) ∧ k s = some x) ∨ (r = some x ∧ ∀ s, x ≠ (.norm, s)) := by
  unfold seqV
  split
  · simp
  · rename_i s
    constructor
    · intro h; exact .inl ⟨s, rfl, h⟩
    · rintro (⟨s', h, h2⟩ | ⟨h, h2⟩)
      · cases h; exact h2
      · cases h; exact absurd rfl (h2 s)
  · rename_i e s hne
    constructor
    · intro h; cases h; exact .inr ⟨rfl, fun s' h => by cases h; exact hne rfl⟩
    · rintro (⟨s', h, h2⟩ | ⟨h, _⟩)
      · cases h; exact absurd rfl hne
      · exact h
theorem round_mono {S : VH} {x y : VRes} (h : ∀ r, x = some r → y = some r) {r : AEx × VS} (hr : roundV S x = some r) : roundV S y = some r := by
  cases x with
  | none => cases hr
  | some p => rw [h p rfl]; exact hr
theorem vexec_mono {E : Env} {Fl : Flags} {O O' : VOracle} (h : VLe O O') {n m : Nat} (hm : n ≤ m) {c : ACode} : ∀ {st : VS} {r : AEx × VS}, vexec E Fl O n c st = some r → vexec E Fl O' m c st = some r := by
  induction c with
  | skip => intro st r hr; exact hr
  | reg ops => intro st r hr; simp only [vexec, Option.map_eq_some_iff] at hr ⊢; obtain ⟨x, hx, e⟩ := hr; exact ⟨x, opsV_mono h hx, e⟩
  | dreg ops => intro st r hr; simp only [vexec, Option.map_eq_some_iff] at hr ⊢; obtain ⟨x, hx, e⟩ := hr; exact ⟨x, dregV_mono h hx, e⟩
  | keep l c ih => intro st r hr; simp only [vexec] at hr ⊢; exact ih hr
  | seq a b iha ihb =>
    intro st r hr
    simp only [vexec] at hr ⊢
    rw [seqV_some] at hr ⊢
    rcases hr with ⟨s, h1, h2⟩ | ⟨h1, h2⟩
    · exact .inl ⟨s, iha h1, ihb h2⟩
    · exact .inr ⟨iha h1, h2⟩
  | cond c a b iha ihb =>
    intro st r hr
    simp only [vexec, condV] at hr ⊢
    split at hr
    · exact iha hr
    · exact ihb hr
    · cases hr
  | block id b ih =>
    intro st r hr
    simp only [vexec] at hr ⊢
    cases hs : vexec E Fl O n b st with
    | none => rw [hs] at hr; cases hr
    | some p => rw [hs] at hr; rw [ih hs]; exact hr
  | loop b ih =>
    intro st r hr
    simp only [vexec] at hr ⊢
    exact loopNV_mono (fun st r hr => round_mono (fun r h => ih h) hr) hm hr
  | exit id => intro st r hr; exact hr
  | ret => intro st r hr; exact hr
  | bad => intro st r hr; cases hr
theorem endV_mono {Fl : Flags} {f : Nat} {F : AFun} {S : VH} {x y : VRes} (h : ∀ r, x = some r → y = some r) {r : V × List Nat × VH} (hr : endV Fl f F S x = some r) : endV Fl f F S y = some r := by
  cases x with
  | none => cases hr
  | some p => rw [h p rfl]; exact hr
theorem vfun_mono {E : Env} {Fl : Flags} {O O' : VOracle} (h : VLe O O') {n m : Nat} (hm : n ≤ m) {f : Nat} {F : AFun} {args : List V} {rs : List Nat} {S : VH} {r : V × List Nat × VH} (hr : vfun E Fl O n f F args rs S = some r) : vfun E Fl O' m f F args rs S = some r := by
  unfold vfun at hr ⊢
  split at hr
  · rename_i hl
    rw [if_pos hl]
    exact endV_mono (fun r h' => vexec_mono h hm h') hr
  · cases hr
theorem vcallN_mono (T : VTab) : ∀ n, VLe (vcallN T n) (vcallN T (n + 1)) := by
  intro n
  induction n with
  | zero => intro f vs rs S r hr; cases hr
  | succ n ih =>
    intro f vs rs S r hr
    unfold vcallN at hr ⊢
    cases hd : T.fn f with
    | none => rw [hd] at hr; exact hr
    | some d =>
      rw [hd] at hr
      cases d with
      | prim p => exact hr
      | code F => exact vfun_mono ih (Nat.le_succ n) hr
theorem vcallN_le (T : VTab) {n m : Nat} (hm : n ≤ m) : VLe (vcallN T n) (vcallN T m) := by
  intro f vs rs S r hr
  exact Mono.le (g := fun n => vcallN T n f vs rs S) (fun n r h => vcallN_mono T n f vs rs S r h) hr hm
theorem VCall_iff {T : VTab} {f : Nat} {vs : List V} {rs : List Nat} {S : VH} {r : V × List Nat × VH} : VCall T f vs rs S = some r ↔ ∃ n, vcallN T n f vs rs S = some r :=
  Mono.lim (fun n r h => vcallN_mono T n f vs rs S r h)
theorem vcallN_VCall (T : VTab) (n : Nat) : VLe (vcallN T n) (VCall T) := fun _ _ _ _ _ h => VCall_iff.2 ⟨n, h⟩

/-! ### what the limits answer, some finite run answers -/
theorem callR_fin {T : VTab} {st : VS} {d : Option Nat} {f : Nat} {args : List Opd} {vs : List V} {r : VS} (hr : callR T.Fl (VCall T) st d f args vs = some r) : ∃ n, callR T.Fl (vcallN T n) st d f args vs = some r := by
  unfold callR at hr
  simp only [Option.map_eq_some_iff] at hr
  obtain ⟨x, hx, e⟩ := hr
  obtain ⟨n, hn⟩ := VCall_iff.1 hx
  exact ⟨n, by unfold callR; simp only [Option.map_eq_some_iff]; exact ⟨x, hn, e⟩⟩
theorem act_finV {T : VTab} {st : VS} {d : Option Nat} {op : AOp} {r : VS} (hr : actV T.Fl (VCall T) st d op = some r) : ∃ n, actV T.Fl (vcallN T n) st d op = some r := by
  cases op with
  | callF f args =>
    simp only [actV, Option.bind_eq_some_iff] at hr ⊢
    obtain ⟨vs, hv, hx⟩ := hr
    obtain ⟨n, hn⟩ := callR_fin hx
    exact ⟨n, vs, hv, hn⟩
  | callV x args =>
    simp only [actV, Option.bind_eq_some_iff] at hr ⊢
    obtain ⟨c, hc, hx⟩ := hr
    split at hx
    · split at hx
      · rename_i f caps hl
        simp only [Option.bind_eq_some_iff] at hx
        obtain ⟨vs, hv, hx⟩ := hx
        obtain ⟨n, hn⟩ := callR_fin hx
        exact ⟨n, .fn f caps, hc, by (try dsimp only); rw [if_pos hl]; simp only [Option.bind_eq_some_iff]; exact ⟨vs, hv, hn⟩⟩
      · cases hx
    · cases hx
  | _ => exact ⟨0, by simpa only [actV] using hr⟩
theorem op_finV {T : VTab} {E : Env} {st : VS} {d : Option Nat} {op : AOp} {r : VS} (hr : opV E T.Fl (VCall T) st d op = some r) : ∃ n, opV E T.Fl (vcallN T n) st d op = some r := by
  unfold opV at hr ⊢
  split at hr
  · rename_i hp; exact ⟨0, by rw [if_pos hp]; exact hr⟩
  · rename_i hp
    split at hr
    · rename_i hq; exact ⟨0, by rw [if_neg hp, if_pos hq]; exact hr⟩
    · rename_i hq
      obtain ⟨n, hn⟩ := act_finV hr
      exact ⟨n, by rw [if_neg hp, if_neg hq]; exact hn⟩
theorem step_finV {T : VTab} {E : Env} {o : AOper} {st r : VS} (hr : stepV E T.Fl (VCall T) o st = some r) : ∃ n, stepV E T.Fl (vcallN T n) o st = some r := by
  unfold stepV at hr ⊢
  split at hr
  · cases hr
  · exact ⟨0, hr⟩
  · exact op_finV hr
theorem ops_finV {T : VTab} {E : Env} {l : List AOper} : ∀ {st r : VS}, opsV E T.Fl (VCall T) l st = some r → ∃ n, opsV E T.Fl (vcallN T n) l st = some r := by
  induction l with
  | nil => intro st r hr; exact ⟨0, hr⟩
  | cons o l ih =>
    intro st r hr
    simp only [opsV, Option.bind_eq_some_iff] at hr ⊢
    obtain ⟨x, hx, hr⟩ := hr
    obtain ⟨n, hn⟩ := step_finV hx
    obtain ⟨n', hn'⟩ := ih hr
    exact ⟨max n n', x, stepV_mono (vcallN_le T (Nat.le_max_left _ _)) hn, opsV_mono (vcallN_le T (Nat.le_max_right _ _)) hn'⟩
theorem dreg_finV {T : VTab} {E : Env} {all l : List DOp} : ∀ {st r : VS}, dregV E T.Fl (VCall T) all l st = some r → ∃ n, dregV E T.Fl (vcallN T n) all l st = some r := by
  induction l with
  | nil => intro st r hr; exact ⟨0, hr⟩
  | cons o l ih =>
    intro st r hr
    simp only [dregV, Option.bind_eq_some_iff] at hr ⊢
    obtain ⟨x, hx, hr⟩ := hr
    obtain ⟨n, hn⟩ := step_finV hx
    split at hr
    · rename_i hc
      obtain ⟨n', hn'⟩ := ih hr
      exact ⟨max n n', x, stepV_mono (vcallN_le T (Nat.le_max_left _ _)) hn, by rw [if_pos hc]; exact dregV_mono (vcallN_le T (Nat.le_max_right _ _)) hn'⟩
    · cases hr
theorem loopNV_Mono (s : VS → VRes) (st : VS) : Mono fun n => loopNV s n st := fun n _ h => loopNV_mono (fun _ _ h => h) (Nat.le_succ n) h
theorem exec_finV {T : VTab} {E : Env} {c : ACode} : ∀ {st : VS} {r : AEx × VS}, execV E T.Fl (VCall T) c st = some r → ∃ n, vexec E T.Fl (vcallN T n) n c st = some r := by
  induction c with
  | skip => intro st r hr; exact ⟨0, hr⟩
  | reg ops =>
    intro st r hr
    simp only [execV, vexec, Option.map_eq_some_iff] at hr ⊢
    obtain ⟨x, hx, e⟩ := hr
    obtain ⟨n, hn⟩ := ops_finV hx
    exact ⟨n, x, hn, e⟩
  | dreg ops =>
    intro st r hr
    simp only [execV, vexec, Option.map_eq_some_iff] at hr ⊢
    obtain ⟨x, hx, e⟩ := hr
    obtain ⟨n, hn⟩ := dreg_finV hx
    exact ⟨n, x, hn, e⟩
  | keep l c ih => intro st r hr; simp only [execV, vexec] at hr ⊢; exact ih hr
  | seq a b iha ihb =>
    intro st r hr
    simp only [execV, vexec] at hr ⊢
    rw [seqV_some] at hr
    rcases hr with ⟨s, h1, h2⟩ | ⟨h1, h2⟩
    · obtain ⟨n, hn⟩ := iha h1
      obtain ⟨n', hn'⟩ := ihb h2
      exact ⟨max n n', seqV_some.2 (.inl ⟨s, vexec_mono (vcallN_le T (Nat.le_max_left _ _)) (Nat.le_max_left _ _) hn, vexec_mono (vcallN_le T (Nat.le_max_right _ _)) (Nat.le_max_right _ _) hn'⟩)⟩
    · obtain ⟨n, hn⟩ := iha h1
      exact ⟨n, seqV_some.2 (.inr ⟨hn, h2⟩)⟩
  | cond c a b iha ihb =>
    intro st r hr
    simp only [execV, vexec, condV] at hr ⊢
    split at hr
    · exact iha hr
    · exact ihb hr
    · cases hr
  | block id b ih =>
    intro st r hr
    simp only [execV, vexec] at hr ⊢
    cases hs : execV E T.Fl (VCall T) b st with
    | none => rw [hs] at hr; cases hr
    | some p =>
      rw [hs] at hr
      obtain ⟨n, hn⟩ := ih hs
      exact ⟨n, by rw [hn]; exact hr⟩
  | loop b ih =>
    intro st r hr
    simp only [execV, vexec] at hr ⊢
    obtain ⟨k, hk⟩ := (loopNV_Mono _ _).lim.1 hr
    clear hr
    have key : ∀ k st, loopNV (fun s => roundV s.h (execV E T.Fl (VCall T) b s.top)) k st = some r → ∃ n, loopNV (fun s => roundV s.h (vexec E T.Fl (vcallN T n) n b s.top)) n st = some r := by
      intro k
      induction k with
      | zero => intro st h; cases h
      | succ k ihk =>
        intro st h
        simp only [loopNV] at h
        cases hs : execV E T.Fl (VCall T) b st.top with
        | none => rw [hs] at h; cases h
        | some p =>
          rw [hs] at h
          obtain ⟨n, hn⟩ := ih hs
          cases hq : roundV st.h (some p) with
          | none => rw [hq] at h; cases h
          | some q =>
            rw [hq] at h
            have up : ∀ m, n ≤ m → roundV st.h (vexec E T.Fl (vcallN T m) m b st.top) = some q := fun m hm => by
              rw [vexec_mono (vcallN_le T hm) hm hn]; exact hq
            obtain ⟨e, s1⟩ := q
            cases e with
            | norm =>
              obtain ⟨n', hn'⟩ := ihk s1 h
              refine ⟨max n n' + 1, ?_⟩
              simp only [loopNV]
              rw [up _ (by omega)]
              exact loopNV_mono (fun st r hr => round_mono (fun r h => vexec_mono (vcallN_le T (by omega : n' ≤ max n n' + 1)) (by omega : n' ≤ max n n' + 1) h) hr) (by omega) hn'
            | exit i =>
              refine ⟨n + 1, ?_⟩
              simp only [loopNV]
              rw [up _ (by omega)]
              exact h
            | ret =>
              refine ⟨n + 1, ?_⟩
              simp only [loopNV]
              rw [up _ (by omega)]
              exact h
    exact key k st hk
  | bad => intro st r hr; cases hr
  | exit id => intro st r hr; exact ⟨0, hr⟩
  | ret => intro st r hr; exact ⟨0, hr⟩
theorem exec_upV {T : VTab} {E : Env} {n : Nat} {c : ACode} : ∀ {st : VS} {r : AEx × VS}, vexec E T.Fl (vcallN T n) n c st = some r → execV E T.Fl (VCall T) c st = some r := by
  induction c with
  | skip => intro st r hr; exact hr
  | reg ops => intro st r hr; simp only [execV, vexec, Option.map_eq_some_iff] at hr ⊢; obtain ⟨x, hx, e⟩ := hr; exact ⟨x, opsV_mono (vcallN_VCall T n) hx, e⟩
  | dreg ops => intro st r hr; simp only [execV, vexec, Option.map_eq_some_iff] at hr ⊢; obtain ⟨x, hx, e⟩ := hr; exact ⟨x, dregV_mono (vcallN_VCall T n) hx, e⟩
  | keep l c ih => intro st r hr; simp only [execV, vexec] at hr ⊢; exact ih hr
  | seq a b iha ihb =>
    intro st r hr
    simp only [execV, vexec] at hr ⊢
    rw [seqV_some] at hr ⊢
    rcases hr with ⟨s, h1, h2⟩ | ⟨h1, h2⟩
    · exact .inl ⟨s, iha h1, ihb h2⟩
    · exact .inr ⟨iha h1, h2⟩
  | cond c a b iha ihb =>
    intro st r hr
    simp only [execV, vexec, condV] at hr ⊢
    split at hr
    · exact iha hr
    · exact ihb hr
    · cases hr
  | block id b ih =>
    intro st r hr
    simp only [execV, vexec] at hr ⊢
    cases hs : vexec E T.Fl (vcallN T n) n b st with
    | none => rw [hs] at hr; cases hr
    | some p => rw [hs] at hr; rw [ih hs]; exact hr
  | loop b ih =>
    intro st r hr
    simp only [execV, vexec] at hr ⊢
    exact (loopNV_Mono _ _).lim.2 ⟨n, loopNV_mono (fun st r hr => round_mono (fun r h => ih h) hr) (Nat.le_refl n) hr⟩
  | exit id => intro st r hr; exact hr
  | ret => intro st r hr; exact hr
  | bad => intro st r hr; cases hr

/-- What a call comes to: its text's run, calls within by the same. -/
theorem VCall_code {T : VTab} {f : Nat} {F : AFun} (hf : T.fn f = some (.code F)) (args : List V) (rs : List Nat) (S : VH) : VCall T f args rs S = vfunL T f F args rs S := by
  apply Option.ext
  intro r
  rw [show (VCall T f args rs S = some r) = (∃ n, vcallN T n f args rs S = some r) from propext VCall_iff]
  constructor
  · rintro ⟨n, hn⟩
    cases n with
    | zero => cases hn
    | succ n =>
      unfold vcallN at hn
      rw [hf] at hn
      unfold vfunL
      simp only [vfun] at hn
      split at hn
      · rename_i hl
        rw [if_pos hl]
        exact endV_mono (fun r h => exec_upV h) hn
      · cases hn
  · intro h
    unfold vfunL at h
    split at h
    · rename_i hl
      cases hs : execV T.E T.Fl (VCall T) F.body ⟨frV args, rs.map fun k => (k, .own), S⟩ with
      | none => rw [hs] at h; cases h
      | some p =>
        rw [hs] at h
        obtain ⟨n, hn⟩ := exec_finV hs
        refine ⟨n + 1, ?_⟩
        unfold vcallN
        rw [hf]
        simp only [vfun]
        rw [if_pos hl, hn]
        exact h
    · cases h
theorem VCall_prim {T : VTab} {f : Nat} {p : List V → VH → Option (V × VH)} (hf : T.fn f = some (.prim p)) (args : List V) (rs : List Nat) (S : VH) : VCall T f args rs S = (p args S).map fun r => (r.1, [], r.2) := by
  apply Option.ext
  intro r
  rw [show (VCall T f args rs S = some r) = (∃ n, vcallN T n f args rs S = some r) from propext VCall_iff]
  constructor
  · rintro ⟨n, hn⟩
    cases n with
    | zero => cases hn
    | succ n => unfold vcallN at hn; rw [hf] at hn; exact hn
  · intro h
    exact ⟨1, by unfold vcallN; rw [hf]; exact h⟩
/-- A loop's round. -/
theorem loopV_eq (step : VS → VRes) (s : VS) : loopV step s = seqV (step s) (loopV step) := by
  apply Option.ext
  intro r
  rw [show (loopV step s = some r) = (∃ n, loopNV step n s = some r) from propext (loopNV_Mono step s).lim]
  constructor
  · rintro ⟨n, hn⟩
    cases n with
    | zero => cases hn
    | succ n =>
      simp only [loopNV] at hn
      unfold seqV
      split at hn
      · cases hn
      · rename_i s' hs; exact (loopNV_Mono step s').lim.2 ⟨n, hn⟩
      · exact hn
  · intro h
    rw [seqV_some] at h
    rcases h with ⟨s', h1, h2⟩ | ⟨h1, h2⟩
    · obtain ⟨n, hn⟩ := (loopNV_Mono step s').lim.1 h2
      exact ⟨n + 1, by simp only [loopNV]; rw [h1]; exact hn⟩
    · refine ⟨1, ?_⟩
      simp only [loopNV]
      rw [h1]
      obtain ⟨e, s'⟩ := r
      cases e <;> first | rfl | exact absurd rfl (h2 s')
end Go.Proofs.YtlecbjcloleiiaaDoor.Val

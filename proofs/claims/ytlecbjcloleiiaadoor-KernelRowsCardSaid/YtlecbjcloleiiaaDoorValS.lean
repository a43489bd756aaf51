import Derived.Test.YtlecbjcloleiiaaDoorValB
/-! The second machine step by step, for simp. -/
namespace Go.Proofs.YtlecbjcloleiiaaDoor.Val
open Go Go.Proofs.YtlecbjcloleiiaaDoor.Ram

/-- An equation that simp is to use as a step with a proof. -/
theorem nd {α : Type} {a b : α} (h : a = b) : a = b := h
section
variable {E : Env} {Fl : Flags} {O : VOracle} {f : VFr} {w : Rts} {h : VH} {st : VS}
@[simp] theorem x_skip : execV E Fl O .skip st = some (.norm, st) := nd rfl
@[simp] theorem x_reg {l : List AOper} : execV E Fl O (.reg l) st = (opsV E Fl O l st).map fun s => (.norm, s) := nd rfl
@[simp] theorem x_dreg {l : List DOp} : execV E Fl O (.dreg l) st = (dregV E Fl O l l st).map fun s => (.norm, s) := nd rfl
@[simp] theorem x_keep {l : List Nat} {c : ACode} : execV E Fl O (.keep l c) ⟨f, w, h⟩ = execV E Fl O c ⟨VFr.keep f l, Rts.keep w l, h⟩ := nd rfl
@[simp] theorem x_seq {a b : ACode} : execV E Fl O (.seq a b) st = seqV (execV E Fl O a st) (execV E Fl O b) := nd rfl
@[simp] theorem x_cond {c : Opd} {a b : ACode} : execV E Fl O (.cond c a b) ⟨f, w, h⟩ = condV (evV f c) (execV E Fl O a ⟨f, w, h⟩) (execV E Fl O b ⟨f, w, h⟩) := nd rfl
@[simp] theorem x_block {id : Nat} {b : ACode} : execV E Fl O (.block id b) st = blockV id (execV E Fl O b st) := nd rfl
/-- One loop's run, under a name that simp leaves alone. -/
noncomputable def loopX (E : Env) (Fl : Flags) (O : VOracle) (b : ACode) (st : VS) : VRes := loopV (fun s => roundV s.h (execV E Fl O b s.top)) st
theorem loopX_eq {b : ACode} : loopX E Fl O b st = seqV (roundV st.h (execV E Fl O b st.top)) (loopX E Fl O b) := loopV_eq _ _
theorem noCell_noCell : Rts.noCell (Rts.noCell w) = Rts.noCell w := by unfold Rts.noCell; rw [List.filter_filter]; congr 1; funext p; rw [Bool.and_self]
@[simp] theorem top_eq : VS.top ⟨f, w, h⟩ = ⟨f, w.noCell, h⟩ := nd rfl
theorem loopX_top {b : ACode} : loopX E Fl O b ⟨f, w, h⟩ = loopX E Fl O b ⟨f, w.noCell, h⟩ := by
  rw [loopX_eq, loopX_eq (st := ⟨f, w.noCell, h⟩)]
  simp only [top_eq, noCell_noCell]
@[simp] theorem x_loop {b : ACode} : execV E Fl O (.loop b) ⟨f, w, h⟩ = loopX E Fl O b ⟨f, w.noCell, h⟩ := by rw [← loopX_top]; rfl
@[simp] theorem x_exit {id : Nat} : execV E Fl O (.exit id) st = some (.exit id, st) := nd rfl
@[simp] theorem x_ret : execV E Fl O .ret st = some (.ret, st) := nd rfl
@[simp] theorem seqV_norm {k : VS → VRes} : seqV (some (.norm, st)) k = k st := nd rfl
@[simp] theorem seqV_ret {k : VS → VRes} : seqV (some (.ret, st)) k = some (.ret, st) := nd rfl
@[simp] theorem seqV_exit {k : VS → VRes} {i : Nat} : seqV (some (.exit i, st)) k = some (.exit i, st) := nd rfl
@[simp] theorem blockV_norm {i : Nat} : blockV i (some (.norm, st)) = some (.norm, st) := nd rfl
@[simp] theorem blockV_ret {i : Nat} : blockV i (some (.ret, st)) = some (.ret, st) := nd rfl
@[simp] theorem blockV_exit {i j : Nat} : blockV i (some (.exit j, st)) = if j = i then some (.norm, st) else some (.exit j, st) := nd rfl
@[simp] theorem condV_bool {b : Bool} {x y : VRes} : condV (some (.bool b)) x y = if b = true then x else y := by cases b <;> rfl
@[simp] theorem ev_t {n : Nat} : evV f (.t n) = VFr.get f n := nd rfl
@[simp] theorem ev_c {v : AV} : evV f (.c v) = ofAV v := nd rfl
@[simp] theorem ev_g {n : Nat} : evV f (.g n) = if n < 100 then some (.ptr (some (n, 0))) else none := nd rfl
@[simp] theorem ev_f {n : Nat} : evV f (.f n) = some (.fn n []) := nd rfl
@[simp] theorem of_int {k : IntKind} {n : Int} : ofAV (.int k n) = some (.int k n) := nd rfl
@[simp] theorem of_bool {b : Bool} : ofAV (.bool b) = some (.bool b) := nd rfl
@[simp] theorem of_str {s : List UInt8} : ofAV (.str s) = some (.str s) := nd rfl
@[simp] theorem of_ptr : ofAV (.ptr none) = some (.ptr none) := nd rfl
@[simp] theorem of_sl {sz : Nat} {c : Option Nat} : ofAV (.sl none sz 0 c) = some (.lst sz []) := nd rfl
@[simp] theorem of_map : ofAV (.map none) = some (.map none) := nd rfl
@[simp] theorem of_nilFn : ofAV .nilFn = some .nilFn := nd rfl
@[simp] theorem of_nilI : ofAV .nilI = some .nilI := nd rfl
@[simp] theorem of_ifc {t : Nat} {v : AV} : ofAV (.ifc t v) = (ofAV v).map (.ifc t) := nd rfl
@[simp] theorem of_agg {l : List AV} : ofAV (.agg l) = (ofAVs l).map .agg := nd rfl
@[simp] theorem ofs_nil : ofAVs [] = some [] := nd rfl
@[simp] theorem ofs_cons {x : AV} {l : List AV} : ofAVs (x :: l) = (ofAV x).bind fun v => (ofAVs l).map (v :: ·) := nd rfl
@[simp] theorem get_nil {n : Nat} : VFr.get [] n = none := nd rfl
@[simp] theorem get_cons {k n : Nat} {v : V} {r : VFr} : VFr.get ((k, v) :: r) n = if k = n then some v else VFr.get r n := nd rfl
def kpV (o : Option V) (n : Nat) (r : VFr) : VFr := match o with
  | some v => (n, v) :: r
  | none => r
@[simp] theorem kp_some {n : Nat} {v : V} {r : VFr} : kpV (some v) n r = (n, v) :: r := nd rfl
@[simp] theorem kp_none {n : Nat} {r : VFr} : kpV none n r = r := nd rfl
@[simp] theorem keep_nil : VFr.keep f [] = [] := nd rfl
@[simp] theorem keep_cons {n : Nat} {l : List Nat} : VFr.keep f (n :: l) = kpV (VFr.get f n) n (VFr.keep f l) := by
  unfold VFr.keep kpV
  rw [List.filterMap_cons]
  cases VFr.get f n <;> rfl
-- rights
@[simp] theorem rkeep_nil {l : List Nat} : Rts.keep [] l = [] := nd rfl
@[simp] theorem rkeep_cons {n : Nat} {t : Tag} {l : List Nat} : Rts.keep ((n, t) :: w) l = if n ∈ l then (n, t) :: Rts.keep w l else Rts.keep w l := by
  unfold Rts.keep
  rw [List.filter_cons]
  by_cases e : n ∈ l <;> simp [e]
@[simp] theorem rdel_nil {d : Nat} : Rts.del [] d = [] := nd rfl
@[simp] theorem rdel_cons {n d : Nat} {t : Tag} : Rts.del ((n, t) :: w) d = if n = d then Rts.del w d else (n, t) :: Rts.del w d := by
  unfold Rts.del
  rw [List.filter_cons]
  by_cases e : n = d <;> simp [e]
@[simp] theorem rmove_nil {n d : Nat} : Rts.move [] n d = [] := by simp [Rts.move]
@[simp] theorem rmove_cons {m n d : Nat} {t : Tag} : Rts.move ((m, t) :: w) n d = if n = d then (m, t) :: w else if m = d then Rts.move w n d else (if m = n then d else m, t) :: Rts.move w n d := by
  unfold Rts.move
  by_cases e : n = d
  · simp [e]
  · simp only [if_neg e, List.filter_cons, bne_iff_ne]
    by_cases e2 : m = d
    · simp [e2]
    · simp only [ne_eq, e2, not_false_eq_true, if_true, List.map_cons, if_false]
      congr 1
      split <;> rfl
@[simp] theorem rnoCell_nil : Rts.noCell [] = [] := nd rfl
@[simp] theorem rnoCell_own {n : Nat} : Rts.noCell ((n, .own) :: w) = (n, .own) :: Rts.noCell w := nd rfl
@[simp] theorem rnoCell_comp {n j : Nat} : Rts.noCell ((n, .comp j) :: w) = (n, .comp j) :: Rts.noCell w := nd rfl
@[simp] theorem rnoCell_cell {n i o : Nat} : Rts.noCell ((n, .cell i o) :: w) = Rts.noCell w := nd rfl
@[simp] theorem rnew_nil {n : Nat} : noCellNew n [] = [] := nd rfl
@[simp] theorem rnew_own {n m : Nat} : noCellNew n ((m, .own) :: w) = (m, .own) :: noCellNew n w := nd rfl
@[simp] theorem rnew_comp {n m j : Nat} : noCellNew n ((m, .comp j) :: w) = (m, .comp j) :: noCellNew n w := nd rfl
@[simp] theorem rnew_cell {n m i o : Nat} : noCellNew n ((m, .cell i o) :: w) = if i < n then (m, .cell i o) :: noCellNew n w else noCellNew n w := by
  unfold noCellNew
  rw [List.filter_cons]
  by_cases e : i < n <;> simp [e]
def hasR (w : Rts) (p : Nat × Tag) : Bool := w.contains p
@[simp] theorem has_nil {p : Nat × Tag} : List.contains ([] : Rts) p = false := nd rfl
@[simp] theorem has_cons {n m : Nat} {t t' : Tag} : List.contains ((m, t') :: w) (n, t) = (decide (n = m ∧ t = t') || List.contains w (n, t)) := by
  rw [List.contains_cons]
  congr 1
  by_cases e : n = m ∧ t = t'
  · obtain ⟨rfl, rfl⟩ := e; simp
  · rw [decide_eq_false e]
    exact beq_eq_false_iff_ne.2 fun h => e (Prod.mk.inj h)
@[simp] theorem fil_nil {p : Nat × Tag} : List.filter (fun x => x != p) ([] : Rts) = [] := nd rfl
@[simp] theorem fil_cons {n m : Nat} {t t' : Tag} : List.filter (fun x => x != (n, t)) ((m, t') :: w) = if m = n ∧ t' = t then List.filter (fun x => x != (n, t)) w else (m, t') :: List.filter (fun x => x != (n, t)) w := by
  rw [List.filter_cons]
  by_cases e : m = n ∧ t' = t
  · obtain ⟨rfl, rfl⟩ := e; simp
  · rw [if_neg e, if_pos (bne_iff_ne.2 fun h => e (Prod.mk.inj h))]
-- operations
@[simp] theorem ops_nil : opsV E Fl O [] st = some st := nd rfl
@[simp] theorem ops_cons {o : AOper} {l : List AOper} : opsV E Fl O (o :: l) st = (stepV E Fl O o st).bind (opsV E Fl O l) := nd rfl
@[simp] theorem dreg_nil {all : List DOp} : dregV E Fl O all [] st = some st := nd rfl
@[simp] theorem dreg_cons {all : List DOp} {i : Nat} {o : AOper} {pre : List Nat} {l : List DOp} : dregV E Fl O all (⟨i, o, pre, []⟩ :: l) st = (stepV E Fl O o st).bind (dregV E Fl O all l) := by
  simp only [dregV]
  congr 1
def gdV (g : Option V) (want : Bool) (s r : Option VS) : Option VS := match g with
  | some (.bool b) => if b = want then r else s
  | some .und => s
  | _ => none
@[simp] theorem gd_bool {b want : Bool} {s r : Option VS} : gdV (some (.bool b)) want s r = if b = want then r else s := nd rfl
@[simp] theorem gd_und {want : Bool} {s r : Option VS} : gdV (some .und) want s r = s := nd rfl
@[simp] theorem step_guard {d : Nat} {op : AOp} {t : Nat} {want : Bool} : stepV E Fl O ⟨some d, op, some (t, want)⟩ ⟨f, w, h⟩ = gdV (VFr.get f t) want (some ⟨(d, .und) :: f, w.del d, h⟩) (stepV E Fl O ⟨some d, op, none⟩ ⟨f, w, h⟩) := by
  unfold stepV gdV
  simp only [wantedV]
  cases VFr.get f t with
  | none => rfl
  | some v =>
    cases v <;> first | rfl | skip
    rename_i b
    cases b <;> cases want <;> rfl
@[simp] theorem step_guard0 {op : AOp} {t : Nat} {want : Bool} : stepV E Fl O ⟨none, op, some (t, want)⟩ ⟨f, w, h⟩ = gdV (VFr.get f t) want (some ⟨f, w, h⟩) (stepV E Fl O ⟨none, op, none⟩ ⟨f, w, h⟩) := by
  unfold stepV gdV
  simp only [wantedV]
  cases VFr.get f t with
  | none => rfl
  | some v =>
    cases v <;> first | rfl | skip
    rename_i b
    cases b <;> cases want <;> rfl
theorem step_pure {d : Nat} {op : AOp} (hp : op.isPure = true) : stepV E Fl O ⟨some d, op, none⟩ ⟨f, w, h⟩ = (pureV f op).map fun v => ⟨(d, v) :: f, rtsV ⟨f, w, h⟩ d op, h⟩ := by
  unfold stepV opV
  simp only [wantedV, hp, if_true]
  rfl
theorem step_read {d : Nat} {op : AOp} (hp : op.isPure = false) (hq : op.isRead = true) : stepV E Fl O ⟨some d, op, none⟩ ⟨f, w, h⟩ = (readV E f h op).map fun v => ⟨(d, v) :: f, rtsV ⟨f, w, h⟩ d op, h⟩ := by
  unfold stepV opV
  simp only [wantedV, hp, hq, if_true, Bool.false_eq_true, if_false]
  rfl
theorem step_act {d : Option Nat} {op : AOp} (hp : op.isPure = false) (hq : op.isRead = false) : stepV E Fl O ⟨d, op, none⟩ ⟨f, w, h⟩ = actV Fl O ⟨f, w, h⟩ d op := by
  unfold stepV opV
  simp only [wantedV, hp, hq, Bool.false_eq_true, if_false]
variable {d n m : Nat} {x y z : Opd}
@[simp] theorem s_mov_t : stepV E Fl O ⟨some d, .mov (.t n), none⟩ ⟨f, w, h⟩ = (VFr.get f n).map fun v => ⟨(d, v) :: f, w.move n d, h⟩ := step_pure rfl
@[simp] theorem s_mov_nil {sz k : Nat} {c : Option Nat} : stepV E Fl O ⟨some d, .mov (.c (.sl none sz k c)), none⟩ ⟨f, w, h⟩ = (ofAV (.sl none sz k c)).map fun v => ⟨(d, v) :: f, (d, .own) :: w.del d, h⟩ := step_pure rfl
@[simp] theorem s_mov_int {k : IntKind} {i : Int} : stepV E Fl O ⟨some d, .mov (.c (.int k i)), none⟩ ⟨f, w, h⟩ = some ⟨(d, .int k i) :: f, w.del d, h⟩ := step_pure rfl
@[simp] theorem s_mov_bool {b : Bool} : stepV E Fl O ⟨some d, .mov (.c (.bool b)), none⟩ ⟨f, w, h⟩ = some ⟨(d, .bool b) :: f, w.del d, h⟩ := step_pure rfl
@[simp] theorem s_mov_str {s : List UInt8} : stepV E Fl O ⟨some d, .mov (.c (.str s)), none⟩ ⟨f, w, h⟩ = some ⟨(d, .str s) :: f, w.del d, h⟩ := step_pure rfl
@[simp] theorem s_mov_ptr {p : Option (Nat × Nat)} : stepV E Fl O ⟨some d, .mov (.c (.ptr p)), none⟩ ⟨f, w, h⟩ = (ofAV (.ptr p)).map fun v => ⟨(d, v) :: f, w.del d, h⟩ := step_pure rfl
@[simp] theorem s_mov_map {p : Option Nat} : stepV E Fl O ⟨some d, .mov (.c (.map p)), none⟩ ⟨f, w, h⟩ = (ofAV (.map p)).map fun v => ⟨(d, v) :: f, w.del d, h⟩ := step_pure rfl
@[simp] theorem s_mov_nilFn : stepV E Fl O ⟨some d, .mov (.c .nilFn), none⟩ ⟨f, w, h⟩ = some ⟨(d, .nilFn) :: f, w.del d, h⟩ := step_pure rfl
@[simp] theorem s_mov_nilI : stepV E Fl O ⟨some d, .mov (.c .nilI), none⟩ ⟨f, w, h⟩ = some ⟨(d, .nilI) :: f, w.del d, h⟩ := step_pure rfl
@[simp] theorem s_mov_agg {l : List AV} : stepV E Fl O ⟨some d, .mov (.c (.agg l)), none⟩ ⟨f, w, h⟩ = (ofAV (.agg l)).map fun v => ⟨(d, v) :: f, w.del d, h⟩ := step_pure rfl
@[simp] theorem s_mov_ifc {t : Nat} {v : AV} : stepV E Fl O ⟨some d, .mov (.c (.ifc t v)), none⟩ ⟨f, w, h⟩ = (ofAV (.ifc t v)).map fun v => ⟨(d, v) :: f, w.del d, h⟩ := step_pure rfl
@[simp] theorem s_mov_g : stepV E Fl O ⟨some d, .mov (.g n), none⟩ ⟨f, w, h⟩ = (evV f (.g n)).map fun v => ⟨(d, v) :: f, w.del d, h⟩ := step_pure rfl
@[simp] theorem s_mov_f : stepV E Fl O ⟨some d, .mov (.f n), none⟩ ⟨f, w, h⟩ = some ⟨(d, .fn n []) :: f, w.del d, h⟩ := step_pure rfl
@[simp] theorem pickV_bool {c : Bool} {a b : Option V} : pickV (some (.bool c)) a b = if c = true then a else b := by cases c <;> rfl
@[simp] theorem s_pick : stepV E Fl O ⟨some d, .pick x y z, none⟩ ⟨f, w, h⟩ = (pickV (evV f x) (evV f y) (evV f z)).map fun v => ⟨(d, v) :: f, w.del d, h⟩ := step_pure rfl
@[simp] theorem s_build {zero : List AV} {ps : List (Nat × Nat × Opd)} : stepV E Fl O ⟨some d, .build zero ps, none⟩ ⟨f, w, h⟩ = (ofAVs zero).bind fun z => (partsV f ps).bind fun qs => (fillV z qs).map fun l => ⟨(d, .agg l) :: f, bldR w d zero ps, h⟩ := by
  rw [step_pure rfl]
  simp only [pureV, Option.map_bind, Function.comp_def, Option.map_map]
  rfl
@[simp] theorem s_nilchk : stepV E Fl O ⟨some d, .nilchk x, none⟩ ⟨f, w, h⟩ = (evV f x).bind fun v => (nilchkV v).map fun v => ⟨(d, v) :: f, w.del d, h⟩ := by
  rw [step_pure rfl]; simp only [pureV, Option.map_bind, Function.comp_def]; rfl
@[simp] theorem s_bin {op : BinOp} : stepV E Fl O ⟨some d, .bin op x y, none⟩ ⟨f, w, h⟩ = (evV f x).bind fun a => (evV f y).bind fun b => (binV op a b).map fun v => ⟨(d, v) :: f, w.del d, h⟩ := by
  rw [step_pure rfl]; simp only [pureV, Option.map_bind, Function.comp_def]; rfl
@[simp] theorem s_not : stepV E Fl O ⟨some d, .not x, none⟩ ⟨f, w, h⟩ = (evV f x).bind fun v => (notV v).map fun v => ⟨(d, v) :: f, w.del d, h⟩ := by
  rw [step_pure rfl]; simp only [pureV, Option.map_bind, Function.comp_def]; rfl
@[simp] theorem s_neg : stepV E Fl O ⟨some d, .neg x, none⟩ ⟨f, w, h⟩ = (evV f x).bind fun v => (negV v).map fun v => ⟨(d, v) :: f, w.del d, h⟩ := by
  rw [step_pure rfl]; simp only [pureV, Option.map_bind, Function.comp_def]; rfl
@[simp] theorem s_conv {k : IntKind} : stepV E Fl O ⟨some d, .conv k x, none⟩ ⟨f, w, h⟩ = (evV f x).bind fun v => (convV k v).map fun v => ⟨(d, v) :: f, w.del d, h⟩ := by
  rw [step_pure rfl]; simp only [pureV, Option.map_bind, Function.comp_def]; rfl
@[simp] theorem s_convS : stepV E Fl O ⟨some d, .convS x, none⟩ ⟨f, w, h⟩ = (evV f x).bind fun v => (convSV v).map fun v => ⟨(d, v) :: f, w.del d, h⟩ := by
  rw [step_pure rfl]; simp only [pureV, Option.map_bind, Function.comp_def]; rfl
@[simp] theorem s_mkIfc {t : Nat} : stepV E Fl O ⟨some d, .mkIfc t x, none⟩ ⟨f, w, h⟩ = (evV f x).map fun v => ⟨(d, .ifc t v) :: f, w.del d, h⟩ := by
  rw [step_pure rfl]; simp only [pureV, Option.map_map]; rfl
@[simp] theorem s_mkFn {g : Nat} {caps : List Opd} : stepV E Fl O ⟨some d, .mkFn g caps, none⟩ ⟨f, w, h⟩ = (evsV f caps).map fun v => ⟨(d, .fn g v) :: f, w.del d, h⟩ := by
  rw [step_pure rfl]; simp only [pureV, Option.map_map]; rfl
@[simp] theorem s_slc_hi {sz : Nat} {lo : Option Opd} {hi : Opd} : stepV E Fl O ⟨some d, .slc sz x lo (some hi), none⟩ ⟨f, w, h⟩ = (evV f x).bind fun v => (oev f lo).bind fun l => (oev f (some hi)).bind fun u => (slcV sz v l u).map fun v => ⟨(d, v) :: f, w.del d, h⟩ := by
  rw [step_pure rfl]; simp only [pureV, Option.map_bind, Function.comp_def, rtsV, slcR]
@[simp] theorem s_slc_lo {sz : Nat} {lo : Option Opd} : stepV E Fl O ⟨some d, .slc sz x lo none, none⟩ ⟨f, w, h⟩ = (evV f x).bind fun v => (oev f lo).bind fun l => (slcV sz v l none).map fun v => ⟨(d, v) :: f, slcR w x none d, h⟩ := by
  rw [step_pure rfl]; simp only [pureV, Option.map_bind, Function.comp_def, oev, Option.bind_some, rtsV]
@[simp] theorem slcR_t {hi : Option Opd} : slcR w (.t n) none d = if w.contains (n, .own) && n != d then (d, .own) :: (Rts.del (w.filter fun p => p != (n, .own)) d) else w.del d := nd rfl
@[simp] theorem oev_none : oev f none = some none := nd rfl
@[simp] theorem oev_some : oev f (some x) = (evV f x).map some := nd rfl
@[simp] theorem s_fieldA {off : Nat} : stepV E Fl O ⟨some d, .fieldA off x, none⟩ ⟨f, w, h⟩ = (evV f x).bind fun v => (fieldAV off v).map fun v => ⟨(d, v) :: f, w.del d, h⟩ := by
  rw [step_pure rfl]; simp only [pureV, Option.map_bind, Function.comp_def]; rfl
@[simp] theorem s_field {off : Nat} {ag : Bool} : stepV E Fl O ⟨some d, .field off n ag x, none⟩ ⟨f, w, h⟩ = (evV f x).bind fun v => (fieldV off n ag v).map fun v => ⟨(d, v) :: f, w.del d, h⟩ := by
  rw [step_pure rfl]; simp only [pureV, Option.map_bind, Function.comp_def]; rfl
@[simp] theorem s_indexA {sz : Nat} : stepV E Fl O ⟨some d, .indexA sz x y, none⟩ ⟨f, w, h⟩ = (evV f x).bind fun a => (evV f y).bind fun b => (indexV sz a b).map fun v => ⟨(d, v) :: f, w.del d, h⟩ := by
  rw [step_pure rfl]; simp only [pureV, Option.map_bind, Function.comp_def]; rfl
@[simp] theorem s_index : stepV E Fl O ⟨some d, .index x y, none⟩ ⟨f, w, h⟩ = (evV f x).bind fun a => (evV f y).bind fun b => (chrV a b).map fun v => ⟨(d, v) :: f, w.del d, h⟩ := by
  rw [step_pure rfl]; simp only [pureV, Option.map_bind, Function.comp_def]; rfl
@[simp] theorem s_extract {j : Nat} : stepV E Fl O ⟨some d, .extract x j, none⟩ ⟨f, w, h⟩ = (evV f x).bind fun v => (extractV j v).map fun v => ⟨(d, v) :: f, extR w x j d, h⟩ := by
  rw [step_pure rfl]; simp only [pureV, Option.map_bind, Function.comp_def]; rfl
@[simp] theorem extR_t {j : Nat} : extR w (.t n) j d = if w.contains (n, .comp j) && n != d then (d, .own) :: (Rts.del (w.filter fun p => p != (n, .comp j)) d) else w.del d := nd rfl
@[simp] theorem s_len {b : Bool} : stepV E Fl O ⟨some d, .len b x, none⟩ ⟨f, w, h⟩ = (evV f x).bind fun v => (lenV b v).map fun v => ⟨(d, v) :: f, w.del d, h⟩ := by
  rw [step_pure rfl]; simp only [pureV, Option.map_bind, Function.comp_def]; rfl
@[simp] theorem s_minmax {b : Bool} : stepV E Fl O ⟨some d, .minmax b x y, none⟩ ⟨f, w, h⟩ = (evV f x).bind fun a => (evV f y).bind fun c => (minmaxV b a c).map fun v => ⟨(d, v) :: f, w.del d, h⟩ := by
  rw [step_pure rfl]; simp only [pureV, Option.map_bind, Function.comp_def]; rfl
def loadW (w : Rts) (h : VH) (ag : Bool) (p : V) (d : Nat) : Rts := loadR w h ag (some p) d
@[simp] theorem s_load {ag : Bool} : stepV E Fl O ⟨some d, .load n ag x, none⟩ ⟨f, w, h⟩ = (evV f x).bind fun p => (loadV h n ag p).map fun v => ⟨(d, v) :: f, loadW w h ag p d, h⟩ := by
  rw [step_read rfl rfl]
  simp only [readV, Option.map_bind, rtsV]
  cases evV f x <;> rfl
@[simp] theorem loadW_ag {p : V} : loadW w h true p d = w.del d := nd rfl
@[simp] theorem loadW_r {r : List V} {o : Nat} : loadW w h false (.rptr r o) d = w.del d := nd rfl
@[simp] theorem loadW_p {i o : Nat} : loadW w h false (.ptr (some (i, o))) d = if ownAt h i o then (d, .cell i o) :: w.del d else w.del d := nd rfl
@[simp] theorem s_eq {neg : Bool} {k : EqK} : stepV E Fl O ⟨some d, .eq neg k x y, none⟩ ⟨f, w, h⟩ = (evV f x).bind fun a => (evV f y).bind fun b => (eqV E h (x.isC || y.isC) k a b).map fun r => ⟨(d, .bool (if neg then !r else r)) :: f, w.del d, h⟩ := by
  rw [step_read rfl rfl]; simp only [readV, Option.map_bind, Function.comp_def, Option.map_map]; rfl
@[simp] theorem s_lookup {dv : AV} {ok : Bool} : stepV E Fl O ⟨some d, .lookup dv ok x y, none⟩ ⟨f, w, h⟩ = (ofAV dv).bind fun dv => (evV f x).bind fun a => (evV f y).bind fun b => (lookupV h dv ok a b).map fun v => ⟨(d, v) :: f, w.del d, h⟩ := by
  rw [step_read rfl rfl]; simp only [readV, Option.map_bind, Function.comp_def]; rfl
@[simp] theorem nilA_n {sz : Nat} {c : Option Nat} : isNilA (.sl none sz 0 c) = true := nd rfl
@[simp] theorem nilA_i {k : IntKind} {i : Int} : isNilA (.int k i) = false := nd rfl
@[simp] theorem nilA_b {b : Bool} : isNilA (.bool b) = false := nd rfl
@[simp] theorem nilA_s {s : List UInt8} : isNilA (.str s) = false := nd rfl
@[simp] theorem nilA_p {p : Option (Nat × Nat)} : isNilA (.ptr p) = false := nd rfl
@[simp] theorem nilA_m {p : Option Nat} : isNilA (.map p) = false := nd rfl
@[simp] theorem nilA_f : isNilA .nilFn = false := nd rfl
@[simp] theorem nilA_0 : isNilA .nilI = false := nd rfl
@[simp] theorem nilA_e {t : Nat} {v : AV} : isNilA (.ifc t v) = false := nd rfl
@[simp] theorem nilA_a {l : List AV} : isNilA (.agg l) = false := nd rfl
@[simp] theorem nils_nil {k : Nat} : nilsFrom k [] = [] := nd rfl
@[simp] theorem nils_cons {k : Nat} {x : AV} {l : List AV} : nilsFrom k (x :: l) = if isNilA x then k :: nilsFrom (k + 1) l else nilsFrom (k + 1) l := nd rfl
@[simp] theorem free_nil {j : Nat} : free [] j = true := nd rfl
@[simp] theorem free_cons {j a b : Nat} {x : Opd} {l : List (Nat × Nat × Opd)} : free ((a, b, x) :: l) j = ((decide (j < a) || decide (a + b ≤ j)) && free l j) := nd rfl
def frees (ps : List (Nat × Nat × Opd)) (l : List Nat) : List Nat := l.filter (free ps)
@[simp] theorem frees_nil {ps : List (Nat × Nat × Opd)} : frees ps [] = [] := nd rfl
@[simp] theorem frees_cons {ps : List (Nat × Nat × Opd)} {j : Nat} {l : List Nat} : frees ps (j :: l) = if free ps j then j :: frees ps l else frees ps l := by
  unfold frees; rw [List.filter_cons]
@[simp] theorem bldR_eq {zero : List AV} {ps : List (Nat × Nat × Opd)} : bldR w d zero ps = (frees ps (nilsFrom 0 zero)).map (fun j => (d, .comp j)) ++ w.del d := nd rfl
section
variable {v : V}
@[simp] theorem comps_nil : compsOf [] x v = [] := by unfold compsOf; split <;> rfl
@[simp] theorem comps_comp {j : Nat} {l : List V} : compsOf ((m, .comp j) :: w) (.t n) (.agg l) = if m = n then j :: compsOf w (.t n) (.agg l) else compsOf w (.t n) (.agg l) := by
  simp only [compsOf, List.filterMap_cons]
  by_cases e : m = n <;> simp [e]
@[simp] theorem comps_own {l : List V} : compsOf ((m, .own) :: w) (.t n) (.agg l) = compsOf w (.t n) (.agg l) := nd rfl
@[simp] theorem comps_cell {i o : Nat} {l : List V} : compsOf ((m, .cell i o) :: w) (.t n) (.agg l) = compsOf w (.t n) (.agg l) := nd rfl
@[simp] theorem comps_i {k : IntKind} {i : Int} : compsOf w (.t n) (.int k i) = [] := nd rfl
@[simp] theorem comps_b {b : Bool} : compsOf w (.t n) (.bool b) = [] := nd rfl
@[simp] theorem comps_s {s : List UInt8} : compsOf w (.t n) (.str s) = [] := nd rfl
@[simp] theorem comps_l {sz : Nat} {l : List (List V)} : compsOf w (.t n) (.lst sz l) = [] := nd rfl
@[simp] theorem comps_p {p : Option (Nat × Nat)} : compsOf w (.t n) (.ptr p) = [] := nd rfl
@[simp] theorem comps_r {r : List V} {o : Nat} : compsOf w (.t n) (.rptr r o) = [] := nd rfl
@[simp] theorem comps_m {p : Option Nat} : compsOf w (.t n) (.map p) = [] := nd rfl
@[simp] theorem comps_f {g : Nat} {l : List V} : compsOf w (.t n) (.fn g l) = [] := nd rfl
@[simp] theorem comps_e {t : Nat} {u : V} : compsOf w (.t n) (.ifc t u) = [] := nd rfl
@[simp] theorem comps_0 : compsOf w (.t n) .nilI = [] := nd rfl
@[simp] theorem comps_1 : compsOf w (.t n) .nilFn = [] := nd rfl
@[simp] theorem comps_c {a : AV} : compsOf w (.c a) v = [] := nd rfl
end
@[simp] theorem s_alloc {zero : List AV} : stepV E Fl O ⟨some d, .alloc zero, none⟩ ⟨f, w, h⟩ = (ofAVs zero).map fun z => ⟨(d, .ptr (some (h.next, 0))) :: f, noCellNew h.next (w.del d), h.push (.cells z (nilsFrom 0 zero))⟩ := by
  rw [step_act rfl rfl]; simp only [actV, Option.map_some]; cases ofAVs zero <;> rfl
@[simp] theorem s_box : stepV E Fl O ⟨some d, .box x, none⟩ ⟨f, w, h⟩ = (evV f x).bind fun v => if (cellsV v).all oneV = true then some ⟨(d, .ptr (some (h.next, 0))) :: f, noCellNew h.next (w.del d), h.push (.cells (cellsV v) (compsOf w x v))⟩ else none := by
  rw [step_act rfl rfl]; simp only [actV, Option.map_some]; rfl
@[simp] theorem s_mkMap : stepV E Fl O ⟨some d, .mkMap, none⟩ ⟨f, w, h⟩ = some ⟨(d, .map (some h.next)) :: f, w.del d, h.push (.map [])⟩ := by
  rw [step_act rfl rfl]; rfl
@[simp] theorem s_bslice {sz len : Nat} {zero : List AV} {ps : List (Nat × Nat × Opd)} : stepV E Fl O ⟨some d, .bslice sz len zero ps, none⟩ ⟨f, w, h⟩ = (ofAVs zero).bind fun z => (partsV f ps).bind fun qs => (fillV z qs).bind fun l => if l.length = len * sz ∧ 0 < sz then some ⟨(d, .lst sz (rowsOf sz len l)) :: f, (d, .own) :: w.del d, h⟩ else none := by
  rw [step_act rfl rfl]; simp only [actV, Option.map_some]; rfl
def mkV (f : VFr) (w : Rts) (h : VH) (d sz bytes : Nat) (zero : List AV) (l c : V) : Option VS := match l, c with
  | .int _ l, .int _ c => if l = 0 ∧ 0 ≤ c ∧ (bytes : Int) * c ≤ 281474976710656 ∧ c ≤ 9223372036854775807 ∧ 0 < sz ∧ zero.length = sz then some ⟨(d, .lst sz []) :: f, (d, .own) :: w.del d, h⟩ else none
  | _, _ => none
@[simp] theorem mkV_i {d sz bytes : Nat} {zero : List AV} {k k' : IntKind} {l c : Int} : mkV f w h d sz bytes zero (.int k l) (.int k' c) = if l = 0 ∧ 0 ≤ c ∧ (bytes : Int) * c ≤ 281474976710656 ∧ c ≤ 9223372036854775807 ∧ 0 < sz ∧ zero.length = sz then some ⟨(d, .lst sz []) :: f, (d, .own) :: w.del d, h⟩ else none := nd rfl
@[simp] theorem s_mkSlice {sz bytes : Nat} {zero : List AV} : stepV E Fl O ⟨some d, .mkSlice sz bytes zero x y, none⟩ ⟨f, w, h⟩ = (evV f x).bind fun l => (evV f y).bind fun c => mkV f w h d sz bytes zero l c := by
  rw [step_act rfl rfl]; simp only [actV, Option.map_some]; rfl
@[simp] theorem s_store_t {k : Nat} : stepV E Fl O ⟨none, .store n x (.t k), none⟩ ⟨f, w, h⟩ = (evV f x).bind fun p => (VFr.get f k).bind fun v => (storeV h n p v (decide (n = 1) && w.contains (k, .own))).map fun S => ⟨f, if decide (n = 1) && w.contains (k, .own) then Rts.noCell (w.filter fun p => p != (k, .own)) else Rts.noCell w, S⟩ := by
  rw [step_act rfl rfl]; simp only [actV, Option.isSome_none, Bool.false_eq_true, if_false]; rfl
@[simp] theorem s_store_c {v : AV} : stepV E Fl O ⟨none, .store n x (.c v), none⟩ ⟨f, w, h⟩ = (evV f x).bind fun p => (ofAV v).bind fun u => (storeV h n p u (match v with | .sl none _ _ _ => decide (n = 1) | _ => false)).map fun S => ⟨f, w.noCell, S⟩ := by
  rw [step_act rfl rfl]; simp only [actV, Option.isSome_none, Bool.false_eq_true, if_false]; cases v <;> first | rfl | (rename_i a b c e; cases a <;> rfl)
@[simp] theorem s_store_g {k : Nat} : stepV E Fl O ⟨none, .store n x (.g k), none⟩ ⟨f, w, h⟩ = (evV f x).bind fun p => (evV f (.g k)).bind fun v => (storeV h n p v false).map fun S => ⟨f, w.noCell, S⟩ := by
  rw [step_act rfl rfl]; simp only [actV, Option.isSome_none, Bool.false_eq_true, if_false]; rfl
@[simp] theorem s_store_f {k : Nat} : stepV E Fl O ⟨none, .store n x (.f k), none⟩ ⟨f, w, h⟩ = (evV f x).bind fun p => (storeV h n p (.fn k []) false).map fun S => ⟨f, w.noCell, S⟩ := by
  rw [step_act rfl rfl]; simp only [actV, Option.isSome_none, Bool.false_eq_true, if_false]; rfl
def msO (f : VFr) (w : Rts) (h : VH) (i : Nat) (s : List UInt8) (x : V) (o : Option VObj) : Option VS := match o with
  | some (.map l) => if oneV x then some ⟨f, w, h.set i (.map (mapSetV l s x))⟩ else none
  | _ => none
@[simp] theorem msO_m {i : Nat} {s : List UInt8} {v : V} {l : List (List UInt8 × V)} : msO f w h i s v (some (.map l)) = if oneV v then some ⟨f, w, h.set i (.map (mapSetV l s v))⟩ else none := nd rfl
def msV (f : VFr) (w : Rts) (h : VH) (m k x : V) : Option VS := match m, k with
  | .map (some i), .str s => msO f w h i s x (h.get i)
  | _, _ => none
@[simp] theorem msV_m {i : Nat} {s : List UInt8} {v : V} : msV f w h (.map (some i)) (.str s) v = msO f w h i s v (h.get i) := nd rfl
@[simp] theorem s_mset : stepV E Fl O ⟨none, .mset x y z, none⟩ ⟨f, w, h⟩ = (evV f x).bind fun m => (evV f y).bind fun k => (evV f z).bind fun v => msV f w h m k v := by
  rw [step_act rfl rfl]; simp only [actV, Option.isNone_none, Bool.and_true]; rfl
@[simp] theorem s_mdel {d : Option Nat} : stepV E Fl O ⟨d, .mdel x y, none⟩ ⟨f, w, h⟩ = actV Fl O ⟨f, w, h⟩ d (.mdel x y) := step_act rfl rfl
@[simp] theorem s_callF {g : Nat} {l : List Opd} : stepV E Fl O ⟨some d, .callF g l, none⟩ ⟨f, w, h⟩ = (evsV f l).bind fun vs => (O g vs (fstL (goes w (Fl.lin g) l)) h).map fun r => ⟨(d, r.1) :: f, gives d r.1 r.2.1 ++ (gone w.noCell (goes w (Fl.lin g) l)).del d, r.2.2⟩ := by
  rw [step_act rfl rfl]; rfl
@[simp] theorem s_callF0 {g : Nat} {l : List Opd} : stepV E Fl O ⟨none, .callF g l, none⟩ ⟨f, w, h⟩ = (evsV f l).bind fun vs => (O g vs (fstL (goes w (Fl.lin g) l)) h).map fun r => ⟨f, gone w.noCell (goes w (Fl.lin g) l), r.2.2⟩ := by
  rw [step_act rfl rfl]; rfl
def cvV (Fl : Flags) (O : VOracle) (st : VS) (d : Option Nat) (l : List Opd) (c : V) : Option VS := match c with
  | .fn g caps => if Fl.lin g = none then (evsV st.f l).bind fun vs => callR Fl O st d g l (vs ++ caps) else none
  | _ => none
@[simp] theorem cvV_fn {d : Option Nat} {l : List Opd} {g : Nat} {caps : List V} : cvV Fl O ⟨f, w, h⟩ d l (.fn g caps) = if Fl.lin g = none then (evsV f l).bind fun vs => callR Fl O ⟨f, w, h⟩ d g l (vs ++ caps) else none := nd rfl
@[simp] theorem callR_s {d g : Nat} {l : List Opd} {vs : List V} : callR Fl O ⟨f, w, h⟩ (some d) g l vs = (O g vs (fstL (goes w (Fl.lin g) l)) h).map fun r => ⟨(d, r.1) :: f, gives d r.1 r.2.1 ++ (gone w.noCell (goes w (Fl.lin g) l)).del d, r.2.2⟩ := nd rfl
@[simp] theorem callR_n {g : Nat} {l : List Opd} {vs : List V} : callR Fl O ⟨f, w, h⟩ none g l vs = (O g vs (fstL (goes w (Fl.lin g) l)) h).map fun r => ⟨f, gone w.noCell (goes w (Fl.lin g) l), r.2.2⟩ := nd rfl
@[simp] theorem s_callV {d : Option Nat} {l : List Opd} : stepV E Fl O ⟨d, .callV x l, none⟩ ⟨f, w, h⟩ = (evV f x).bind (cvV Fl O ⟨f, w, h⟩ d l) := by
  rw [step_act rfl rfl]; rfl
@[simp] theorem goes_none {l : List Opd} : goes w none l = none := nd rfl
@[simp] theorem fstL_none : fstL none = [] := nd rfl
@[simp] theorem gone_none : gone w none = w := nd rfl
@[simp] theorem gives_nil' {v : V} : gives d v [] = [] := by unfold gives; split <;> simp
@[simp] theorem s_append {sz bytes : Nat} : stepV E Fl O ⟨some d, .append true sz bytes x y, none⟩ ⟨f, w, h⟩ = appV ⟨f, w, h⟩ d sz bytes x y := by
  rw [step_act rfl rfl]; rfl
end
end Go.Proofs.YtlecbjcloleiiaaDoor.Val

import Derived.Test.YtlecbjcloleiiaaDoorRamA
/-! The machine step by step, for simp. -/
namespace Go.Proofs.YtlecbjcloleiiaaDoor.Ram
open Go

/-- An equation that simp is to use as a step with a proof. -/
theorem nd {α : Type} {a b : α} (h : a = b) : a = b := h
section
variable {E : Env} {O : Oracle} {fr : Fr} {H : AH} {st : St}
@[simp] theorem x_skip : execL E O .skip st = some (.norm, st) := nd rfl
@[simp] theorem x_reg {l : List AOper} : execL E O (.reg l) st = (opsA E O l st).map fun s => (.norm, s) := nd rfl
@[simp] theorem x_dreg {l : List DOp} : execL E O (.dreg l) st = (dregA E O l l st).map fun s => (.norm, s) := nd rfl
@[simp] theorem x_keep {l : List Nat} {c : ACode} : execL E O (.keep l c) (fr, H) = execL E O c (Fr.keep fr l, H) := nd rfl
@[simp] theorem x_seq {a b : ACode} : execL E O (.seq a b) st = seqR (execL E O a st) (execL E O b) := nd rfl
@[simp] theorem x_cond {c : Opd} {a b : ACode} : execL E O (.cond c a b) (fr, H) = condR (c.ev fr) (execL E O a (fr, H)) (execL E O b (fr, H)) := nd rfl
@[simp] theorem x_block {id : Nat} {b : ACode} : execL E O (.block id b) st = blockR id (execL E O b st) := nd rfl
@[simp] theorem x_loop {b : ACode} : execL E O (.loop b) st = loopL (execL E O b) st := nd rfl
@[simp] theorem x_exit {id : Nat} : execL E O (.exit id) st = some (.exit id, st) := nd rfl
@[simp] theorem x_ret : execL E O .ret st = some (.ret, st) := nd rfl
@[simp] theorem seqR_norm {k : St → Res} : seqR (some (.norm, st)) k = k st := nd rfl
@[simp] theorem seqR_ret {k : St → Res} : seqR (some (.ret, st)) k = some (.ret, st) := nd rfl
@[simp] theorem seqR_exit {k : St → Res} {i : Nat} : seqR (some (.exit i, st)) k = some (.exit i, st) := nd rfl
@[simp] theorem blockR_norm {i : Nat} : blockR i (some (.norm, st)) = some (.norm, st) := nd rfl
@[simp] theorem blockR_ret {i : Nat} : blockR i (some (.ret, st)) = some (.ret, st) := nd rfl
@[simp] theorem blockR_exit {i j : Nat} : blockR i (some (.exit j, st)) = if j = i then some (.norm, st) else some (.exit j, st) := nd rfl
@[simp] theorem condR_bool {b : Bool} {x y : Res} : condR (some (.bool b)) x y = if b = true then x else y := by cases b <;> rfl
@[simp] theorem ev_t {n : Nat} : (Opd.t n).ev fr = Fr.get fr n := nd rfl
@[simp] theorem ev_c {v : AV} : (Opd.c v).ev fr = some v := nd rfl
@[simp] theorem ev_g {n : Nat} : (Opd.g n).ev fr = some (.ptr (some (n, 0))) := nd rfl
@[simp] theorem ev_f {n : Nat} : (Opd.f n).ev fr = some (.fn n []) := nd rfl
@[simp] theorem get_nil {n : Nat} : Fr.get [] n = none := nd rfl
@[simp] theorem get_cons {k n : Nat} {v : AV} {r : Fr} : Fr.get ((k, v) :: r) n = if k = n then some v else Fr.get r n := nd rfl
def kp (o : Option AV) (n : Nat) (r : Fr) : Fr := match o with
  | some v => (n, v) :: r
  | none => r
@[simp] theorem kp_some {n : Nat} {v : AV} {r : Fr} : kp (some v) n r = (n, v) :: r := nd rfl
@[simp] theorem kp_none {n : Nat} {r : Fr} : kp none n r = r := nd rfl
@[simp] theorem keep_nil : Fr.keep fr [] = [] := nd rfl
@[simp] theorem keep_cons {n : Nat} {l : List Nat} : Fr.keep fr (n :: l) = kp (Fr.get fr n) n (Fr.keep fr l) := by
  unfold Fr.keep kp
  rw [List.filterMap_cons]
  cases Fr.get fr n <;> rfl
@[simp] theorem ops_nil : opsA E O [] st = some st := nd rfl
@[simp] theorem ops_cons {o : AOper} {l : List AOper} : opsA E O (o :: l) st = (stepA E O o st).bind (opsA E O l) := nd rfl
@[simp] theorem dreg_nil {all : List DOp} : dregA E O all [] st = some st := nd rfl
@[simp] theorem dreg_cons {all : List DOp} {i : Nat} {o : AOper} {pre : List Nat} {l : List DOp} : dregA E O all (⟨i, o, pre, []⟩ :: l) st = (stepA E O o st).bind (dregA E O all l) := by
  simp only [dregA]
  congr 1
def gd (g : Option AV) (want : Bool) (s r : Option St) : Option St := match g with
  | some (.bool b) => if b = want then r else s
  | some .und => s
  | _ => none
@[simp] theorem gd_bool {b want : Bool} {s r : Option St} : gd (some (.bool b)) want s r = if b = want then r else s := nd rfl
@[simp] theorem gd_und {want : Bool} {s r : Option St} : gd (some .und) want s r = s := nd rfl
@[simp] theorem step_guard {d : Nat} {op : AOp} {t : Nat} {want : Bool} : stepA E O ⟨some d, op, some (t, want)⟩ (fr, H) = gd (Fr.get fr t) want (some ((d, .und) :: fr, H)) (stepA E O ⟨some d, op, none⟩ (fr, H)) := by
  unfold stepA gd
  simp only [wantedA]
  cases Fr.get fr t with
  | none => rfl
  | some v =>
    cases v <;> first | rfl | skip
    rename_i b
    cases b <;> cases want <;> rfl
@[simp] theorem step_guard0 {op : AOp} {t : Nat} {want : Bool} : stepA E O ⟨none, op, some (t, want)⟩ (fr, H) = gd (Fr.get fr t) want (some (fr, H)) (stepA E O ⟨none, op, none⟩ (fr, H)) := by
  unfold stepA gd
  simp only [wantedA]
  cases Fr.get fr t with
  | none => rfl
  | some v =>
    cases v <;> first | rfl | skip
    rename_i b
    cases b <;> cases want <;> rfl
theorem step_pure {d : Nat} {op : AOp} (h : op.isPure = true) : stepA E O ⟨some d, op, none⟩ (fr, H) = (pureA fr op).map fun v => ((d, v) :: fr, H) := by
  unfold stepA opA
  simp only [wantedA, h, if_true, Option.map_map]
  rfl
theorem step_read {d : Nat} {op : AOp} (h : op.isPure = false) (h' : op.isRead = true) : stepA E O ⟨some d, op, none⟩ (fr, H) = (readA E fr H op).map fun v => ((d, v) :: fr, H) := by
  unfold stepA opA
  simp only [wantedA, h, h', if_true, Bool.false_eq_true, if_false, Option.map_map]
  rfl
theorem step_make {d : Nat} {op : AOp} (h : op.isPure = false) (h' : op.isRead = false) (h2 : op.isMake = true) : stepA E O ⟨some d, op, none⟩ (fr, H) = (makeA fr op).map fun r => ((d, r.1 H.next) :: fr, H.push r.2) := by
  unfold stepA opA
  simp only [wantedA, h, h', h2, if_true, Bool.false_eq_true, if_false, Option.map_map]
  rfl
theorem step_act {d : Option Nat} {op : AOp} (h : op.isPure = false) (h' : op.isRead = false) (h2 : op.isMake = false) : stepA E O ⟨d, op, none⟩ (fr, H) = (actA O fr H op).map fun r => (putD fr d r.1, r.2) := by
  unfold stepA opA
  simp only [wantedA, h, h', h2, Bool.false_eq_true, if_false]
variable {d n m : Nat} {x y z : Opd}
@[simp] theorem s_mov : stepA E O ⟨some d, .mov x, none⟩ (fr, H) = (x.ev fr).map fun v => ((d, v) :: fr, H) := step_pure rfl
def pickA (c a b : Option AV) : Option AV := match c with
  | some (.bool true) => a
  | some (.bool false) => b
  | _ => none
@[simp] theorem pickA_bool {c : Bool} {a b : Option AV} : pickA (some (.bool c)) a b = if c = true then a else b := by cases c <;> rfl
@[simp] theorem s_pick : stepA E O ⟨some d, .pick x y z, none⟩ (fr, H) = (pickA (x.ev fr) (y.ev fr) (z.ev fr)).map fun v => ((d, v) :: fr, H) := step_pure rfl
@[simp] theorem s_build {zero : List AV} {ps : List (Nat × Nat × Opd)} : stepA E O ⟨some d, .build zero ps, none⟩ (fr, H) = (evParts fr ps).bind fun qs => (fillA zero qs).map fun l => ((d, .agg l) :: fr, H) := by
  rw [step_pure rfl]
  simp only [pureA, Option.map_bind]
  congr 1
  funext qs
  simp only [Function.comp, Option.map_map]
  rfl
def nilchkA (v : Option AV) : Option AV := match v with
  | some (.ptr (some a)) => some (.ptr (some a))
  | _ => none
@[simp] theorem nilchkA_ptr {a : Nat × Nat} : nilchkA (some (.ptr (some a))) = some (.ptr (some a)) := nd rfl
@[simp] theorem s_nilchk : stepA E O ⟨some d, .nilchk x, none⟩ (fr, H) = (nilchkA (x.ev fr)).map fun v => ((d, v) :: fr, H) := by rw [step_pure rfl]; rfl
@[simp] theorem s_bin {op : BinOp} : stepA E O ⟨some d, .bin op x y, none⟩ (fr, H) = (x.ev fr).bind fun a => (y.ev fr).bind fun b => (binA op a b).map fun v => ((d, v) :: fr, H) := by
  rw [step_pure rfl]; simp only [pureA, Option.map_bind, Function.comp_def]
def notA (v : Option AV) : Option AV := match v with
  | some (.bool b) => some (.bool (!b))
  | _ => none
@[simp] theorem notA_bool {b : Bool} : notA (some (.bool b)) = some (.bool (!b)) := nd rfl
@[simp] theorem s_not : stepA E O ⟨some d, .not x, none⟩ (fr, H) = (notA (x.ev fr)).map fun v => ((d, v) :: fr, H) := by rw [step_pure rfl]; rfl
def convA (k : IntKind) (v : Option AV) : Option AV := match v with
  | some (.int _ n) => some (.int k (k.wrap n))
  | _ => none
@[simp] theorem convA_int {k k' : IntKind} {n : Int} : convA k (some (.int k' n)) = some (.int k (k.wrap n)) := nd rfl
@[simp] theorem s_conv {k : IntKind} : stepA E O ⟨some d, .conv k x, none⟩ (fr, H) = (convA k (x.ev fr)).map fun v => ((d, v) :: fr, H) := by rw [step_pure rfl]; rfl
@[simp] theorem s_slc {sz : Nat} {lo hi : Option Opd} : stepA E O ⟨some d, .slc sz x lo hi, none⟩ (fr, H) = (pureA fr (.slc sz x lo hi)).map fun v => ((d, v) :: fr, H) := step_pure rfl
def fieldAA (off : Nat) (v : Option AV) : Option AV := match v with
  | some (.ptr (some (i, o))) => some (.ptr (some (i, o + off)))
  | _ => none
@[simp] theorem fieldAA_ptr {off i o : Nat} : fieldAA off (some (.ptr (some (i, o)))) = some (.ptr (some (i, o + off))) := nd rfl
@[simp] theorem s_fieldA {off : Nat} : stepA E O ⟨some d, .fieldA off x, none⟩ (fr, H) = (fieldAA off (x.ev fr)).map fun v => ((d, v) :: fr, H) := by rw [step_pure rfl]; rfl
@[simp] theorem s_field {off : Nat} {ag : Bool} : stepA E O ⟨some d, .field off n ag x, none⟩ (fr, H) = (pureA fr (.field off n ag x)).map fun v => ((d, v) :: fr, H) := step_pure rfl
@[simp] theorem s_indexA {sz : Nat} : stepA E O ⟨some d, .indexA sz x y, none⟩ (fr, H) = (x.ev fr).bind fun a => (y.ev fr).bind fun b => (indexAA sz a b).map fun v => ((d, v) :: fr, H) := by
  rw [step_pure rfl]; simp only [pureA, Option.map_bind, Function.comp_def]
@[simp] theorem s_index : stepA E O ⟨some d, .index x y, none⟩ (fr, H) = (pureA fr (.index x y)).map fun v => ((d, v) :: fr, H) := step_pure rfl
def extractA (v : Option AV) (i : Nat) : Option AV := match v with
  | some (.tup l) => l[i]?
  | _ => none
@[simp] theorem extractA_tup {l : List AV} {i : Nat} : extractA (some (.tup l)) i = l[i]? := nd rfl
@[simp] theorem s_extract {i : Nat} : stepA E O ⟨some d, .extract x i, none⟩ (fr, H) = (extractA (x.ev fr) i).map fun v => ((d, v) :: fr, H) := by rw [step_pure rfl]; rfl
def lenOf (st : Bool) (v : Option AV) : Option AV := match v with
  | some (.sl _ _ n _) => if st = false then some (.int .i64 n) else none
  | some (.str s) => if st = true then some (.int .i64 s.length) else none
  | _ => none
@[simp] theorem lenOf_sl {a : Option (Nat × Nat)} {sz k : Nat} {c : Option Nat} : lenOf false (some (.sl a sz k c)) = some (.int .i64 k) := nd rfl
@[simp] theorem lenOf_str {s : List UInt8} : lenOf true (some (.str s)) = some (.int .i64 s.length) := nd rfl
@[simp] theorem s_len {b : Bool} : stepA E O ⟨some d, .len b x, none⟩ (fr, H) = (lenOf b (x.ev fr)).map fun v => ((d, v) :: fr, H) := by rw [step_pure rfl]; rfl
@[simp] theorem s_minmax {b : Bool} : stepA E O ⟨some d, .minmax b x y, none⟩ (fr, H) = (pureA fr (.minmax b x y)).map fun v => ((d, v) :: fr, H) := step_pure rfl
@[simp] theorem s_mkFn {f : Nat} {caps : List Opd} : stepA E O ⟨some d, .mkFn f caps, none⟩ (fr, H) = (evs fr caps).map fun v => ((d, .fn f v) :: fr, H) := by rw [step_pure rfl]; simp only [pureA, Option.map_map]; rfl
@[simp] theorem s_mkIfc {t : Nat} : stepA E O ⟨some d, .mkIfc t x, none⟩ (fr, H) = (x.ev fr).map fun v => ((d, .ifc t v) :: fr, H) := by rw [step_pure rfl]; simp only [pureA, Option.map_map]; rfl
@[simp] theorem s_load {ag : Bool} : stepA E O ⟨some d, .load n ag x, none⟩ (fr, H) = (x.ev fr).bind fun p => (loadA H n ag p).map fun v => ((d, v) :: fr, H) := by
  rw [step_read rfl rfl]; simp only [readA, Option.map_bind]; rfl
@[simp] theorem s_eq {neg : Bool} {k : EqK} : stepA E O ⟨some d, .eq neg k x y, none⟩ (fr, H) = (x.ev fr).bind fun a => (y.ev fr).bind fun b => (eqA E H (x.isC || y.isC) k a b).map fun r => ((d, .bool (if neg then !r else r)) :: fr, H) := by
  rw [step_read rfl rfl]; simp only [readA, Option.map_bind, Function.comp_def, Option.map_map]
@[simp] theorem s_lookup {dv : AV} {ok : Bool} : stepA E O ⟨some d, .lookup dv ok x y, none⟩ (fr, H) = (readA E fr H (.lookup dv ok x y)).map fun v => ((d, v) :: fr, H) := step_read rfl rfl
@[simp] theorem s_alloc {zero : List AV} : stepA E O ⟨some d, .alloc zero, none⟩ (fr, H) = some ((d, .ptr (some (H.next, 0))) :: fr, H.push (.cells zero false)) := by rw [step_make rfl rfl rfl]; rfl
@[simp] theorem s_box : stepA E O ⟨some d, .box x, none⟩ (fr, H) = (x.ev fr).bind fun v => if (cellsOf v).all oneCell = true then some ((d, .ptr (some (H.next, 0))) :: fr, H.push (.cells (cellsOf v) false)) else none := by
  rw [step_make rfl rfl rfl]
  simp only [makeA, Option.map_bind]
  congr 1
  funext v
  simp only [Function.comp]
  split <;> rfl
@[simp] theorem s_bslice {sz len : Nat} {zero : List AV} {ps : List (Nat × Nat × Opd)} : stepA E O ⟨some d, .bslice sz len zero ps, none⟩ (fr, H) = (evParts fr ps).bind fun qs => (fillA zero qs).map fun l => ((d, .sl (some (H.next, 0)) sz len (some len)) :: fr, H.push (.cells l false)) := by
  rw [step_make rfl rfl rfl]
  simp only [makeA, Option.map_bind, Function.comp_def, Option.map_map]
@[simp] theorem s_mkMap : stepA E O ⟨some d, .mkMap, none⟩ (fr, H) = some ((d, .map (some H.next)) :: fr, H.push (.map [] false)) := by rw [step_make rfl rfl rfl]; rfl
@[simp] theorem s_store : stepA E O ⟨none, .store n x y, none⟩ (fr, H) = (x.ev fr).bind fun a => (y.ev fr).bind fun v => (storeA H n a v).map fun H' => (fr, H') := by
  rw [step_act rfl rfl rfl]; simp only [actA, Option.map_bind, Function.comp_def, Option.map_map]; rfl
@[simp] theorem s_callF {f : Nat} {l : List Opd} : stepA E O ⟨some d, .callF f l, none⟩ (fr, H) = (evs fr l).bind fun vs => (O f vs H).map fun r => ((d, r.1) :: fr, r.2) := by
  rw [step_act rfl rfl rfl]; simp only [actA, Option.map_bind, Function.comp_def, Option.map_map]; rfl
@[simp] theorem s_callV {l : List Opd} : stepA E O ⟨some d, .callV x l, none⟩ (fr, H) = (actA O fr H (.callV x l)).map fun r => (putD fr (some d) r.1, r.2) := step_act rfl rfl rfl
@[simp] theorem s_append {fz : Bool} {sz bytes : Nat} : stepA E O ⟨some d, .append fz sz bytes x y, none⟩ (fr, H) = (x.ev fr).bind fun a => (y.ev fr).bind fun b => (appendX H fz sz bytes a b).map fun r => ((d, r.1) :: fr, r.2) := by
  rw [step_act rfl rfl rfl]; simp only [actA, Option.map_bind, Function.comp_def, Option.map_map]; rfl
@[simp] theorem s_clear {sz : Nat} {zero : List AV} : stepA E O ⟨none, .clear sz zero x, none⟩ (fr, H) = (x.ev fr).bind fun a => (clearA H sz zero a).map fun r => (fr, r.2) := by
  rw [step_act rfl rfl rfl]; simp only [actA, Option.map_bind, Function.comp_def, Option.map_map]; rfl
@[simp] theorem s_mkSlice {sz bytes : Nat} {zero : List AV} : stepA E O ⟨some d, .mkSlice sz bytes zero x y, none⟩ (fr, H) = (actA O fr H (.mkSlice sz bytes zero x y)).map fun r => (putD fr (some d) r.1, r.2) := step_act rfl rfl rfl
@[simp] theorem s_mset : stepA E O ⟨none, .mset x y z, none⟩ (fr, H) = (actA O fr H (.mset x y z)).map fun r => (fr, r.2) := step_act rfl rfl rfl
@[simp] theorem evs_nil : evs fr [] = some [] := nd rfl
@[simp] theorem evs_cons {l : List Opd} : evs fr (x :: l) = (x.ev fr).bind fun v => (evs fr l).map (v :: ·) := nd rfl
@[simp] theorem evParts_nil : evParts fr [] = some [] := nd rfl
@[simp] theorem evParts_cons {a b : Nat} {l : List (Nat × Nat × Opd)} : evParts fr ((a, b, x) :: l) = (x.ev fr).bind fun v => (evParts fr l).map ((a, b, v) :: ·) := nd rfl
@[simp] theorem fin_norm {F : AFun} : finA F (some (.norm, st)) = (resA st F.res).map fun l => (tupOf l, st.2) := nd rfl
@[simp] theorem fin_ret {F : AFun} : finA F (some (.ret, st)) = (resA st F.res).map fun l => (tupOf l, st.2) := nd rfl
def finR (res : List ARes) (r : Res) : Option (AV × AH) := match r with
  | some (.norm, st) => (resA st res).map fun l => (tupOf l, st.2)
  | some (.ret, st) => (resA st res).map fun l => (tupOf l, st.2)
  | _ => none
@[simp] theorem finR_norm {l : List ARes} : finR l (some (.norm, st)) = (resA st l).map fun l => (tupOf l, st.2) := nd rfl
@[simp] theorem finR_ret {l : List ARes} : finR l (some (.ret, st)) = (resA st l).map fun l => (tupOf l, st.2) := nd rfl
theorem Call_of {T : Tab} {f : Nat} {F : AFun} (hf : T.fn f = some (.code F)) {args : List AV} (hl : args.length = F.np) : Call T f args H = finR F.res (execL T.E (Call T) F.body (frOf args, H)) := by
  rw [Call_code hf]
  unfold afunL
  rw [if_pos hl]
  rfl
@[simp] theorem res_nil : resA st [] = some [] := nd rfl
@[simp] theorem res_tmp {t : Nat} {l : List ARes} : resA (fr, H) (.tmp t :: l) = (Fr.get fr t).bind fun v => (resA (fr, H) l).map (v :: ·) := nd rfl
@[simp] theorem res_cell {t : Nat} {ag : Bool} {l : List ARes} : resA (fr, H) (.cell t n ag :: l) = (Fr.get fr t).bind fun p => (loadA H n ag p).bind fun v => (resA (fr, H) l).map (v :: ·) := nd rfl
@[simp] theorem tup_one {v : AV} : tupOf [v] = v := nd rfl
@[simp] theorem tup_nil : tupOf [] = .tup [] := nd rfl
@[simp] theorem tup_two {u v : AV} {l : List AV} : tupOf (u :: v :: l) = .tup (u :: v :: l) := nd rfl
@[simp] theorem push_next {o : AObj} : (H.push o).next = H.next + 1 := nd rfl
@[simp] theorem set_next {o : AObj} {i : Nat} : (H.set i o).next = H.next := nd rfl
@[simp] theorem kill_next {i : Nat} : (H.kill i).next = H.next := nd rfl
@[simp] theorem push_get {o : AObj} {j : Nat} : (H.push o).get j = if j = H.next then some o else H.get j := nd rfl
@[simp] theorem set_get {o : AObj} {i j : Nat} : (H.set i o).get j = if j = i then some o else H.get j := nd rfl
@[simp] theorem kill_get {i j : Nat} : (H.kill i).get j = if j = i then none else H.get j := nd rfl
@[simp] theorem isC_t {k : Nat} : (Opd.t k).isC = false := nd rfl
@[simp] theorem isC_c {v : AV} : (Opd.c v).isC = true := nd rfl
@[simp] theorem isC_g {k : Nat} : (Opd.g k).isC = false := nd rfl
@[simp] theorem one_int {k : IntKind} {i : Int} : oneCell (.int k i) = true := nd rfl
@[simp] theorem one_bool {b : Bool} : oneCell (.bool b) = true := nd rfl
@[simp] theorem one_str {s : List UInt8} : oneCell (.str s) = true := nd rfl
@[simp] theorem one_ptr {a : Option (Nat × Nat)} : oneCell (.ptr a) = true := nd rfl
@[simp] theorem one_sl {a : Option (Nat × Nat)} {p q : Nat} {c : Option Nat} : oneCell (.sl a p q c) = true := nd rfl
@[simp] theorem one_ifc {t : Nat} {v : AV} : oneCell (.ifc t v) = true := nd rfl
@[simp] theorem one_nilI : oneCell .nilI = true := nd rfl
@[simp] theorem cells_agg {l : List AV} : cellsOf (.agg l) = l := nd rfl
@[simp] theorem cells_int {k : IntKind} {i : Int} : cellsOf (.int k i) = [.int k i] := nd rfl
@[simp] theorem cells_bool {b : Bool} : cellsOf (.bool b) = [.bool b] := nd rfl
@[simp] theorem cells_str {s : List UInt8} : cellsOf (.str s) = [.str s] := nd rfl
@[simp] theorem cells_sl {a : Option (Nat × Nat)} {p q : Nat} {c : Option Nat} : cellsOf (.sl a p q c) = [.sl a p q c] := nd rfl
@[simp] theorem fill_nil {l : List AV} : fillA l [] = some l := nd rfl
@[simp] theorem fill_cons {l : List AV} {off k : Nat} {v : AV} {r : List (Nat × Nat × AV)} : fillA l ((off, k, v) :: r) = if (cellsOf v).length = k ∧ off + k ≤ l.length ∧ (cellsOf v).all oneCell = true then fillA (l.take off ++ cellsOf v ++ l.drop (off + k)) r else none := nd rfl
theorem load_one {i off : Nat} {l : List AV} {ro : Bool} (h : H.get i = some (.cells l ro)) : loadA H n false (.ptr (some (i, off))) = l[off]? := by simp only [loadA, h]; rfl
theorem load_agg {i off : Nat} {l : List AV} {ro : Bool} (h : H.get i = some (.cells l ro)) : loadA H n true (.ptr (some (i, off))) = if off + n ≤ l.length then some (.agg ((l.drop off).take n)) else none := by simp only [loadA, h]; rfl
theorem store_at {i off : Nat} {l : List AV} {v : AV} (h : H.get i = some (.cells l false)) : storeA H n (.ptr (some (i, off))) v = if (cellsOf v).length = n ∧ off + n ≤ l.length ∧ (cellsOf v).all oneCell = true then some (H.set i (.cells (putCells l off (cellsOf v)) false)) else none := by simp only [storeA, h, true_and]
end
/-- A loop whose round begins by dropping what is dead. -/
theorem keep_keep (fr : Fr) (l : List Nat) : Fr.keep (Fr.keep fr l) l = Fr.keep fr l := by
  have h : ∀ (l : List Nat) n, n ∈ l → Fr.get (Fr.keep fr l) n = Fr.get fr n := by
    intro l
    induction l with
    | nil => intro n hn; cases hn
    | cons k l ih =>
      intro n hn
      rw [keep_cons]
      cases hk : Fr.get fr k with
      | none =>
        rw [kp_none]
        rcases List.mem_cons.1 hn with rfl | hn
        · by_cases hm : n ∈ l
          · exact ih n hm
          · have : ∀ (l : List Nat), n ∉ l → Fr.get (Fr.keep fr l) n = none := by
              intro l
              induction l with
              | nil => intro _; rfl
              | cons q l ih2 =>
                intro hq
                rw [keep_cons]
                have h1 : q ≠ n := fun e => hq (by simp [e])
                have h2 := ih2 (fun e => hq (by simp [e]))
                cases Fr.get fr q with
                | none => exact h2
                | some v => rw [kp_some, get_cons, if_neg h1]; exact h2
            rw [this l hm, hk]
        · exact ih n hn
      | some v =>
        rw [kp_some, get_cons]
        split
        · rename_i e; subst e; exact hk.symm
        · rename_i e
          rcases List.mem_cons.1 hn with rfl | hn
          · exact absurd rfl e
          · exact ih n hn
  have h2 : ∀ l' : List Nat, (∀ n ∈ l', n ∈ l) → Fr.keep (Fr.keep fr l) l' = Fr.keep fr l' := by
    intro l'
    induction l' with
    | nil => intro _; rfl
    | cons k l' ih =>
      intro hs
      rw [keep_cons, keep_cons, h l k (hs k (by simp)), ih fun n hn => hs n (by simp [hn])]
  exact h2 l fun n hn => hn
theorem loop_keep {E : Env} {O : Oracle} {l : List Nat} {c : ACode} {fr : Fr} {H : AH} : loopL (execL E O (.keep l c)) (fr, H) = loopL (execL E O (.keep l c)) (Fr.keep fr l, H) := by
  rw [loopL_eq, loopL_eq _ (Fr.keep fr l, H)]
  have : execL E O (.keep l c) (Fr.keep fr l, H) = execL E O (.keep l c) (fr, H) := by
    show execL E O c (Fr.keep (Fr.keep fr l) l, H) = execL E O c (Fr.keep fr l, H)
    rw [keep_keep]
  rw [this]
end Go.Proofs.YtlecbjcloleiiaaDoor.Ram

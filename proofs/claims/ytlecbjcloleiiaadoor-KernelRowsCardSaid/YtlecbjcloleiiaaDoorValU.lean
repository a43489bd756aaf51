import Derived.Test.YtlecbjcloleiiaaDoorValS
/-! Calls, heaps, values, for simp. -/
namespace Go.Proofs.YtlecbjcloleiiaaDoor.Val
open Go Go.Proofs.YtlecbjcloleiiaaDoor.Ram

open Classical in
/-- What a call of one that leaves no block and gives no right comes to. -/
noncomputable def fin (S : VH) (res : List ARes) (r : VRes) : Option (V × List Nat × VH) := match r with
  | some (.exit _, _) => none
  | some (_, st) => (resV st res).bind fun l => if cloH S st.h ∧ V.clo S.next (tupV l) = true then some (tupV l, [], VH.trim S st.h) else none
  | none => none
theorem VCall_of {T : VTab} {f : Nat} {F : AFun} {args : List V} {S : VH} (hf : T.fn f = some (.code F)) (hn : args.length = F.np) (hm : T.Fl.made f = false) (hr : T.Fl.ret f = false) :
    VCall T f args [] S = fin S F.res (execV T.E T.Fl (VCall T) F.body ⟨frV args, [], S⟩) := by
  rw [VCall_code hf]
  unfold vfunL
  rw [if_pos hn]
  simp only [List.map_nil]
  cases execV T.E T.Fl (VCall T) F.body ⟨frV args, [], S⟩ with
  | none => rfl
  | some p =>
    obtain ⟨e, st⟩ := p
    cases e <;> simp only [endV, fin, hm, rtsR, hr, Bool.false_eq_true, if_false]
/-- And one that leaves blocks. -/
def finM (res : List ARes) (r : VRes) : Option (V × List Nat × VH) := match r with
  | some (.exit _, _) => none
  | some (_, st) => (resV st res).map fun l => (tupV l, [], st.h)
  | none => none
theorem VCall_made {T : VTab} {f : Nat} {F : AFun} {args : List V} {S : VH} (hf : T.fn f = some (.code F)) (hn : args.length = F.np) (hm : T.Fl.made f = true) (hr : T.Fl.ret f = false) :
    VCall T f args [] S = finM F.res (execV T.E T.Fl (VCall T) F.body ⟨frV args, [], S⟩) := by
  rw [VCall_code hf]
  unfold vfunL
  rw [if_pos hn]
  simp only [List.map_nil]
  cases execV T.E T.Fl (VCall T) F.body ⟨frV args, [], S⟩ with
  | none => rfl
  | some p =>
    obtain ⟨e, st⟩ := p
    cases e <;> simp only [endV, finM, hm, rtsR, hr, Bool.false_eq_true, if_false, if_true] <;> (cases resV st F.res <;> rfl)
section
variable {S S1 : VH} {st : VS} {res : List ARes} {n i j : Nat} {o : VObj} {f : VFr} {w : Rts} {h : VH}
open Classical in
@[simp] theorem fin_ret : fin S res (some (.ret, st)) = (resV st res).bind fun l => if cloH S st.h ∧ V.clo S.next (tupV l) = true then some (tupV l, [], VH.trim S st.h) else none := nd rfl
open Classical in
@[simp] theorem fin_norm : fin S res (some (.norm, st)) = (resV st res).bind fun l => if cloH S st.h ∧ V.clo S.next (tupV l) = true then some (tupV l, [], VH.trim S st.h) else none := nd rfl
@[simp] theorem finM_ret : finM res (some (.ret, st)) = (resV st res).map fun l => (tupV l, [], st.h) := nd rfl
@[simp] theorem finM_norm : finM res (some (.norm, st)) = (resV st res).map fun l => (tupV l, [], st.h) := nd rfl
@[simp] theorem res_nil : resV st [] = some [] := nd rfl
@[simp] theorem res_tmp {t : Nat} {l : List ARes} : resV ⟨f, w, h⟩ (.tmp t :: l) = (VFr.get f t).bind fun v => (resV ⟨f, w, h⟩ l).map (v :: ·) := nd rfl
@[simp] theorem res_cell {t k : Nat} {ag : Bool} {l : List ARes} : resV ⟨f, w, h⟩ (.cell t k ag :: l) = (VFr.get f t).bind fun p => (loadV h k ag p).bind fun v => (resV ⟨f, w, h⟩ l).map (v :: ·) := nd rfl
@[simp] theorem tup_one {v : V} : tupV [v] = v := nd rfl
@[simp] theorem tup_nil : tupV [] = .tup [] := nd rfl
@[simp] theorem tup_two {a b : V} {l : List V} : tupV (a :: b :: l) = .tup (a :: b :: l) := nd rfl
@[simp] theorem frV_0 : frV [] = [] := nd rfl
@[simp] theorem frV_1 {a : V} : frV [a] = [(0, a)] := nd rfl
@[simp] theorem frV_2 {a b : V} : frV [a, b] = [(0, a), (1, b)] := nd rfl
@[simp] theorem frV_3 {a b c : V} : frV [a, b, c] = [(0, a), (1, b), (2, c)] := nd rfl
@[simp] theorem frV_4 {a b c d : V} : frV [a, b, c, d] = [(0, a), (1, b), (2, c), (3, d)] := nd rfl
@[simp] theorem frV_5 {a b c d e : V} : frV [a, b, c, d, e] = [(0, a), (1, b), (2, c), (3, d), (4, e)] := nd rfl
@[simp] theorem frV_6 {a b c d e g : V} : frV [a, b, c, d, e, g] = [(0, a), (1, b), (2, c), (3, d), (4, e), (5, g)] := nd rfl
@[simp] theorem frV_7 {a b c d e g i : V} : frV [a, b, c, d, e, g, i] = [(0, a), (1, b), (2, c), (3, d), (4, e), (5, g), (6, i)] := nd rfl
@[simp] theorem vset {d : Nat} {v : V} : VFr.set f d v = (d, v) :: f := nd rfl
-- heaps
@[simp] theorem push_next : (S.push o).next = S.next + 1 := nd rfl
@[simp] theorem set_next : (S.set i o).next = S.next := nd rfl
@[simp] theorem push_get : (S.push o).get j = if j = S.next then some o else S.get j := nd rfl
@[simp] theorem set_get : (S.set i o).get j = if j = i then some o else S.get j := nd rfl
@[simp] theorem cloH_self : cloH S S := fun _ _ => .inl rfl
@[simp] theorem cloH_push (h : S.next ≤ S1.next) : cloH S (S1.push o) ↔ cloH S S1 := by
  unfold cloH
  constructor <;> intro k i hi <;> have := k i hi <;> simpa [show ¬ i = S1.next by omega] using this
@[simp] theorem cloH_set (h : S.next ≤ i) : cloH S (S1.set i o) ↔ cloH S S1 := by
  unfold cloH
  constructor <;> intro k j hj <;> have := k j hj <;> simpa [show ¬ j = i by omega] using this
@[simp] theorem cloH_in (h : cloH S S1) (ho : o.clo S.next = true) : cloH S (S1.set i o) := fun j hj => by
  by_cases e : j = i
  · right; intro o' ho'; simp [e] at ho'; subst ho'; exact ho
  · rcases h j hj with h | h
    · left; simp [e, h]
    · right; intro o' ho'; simp [e] at ho'; exact h o' ho'
@[simp] theorem trim_self : VH.trim S S = S := by
  unfold VH.trim
  congr 1
  funext i
  split <;> rfl
@[simp] theorem trim_push (h : S.next ≤ S1.next) : VH.trim S (S1.push o) = VH.trim S S1 := by
  unfold VH.trim
  congr 1
  funext i
  split
  · rw [push_get, if_neg (by omega)]
  · rfl
@[simp] theorem trim_set (h : S.next ≤ i) : VH.trim S (S1.set i o) = VH.trim S S1 := by
  unfold VH.trim
  congr 1
  funext j
  split
  · rw [set_get, if_neg (by omega)]
  · rfl
theorem trim_in (h : i < S.next) : VH.trim S (S1.set i o) = (VH.trim S S1).set i o := by
  unfold VH.trim VH.set
  congr 1
  funext j
  by_cases e : j = i
  · subst e; simp [h]
  · simp [e]
@[simp] theorem trim_next : (VH.trim S S1).next = S.next := nd rfl
-- loops
theorem vkeep_mem {l : List Nat} {k : Nat} (hk : k ∈ l) : VFr.get (VFr.keep f l) k = VFr.get f k := by
  induction l with
  | nil => cases hk
  | cons m l ih =>
    rw [keep_cons]
    by_cases e : m = k
    · subst e
      cases e1 : VFr.get f m with
      | some v => simp
      | none =>
        rw [kp_none]
        clear ih hk
        induction l with
        | nil => rfl
        | cons q l ih2 =>
          rw [keep_cons]
          cases e2 : VFr.get f q with
          | none => rw [kp_none]; exact ih2
          | some u =>
            rw [kp_some, get_cons, if_neg (fun e3 => by subst e3; rw [e1] at e2; cases e2)]
            exact ih2
    · have hk' : k ∈ l := (List.mem_cons.1 hk).resolve_left (fun h => e h.symm)
      cases VFr.get f m with
      | none => rw [kp_none]; exact ih hk'
      | some v => rw [kp_some, get_cons, if_neg e]; exact ih hk'
theorem keep_keep {l : List Nat} : VFr.keep (VFr.keep f l) l = VFr.keep f l := by
  have : ∀ l', (∀ k ∈ l', k ∈ l) → VFr.keep (VFr.keep f l) l' = VFr.keep f l' := by
    intro l' hl
    induction l' with
    | nil => rfl
    | cons k l' ih => rw [keep_cons, keep_cons, vkeep_mem (hl k List.mem_cons_self), ih fun q hq => hl q (List.mem_cons_of_mem _ hq)]
  exact this l fun _ h => h
theorem rkeep_rkeep {l : List Nat} : Rts.keep (Rts.keep w l) l = Rts.keep w l := by
  unfold Rts.keep
  rw [List.filter_filter]
  simp
theorem rkeep_noCell {l : List Nat} : Rts.noCell (Rts.keep w l) = Rts.keep (Rts.noCell w) l := by
  unfold Rts.noCell Rts.keep
  rw [List.filter_filter, List.filter_filter]
  congr 1; funext p; rw [Bool.and_comm]
/-- What is not live at a loop's head is of no matter. -/
theorem loopX_keep {E : Env} {Fl : Flags} {O : VOracle} {l : List Nat} {b : ACode} : loopX E Fl O (.keep l b) ⟨f, w, h⟩ = loopX E Fl O (.keep l b) ⟨VFr.keep f l, Rts.keep w.noCell l, h⟩ := by
  rw [loopX_eq, loopX_eq (st := ⟨VFr.keep f l, Rts.keep w.noCell l, h⟩)]
  simp only [top_eq, x_keep, keep_keep, rkeep_rkeep, rkeep_noCell, noCell_noCell]
open Classical in
@[simp] theorem round_norm : roundV S (some (.norm, ⟨f, w, h⟩)) = if cloH S h ∧ cloF S.next f = true then some (.norm, ⟨f, noCellNew S.next w, VH.trim S h⟩) else some (.norm, ⟨f, w, h⟩) := nd rfl
@[simp] theorem round_ret : roundV S (some (.ret, st)) = some (.ret, st) := nd rfl
@[simp] theorem round_exit : roundV S (some (.exit i, st)) = some (.exit i, st) := nd rfl
@[simp] theorem cloF_nil : cloF n [] = true := nd rfl
@[simp] theorem cloF_cons {k : Nat} {v : V} : cloF n ((k, v) :: f) = (V.clo n v && cloF n f) := nd rfl
@[simp] theorem clo_int {k : IntKind} {a : Int} : V.clo n (.int k a) = true := nd rfl
@[simp] theorem clo_bool {b : Bool} : V.clo n (.bool b) = true := nd rfl
@[simp] theorem clo_str {s : List UInt8} : V.clo n (.str s) = true := nd rfl
@[simp] theorem clo_ptr0 : V.clo n (.ptr none) = true := nd rfl
@[simp] theorem clo_ptr {k : Nat} : V.clo n (.ptr (some (i, k))) = (decide (i < 100) || decide (i < n)) := nd rfl
@[simp] theorem clo_map0 : V.clo n (.map none) = true := nd rfl
@[simp] theorem clo_map : V.clo n (.map (some i)) = decide (i < n) := nd rfl
@[simp] theorem clo_rptr {r : List V} {k : Nat} : V.clo n (.rptr r k) = V.clos n r := nd rfl
@[simp] theorem clo_lst {sz : Nat} {rows : List (List V)} : V.clo n (.lst sz rows) = V.closs n rows := nd rfl
@[simp] theorem clo_fn {g : Nat} {l : List V} : V.clo n (.fn g l) = V.clos n l := nd rfl
@[simp] theorem clo_nilFn : V.clo n .nilFn = true := nd rfl
@[simp] theorem clo_nilI : V.clo n .nilI = true := nd rfl
@[simp] theorem clo_und : V.clo n .und = true := nd rfl
@[simp] theorem clo_ifc {t : Nat} {v : V} : V.clo n (.ifc t v) = V.clo n v := nd rfl
@[simp] theorem clo_agg {l : List V} : V.clo n (.agg l) = V.clos n l := nd rfl
@[simp] theorem clo_tup {l : List V} : V.clo n (.tup l) = V.clos n l := nd rfl
@[simp] theorem clos_nil : V.clos n [] = true := nd rfl
@[simp] theorem clos_cons {v : V} {l : List V} : V.clos n (v :: l) = (V.clo n v && V.clos n l) := nd rfl
@[simp] theorem closs_nil : V.closs n [] = true := nd rfl
@[simp] theorem closs_cons {v : List V} {l : List (List V)} : V.closs n (v :: l) = (V.clos n v && V.closs n l) := nd rfl
theorem closs_all {l : List (List V)} : V.closs n l = l.all (V.clos n) := by
  induction l with
  | nil => rfl
  | cons r l ih => rw [closs_cons, ih]; rfl
theorem closs_map {α : Type} {l : List α} {e : α → List V} (he : ∀ x, V.clos n (e x) = true) : V.closs n (l.map e) = true := by
  rw [closs_all, List.all_eq_true]
  intro r hr
  obtain ⟨x, _, rfl⟩ := List.mem_map.1 hr
  exact he x
@[simp] theorem clos_app {l l' : List V} : V.clos n (l ++ l') = (V.clos n l && V.clos n l') := by
  induction l with
  | nil => simp
  | cons v l ih => simp [ih, Bool.and_assoc]
@[simp] theorem closs_app {l l' : List (List V)} : V.closs n (l ++ l') = (V.closs n l && V.closs n l') := by
  induction l with
  | nil => simp
  | cons v l ih => simp [ih, Bool.and_assoc]
@[simp] theorem oclo_cells {l : List V} {own : List Nat} : (VObj.cells l own).clo n = V.clos n l := nd rfl
-- values
@[simp] theorem nilchk_p {a : Nat × Nat} : nilchkV (.ptr (some a)) = some (.ptr (some a)) := nd rfl
@[simp] theorem nilchk_r {r : List V} {k : Nat} : nilchkV (.rptr r k) = some (.rptr r k) := nd rfl
@[simp] theorem notV_b {b : Bool} : notV (.bool b) = some (.bool (!b)) := nd rfl
@[simp] theorem negV_i {k : IntKind} {a : Int} : negV (.int k a) = some (.int k (k.wrap (-a))) := nd rfl
@[simp] theorem convV_i {k k' : IntKind} {a : Int} : convV k (.int k' a) = some (.int k (k.wrap a)) := nd rfl
@[simp] theorem convSV_s {s : List UInt8} : convSV (.str s) = some (.str s) := nd rfl
@[simp] theorem fieldA_p {a b c : Nat} : fieldAV a (.ptr (some (b, c))) = some (.ptr (some (b, c + a))) := nd rfl
@[simp] theorem fieldA_r {a c : Nat} {r : List V} : fieldAV a (.rptr r c) = some (.rptr r (c + a)) := nd rfl
@[simp] theorem field_a {a c : Nat} {ag : Bool} {l : List V} : fieldV a c ag (.agg l) = if ag then (if a + c ≤ l.length then some (.agg ((l.drop a).take c)) else none) else l[a]? := nd rfl
@[simp] theorem extract_t {l : List V} : extractV i (.tup l) = l[i]? := nd rfl
@[simp] theorem len_l {sz : Nat} {rows : List (List V)} : lenV false (.lst sz rows) = some (.int .i64 rows.length) := nd rfl
@[simp] theorem len_s {s : List UInt8} : lenV true (.str s) = some (.int .i64 s.length) := nd rfl
@[simp] theorem cells_agg {l : List V} : cellsV (.agg l) = l := nd rfl
@[simp] theorem cells_int {k : IntKind} {a : Int} : cellsV (.int k a) = [.int k a] := nd rfl
@[simp] theorem cells_bool {b : Bool} : cellsV (.bool b) = [.bool b] := nd rfl
@[simp] theorem cells_str {s : List UInt8} : cellsV (.str s) = [.str s] := nd rfl
@[simp] theorem cells_lst {sz : Nat} {rows : List (List V)} : cellsV (.lst sz rows) = [.lst sz rows] := nd rfl
@[simp] theorem cells_ptr {a : Option (Nat × Nat)} : cellsV (.ptr a) = [.ptr a] := nd rfl
@[simp] theorem cells_map {a : Option Nat} : cellsV (.map a) = [.map a] := nd rfl
@[simp] theorem cells_fn {g : Nat} {l : List V} : cellsV (.fn g l) = [.fn g l] := nd rfl
@[simp] theorem cells_ifc {t : Nat} {v : V} : cellsV (.ifc t v) = [.ifc t v] := nd rfl
@[simp] theorem cells_nilI : cellsV .nilI = [.nilI] := nd rfl
@[simp] theorem cells_nilFn : cellsV .nilFn = [.nilFn] := nd rfl
@[simp] theorem one_int {k : IntKind} {a : Int} : oneV (.int k a) = true := nd rfl
@[simp] theorem one_bool {b : Bool} : oneV (.bool b) = true := nd rfl
@[simp] theorem one_str {s : List UInt8} : oneV (.str s) = true := nd rfl
@[simp] theorem one_lst {sz : Nat} {rows : List (List V)} : oneV (.lst sz rows) = true := nd rfl
@[simp] theorem one_ptr {a : Option (Nat × Nat)} : oneV (.ptr a) = true := nd rfl
@[simp] theorem one_map {a : Option Nat} : oneV (.map a) = true := nd rfl
@[simp] theorem one_fn {g : Nat} {l : List V} : oneV (.fn g l) = true := nd rfl
@[simp] theorem one_ifc {t : Nat} {v : V} : oneV (.ifc t v) = true := nd rfl
@[simp] theorem one_nilI : oneV .nilI = true := nd rfl
@[simp] theorem one_nilFn : oneV .nilFn = true := nd rfl
@[simp] theorem one_agg {l : List V} : oneV (.agg l) = false := nd rfl
@[simp] theorem one_und : oneV .und = false := nd rfl
@[simp] theorem parts_nil : partsV f [] = some [] := nd rfl
@[simp] theorem parts_cons {a b : Nat} {x : Opd} {l : List (Nat × Nat × Opd)} : partsV f ((a, b, x) :: l) = (evV f x).bind fun v => (partsV f l).map ((a, b, v) :: ·) := nd rfl
@[simp] theorem evs_nil : evsV f [] = some [] := nd rfl
@[simp] theorem evs_cons {x : Opd} {l : List Opd} : evsV f (x :: l) = (evV f x).bind fun v => (evsV f l).map (v :: ·) := nd rfl
@[simp] theorem fill_nil {l : List V} : fillV l [] = some l := nd rfl
@[simp] theorem fill_cons {l : List V} {a b : Nat} {v : V} {r : List (Nat × Nat × V)} : fillV l ((a, b, v) :: r) = if (cellsV v).length = b ∧ a + b ≤ l.length ∧ (cellsV v).all oneV = true then fillV (l.take a ++ cellsV v ++ l.drop (a + b)) r else none := nd rfl
@[simp] theorem rowsOf_0 {sz : Nat} {l : List V} : rowsOf sz 0 l = [] := nd rfl
@[simp] theorem rowsOf_s {sz k : Nat} {l : List V} : rowsOf sz (k + 1) l = l.take sz :: rowsOf sz k (l.drop sz) := nd rfl
@[simp] theorem rowsOf_1 {sz : Nat} {l : List V} : rowsOf sz 1 l = [l.take sz] := nd rfl
@[simp] theorem load_r {k off : Nat} {ag : Bool} {r : List V} : loadV S k ag (.rptr r off) = if ag then (if off + k ≤ r.length ∧ 0 < k then some (.agg ((r.drop off).take k)) else none) else r[off]? := nd rfl
def loadO (o : Option VObj) (k : Nat) (ag : Bool) (off : Nat) : Option V := match o with
  | some (.cells l _) => if ag then (if off + k ≤ l.length then some (.agg ((l.drop off).take k)) else none) else l[off]?
  | _ => none
@[simp] theorem load_p {k off : Nat} {ag : Bool} : loadV S k ag (.ptr (some (i, off))) = loadO (S.get i) k ag off := nd rfl
@[simp] theorem loadO_c {k off : Nat} {ag : Bool} {l : List V} {own : List Nat} : loadO (some (.cells l own)) k ag off = if ag then (if off + k ≤ l.length then some (.agg ((l.drop off).take k)) else none) else l[off]? := nd rfl
def ownsO (own : List Nat) (off k : Nat) (rt : Bool) : List Nat := (if rt then [off] else []) ++ own.filter fun o => !(decide (off ≤ o) && decide (o < off + k))
def keepO (l : List Nat) (off k : Nat) : List Nat := l.filter fun o => !(decide (off ≤ o) && decide (o < off + k))
@[simp] theorem ownsO_eq {own : List Nat} {off k : Nat} {rt : Bool} : ownsO own off k rt = (if rt then [off] else []) ++ keepO own off k := nd rfl
@[simp] theorem keepO_nil {off k : Nat} : keepO [] off k = [] := nd rfl
@[simp] theorem keepO_cons {j : Nat} {l : List Nat} {off k : Nat} : keepO (j :: l) off k = if off ≤ j ∧ j < off + k then keepO l off k else j :: keepO l off k := by
  unfold keepO
  rw [List.filter_cons]
  by_cases e : off ≤ j ∧ j < off + k
  · simp [e]
  · rw [if_neg e, if_pos]
    simp only [Bool.not_eq_true', Bool.and_eq_false_iff, decide_eq_false_iff_not]; omega
def storeO (S : VH) (o : Option VObj) (i off k : Nat) (v : V) (rt : Bool) : Option VH := match o with
  | some (.cells l own) => if (cellsV v).length = k ∧ off + k ≤ l.length ∧ (cellsV v).all oneV = true then some (S.set i (.cells (putV l off (cellsV v)) (ownsO own off k rt))) else none
  | _ => none
@[simp] theorem store_p {k off : Nat} {v : V} {rt : Bool} : storeV S k (.ptr (some (i, off))) v rt = storeO S (S.get i) i off k v rt := nd rfl
@[simp] theorem storeO_c {k off : Nat} {v : V} {rt : Bool} {l : List V} {own : List Nat} : storeO S (some (.cells l own)) i off k v rt = if (cellsV v).length = k ∧ off + k ≤ l.length ∧ (cellsV v).all oneV = true then some (S.set i (.cells (putV l off (cellsV v)) (ownsO own off k rt))) else none := nd rfl
@[simp] theorem putV_eq {l news : List V} {off : Nat} : putV l off news = l.take off ++ news ++ l.drop (off + news.length) := nd rfl
def ownO (o : Option VObj) (off : Nat) : Bool := match o with
  | some (.cells _ own) => own.contains off
  | _ => false
@[simp] theorem own_p {off : Nat} : ownAt S i off = ownO (S.get i) off := nd rfl
@[simp] theorem ownO_c {off : Nat} {l : List V} {own : List Nat} : ownO (some (.cells l own)) off = own.contains off := nd rfl
@[simp] theorem set_set {o' : VObj} : (S.set i o).set i o' = S.set i o' := by
  unfold VH.set
  congr 1
  funext j
  by_cases e : j = i <;> simp [e]
@[simp] theorem push_set_next {o' : VObj} : (S.push o).set S.next o' = S.push o' := by
  unfold VH.set VH.push
  congr 1
  funext j
  by_cases e : j = S.next <;> simp [e]
@[simp] theorem push_set_at (h : i = S.next) {o' : VObj} : (S.push o).set i o' = S.push o' := by subst h; exact push_set_next
theorem set_push (h : i ≠ S.next) {o' : VObj} : (S.push o).set i o' = (S.set i o').push o := by
  unfold VH.set VH.push
  congr 1
  funext j
  by_cases e : j = S.next
  · subst e; simp [Ne.symm h]
  · simp [e]
@[simp] theorem bin_int {op : BinOp} {k k' : IntKind} {a b : Int} : binV op (.int k a) (.int k' b) = (binA op (.int k a) (.int k' b)).bind ofAV := nd rfl
@[simp] theorem bin_str {op : BinOp} {a b : List UInt8} : binV op (.str a) (.str b) = (binA op (.str a) (.str b)).bind ofAV := nd rfl
@[simp] theorem index_l {sz sz' : Nat} {rows : List (List V)} {k : IntKind} {m : Nat} : indexV sz (.lst sz' rows) (.int k m) = if sz' = sz then (rows[m]?).map fun r => .rptr r 0 else none := by
  simp [indexV]
@[simp] theorem index_0 {sz sz' : Nat} {rows : List (List V)} {k : IntKind} : indexV sz (.lst sz' rows) (.int k 0) = if sz' = sz then (rows[0]?).map fun r => .rptr r 0 else none := by
  simp [indexV]
theorem index_at {sz : Nat} {rows : List (List V)} {k : IntKind} {m : Nat} {r : List V} (h : rows[m]? = some r) : indexV sz (.lst sz rows) (.int k m) = some (.rptr r 0) := by
  simp [indexV, h]
def findR (w : Rts) (n : Nat) : Option Tag := (w.find? fun p => p.1 == n).map (·.2)
@[simp] theorem findR_cons {n m : Nat} {t : Tag} : findR ((m, t) :: w) n = if m = n then some t else findR w n := by
  unfold findR
  rw [List.find?_cons]
  by_cases e : m = n
  · subst e; simp
  · rw [if_neg e, beq_eq_false_iff_ne.2 e]
def appC (f : VFr) (w : Rts) (h : VH) (d sz : Nat) (rows : List (List V)) (t : Option Tag) : Option VS := match t with
  | some (.cell i off) => if ownAt h i off then some ⟨(d, .lst sz rows) :: f, (d, .own) :: (w.noCellAt i off).del d, dropOwn h i off⟩ else none
  | _ => none
@[simp] theorem appC_cell {d sz off : Nat} {rows : List (List V)} : appC f w h d sz rows (some (.cell i off)) = if ownAt h i off then some ⟨(d, .lst sz rows) :: f, (d, .own) :: (w.noCellAt i off).del d, dropOwn h i off⟩ else none := nd rfl
@[simp] theorem app_t {d sz bytes n : Nat} {y : Opd} : appV ⟨f, w, h⟩ d sz bytes (.t n) y = (VFr.get f n).bind fun a => (evV f y).bind fun b => (rowsOfV sz a).bind fun rows => (rowsOfV sz b).bind fun news =>
    if 0 < sz ∧ 0 < bytes ∧ (rows.length + news.length) * bytes ≤ 140737488355328 then
      (if w.contains (n, .own) then some ⟨(d, .lst sz (rows ++ news)) :: f, (d, .own) :: Rts.del (w.filter fun p => p != (n, .own)) d, h⟩ else appC f w h d sz (rows ++ news) (findR w n))
    else none := by
  unfold appV appC findR
  simp only [evV, takeR]
  congr 1; funext a; congr 1; funext b; congr 1; funext rows; congr 1; funext news
  by_cases h1 : 0 < sz ∧ 0 < bytes ∧ (rows.length + news.length) * bytes ≤ 140737488355328
  · rw [if_pos h1, if_pos h1]
    by_cases h2 : w.contains (n, .own) = true
    · rw [if_pos h2, if_pos h2]; rfl
    · rw [if_neg h2, if_neg h2]
      cases w.find? fun p => p.1 == n with
      | none => rfl
      | some p =>
        obtain ⟨m, t⟩ := p
        cases t with
        | own => rfl
        | comp j => rfl
        | cell i off =>
          simp only [Option.map_some]
          by_cases h3 : ownAt h i off = true
          · rw [if_pos h3, if_pos h3]; rfl
          · rw [if_neg h3, if_neg h3]; rfl
  · rw [if_neg h1, if_neg h1]
@[simp] theorem app_nil {d sz bytes s k : Nat} {c : Option Nat} {y : Opd} : appV ⟨f, w, h⟩ d sz bytes (.c (.sl none s k c)) y = (ofAV (.sl none s k c)).bind fun a => (evV f y).bind fun b => (rowsOfV sz a).bind fun rows => (rowsOfV sz b).bind fun news =>
    if 0 < sz ∧ 0 < bytes ∧ (rows.length + news.length) * bytes ≤ 140737488355328 then some ⟨(d, .lst sz (rows ++ news)) :: f, (d, .own) :: w.del d, h⟩ else none := by
  unfold appV
  simp only [evV, takeR, isNilC, if_true]
  rfl
@[simp] theorem rca_nil {off : Nat} : Rts.noCellAt [] i off = [] := nd rfl
@[simp] theorem rca_own {m off : Nat} : Rts.noCellAt ((m, .own) :: w) i off = (m, .own) :: Rts.noCellAt w i off := nd rfl
@[simp] theorem rca_comp {m j off : Nat} : Rts.noCellAt ((m, .comp j) :: w) i off = (m, .comp j) :: Rts.noCellAt w i off := nd rfl
@[simp] theorem rca_cell {m j o off : Nat} : Rts.noCellAt ((m, .cell j o) :: w) i off = if j = i ∧ o = off then Rts.noCellAt w i off else (m, .cell j o) :: Rts.noCellAt w i off := by
  unfold Rts.noCellAt
  rw [List.filter_cons]
  by_cases e : j = i ∧ o = off
  · obtain ⟨rfl, rfl⟩ := e; simp
  · rw [if_neg e, if_pos (bne_iff_ne.2 fun h => e (by cases h; exact ⟨rfl, rfl⟩))]
def dropO (S : VH) (o : Option VObj) (i off : Nat) : VH := match o with
  | some (.cells l own) => S.set i (.cells l (own.filter (· != off)))
  | _ => S
@[simp] theorem dropOwn_eq {off : Nat} : dropOwn S i off = dropO S (S.get i) i off := nd rfl
@[simp] theorem dropO_c {off : Nat} {l : List V} {own : List Nat} : dropO S (some (.cells l own)) i off = S.set i (.cells l (own.filter (· != off))) := nd rfl
noncomputable def chkO {α : Type} (b : Prop) (x : Option α) : Option α := @ite _ b (Classical.propDecidable b) x none
theorem chkO_t {α : Type} {b : Prop} {x : Option α} (h : b) : chkO b x = x := if_pos h
def sameO (E : Env) (st st' : VS) : Option AOper → Prop
  | some r => sameReadV E st st' r
  | none => True
@[simp] theorem findD_cons {j k : Nat} {o : AOper} {p c : List Nat} {l : List DOp} : findD (⟨k, o, p, c⟩ :: l) j = if k = j then some o else findD l j := by
  unfold findD
  rw [List.find?_cons]
  by_cases e : k = j
  · subst e; simp
  · rw [if_neg e, beq_eq_false_iff_ne.2 e]
@[simp] theorem sameO_s {E : Env} {f' : VFr} {w' : Rts} {h' : VH} {d : Option Nat} {op : AOp} : sameO E ⟨f, w, h⟩ ⟨f', w', h'⟩ (some ⟨d, op, none⟩) ↔ ∃ v, readV E f h' op = some v ∧ readV E f h op = some v ∧ rigid v = true := by
  simp [sameO, sameReadV, wantedV]
@[simp] theorem sameO_g {E : Env} {f' : VFr} {w' : Rts} {h' : VH} {d : Option Nat} {op : AOp} {t : Nat} {b : Bool} : sameO E ⟨f, w, h⟩ ⟨f', w', h'⟩ (some ⟨d, op, some (t, b)⟩) ↔ wantedV f (some (t, b)) = some false ∨ (wantedV f (some (t, b)) = some true ∧ ∃ v, readV E f h' op = some v ∧ readV E f h op = some v ∧ rigid v = true) := Iff.rfl
@[simp] theorem dreg_chk1 {E : Env} {Fl : Flags} {O : VOracle} {all : List DOp} {k c : Nat} {o : AOper} {pre : List Nat} {l : List DOp} : dregV E Fl O all (⟨k, o, pre, [c]⟩ :: l) st = (stepV E Fl O o st).bind fun st' => chkO (sameO E st st' (findD all c)) (dregV E Fl O all l st') := by
  simp only [dregV]
  congr 1; funext st'
  unfold chkO
  congr 1
  apply propext
  simp only [List.mem_singleton, forall_eq]
  cases findD all c with
  | none => simp [sameO]
  | some r => simp [sameO]
@[simp] theorem dreg_chk2 {E : Env} {Fl : Flags} {O : VOracle} {all : List DOp} {k c c' : Nat} {o : AOper} {pre : List Nat} {l : List DOp} : dregV E Fl O all (⟨k, o, pre, [c, c']⟩ :: l) st = (stepV E Fl O o st).bind fun st' => chkO (sameO E st st' (findD all c) ∧ sameO E st st' (findD all c')) (dregV E Fl O all l st') := by
  simp only [dregV]
  congr 1; funext st'
  unfold chkO
  congr 1
  apply propext
  simp only [List.mem_cons, List.not_mem_nil, or_false, forall_eq_or_imp, forall_eq]
  cases findD all c <;> cases findD all c' <;> simp [sameO]
@[simp] theorem chkO_true {α : Type} {x : Option α} : chkO True x = x := chkO_t trivial
@[simp] theorem read_load {E : Env} {k : Nat} {ag : Bool} {x : Opd} : readV E f h (.load k ag x) = (evV f x).bind fun v => loadV h k ag v := nd rfl
@[simp] theorem rig_int {k : IntKind} {a : Int} : rigid (.int k a) = true := nd rfl
@[simp] theorem rig_bool {b : Bool} : rigid (.bool b) = true := nd rfl
@[simp] theorem rig_str {b : List UInt8} : rigid (.str b) = true := nd rfl
@[simp] theorem rig_ptr {b : Option (Nat × Nat)} : rigid (.ptr b) = true := nd rfl
@[simp] theorem rig_map {b : Option Nat} : rigid (.map b) = true := nd rfl
@[simp] theorem rig_nil : rigid .nilI = true := nd rfl
variable {E : Env} {cst : Bool}
@[simp] theorem eq_bool {a b : Bool} : eqV E S cst .bool (.bool a) (.bool b) = some (a == b) := nd rfl
@[simp] theorem eq_ptr {a b : Option (Nat × Nat)} : eqV E S cst .ptr (.ptr a) (.ptr b) = ptrEqV S a b := nd rfl
@[simp] theorem ptrEq_00 : ptrEqV S none none = some true := nd rfl
@[simp] theorem ptrEq_10 {a : Nat × Nat} : ptrEqV S (some a) none = some false := nd rfl
@[simp] theorem ptrEq_01 {a : Nat × Nat} : ptrEqV S none (some a) = some false := nd rfl
@[simp] theorem eq_nil : eqV E S cst .ifc .nilI .nilI = if cst = true then some true else none := nd rfl
@[simp] theorem eq_ifc1 {t : Nat} {v : V} : eqV E S cst .ifc .nilI (.ifc t v) = some false := nd rfl
@[simp] theorem eq_ifc2 {t : Nat} {v : V} : eqV E S cst .ifc (.ifc t v) .nilI = some false := nd rfl
@[simp] theorem eq_map1 {a : Option Nat} : eqV E S cst .nilM (.map none) (.map a) = some a.isNone := nd rfl
@[simp] theorem eq_map2 {a : Nat} : eqV E S cst .nilM (.map (some a)) (.map none) = some false := nd rfl
@[simp] theorem eq_fn0 : eqV E S cst .nilF .nilFn .nilFn = some true := nd rfl
@[simp] theorem eq_fn1 {g : Nat} {l : List V} : eqV E S cst .nilF .nilFn (.fn g l) = some false := nd rfl
@[simp] theorem eq_fn2 {g : Nat} {l : List V} : eqV E S cst .nilF (.fn g l) .nilFn = some false := nd rfl
@[simp] theorem rows_l {sz sz' : Nat} {rows : List (List V)} : rowsOfV sz (.lst sz' rows) = if sz' = sz then some rows else none := nd rfl
@[simp] theorem rows_s {sz : Nat} {s : List UInt8} : rowsOfV sz (.str s) = if sz = 1 then some (s.map fun b => [.int .u8 b.toNat]) else none := nd rfl
end
end Go.Proofs.YtlecbjcloleiiaaDoor.Val

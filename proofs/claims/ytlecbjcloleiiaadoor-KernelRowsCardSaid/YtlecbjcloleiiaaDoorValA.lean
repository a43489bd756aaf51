import Derived.Test.YtlecbjcloleiiaaDoorRamA
/-! A second machine over the same texts ('val'): slices are lists of rows by value, read-only once made; what is appended to is owned by one slot or cell; a call's and a round's own blocks are dropped behind it. -/
namespace Go.Proofs.YtlecbjcloleiiaaDoor.Val
open Go Go.Proofs.YtlecbjcloleiiaaDoor.Ram

inductive V where
  | int (k : IntKind) (n : Int)
  | bool (b : Bool)
  | str (s : List UInt8)
  | ptr (a : Option (Nat × Nat))
  | rptr (row : List V) (off : Nat)
  | lst (sz : Nat) (rows : List (List V))
  | map (r : Option Nat)
  | fn (f : Nat) (caps : List V)
  | nilFn
  | nilI
  | und
  | ifc (t : Nat) (v : V)
  | agg (l : List V)
  | tup (l : List V)
  deriving Inhabited

inductive VObj where
  | cells (l : List V) (own : List Nat)
  | map (l : List (List UInt8 × V))
  deriving Inhabited
structure VH where
  next : Nat
  get : Nat → Option VObj
def VH.set (S : VH) (i : Nat) (o : VObj) : VH := { S with get := fun j => if j = i then some o else S.get j }
def VH.push (S : VH) (o : VObj) : VH := { next := S.next + 1, get := fun j => if j = S.next then some o else S.get j }
/-- What was there ahead, as it is now; what is new is dropped. -/
def VH.trim (S S1 : VH) : VH := { next := S.next, get := fun j => if j < S.next then S1.get j else S.get j }

abbrev VFr := List (Nat × V)
def VFr.get : VFr → Nat → Option V
  | [], _ => none
  | (k, v) :: r, n => if k = n then some v else VFr.get r n
def VFr.set (f : VFr) (n : Nat) (v : V) : VFr := (n, v) :: f
def VFr.del (f : VFr) (n : Nat) : VFr := f.filter (fun p => p.1 != n)
def VFr.keep (f : VFr) (l : List Nat) : VFr := l.filterMap fun n => (VFr.get f n).map (n, ·)

/-- The right to append: a slot's own; a cell's, of which the slot holds the list; a part's of a slot's tuple. -/
inductive Tag where
  | own
  | cell (i off : Nat)
  | comp (j : Nat)
  deriving DecidableEq
abbrev Rts := List (Nat × Tag)
def Rts.del (w : Rts) (d : Nat) : Rts := w.filter fun p => p.1 != d
/-- What slot n has goes to slot d. -/
def Rts.move (w : Rts) (n d : Nat) : Rts := if n = d then w else (w.filter fun p => p.1 != d).map fun p => if p.1 = n then (d, p.2) else p
def Rts.noCell (w : Rts) : Rts := w.filter fun p => match p.2 with | .cell _ _ => false | _ => true
def Rts.noCellAt (w : Rts) (i off : Nat) : Rts := w.filter fun p => p.2 != .cell i off
def Rts.keep (w : Rts) (l : List Nat) : Rts := w.filter fun p => l.contains p.1

structure VS where
  f : VFr
  w : Rts
  h : VH

mutual
def ofAV : AV → Option V
  | .int k n => some (.int k n)
  | .bool b => some (.bool b)
  | .str s => some (.str s)
  | .ptr none => some (.ptr none)
  | .sl none sz 0 _ => some (.lst sz [])
  | .map none => some (.map none)
  | .nilFn => some .nilFn
  | .nilI => some .nilI
  | .ifc t v => (ofAV v).map (.ifc t)
  | .agg l => (ofAVs l).map .agg
  | _ => none
def ofAVs : List AV → Option (List V)
  | [] => some []
  | x :: l => (ofAV x).bind fun v => (ofAVs l).map (v :: ·)
end
def evV (fr : VFr) : Opd → Option V
  | .t n => VFr.get fr n
  | .c v => ofAV v
  | .g n => if n < 100 then some (.ptr (some (n, 0))) else none
  | .f n => some (.fn n [])
def evsV (fr : VFr) : List Opd → Option (List V)
  | [] => some []
  | x :: l => (evV fr x).bind fun v => (evsV fr l).map (v :: ·)
def cellsV : V → List V
  | .agg l => l
  | v => [v]
def oneV : V → Bool
  | .und => false
  | .agg _ => false
  | .tup _ => false
  | _ => true
def fillV (l : List V) : List (Nat × Nat × V) → Option (List V)
  | [] => some l
  | (off, n, v) :: rest => if (cellsV v).length = n ∧ off + n ≤ l.length ∧ (cellsV v).all oneV = true then fillV (l.take off ++ cellsV v ++ l.drop (off + n)) rest else none
def partsV (fr : VFr) : List (Nat × Nat × Opd) → Option (List (Nat × Nat × V))
  | [] => some []
  | (a, b, x) :: l => (evV fr x).bind fun v => (partsV fr l).map ((a, b, v) :: ·)
def scal : V → Option AV
  | .int k n => some (.int k n)
  | .str s => some (.str s)
  | .bool b => some (.bool b)
  | _ => none
def binV (op : BinOp) (x y : V) : Option V := (scal x).bind fun a => (scal y).bind fun b => (binA op a b).bind ofAV

def flatEq1V : Nat → V → V → Option Bool
  | 0, .int k a, .int k' b => if k = k' then some (a == b) else none
  | 1, .str a, .str b => some (a == b)
  | 2, .bool a, .bool b => some (a == b)
  | _, _, _ => none
def flatEqV : List Nat → List V → List V → Option Bool
  | [], [], [] => some true
  | k :: ks, x :: l, y :: l' => (flatEq1V k x y).bind fun b => (flatEqV ks l l').map (b && ·)
  | _, _, _ => none
def liveV (S : VH) (i : Nat) : Bool := match S.get i with | some (.cells _ _) => true | _ => false
def ptrEqV (S : VH) : Option (Nat × Nat) → Option (Nat × Nat) → Option Bool
  | none, none => some true
  | some (i, a), some (j, b) => if liveV S i && liveV S j then some (i == j && a == b) else none
  | _, _ => some false
def eqV (E : Env) (S : VH) (cst : Bool) (k : EqK) (x y : V) : Option Bool :=
  match k, x, y with
  | .bool, .bool a, .bool b => some (a == b)
  | .ptr, .ptr a, .ptr b => ptrEqV S a b
  | .ifc, .nilI, .nilI => if cst then some true else none
  | .ifc, .nilI, .ifc _ _ => some false
  | .ifc, .ifc _ _, .nilI => some false
  | .ifc, .ifc t (.ptr a), .ifc t' (.ptr b) => if t = t' then (if E.ptrTypes.contains t then ptrEqV S a b else none) else some false
  | .flat ks, .agg l, .agg l' => flatEqV ks l l'
  | .nilM, .map none, .map a => some a.isNone
  | .nilM, .map a, .map none => some a.isNone
  | .nilF, .nilFn, .nilFn => some true
  | .nilF, .nilFn, .fn _ _ => some false
  | .nilF, .fn _ _, .nilFn => some false
  | _, _, _ => none

def loadV (S : VH) (n : Nat) (ag : Bool) (x : V) : Option V :=
  match x with
  | .ptr (some (i, off)) =>
    match S.get i with
    | some (.cells l _) => if ag then (if off + n ≤ l.length then some (.agg ((l.drop off).take n)) else none) else l[off]?
    | _ => none
  | .rptr row off => if ag then (if off + n ≤ row.length ∧ 0 < n then some (.agg ((row.drop off).take n)) else none) else row[off]?
  | _ => none
def putV (l : List V) (off : Nat) (news : List V) : List V := l.take off ++ news ++ l.drop (off + news.length)
/-- A store; rt: the cell has the right to append from now on. -/
def storeV (S : VH) (n : Nat) (a v : V) (rt : Bool) : Option VH :=
  match a with
  | .ptr (some (i, off)) =>
    match S.get i with
    | some (.cells l own) => if (cellsV v).length = n ∧ off + n ≤ l.length ∧ (cellsV v).all oneV = true then
        some (S.set i (.cells (putV l off (cellsV v)) ((if rt then [off] else []) ++ own.filter fun o => !(decide (off ≤ o) && decide (o < off + n))))) else none
    | _ => none
  | _ => none
def lenV (st : Bool) : V → Option V
  | .lst _ rows => if st = false then some (.int .i64 rows.length) else none
  | .str s => if st = true then some (.int .i64 s.length) else none
  | _ => none
def natV (v : V) : Option Nat := match v with | .int _ n => if 0 ≤ n then some n.toNat else none | _ => none
def bndV (d : Nat) : Option V → Option Nat
  | none => some d
  | some v => natV v
def slcV (sz : Nat) (x : V) (lo hi : Option V) : Option V :=
  match x with
  | .str s => (bndV 0 lo).bind fun l => (bndV s.length hi).bind fun h => if sz = 0 ∧ l ≤ h ∧ h ≤ s.length then some (.str ((s.take h).drop l)) else none
  | .lst sz' rows => (bndV 0 lo).bind fun l => (bndV rows.length hi).bind fun h => if 0 < sz ∧ sz' = sz ∧ l ≤ h ∧ h ≤ rows.length then some (.lst sz ((rows.take h).drop l)) else none
  | _ => none
def indexV (sz : Nat) (x i : V) : Option V :=
  match x, i with
  | .lst sz' rows, .int _ n => if sz' = sz ∧ 0 ≤ n then (rows[n.toNat]?).map fun r => .rptr r 0 else none
  | _, _ => none
def mapGetV (l : List (List UInt8 × V)) (k : List UInt8) : Option V := (l.find? fun p => p.1 == k).map (·.2)
def mapSetV : List (List UInt8 × V) → List UInt8 → V → List (List UInt8 × V)
  | [], k, v => [(k, v)]
  | (k', v') :: l, k, v => if k' == k then (k, v) :: l else (k', v') :: mapSetV l k v
def mapDelV : List (List UInt8 × V) → List UInt8 → List (List UInt8 × V)
  | [], _ => []
  | (k', v') :: l, k => if k' == k then l else (k', v') :: mapDelV l k
def oev (fr : VFr) : Option Opd → Option (Option V)
  | none => some none
  | some x => (evV fr x).map some

def pickV (c a b : Option V) : Option V := match c with
  | some (.bool true) => a
  | some (.bool false) => b
  | _ => none
def nilchkV : V → Option V
  | .ptr (some a) => some (.ptr (some a))
  | .rptr r o => some (.rptr r o)
  | _ => none
def notV : V → Option V
  | .bool b => some (.bool (!b))
  | _ => none
def negV : V → Option V
  | .int k n => some (.int k (k.wrap (-n)))
  | _ => none
def convV (k : IntKind) : V → Option V
  | .int _ n => some (.int k (k.wrap n))
  | _ => none
def convSV : V → Option V
  | .str s => some (.str s)
  | _ => none
def fieldAV (off : Nat) : V → Option V
  | .ptr (some (i, o)) => some (.ptr (some (i, o + off)))
  | .rptr r o => some (.rptr r (o + off))
  | _ => none
def fieldV (off n : Nat) (ag : Bool) : V → Option V
  | .agg l => if ag then (if off + n ≤ l.length then some (.agg ((l.drop off).take n)) else none) else l[off]?
  | _ => none
def chrV (x i : V) : Option V :=
  match x, i with
  | .str s, .int _ n => if 0 ≤ n then (s[n.toNat]?).map fun b => .int .u8 b.toNat else none
  | _, _ => none
def extractV (i : Nat) : V → Option V
  | .tup l => l[i]?
  | _ => none
def minmaxV (mx : Bool) (x y : V) : Option V :=
  match x, y with
  | .int k a, .int k' b => if k = k' then some (.int k (if mx then (if a < b then b else a) else (if b < a then b else a))) else none
  | _, _ => none
/-- A slice of parts: its rows. -/
def rowsOf (sz : Nat) : Nat → List V → List (List V)
  | 0, _ => []
  | n + 1, l => l.take sz :: rowsOf sz n (l.drop sz)

/-- What a pure operation comes to. -/
def pureV (fr : VFr) : AOp → Option V
  | .mov x => evV fr x
  | .pick c a b => pickV (evV fr c) (evV fr a) (evV fr b)
  | .build zero parts => (ofAVs zero).bind fun z => (partsV fr parts).bind fun ps => (fillV z ps).map .agg
  | .nilchk x => (evV fr x).bind nilchkV
  | .bin op x y => (evV fr x).bind fun a => (evV fr y).bind fun b => binV op a b
  | .not x => (evV fr x).bind notV
  | .neg x => (evV fr x).bind negV
  | .conv k x => (evV fr x).bind (convV k)
  | .convS x => (evV fr x).bind convSV
  | .mkIfc t x => (evV fr x).map (.ifc t)
  | .mkFn f caps => (evsV fr caps).map (.fn f)
  | .slc sz x lo hi => (evV fr x).bind fun v => (oev fr lo).bind fun l => (oev fr hi).bind fun h => slcV sz v l h
  | .fieldA off x => (evV fr x).bind (fieldAV off)
  | .field off n ag x => (evV fr x).bind (fieldV off n ag)
  | .indexA sz x i => (evV fr x).bind fun a => (evV fr i).bind fun b => indexV sz a b
  | .index x i => (evV fr x).bind fun a => (evV fr i).bind fun b => chrV a b
  | .extract x i => (evV fr x).bind (extractV i)
  | .len st x => (evV fr x).bind (lenV st)
  | .minmax mx x y => (evV fr x).bind fun a => (evV fr y).bind fun b => minmaxV mx a b
  | _ => none
def lookupV (S : VH) (d : V) (ok : Bool) (m k : V) : Option V :=
  match m, k with
  | .map none, .str _ => some (if ok then .tup [d, .bool false] else d)
  | .map (some i), .str s => match S.get i with
    | some (.map l) => some (match mapGetV l s with
      | some v => if ok then .tup [v, .bool true] else v
      | none => if ok then .tup [d, .bool false] else d)
    | _ => none
  | _, _ => none
def readV (E : Env) (fr : VFr) (S : VH) : AOp → Option V
  | .load n ag x => (evV fr x).bind fun v => loadV S n ag v
  | .eq neg k x y => (evV fr x).bind fun a => (evV fr y).bind fun b => (eqV E S (x.isC || y.isC) k a b).map fun r => .bool (if neg then !r else r)
  | .lookup d ok m k => (ofAV d).bind fun d => (evV fr m).bind fun mv => (evV fr k).bind fun kv => lookupV S d ok mv kv
  | _ => none

/-- Where the right to append comes from. -/
def isNilC : Opd → Bool
  | .c (.sl none _ _ _) => true
  | _ => false
def movR (w : Rts) (x : Opd) (d : Nat) : Rts := match x with
  | .t n => w.move n d
  | x => (if isNilC x then [(d, .own)] else []) ++ w.del d
def slcR (w : Rts) (x : Opd) (hi : Option Opd) (d : Nat) : Rts := match x, hi with
  | .t n, none => if w.contains (n, .own) && n != d then (d, .own) :: (Rts.del (w.filter fun p => p != (n, .own)) d) else w.del d
  | _, _ => w.del d
def extR (w : Rts) (x : Opd) (j d : Nat) : Rts := match x with
  | .t n => if w.contains (n, .comp j) && n != d then (d, .own) :: (Rts.del (w.filter fun p => p != (n, .comp j)) d) else w.del d
  | _ => w.del d
/-- A cell's right. -/
def ownAt (S : VH) (i off : Nat) : Bool := match S.get i with
  | some (.cells _ own) => own.contains off
  | _ => false
def loadR (w : Rts) (S : VH) (ag : Bool) (p : Option V) (d : Nat) : Rts := match ag, p with
  | false, some (.ptr (some (i, off))) => if ownAt S i off then (d, .cell i off) :: w.del d else w.del d
  | _, _ => w.del d
/-- The nils of a row of parts. -/
def isNilA : AV → Bool
  | .sl none _ 0 _ => true
  | _ => false
def nilsFrom : Nat → List AV → List Nat
  | _, [] => []
  | k, x :: l => if isNilA x then k :: nilsFrom (k + 1) l else nilsFrom (k + 1) l
def free (parts : List (Nat × Nat × Opd)) (j : Nat) : Bool := parts.all fun p => decide (j < p.1) || decide (p.1 + p.2.1 ≤ j)
def bldR (w : Rts) (d : Nat) (zero : List AV) (parts : List (Nat × Nat × Opd)) : Rts := ((nilsFrom 0 zero).filter (free parts)).map (fun j => (d, .comp j)) ++ w.del d
/-- A part's rights, of an aggregate. -/
def compsOf (w : Rts) (x : Opd) (v : V) : List Nat := match x, v with
  | .t n, .agg _ => w.filterMap fun p => match p.2 with | .comp j => if p.1 = n then some j else none | _ => none
  | _, _ => []
def noCellNew (n : Nat) (w : Rts) : Rts := w.filter fun p => match p.2 with | .cell i _ => decide (i < n) | _ => true
/-- The rights behind a pure or reading operation. -/
def rtsV (st : VS) (d : Nat) : AOp → Rts
  | .mov x => movR st.w x d
  | .slc _ x _ hi => slcR st.w x hi d
  | .extract x j => extR st.w x j d
  | .load _ ag x => loadR st.w st.h ag (evV st.f x) d
  | .build zero parts => bldR st.w d zero parts
  | _ => st.w.del d
def dropOwn (S : VH) (i off : Nat) : VH := match S.get i with
  | some (.cells l own) => S.set i (.cells l (own.filter (· != off)))
  | _ => S

abbrev VOracle := Nat → List V → List Nat → VH → Option (V × List Nat × VH)
/-- Functions that take, or give, a right to append; functions that leave blocks behind. -/
structure Flags where
  lin : Nat → Option Nat
  ret : Nat → Bool
  made : Nat → Bool

def tOf : Opd → Option Nat
  | .t n => some n
  | _ => none
/-- The arguments whose right goes along. -/
def goes (w : Rts) (l : Option Nat) (args : List Opd) : Option (Nat × Nat) := l.bind fun k => ((args[k]?).bind tOf).bind fun n => if w.contains (n, .own) then some (k, n) else none
def gone (w : Rts) : Option (Nat × Nat) → Rts
  | none => w
  | some (_, n) => w.filter fun p => p != (n, .own)
def fstL : Option (Nat × Nat) → List Nat
  | none => []
  | some (k, _) => [k]
/-- The rights that an answer brings. -/
def gives (d : Nat) (v : V) (rs : List Nat) : Rts := match v with
  | .tup _ => rs.eraseDups.map fun j => (d, .comp j)
  | .lst _ _ => if rs.contains 0 then [(d, .own)] else []
  | _ => []
def callR (Fl : Flags) (O : VOracle) (st : VS) (d : Option Nat) (f : Nat) (args : List Opd) (vs : List V) : Option VS :=
  (O f vs (fstL (goes st.w (Fl.lin f) args)) st.h).map fun r =>
    match d with
    | some d => ⟨VFr.set st.f d r.1, gives d r.1 r.2.1 ++ (gone st.w.noCell (goes st.w (Fl.lin f) args)).del d, r.2.2⟩
    | none => ⟨st.f, gone st.w.noCell (goes st.w (Fl.lin f) args), r.2.2⟩

/-- What an append's first operand is: its list, and where its right comes from. -/
def rowsOfV (sz : Nat) : V → Option (List (List V))
  | .lst sz' rows => if sz' = sz then some rows else none
  | .str s => if sz = 1 then some (s.map fun b => [.int .u8 b.toNat]) else none
  | _ => none
/-- The state behind the right is taken. -/
def takeR (st : VS) (x : Opd) : Option VS := match x with
  | .t n => if st.w.contains (n, .own) then some { st with w := st.w.filter fun p => p != (n, .own) } else
      match st.w.find? fun p => p.1 == n with
      | some (_, .cell i off) => if ownAt st.h i off then some ⟨st.f, st.w.noCellAt i off, dropOwn st.h i off⟩ else none
      | _ => none
  | x => if isNilC x then some st else none
def appV (st : VS) (d sz bytes : Nat) (x y : Opd) : Option VS :=
  (evV st.f x).bind fun a => (evV st.f y).bind fun b => (rowsOfV sz a).bind fun rows => (rowsOfV sz b).bind fun news =>
    if 0 < sz ∧ 0 < bytes ∧ (rows.length + news.length) * bytes ≤ 140737488355328 then
      (takeR st x).map fun s => ⟨VFr.set s.f d (.lst sz (rows ++ news)), (d, .own) :: s.w.del d, s.h⟩
    else none
/-- Does a store bring its cell a right? -/
def storeRt (w : Rts) (n : Nat) : Opd → Bool
  | .t k => decide (n = 1) && w.contains (k, Tag.own)
  | .c (.sl none _ _ _) => decide (n = 1)
  | _ => false
/-- The rights behind a store. -/
def storeW (w : Rts) (v : Opd) (rt : Bool) : Rts := match v with
  | .t k => if rt then Rts.noCell (w.filter fun p => p != (k, Tag.own)) else Rts.noCell w
  | _ => Rts.noCell w
/-- The others. -/
def actV (Fl : Flags) (O : VOracle) (st : VS) (d : Option Nat) : AOp → Option VS
  | .store n a v => if d.isSome then none else (evV st.f a).bind fun p => (evV st.f v).bind fun x =>
      (storeV st.h n p x (storeRt st.w n v)).map fun S => ⟨st.f, storeW st.w v (storeRt st.w n v), S⟩
  | .alloc zero => (ofAVs zero).bind fun z => d.map fun d => ⟨VFr.set st.f d (.ptr (some (st.h.next, 0))), noCellNew st.h.next (st.w.del d), st.h.push (.cells z (nilsFrom 0 zero))⟩
  | .box x => (evV st.f x).bind fun v => if (cellsV v).all oneV = true then d.map fun d => ⟨VFr.set st.f d (.ptr (some (st.h.next, 0))), noCellNew st.h.next (st.w.del d), st.h.push (.cells (cellsV v) (compsOf st.w x v))⟩ else none
  | .mkMap => d.map fun d => ⟨VFr.set st.f d (.map (some st.h.next)), st.w.del d, st.h.push (.map [])⟩
  | .bslice sz len zero parts => (ofAVs zero).bind fun z => (partsV st.f parts).bind fun ps => (fillV z ps).bind fun l =>
      if l.length = len * sz ∧ 0 < sz then d.map fun d => ⟨VFr.set st.f d (.lst sz (rowsOf sz len l)), (d, .own) :: st.w.del d, st.h⟩ else none
  | .mkSlice sz bytes zero len cap => (evV st.f len).bind fun l => (evV st.f cap).bind fun c => match l, c with
      | .int _ l, .int _ c => if l = 0 ∧ 0 ≤ c ∧ (bytes : Int) * c ≤ 281474976710656 ∧ c ≤ 9223372036854775807 ∧ 0 < sz ∧ zero.length = sz then d.map fun d => ⟨VFr.set st.f d (.lst sz []), (d, .own) :: st.w.del d, st.h⟩ else none
      | _, _ => none
  | .mset m k v => (evV st.f m).bind fun m => (evV st.f k).bind fun k => (evV st.f v).bind fun x => match m, k with
      | .map (some i), .str s => match st.h.get i with
        | some (.map l) => if oneV x && d.isNone then some ⟨st.f, st.w, st.h.set i (.map (mapSetV l s x))⟩ else none
        | _ => none
      | _, _ => none
  | .mdel m k => (evV st.f m).bind fun m => (evV st.f k).bind fun k => match m, k with
      | .map (some i), .str s => match st.h.get i with
        | some (.map l) => some ⟨(match d with | some d => VFr.set st.f d (.tup []) | none => st.f), (match d with | some d => st.w.del d | none => st.w), st.h.set i (.map (mapDelV l s))⟩
        | _ => none
      | _, _ => none
  | .callF f args => (evsV st.f args).bind fun vs => callR Fl O st d f args vs
  | .callV x args => (evV st.f x).bind fun c => match c with
      | .fn f caps => if Fl.lin f = none then (evsV st.f args).bind fun vs => callR Fl O st d f args (vs ++ caps) else none
      | _ => none
  | .append fz sz bytes x y => if fz then d.bind fun d => appV st d sz bytes x y else none
  | _ => none

def setS (st : VS) (dst : Option Nat) (op : AOp) (v : V) : VS := match dst with
  | some d => ⟨VFr.set st.f d v, rtsV st d op, st.h⟩
  | none => st
def opV (E : Env) (Fl : Flags) (O : VOracle) (st : VS) (dst : Option Nat) (op : AOp) : Option VS :=
  if op.isPure then (pureV st.f op).map (setS st dst op)
  else if op.isRead then (readV E st.f st.h op).map (setS st dst op)
  else actV Fl O st dst op
def wantedV (fr : VFr) : Option (Nat × Bool) → Option Bool
  | none => some true
  | some (t, want) => match VFr.get fr t with | some (.bool b) => some (b == want) | some .und => some false | _ => none
def stepV (E : Env) (Fl : Flags) (O : VOracle) (o : AOper) (st : VS) : Option VS :=
  match wantedV st.f o.guard with
  | none => none
  | some false => some (match o.dst with | some d => ⟨VFr.set st.f d .und, st.w.del d, st.h⟩ | none => st)
  | some true => opV E Fl O st o.dst o.op
def opsV (E : Env) (Fl : Flags) (O : VOracle) : List AOper → VS → Option VS
  | [], st => some st
  | o :: l, st => (stepV E Fl O o st).bind (opsV E Fl O l)
/-- Values that are alike in both machines. -/
def rigid : V → Bool
  | .int .. | .bool _ | .str _ | .ptr _ | .map _ | .nilI | .nilFn => true
  | .ifc _ v => rigid v
  | _ => false
def sameReadV (E : Env) (st st' : VS) (r : AOper) : Prop := wantedV st.f r.guard = some false ∨ (wantedV st.f r.guard = some true ∧ ∃ v, readV E st.f st'.h r.op = some v ∧ readV E st.f st.h r.op = some v ∧ rigid v = true)
open Classical in
noncomputable def dregV (E : Env) (Fl : Flags) (O : VOracle) (all : List DOp) : List DOp → VS → Option VS
  | [], st => some st
  | d :: l, st => (stepV E Fl O d.o st).bind fun st' =>
    if (∀ j ∈ d.chk, ∀ r, findD all j = some r → sameReadV E st st' r) then dregV E Fl O all l st' else none

/-! what is new is dropped -/
mutual
def V.clo (n : Nat) : V → Bool
  | .ptr (some (i, _)) => decide (i < 100) || decide (i < n)
  | .map (some i) => decide (i < n)
  | .rptr row _ => V.clos n row
  | .lst _ rows => V.closs n rows
  | .fn _ caps => V.clos n caps
  | .ifc _ v => V.clo n v
  | .agg l => V.clos n l
  | .tup l => V.clos n l
  | _ => true
def V.clos (n : Nat) : List V → Bool
  | [] => true
  | v :: l => V.clo n v && V.clos n l
def V.closs (n : Nat) : List (List V) → Bool
  | [] => true
  | r :: l => V.clos n r && V.closs n l
end
def VObj.clo (n : Nat) : VObj → Bool
  | .cells l _ => V.clos n l
  | .map l => l.all fun p => V.clo n p.2
def cloH (S S1 : VH) : Prop := ∀ i, i < S.next → S1.get i = S.get i ∨ ∀ o, S1.get i = some o → o.clo S.next = true
def cloF (n : Nat) (f : VFr) : Bool := f.all fun p => V.clo n p.2

/-- At a round's start no slot stands for a cell. -/
def VS.top (st : VS) : VS := ⟨st.f, st.w.noCell, st.h⟩
abbrev VRes := Option (AEx × VS)
open Classical in
noncomputable def roundV (S : VH) (r : VRes) : VRes := match r with
  | some (.norm, st) => if cloH S st.h ∧ cloF S.next st.f = true then some (.norm, ⟨st.f, noCellNew S.next st.w, VH.trim S st.h⟩) else some (.norm, st)
  | r => r
def loopNV (step : VS → VRes) : Nat → VS → VRes
  | 0, _ => none
  | k + 1, s => match step s with
    | none => none
    | some (.norm, s') => loopNV step k s'
    | some (e, s') => some (e, s')
def seqV (r : VRes) (k : VS → VRes) : VRes := match r with
  | none => none
  | some (.norm, s) => k s
  | some (e, s) => some (e, s)
def blockV (id : Nat) (r : VRes) : VRes := match r with
  | none => none
  | some (.exit j, s) => if j = id then some (.norm, s) else some (.exit j, s)
  | some (e, s) => some (e, s)
def condV (c : Option V) (a b : VRes) : VRes := match c with
  | some (.bool true) => a
  | some (.bool false) => b
  | _ => none
noncomputable def vexec (E : Env) (Fl : Flags) (O : VOracle) (n : Nat) : ACode → VS → VRes
  | .skip, st => some (.norm, st)
  | .reg ops, st => (opsV E Fl O ops st).map fun s => (.norm, s)
  | .dreg ops, st => (dregV E Fl O ops ops st).map fun s => (.norm, s)
  | .keep l c, st => vexec E Fl O n c ⟨VFr.keep st.f l, Rts.keep st.w l, st.h⟩
  | .seq a b, st => seqV (vexec E Fl O n a st) (vexec E Fl O n b)
  | .cond c a b, st => condV (evV st.f c) (vexec E Fl O n a st) (vexec E Fl O n b st)
  | .block id b, st => blockV id (vexec E Fl O n b st)
  | .loop b, st => loopNV (fun s => roundV s.h (vexec E Fl O n b s.top)) n st
  | .exit id, st => some (.exit id, st)
  | .ret, st => some (.ret, st)
  | .bad, _ => none
def resV (st : VS) : List ARes → Option (List V)
  | [] => some []
  | .tmp t :: l => (VFr.get st.f t).bind fun v => (resV st l).map (v :: ·)
  | .cell t n ag :: l => (VFr.get st.f t).bind fun p => (loadV st.h n ag p).bind fun v => (resV st l).map (v :: ·)
def tupV : List V → V
  | [v] => v
  | l => .tup l
/-- The results that have a right. -/
def tmpOf : ARes → Option Nat
  | .tmp t => some t
  | _ => none
def resR (w : Rts) (l : List ARes) : List Nat := if (l.filterMap tmpOf).Nodup then (List.range l.length).filter fun j => match (l[j]?).bind tmpOf with
  | some t => w.contains (t, .own)
  | none => false else []
def rtsR (Fl : Flags) (f : Nat) (F : AFun) (w : Rts) (l : List V) : List Nat := if Fl.ret f then (match l with
  | [.lst _ _] => resR w F.res
  | [_] => []
  | _ => resR w F.res) else []
def frV (args : List V) : VFr := args.zipIdx.map fun p => (p.2, p.1)
open Classical in
/-- What a call leaves. -/
noncomputable def endV (Fl : Flags) (f : Nat) (F : AFun) (S : VH) (r : VRes) : Option (V × List Nat × VH) :=
  match r with
  | some (.exit _, _) => none
  | some (_, st) => (resV st F.res).bind fun l =>
      if Fl.made f then some (tupV l, rtsR Fl f F st.w l, st.h)
      else if cloH S st.h ∧ V.clo S.next (tupV l) = true then some (tupV l, rtsR Fl f F st.w l, VH.trim S st.h) else none
  | none => none
noncomputable def vfun (E : Env) (Fl : Flags) (O : VOracle) (n : Nat) (f : Nat) (F : AFun) (args : List V) (rs : List Nat) (S : VH) : Option (V × List Nat × VH) :=
  if args.length = F.np then endV Fl f F S (vexec E Fl O n F.body ⟨frV args, rs.map fun k => (k, .own), S⟩) else none
inductive VDef where
  | code (F : AFun)
  | prim (p : List V → VH → Option (V × VH))
structure VTab where
  E : Env
  Fl : Flags
  fn : Nat → Option VDef
noncomputable def vcallN (T : VTab) : Nat → VOracle
  | 0, _, _, _, _ => none
  | n + 1, f, args, rs, S => match T.fn f with
    | none => none
    | some (.prim p) => (p args S).map fun r => (r.1, [], r.2)
    | some (.code F) => vfun T.E T.Fl (vcallN T n) n f F args rs S
noncomputable def VCall (T : VTab) : VOracle := fun f args rs S => Lim fun n => vcallN T n f args rs S
noncomputable def loopV (step : VS → VRes) (s : VS) : VRes := Lim fun n => loopNV step n s
noncomputable def execV (E : Env) (Fl : Flags) (O : VOracle) : ACode → VS → VRes
  | .skip, st => some (.norm, st)
  | .reg ops, st => (opsV E Fl O ops st).map fun s => (.norm, s)
  | .dreg ops, st => (dregV E Fl O ops ops st).map fun s => (.norm, s)
  | .keep l c, st => execV E Fl O c ⟨VFr.keep st.f l, Rts.keep st.w l, st.h⟩
  | .seq a b, st => seqV (execV E Fl O a st) (execV E Fl O b)
  | .cond c a b, st => condV (evV st.f c) (execV E Fl O a st) (execV E Fl O b st)
  | .block id b, st => blockV id (execV E Fl O b st)
  | .loop b, st => loopV (fun s => roundV s.h (execV E Fl O b s.top)) st
  | .exit id, st => some (.exit id, st)
  | .ret, st => some (.ret, st)
  | .bad, _ => none
noncomputable def vfunL (T : VTab) (f : Nat) (F : AFun) (args : List V) (rs : List Nat) (S : VH) : Option (V × List Nat × VH) :=
  if args.length = F.np then endV T.Fl f F S (execV T.E T.Fl (VCall T) F.body ⟨frV args, rs.map fun k => (k, .own), S⟩) else none
end Go.Proofs.YtlecbjcloleiiaaDoor.Val

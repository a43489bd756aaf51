import Derived.WalkKit
/-! An abstract machine ('ram') for the translated Go text: one order, no capacities, no draws. Its values, heap, operations, runs; runs without a bound as limits. -/
namespace Go.Proofs.YtlecbjcloleiiaaDoor.Ram
open Go

inductive AV where
  | int (k : IntKind) (n : Int)
  | bool (b : Bool)
  | str (s : List UInt8)
  | ptr (a : Option (Nat × Nat))
  | sl (a : Option (Nat × Nat)) (sz len : Nat) (cap : Option Nat)
  | map (r : Option Nat)
  | fn (f : Nat) (caps : List AV)
  | nilFn
  | nilI
  | und
  | ifc (t : Nat) (v : AV)
  | agg (l : List AV)
  | tup (l : List AV)
  deriving Inhabited

inductive AObj where
  | cells (l : List AV) (ro : Bool)
  | map (l : List (List UInt8 × AV)) (ro : Bool)
  deriving Inhabited

structure AH where
  next : Nat
  get : Nat → Option AObj
  /-- Read-only rows that may be appended to where they end. -/
  tip : Nat → Bool := fun _ => false

def AH.set (H : AH) (i : Nat) (o : AObj) : AH := { H with get := fun j => if j = i then some o else H.get j }
def AH.kill (H : AH) (i : Nat) : AH := { H with get := fun j => if j = i then none else H.get j, tip := fun j => if j = i then false else H.tip j }
def AH.push (H : AH) (o : AObj) : AH := { H with next := H.next + 1, get := fun j => if j = H.next then some o else H.get j }
/-- A new read-only row that may be appended to. -/
def AH.tipOn (H : AH) (i : Nat) : AH := { H with tip := fun j => if j = i then true else H.tip j }
def AH.grow (H : AH) (l : List AV) : AH := (H.push (.cells l true)).tipOn H.next
/-- It may be appended to no more. -/
def AH.stop (H : AH) (i : Nat) : AH := { H with tip := fun j => if j = i then false else H.tip j }

abbrev Fr := List (Nat × AV)
def Fr.get : Fr → Nat → Option AV
  | [], _ => none
  | (k, v) :: r, n => if k = n then some v else Fr.get r n
def Fr.set (f : Fr) (n : Nat) (v : AV) : Fr := (n, v) :: f
def Fr.del (f : Fr) (n : Nat) : Fr := f.filter (fun p => p.1 != n)
def Fr.keep (f : Fr) (l : List Nat) : Fr := l.filterMap fun n => (Fr.get f n).map (n, ·)

inductive Opd where
  | t (n : Nat)
  | c (v : AV)
  | g (n : Nat)
  | f (n : Nat)
def Opd.ev (fr : Fr) : Opd → Option AV
  | .t n => Fr.get fr n
  | .c v => some v
  | .g n => some (.ptr (some (n, 0)))
  | .f n => some (.fn n [])
def evs (fr : Fr) : List Opd → Option (List AV)
  | [] => some []
  | x :: l => (x.ev fr).bind fun v => (evs fr l).map (v :: ·)

inductive EqK where
  | bool | ptr | ifc | flat (ks : List Nat) | nilS | nilM | nilF
inductive AOp where
  | mov (x : Opd)
  | pick (c a b : Opd)
  | alloc (zero : List AV)
  | box (x : Opd)
  | build (zero : List AV) (parts : List (Nat × Nat × Opd))
  | bslice (sz len : Nat) (zero : List AV) (parts : List (Nat × Nat × Opd))
  | load (n : Nat) (ag : Bool) (x : Opd)
  | store (n : Nat) (a v : Opd)
  | nilchk (x : Opd)
  | bin (op : BinOp) (x y : Opd)
  | eq (neg : Bool) (k : EqK) (x y : Opd)
  | not (x : Opd)
  | neg (x : Opd)
  | conv (k : IntKind) (x : Opd)
  | convS (x : Opd)
  | mkIfc (t : Nat) (x : Opd)
  | mkFn (f : Nat) (caps : List Opd)
  | mkMap
  | mkSlice (sz bytes : Nat) (zero : List AV) (len cap : Opd)
  | slc (sz : Nat) (x : Opd) (lo hi : Option Opd)
  | slc3 (sz : Nat) (x hi mx : Opd)
  | fieldA (off : Nat) (x : Opd)
  | field (off n : Nat) (ag : Bool) (x : Opd)
  | indexA (sz : Nat) (x i : Opd)
  | index (x i : Opd)
  | lookup (dflt : AV) (ok : Bool) (m k : Opd)
  | mset (m k v : Opd)
  | mdel (m k : Opd)
  | extract (x : Opd) (i : Nat)
  | callF (f : Nat) (args : List Opd)
  | callV (x : Opd) (args : List Opd)
  | len (st : Bool) (x : Opd)
  | append (fz : Bool) (sz bytes : Nat) (s x : Opd)
  | copy (sz : Nat) (d s : Opd)
  | clear (sz : Nat) (zero : List AV) (x : Opd)
  | minmax (mx : Bool) (x y : Opd)

structure AOper where
  dst : Option Nat
  op : AOp
  guard : Option (Nat × Bool) := none

abbrev AOper.o (d : Nat) (op : AOp) : AOper := ⟨some d, op, none⟩
abbrev AOper.n (op : AOp) : AOper := ⟨none, op, none⟩
abbrev AOper.g (d : Option Nat) (t : Nat) (want : Bool) (op : AOp) : AOper := ⟨d, op, some (t, want)⟩

abbrev Oracle := Nat → List AV → AH → Option (AV × AH)

def cellsOf : AV → List AV
  | .agg l => l
  | v => [v]
def oneCell : AV → Bool
  | .und => false
  | .agg _ => false
  | .tup _ => false
  | _ => true
def fillA (l : List AV) : List (Nat × Nat × AV) → Option (List AV)
  | [] => some l
  | (off, n, v) :: rest => if (cellsOf v).length = n ∧ off + n ≤ l.length ∧ (cellsOf v).all oneCell = true then fillA (l.take off ++ cellsOf v ++ l.drop (off + n)) rest else none
def evParts (fr : Fr) : List (Nat × Nat × Opd) → Option (List (Nat × Nat × AV))
  | [] => some []
  | (a, b, x) :: l => (x.ev fr).bind fun v => (evParts fr l).map ((a, b, v) :: ·)

def bytesLt : List UInt8 → List UInt8 → Bool := Op.bytesLess

def binA (op : BinOp) (x y : AV) : Option AV :=
  match x, y with
  | .int k a, .int k' b =>
    match op with
    | .shl => if 0 ≤ b then some (.int k (k.wrap (a * 2 ^ (min b.toNat k.bits)))) else none
    | .shr => if 0 ≤ b then some (.int k (a.fdiv (2 ^ (min b.toNat k.bits)))) else none
    | _ => if k = k' then
      match op with
      | .add => some (.int k (k.wrap (a + b)))
      | .sub => some (.int k (k.wrap (a - b)))
      | .mul => some (.int k (k.wrap (a * b)))
      | .quo => if b = 0 then none else some (.int k (k.wrap (a.tdiv b)))
      | .rem => if b = 0 then none else some (.int k (a.tmod b))
      | .and => some (.int k (k.wrap (BitVec.ofInt k.bits a &&& BitVec.ofInt k.bits b).toNat))
      | .or => some (.int k (k.wrap (BitVec.ofInt k.bits a ||| BitVec.ofInt k.bits b).toNat))
      | .xor => some (.int k (k.wrap (BitVec.ofInt k.bits a ^^^ BitVec.ofInt k.bits b).toNat))
      | .eql => some (.bool (a == b))
      | .neq => some (.bool (a != b))
      | .lss => some (.bool (decide (a < b)))
      | .leq => some (.bool (decide (a ≤ b)))
      | .gtr => some (.bool (decide (a > b)))
      | .geq => some (.bool (decide (a ≥ b)))
      | _ => none
      else none
  | .str a, .str b =>
    match op with
    | .add => if ((a.length + b.length : Nat) : Int) ≤ IntKind.i64.max then some (.str (a ++ b)) else none
    | .eql => some (.bool (a == b))
    | .neq => some (.bool (!(a == b)))
    | .lss => some (.bool (bytesLt a b))
    | .leq => some (.bool (bytesLt a b || a == b))
    | .gtr => some (.bool (!(bytesLt a b || a == b)))
    | .geq => some (.bool (!bytesLt a b))
    | _ => none
  | _, _ => none

/-- Equality of values that hold numbers, bools and strings alone. -/
def flatEq1 : Nat → AV → AV → Option Bool
  | 0, .int k a, .int k' b => if k = k' then some (a == b) else none
  | 1, .str a, .str b => some (a == b)
  | 2, .bool a, .bool b => some (a == b)
  | _, _, _ => none
def flatEq : List Nat → List AV → List AV → Option Bool
  | [], [], [] => some true
  | k :: ks, x :: l, y :: l' => (flatEq1 k x y).bind fun b => (flatEq ks l l').map (b && ·)
  | _, _, _ => none
/-- A read-only object that may share its block with another such (an argument's). -/
def shar (i : Nat) (ro : Bool) : Bool := decide (100 ≤ i) && ro
def AH.live (H : AH) (i : Nat) : Bool := match H.get i with | some (.cells _ ro) => !ro | _ => false
def ptrEq (H : AH) : Option (Nat × Nat) → Option (Nat × Nat) → Option Bool
  | none, none => some true
  | some (i, a), some (j, b) => if H.live i && H.live j then some (i == j && a == b) else none
  | _, _ => some false
structure Env where
  ptrTypes : List Nat
def eqA (E : Env) (H : AH) (cst : Bool) (k : EqK) (x y : AV) : Option Bool :=
  match k, x, y with
  | .bool, .bool a, .bool b => some (a == b)
  | .ptr, .ptr a, .ptr b => ptrEq H a b
  | .ifc, .nilI, .nilI => if cst then some true else none
  | .ifc, .nilI, .ifc _ _ => some false
  | .ifc, .ifc _ _, .nilI => some false
  | .ifc, .ifc t (.ptr a), .ifc t' (.ptr b) => if t = t' then (if E.ptrTypes.contains t then ptrEq H a b else none) else some false
  | .flat ks, .agg l, .agg l' => flatEq ks l l'
  | .nilS, .sl none _ _ _, .sl a _ _ _ => some a.isNone
  | .nilS, .sl a _ _ _, .sl none _ _ _ => some a.isNone
  | .nilM, .map none, .map a => some a.isNone
  | .nilM, .map a, .map none => some a.isNone
  | .nilF, .nilFn, .nilFn => some true
  | .nilF, .nilFn, .fn _ _ => some false
  | .nilF, .fn _ _, .nilFn => some false
  | _, _, _ => none
def Opd.isC : Opd → Bool
  | .c _ => true
  | _ => false

def loadA (H : AH) (n : Nat) (ag : Bool) (x : AV) : Option AV :=
  match x with
  | .ptr (some (i, off)) =>
    match H.get i with
    | some (.cells l _) => if ag then (if off + n ≤ l.length then some (.agg ((l.drop off).take n)) else none) else l[off]?
    | _ => none
  | _ => none
def putCells (l : List AV) (off : Nat) (news : List AV) : List AV := l.take off ++ news ++ l.drop (off + news.length)
def storeA (H : AH) (n : Nat) (a v : AV) : Option AH :=
  match a with
  | .ptr (some (i, off)) =>
    match H.get i with
    | some (.cells l ro) => if ro = false ∧ (cellsOf v).length = n ∧ off + n ≤ l.length ∧ (cellsOf v).all oneCell = true then some (H.set i (.cells (putCells l off (cellsOf v)) ro)) else none
    | _ => none
  | _ => none
/-- The cells of a slice's (a string's) first k elements. -/
def sliceCells (H : AH) (sz k : Nat) (x : AV) : Option (List AV) :=
  match x with
  | .sl none _ _ _ => if k = 0 then some [] else none
  | .sl (some (i, off)) sz' len _ =>
    match H.get i with
    | some (.cells l _) => if sz' = sz ∧ k ≤ len ∧ off + k * sz ≤ l.length then some ((l.drop off).take (k * sz)) else none
    | _ => none
  | .str s => if sz = 1 ∧ k ≤ s.length then some ((s.take k).map fun b => .int .u8 b.toNat) else none
  | _ => none
def lenA : AV → Option Nat
  | .sl _ _ n _ => some n
  | .str s => some s.length
  | _ => none
def nilSl (sz : Nat) : AV := .sl none sz 0 (some 0)
def appendA (H : AH) (sz bytes : Nat) (s x : AV) : Option (AV × AH) :=
  (lenA x).bind fun n =>
  (sliceCells H sz n x).bind fun news =>
  match s with
  | .sl none _ _ _ =>
    if n = 0 then some (s, H)
    else if n * bytes ≤ 140737488355328 ∧ 0 < bytes ∧ 0 < sz then some (.sl (some (H.next, 0)) sz n none, H.push (.cells news false)) else none
  | .sl (some (i, off)) sz' len cap =>
    if sz' = sz ∧ 0 < sz ∧ 0 < bytes ∧ (len + n) * bytes ≤ 140737488355328 then
      match H.get i with
      | some (.cells l ro) =>
        match cap with
        | some c =>
          if len + n ≤ c then
            if n = 0 then some (s, H)
            else if ro = false ∧ off + (len + n) * sz ≤ l.length then some (.sl (some (i, off)) sz (len + n) (some c), H.set i (.cells (putCells l (off + len * sz) news) ro)) else none
          else if off + len * sz ≤ l.length then some (.sl (some (H.next, 0)) sz (len + n) none, H.push (.cells ((l.drop off).take (len * sz) ++ news) false))
          else none
        | none =>
          if ro = false ∧ off + len * sz = l.length then some (.sl (some (H.next, 0)) sz (len + n) none, (H.push (.cells (l.drop off ++ news) false)).kill i)
          else none
      | _ => none
    else none
  | _ => none
/-- Append whose rows are never written again: what was there ahead of it may still be read. -/
def appendF (H : AH) (sz bytes : Nat) (s x : AV) : Option (AV × AH) :=
  (lenA x).bind fun n =>
  (sliceCells H sz n x).bind fun news =>
  match s with
  | .sl none _ _ _ =>
    if n = 0 then some (s, H)
    else if n * bytes ≤ 140737488355328 ∧ 0 < bytes ∧ 0 < sz ∧ 100 ≤ H.next then some (.sl (some (H.next, 0)) sz n none, H.grow news) else none
  | .sl (some (i, off)) sz' len cap =>
    if sz' = sz ∧ 0 < sz ∧ 0 < bytes ∧ (len + n) * bytes ≤ 140737488355328 then
      match H.get i with
      | some (.cells l ro) =>
        match cap with
        | some c =>
          if len + n ≤ c then
            if n = 0 then some (s, H)
            else if ro = false ∧ off + (len + n) * sz ≤ l.length then some (.sl (some (i, off)) sz (len + n) (some c), H.set i (.cells (putCells l (off + len * sz) news) ro)) else none
          else if off + len * sz ≤ l.length ∧ 100 ≤ H.next then some (.sl (some (H.next, 0)) sz (len + n) none, H.grow ((l.drop off).take (len * sz) ++ news))
          else none
        | none =>
          if H.tip i = true ∧ ro = true ∧ off + len * sz = l.length ∧ 100 ≤ H.next then some (.sl (some (H.next, 0)) sz (len + n) none, (H.grow (l.drop off ++ news)).stop i)
          else none
      | _ => none
    else none
  | _ => none
def appendX (H : AH) (fz : Bool) (sz bytes : Nat) (s x : AV) : Option (AV × AH) := if fz then appendF H sz bytes s x else appendA H sz bytes s x
def copyA (H : AH) (sz : Nat) (d s : AV) : Option (AV × AH) :=
  match d with
  | .sl none _ _ _ => (lenA s).bind fun _ => some (.int .i64 0, H)
  | .sl (some (i, off)) sz' len _ =>
    (lenA s).bind fun n =>
    (sliceCells H sz (min n len) s).bind fun news =>
    match H.get i with
    | some (.cells l ro) => if ro = false ∧ sz' = sz ∧ off + (min n len) * sz ≤ l.length then some (.int .i64 (min n len : Nat), H.set i (.cells (putCells l off news) ro)) else none
    | _ => none
  | _ => none
def clearA (H : AH) (sz : Nat) (zero : List AV) (x : AV) : Option (AV × AH) :=
  match x with
  | .sl none _ _ _ => some (.tup [], H)
  | .sl (some (i, off)) sz' len _ =>
    match H.get i with
    | some (.cells l ro) => if ro = false ∧ sz' = sz ∧ off + len * sz ≤ l.length then some (.tup [], H.set i (.cells (putCells l off (List.replicate len zero).flatten) ro)) else none
    | _ => none
  | _ => none
def natOf (v : AV) : Option Nat := match v with | .int _ n => if 0 ≤ n then some n.toNat else none | _ => none
def bndA (d : Nat) : Option AV → Option Nat
  | none => some d
  | some v => natOf v
def slcA (sz : Nat) (x : AV) (lo hi : Option AV) : Option AV :=
  match x with
  | .str s => (bndA 0 lo).bind fun l => (bndA s.length hi).bind fun h => if sz = 0 ∧ l ≤ h ∧ h ≤ s.length then some (.str ((s.take h).drop l)) else none
  | .sl none _ _ _ => (bndA 0 lo).bind fun l => (bndA 0 hi).bind fun h => if 0 < sz ∧ l = 0 ∧ h = 0 then some (nilSl sz) else none
  | .sl (some (i, off)) sz' len cap => (bndA 0 lo).bind fun l => (bndA len hi).bind fun h =>
    if 0 < sz ∧ sz' = sz ∧ l ≤ h ∧ h ≤ len then some (.sl (some (i, off + l * sz)) sz (h - l) (cap.map (· - l))) else none
  | _ => none
def indexAA (sz : Nat) (x i : AV) : Option AV :=
  match x, i with
  | .sl (some (id, off)) sz' len _, .int _ n => if sz' = sz ∧ 0 ≤ n ∧ n < (len : Int) then some (.ptr (some (id, off + n.toNat * sz))) else none
  | _, _ => none
def mapGet (l : List (List UInt8 × AV)) (k : List UInt8) : Option AV := (l.find? fun p => p.1 == k).map (·.2)
def mapSet : List (List UInt8 × AV) → List UInt8 → AV → List (List UInt8 × AV)
  | [], k, v => [(k, v)]
  | (k', v') :: l, k, v => if k' == k then (k, v) :: l else (k', v') :: mapSet l k v

def mapDel : List (List UInt8 × AV) → List UInt8 → List (List UInt8 × AV)
  | [], _ => []
  | (k', v') :: l, k => if k' == k then l else (k', v') :: mapDel l k

/-- What a pure operation comes to (nothing of memory is asked). -/
def pureA (fr : Fr) : AOp → Option AV
  | .mov x => x.ev fr
  | .pick c a b => match c.ev fr with | some (.bool true) => a.ev fr | some (.bool false) => b.ev fr | _ => none
  | .build zero parts => (evParts fr parts).bind fun ps => (fillA zero ps).map .agg
  | .nilchk x => match x.ev fr with | some (.ptr (some a)) => some (.ptr (some a)) | _ => none
  | .bin op x y => (x.ev fr).bind fun a => (y.ev fr).bind fun b => binA op a b
  | .not x => match x.ev fr with | some (.bool b) => some (.bool (!b)) | _ => none
  | .neg x => match x.ev fr with | some (.int k n) => some (.int k (k.wrap (-n))) | _ => none
  | .conv k x => match x.ev fr with | some (.int _ n) => some (.int k (k.wrap n)) | _ => none
  | .convS x => match x.ev fr with | some (.str s) => some (.str s) | _ => none
  | .mkIfc t x => (x.ev fr).map (.ifc t)
  | .mkFn f caps => (evs fr caps).map (.fn f)
  | .slc sz x lo hi => (x.ev fr).bind fun v =>
      match lo, hi with
      | none, none => slcA sz v none none
      | some a, none => (a.ev fr).bind fun l => slcA sz v (some l) none
      | none, some b => (b.ev fr).bind fun h => slcA sz v none (some h)
      | some a, some b => (a.ev fr).bind fun l => (b.ev fr).bind fun h => slcA sz v (some l) (some h)
  | .fieldA off x => match x.ev fr with | some (.ptr (some (i, o))) => some (.ptr (some (i, o + off))) | _ => none
  | .field off n ag x => match x.ev fr with
      | some (.agg l) => if ag then (if off + n ≤ l.length then some (.agg ((l.drop off).take n)) else none) else l[off]?
      | _ => none
  | .indexA sz x i => (x.ev fr).bind fun a => (i.ev fr).bind fun b => indexAA sz a b
  | .index x i => match x.ev fr, i.ev fr with
      | some (.str s), some (.int _ n) => if 0 ≤ n then (s[n.toNat]?).map fun b => .int .u8 b.toNat else none
      | _, _ => none
  | .extract x i => match x.ev fr with | some (.tup l) => l[i]? | _ => none
  | .len st x => match x.ev fr with
      | some (.sl _ _ n _) => if st = false then some (.int .i64 n) else none
      | some (.str s) => if st = true then some (.int .i64 s.length) else none
      | _ => none
  | .minmax mx x y => match x.ev fr, y.ev fr with
      | some (.int k a), some (.int k' b) => if k = k' then some (.int k (if mx then (if a < b then b else a) else (if b < a then b else a))) else none
      | _, _ => none
  | _ => none

def AOp.isPure : AOp → Bool
  | .mov _ | .pick .. | .build .. | .nilchk _ | .bin .. | .not _ | .neg _ | .conv .. | .convS _ | .mkIfc .. | .mkFn .. | .slc .. | .fieldA .. | .field .. | .indexA .. | .index .. | .extract .. | .len .. | .minmax .. => true
  | _ => false
/-- An operation that reads memory alone. -/
def AOp.isRead : AOp → Bool
  | .load .. | .eq .. | .lookup .. => true
  | _ => false
/-- An operation that makes a block and does no more. -/
def AOp.isMake : AOp → Bool
  | .alloc _ | .box _ | .bslice .. | .mkMap => true
  | _ => false

def readA (E : Env) (fr : Fr) (H : AH) : AOp → Option AV
  | .load n ag x => (x.ev fr).bind fun v => loadA H n ag v
  | .eq neg k x y => (x.ev fr).bind fun a => (y.ev fr).bind fun b => (eqA E H (x.isC || y.isC) k a b).map fun r => .bool (if neg then !r else r)
  | .lookup d ok m k => (m.ev fr).bind fun mv => (k.ev fr).bind fun kv =>
      match mv, kv with
      | .map none, .str _ => some (if ok then .tup [d, .bool false] else d)
      | .map (some i), .str s => match H.get i with
        | some (.map l _) => some (match mapGet l s with
          | some v => if ok then .tup [v, .bool true] else v
          | none => if ok then .tup [d, .bool false] else d)
        | _ => none
      | _, _ => none
  | _ => none

/-- What a make leaves: the value over the new block's number, the block. -/
def makeA (fr : Fr) : AOp → Option ((Nat → AV) × AObj)
  | .alloc zero => some (fun i => .ptr (some (i, 0)), .cells zero false)
  | .box x => (x.ev fr).bind fun v => if (cellsOf v).all oneCell = true then some (fun i => .ptr (some (i, 0)), .cells (cellsOf v) false) else none
  | .bslice sz len zero parts => (evParts fr parts).bind fun ps => (fillA zero ps).map fun l => (fun i => .sl (some (i, 0)) sz len (some len), .cells l false)
  | .mkMap => some (fun i => .map (some i), .map [] false)
  | _ => none

/-- The others. -/
def actA (O : Oracle) (fr : Fr) (H : AH) : AOp → Option (Option AV × AH)
  | .store n a v => (a.ev fr).bind fun p => (v.ev fr).bind fun x => (storeA H n p x).map (none, ·)
  | .mkSlice sz bytes zero len cap => match len.ev fr, cap.ev fr with
      | some (.int _ l), some (.int _ c) => if 0 ≤ l ∧ l ≤ c ∧ (bytes : Int) * c ≤ 281474976710656 ∧ c ≤ 9223372036854775807 then
          some (some (.sl (some (H.next, 0)) sz l.toNat (some c.toNat)), H.push (.cells (List.replicate c.toNat zero).flatten false)) else none
      | _, _ => none
  | .slc3 sz x hi mx => match x.ev fr, hi.ev fr, mx.ev fr with
      | some (.sl none _ _ _), some (.int _ h), some (.int _ m) => if h = 0 ∧ m = 0 then some (some (nilSl sz), H) else none
      | some (.sl (some (i, off)) sz' len _), some (.int _ h), some (.int _ m) => if sz' = sz ∧ 0 ≤ h ∧ h ≤ m ∧ m ≤ (len : Int) then some (some (.sl (some (i, off)) sz h.toNat (some m.toNat)), H) else none
      | _, _, _ => none
  | .mset m k v => match m.ev fr, k.ev fr, v.ev fr with
      | some (.map (some i)), some (.str s), some x => match H.get i with
        | some (.map l false) => if oneCell x then some (none, H.set i (.map (mapSet l s x) false)) else none
        | _ => none
      | _, _, _ => none
  | .mdel m k => match m.ev fr, k.ev fr with
      | some (.map (some i)), some (.str s) => match H.get i with
        | some (.map l false) => some (some (.tup []), H.set i (.map (mapDel l s) false))
        | _ => none
      | _, _ => none
  | .callF f args => (evs fr args).bind fun vs => (O f vs H).map fun r => (some r.1, r.2)
  | .callV x args => match x.ev fr with
      | some (.fn f caps) => (evs fr args).bind fun vs => (O f (vs ++ caps) H).map fun r => (some r.1, r.2)
      | _ => none
  | .append fz sz bytes s x => (s.ev fr).bind fun a => (x.ev fr).bind fun b => (appendX H fz sz bytes a b).map fun r => (some r.1, r.2)
  | .copy sz d s => (d.ev fr).bind fun a => (s.ev fr).bind fun b => (copyA H sz a b).map fun r => (some r.1, r.2)
  | .clear sz zero x => (x.ev fr).bind fun a => (clearA H sz zero a).map fun r => (some r.1, r.2)
  | _ => none

def opA (E : Env) (O : Oracle) (fr : Fr) (H : AH) (op : AOp) : Option (Option AV × AH) :=
  if op.isPure then (pureA fr op).map fun v => (some v, H)
  else if op.isRead then (readA E fr H op).map fun v => (some v, H)
  else if op.isMake then (makeA fr op).map fun r => (some (r.1 H.next), H.push r.2)
  else actA O fr H op

def putD (fr : Fr) : Option Nat → Option AV → Fr
  | none, _ => fr
  | some d, some v => Fr.set fr d v
  | some d, none => Fr.del fr d

def wantedA (fr : Fr) : Option (Nat × Bool) → Option Bool
  | none => some true
  | some (t, want) => match Fr.get fr t with | some (.bool b) => some (b == want) | some .und => some false | _ => none

def stepA (E : Env) (O : Oracle) (o : AOper) (st : Fr × AH) : Option (Fr × AH) :=
  match wantedA st.1 o.guard with
  | none => none
  | some false => some (putD st.1 o.dst (some .und), st.2)
  | some true => (opA E O st.1 st.2 o.op).map fun r => (putD st.1 o.dst r.1, r.2)

def opsA (E : Env) (O : Oracle) : List AOper → Fr × AH → Option (Fr × AH)
  | [], st => some st
  | o :: l, st => (stepA E O o st).bind (opsA E O l)

/-- An operation of a region whose order is open: its place in the text; the reads (by their places) that it may come ahead of or behind. -/
structure DOp where
  ix : Nat
  o : AOper
  pre : List Nat
  chk : List Nat
def findD (l : List DOp) (ix : Nat) : Option AOper := (l.find? fun d => d.ix == ix).map (·.o)
/-- A read that may as well come behind the step reads the same there. -/
def sameRead (E : Env) (fr : Fr) (H H' : AH) (r : AOper) : Prop := wantedA fr r.guard = some false ∨ (wantedA fr r.guard = some true ∧ readA E fr H' r.op = readA E fr H r.op)
open Classical in
noncomputable def dregA (E : Env) (O : Oracle) (all : List DOp) : List DOp → Fr × AH → Option (Fr × AH)
  | [], st => some st
  | d :: l, st => (stepA E O d.o st).bind fun st' =>
    if (∀ j ∈ d.chk, ∀ r, findD all j = some r → sameRead E st.1 st.2 st'.2 r) then dregA E O all l st' else none

inductive AEx where
  | norm
  | exit (id : Nat)
  | ret

inductive ACode where
  | skip
  | reg (ops : List AOper)
  | dreg (ops : List DOp)
  | keep (l : List Nat) (c : ACode)
  | seq (a b : ACode)
  | cond (c : Opd) (a b : ACode)
  | block (id : Nat) (b : ACode)
  | loop (b : ACode)
  | exit (id : Nat)
  | ret
  | bad

abbrev St := Fr × AH
abbrev Res := Option (AEx × St)

def loopN (step : St → Res) : Nat → St → Res
  | 0, _ => none
  | k + 1, s => match step s with
    | none => none
    | some (.norm, s') => loopN step k s'
    | some (e, s') => some (e, s')

def seqR (r : Res) (k : St → Res) : Res := match r with
  | none => none
  | some (.norm, s) => k s
  | some (e, s) => some (e, s)
def blockR (id : Nat) (r : Res) : Res := match r with
  | none => none
  | some (.exit j, s) => if j = id then some (.norm, s) else some (.exit j, s)
  | some (e, s) => some (e, s)
def condR (c : Option AV) (a b : Res) : Res := match c with
  | some (.bool true) => a
  | some (.bool false) => b
  | _ => none

noncomputable def aexec (E : Env) (O : Oracle) (n : Nat) : ACode → St → Res
  | .skip, st => some (.norm, st)
  | .reg ops, st => (opsA E O ops st).map fun s => (.norm, s)
  | .dreg ops, st => (dregA E O ops ops st).map fun s => (.norm, s)
  | .keep l c, st => aexec E O n c (Fr.keep st.1 l, st.2)
  | .seq a b, st => seqR (aexec E O n a st) (aexec E O n b)
  | .cond c a b, st => condR (c.ev st.1) (aexec E O n a st) (aexec E O n b st)
  | .block id b, st => blockR id (aexec E O n b st)
  | .loop b, st => loopN (aexec E O n b) n st
  | .exit id, st => some (.exit id, st)
  | .ret, st => some (.ret, st)
  | .bad, _ => none

inductive ARes where
  | tmp (t : Nat)
  | cell (t n : Nat) (ag : Bool)
structure AFun where
  np : Nat
  body : ACode
  res : List ARes
def resA (st : St) : List ARes → Option (List AV)
  | [] => some []
  | .tmp t :: l => (Fr.get st.1 t).bind fun v => (resA st l).map (v :: ·)
  | .cell t n ag :: l => (Fr.get st.1 t).bind fun p => (loadA st.2 n ag p).bind fun v => (resA st l).map (v :: ·)
def tupOf : List AV → AV
  | [v] => v
  | l => .tup l
def frOf (args : List AV) : Fr := args.zipIdx.map fun p => (p.2, p.1)
def finA (F : AFun) (r : Res) : Option (AV × AH) := match r with
  | some (.norm, st) => (resA st F.res).map fun l => (tupOf l, st.2)
  | some (.ret, st) => (resA st F.res).map fun l => (tupOf l, st.2)
  | _ => none
noncomputable def afun (E : Env) (O : Oracle) (n : Nat) (F : AFun) (args : List AV) (H : AH) : Option (AV × AH) :=
  if args.length = F.np then finA F (aexec E O n F.body (frOf args, H)) else none

inductive ADef where
  | code (F : AFun)
  | prim (p : List AV → AH → Option (AV × AH))
structure Tab where
  E : Env
  fn : Nat → Option ADef

noncomputable def callN (T : Tab) : Nat → Oracle
  | 0, _, _, _ => none
  | n + 1, f, args, H => match T.fn f with
    | none => none
    | some (.prim p) => p args H
    | some (.code F) => afun T.E (callN T n) n F args H

/-! ### limits -/
open Classical in
noncomputable def Lim {α : Type} (g : Nat → Option α) : Option α := if h : ∃ r n, g n = some r then some (Classical.choose h) else none
def Mono {α : Type} (g : Nat → Option α) : Prop := ∀ n r, g n = some r → g (n + 1) = some r
theorem Mono.le {α : Type} {g : Nat → Option α} (h : Mono g) {n m : Nat} {r : α} (hn : g n = some r) (hm : n ≤ m) : g m = some r := by
  obtain ⟨d, rfl⟩ := Nat.le.dest hm
  clear hm
  induction d with
  | zero => exact hn
  | succ d ih => exact h _ _ ih
theorem Mono.lim {α : Type} {g : Nat → Option α} (h : Mono g) {r : α} : Lim g = some r ↔ ∃ n, g n = some r := by
  unfold Lim
  constructor
  · intro hl
    split at hl
    · rename_i hx
      obtain ⟨n, hn⟩ := Classical.choose_spec hx
      exact ⟨n, by rw [hn]; exact hl⟩
    · cases hl
  · rintro ⟨n, hn⟩
    have hx : ∃ r n, g n = some r := ⟨r, n, hn⟩
    rw [dif_pos hx]
    obtain ⟨n', hn'⟩ := Classical.choose_spec hx
    have h1 := h.le hn (Nat.le_max_left n n')
    have h2 := h.le hn' (Nat.le_max_right n n')
    rw [h1] at h2
    exact h2.symm

noncomputable def Call (T : Tab) : Oracle := fun f args H => Lim fun n => callN T n f args H
noncomputable def loopL (step : St → Res) (s : St) : Res := Lim fun n => loopN step n s
noncomputable def execL (E : Env) (O : Oracle) : ACode → St → Res
  | .skip, st => some (.norm, st)
  | .reg ops, st => (opsA E O ops st).map fun s => (.norm, s)
  | .dreg ops, st => (dregA E O ops ops st).map fun s => (.norm, s)
  | .keep l c, st => execL E O c (Fr.keep st.1 l, st.2)
  | .seq a b, st => seqR (execL E O a st) (execL E O b)
  | .cond c a b, st => condR (c.ev st.1) (execL E O a st) (execL E O b st)
  | .block id b, st => blockR id (execL E O b st)
  | .loop b, st => loopL (execL E O b) st
  | .exit id, st => some (.exit id, st)
  | .ret, st => some (.ret, st)
  | .bad, _ => none
noncomputable def afunL (T : Tab) (F : AFun) (args : List AV) (H : AH) : Option (AV × AH) :=
  if args.length = F.np then finA F (execL T.E (Call T) F.body (frOf args, H)) else none

/-- Below: what one oracle answers another one answers too. -/
def OLe (O O' : Oracle) : Prop := ∀ f vs H r, O f vs H = some r → O' f vs H = some r

theorem actA_mono {O O' : Oracle} (h : OLe O O') {fr : Fr} {H : AH} {op : AOp} {r : Option AV × AH} (hr : actA O fr H op = some r) : actA O' fr H op = some r := by
  cases op with
  | callF f args =>
    simp only [actA, Option.bind_eq_some_iff, Option.map_eq_some_iff] at hr ⊢
    obtain ⟨vs, hv, x, hx, e⟩ := hr
    exact ⟨vs, hv, x, h _ _ _ _ hx, e⟩
  | callV x args =>
    simp only [actA] at hr ⊢
    split at hr
    · rename_i f caps hx
      simp only [Option.bind_eq_some_iff, Option.map_eq_some_iff] at hr ⊢
      obtain ⟨vs, hv, x, hx, e⟩ := hr
      exact ⟨vs, hv, x, h _ _ _ _ hx, e⟩
    · cases hr
  | _ => simpa only [actA] using hr

theorem opA_mono {E : Env} {O O' : Oracle} (h : OLe O O') {fr : Fr} {H : AH} {op : AOp} {r : Option AV × AH} (hr : opA E O fr H op = some r) : opA E O' fr H op = some r := by
  unfold opA at hr ⊢
  split at hr
  · rename_i hp; rw [if_pos hp]; exact hr
  · rename_i hp
    rw [if_neg hp]
    split at hr
    · rename_i hq; rw [if_pos hq]; exact hr
    · rename_i hq
      rw [if_neg hq]
      split at hr
      · rename_i hm; rw [if_pos hm]; exact hr
      · rename_i hm; rw [if_neg hm]; exact actA_mono h hr
theorem stepA_mono {E : Env} {O O' : Oracle} (h : OLe O O') {o : AOper} {st r : St} (hr : stepA E O o st = some r) : stepA E O' o st = some r := by
  unfold stepA at hr ⊢
  split at hr
  · cases hr
  · exact hr
  · simp only [Option.map_eq_some_iff] at hr ⊢
    obtain ⟨x, hx, e⟩ := hr
    exact ⟨x, opA_mono h hx, e⟩
theorem opsA_mono {E : Env} {O O' : Oracle} (h : OLe O O') {l : List AOper} : ∀ {st r : St}, opsA E O l st = some r → opsA E O' l st = some r := by
  induction l with
  | nil => intro st r hr; exact hr
  | cons o l ih =>
    intro st r hr
    simp only [opsA, Option.bind_eq_some_iff] at hr ⊢
    obtain ⟨x, hx, hr⟩ := hr
    exact ⟨x, stepA_mono h hx, ih hr⟩
theorem dregA_mono {E : Env} {O O' : Oracle} (h : OLe O O') {all l : List DOp} : ∀ {st r : St}, dregA E O all l st = some r → dregA E O' all l st = some r := by
  induction l with
  | nil => intro st r hr; exact hr
  | cons o l ih =>
    intro st r hr
    simp only [dregA, Option.bind_eq_some_iff] at hr ⊢
    obtain ⟨x, hx, hr⟩ := hr
    refine ⟨x, stepA_mono h hx, ?_⟩
    split at hr
    · rename_i hc; rw [if_pos hc]; exact ih hr
    · cases hr
theorem loopN_mono {s s' : St → Res} (h : ∀ st r, s st = some r → s' st = some r) : ∀ {n m : Nat} {st : St} {r : AEx × St}, n ≤ m → loopN s n st = some r → loopN s' m st = some r := by
  intro n
  induction n with
  | zero => intro m st r _ hr; cases hr
  | succ n ih =>
    intro m st r hm hr
    obtain ⟨m, rfl⟩ : ∃ k, m = k + 1 := ⟨m - 1, by omega⟩
    simp only [loopN] at hr ⊢
    cases hs : s st with
    | none => rw [hs] at hr; cases hr
    | some p =>
      rw [hs] at hr; rw [h _ _ hs]
      obtain ⟨e, s1⟩ := p
      cases e with
      | norm => exact ih (by omega) hr
      | exit i => exact hr
      | ret => exact hr
theorem seqR_some {r : Res} {k : St → Res} {x : AEx × St} : seqR r k = some x ↔ (∃ s, r = some (.norm, s) ∧ k s = some x) ∨ (r = some x ∧ ∀ s, x ≠ (.norm, s)) := by
  unfold seqR
  split
  · simp
  · rename_i s
    constructor
    · intro h; exact .inl ⟨s, rfl, h⟩
    · rintro (⟨s', h, h2⟩ | ⟨h, h2⟩)
      · cases h; exact h2
      · cases h; exact absurd rfl (h2 s)
  · rename_i e s hne
    constructor
    · intro h; cases h; exact .inr ⟨rfl, fun s' h => by cases h; exact hne rfl⟩
    · rintro (⟨s', h, h2⟩ | ⟨h, _⟩)
      · cases h; exact absurd rfl hne
      · exact h
theorem aexec_mono {E : Env} {O O' : Oracle} (h : OLe O O') {n m : Nat} (hm : n ≤ m) {c : ACode} : ∀ {st : St} {r : AEx × St}, aexec E O n c st = some r → aexec E O' m c st = some r := by
  induction c with
  | skip => intro st r hr; exact hr
  | reg ops => intro st r hr; simp only [aexec, Option.map_eq_some_iff] at hr ⊢; obtain ⟨x, hx, e⟩ := hr; exact ⟨x, opsA_mono h hx, e⟩
  | dreg ops => intro st r hr; simp only [aexec, Option.map_eq_some_iff] at hr ⊢; obtain ⟨x, hx, e⟩ := hr; exact ⟨x, dregA_mono h hx, e⟩
  | keep l c ih => intro st r hr; simp only [aexec] at hr ⊢; exact ih hr
  | seq a b iha ihb =>
    intro st r hr
    simp only [aexec] at hr ⊢
    rw [seqR_some] at hr ⊢
    rcases hr with ⟨s, h1, h2⟩ | ⟨h1, h2⟩
    · exact .inl ⟨s, iha h1, ihb h2⟩
    · exact .inr ⟨iha h1, h2⟩
  | cond c a b iha ihb =>
    intro st r hr
    simp only [aexec, condR] at hr ⊢
    split at hr
    · exact iha hr
    · exact ihb hr
    · cases hr
  | block id b ih =>
    intro st r hr
    simp only [aexec] at hr ⊢
    cases hs : aexec E O n b st with
    | none => rw [hs] at hr; cases hr
    | some p => rw [hs] at hr; rw [ih hs]; exact hr
  | loop b ih => intro st r hr; simp only [aexec] at hr ⊢; exact loopN_mono (fun st r => ih) hm hr
  | exit id => intro st r hr; exact hr
  | ret => intro st r hr; exact hr
  | bad => intro st r hr; cases hr
theorem afun_mono {E : Env} {O O' : Oracle} (h : OLe O O') {n m : Nat} (hm : n ≤ m) {F : AFun} {args : List AV} {H : AH} {r : AV × AH} (hr : afun E O n F args H = some r) : afun E O' m F args H = some r := by
  unfold afun at hr ⊢
  split at hr
  · rename_i hl
    rw [if_pos hl]
    cases hs : aexec E O n F.body (frOf args, H) with
    | none => rw [hs] at hr; cases hr
    | some p => rw [hs] at hr; rw [aexec_mono h hm hs]; exact hr
  · cases hr
theorem callN_mono (T : Tab) : ∀ n, OLe (callN T n) (callN T (n + 1)) := by
  intro n
  induction n with
  | zero => intro f vs H r hr; cases hr
  | succ n ih =>
    intro f vs H r hr
    unfold callN at hr ⊢
    cases hd : T.fn f with
    | none => rw [hd] at hr; exact hr
    | some d =>
      rw [hd] at hr
      cases d with
      | prim p => exact hr
      | code F => exact afun_mono ih (Nat.le_succ n) hr
theorem callN_le (T : Tab) {n m : Nat} (hm : n ≤ m) : OLe (callN T n) (callN T m) := by
  intro f vs H r hr
  exact Mono.le (g := fun n => callN T n f vs H) (fun n r h => callN_mono T n f vs H r h) hr hm
theorem Call_iff {T : Tab} {f : Nat} {vs : List AV} {H : AH} {r : AV × AH} : Call T f vs H = some r ↔ ∃ n, callN T n f vs H = some r :=
  Mono.lim (fun n r h => callN_mono T n f vs H r h)
theorem callN_Call (T : Tab) (n : Nat) : OLe (callN T n) (Call T) := fun _ _ _ _ h => Call_iff.2 ⟨n, h⟩

/-! ### what the limits answer, some finite run answers -/
theorem act_fin {T : Tab} {fr : Fr} {H : AH} {op : AOp} {r : Option AV × AH} (hr : actA (Call T) fr H op = some r) : ∃ n, actA (callN T n) fr H op = some r := by
  cases op with
  | callF f args =>
    simp only [actA, Option.bind_eq_some_iff, Option.map_eq_some_iff] at hr ⊢
    obtain ⟨vs, hv, x, hx, e⟩ := hr
    obtain ⟨n, hn⟩ := Call_iff.1 hx
    exact ⟨n, vs, hv, x, hn, e⟩
  | callV x args =>
    simp only [actA] at hr ⊢
    split at hr
    · rename_i f caps hx
      simp only [Option.bind_eq_some_iff, Option.map_eq_some_iff] at hr ⊢
      obtain ⟨vs, hv, y, hy, e⟩ := hr
      obtain ⟨n, hn⟩ := Call_iff.1 hy
      exact ⟨n, vs, hv, y, hn, e⟩
    · cases hr
  | _ => exact ⟨0, by simpa only [actA] using hr⟩
theorem op_fin {T : Tab} {E : Env} {fr : Fr} {H : AH} {op : AOp} {r : Option AV × AH} (hr : opA E (Call T) fr H op = some r) : ∃ n, opA E (callN T n) fr H op = some r := by
  unfold opA at hr ⊢
  split at hr
  · rename_i hp; exact ⟨0, by rw [if_pos hp]; exact hr⟩
  · rename_i hp
    split at hr
    · rename_i hq; exact ⟨0, by rw [if_neg hp, if_pos hq]; exact hr⟩
    · rename_i hq
      split at hr
      · rename_i hm; exact ⟨0, by rw [if_neg hp, if_neg hq, if_pos hm]; exact hr⟩
      · rename_i hm
        obtain ⟨n, hn⟩ := act_fin hr
        exact ⟨n, by rw [if_neg hp, if_neg hq, if_neg hm]; exact hn⟩
theorem step_fin {T : Tab} {E : Env} {o : AOper} {st r : St} (hr : stepA E (Call T) o st = some r) : ∃ n, stepA E (callN T n) o st = some r := by
  unfold stepA at hr ⊢
  split at hr
  · cases hr
  · exact ⟨0, hr⟩
  · simp only [Option.map_eq_some_iff] at hr
    obtain ⟨x, hx, e⟩ := hr
    obtain ⟨n, hn⟩ := op_fin hx
    exact ⟨n, by simp only [Option.map_eq_some_iff]; exact ⟨x, hn, e⟩⟩
theorem ops_fin {T : Tab} {E : Env} {l : List AOper} : ∀ {st r : St}, opsA E (Call T) l st = some r → ∃ n, opsA E (callN T n) l st = some r := by
  induction l with
  | nil => intro st r hr; exact ⟨0, hr⟩
  | cons o l ih =>
    intro st r hr
    simp only [opsA, Option.bind_eq_some_iff] at hr ⊢
    obtain ⟨x, hx, hr⟩ := hr
    obtain ⟨n, hn⟩ := step_fin hx
    obtain ⟨n', hn'⟩ := ih hr
    exact ⟨max n n', x, stepA_mono (callN_le T (Nat.le_max_left _ _)) hn, opsA_mono (callN_le T (Nat.le_max_right _ _)) hn'⟩
theorem dreg_fin {T : Tab} {E : Env} {all l : List DOp} : ∀ {st r : St}, dregA E (Call T) all l st = some r → ∃ n, dregA E (callN T n) all l st = some r := by
  induction l with
  | nil => intro st r hr; exact ⟨0, hr⟩
  | cons o l ih =>
    intro st r hr
    simp only [dregA, Option.bind_eq_some_iff] at hr ⊢
    obtain ⟨x, hx, hr⟩ := hr
    obtain ⟨n, hn⟩ := step_fin hx
    split at hr
    · rename_i hc
      obtain ⟨n', hn'⟩ := ih hr
      exact ⟨max n n', x, stepA_mono (callN_le T (Nat.le_max_left _ _)) hn, by rw [if_pos hc]; exact dregA_mono (callN_le T (Nat.le_max_right _ _)) hn'⟩
    · cases hr
theorem loopN_Mono (s : St → Res) (st : St) : Mono fun n => loopN s n st := fun n _ h => loopN_mono (fun _ _ h => h) (Nat.le_succ n) h
theorem exec_fin {T : Tab} {E : Env} {c : ACode} : ∀ {st : St} {r : AEx × St}, execL E (Call T) c st = some r → ∃ n, aexec E (callN T n) n c st = some r := by
  induction c with
  | skip => intro st r hr; exact ⟨0, hr⟩
  | reg ops =>
    intro st r hr
    simp only [execL, aexec, Option.map_eq_some_iff] at hr ⊢
    obtain ⟨x, hx, e⟩ := hr
    obtain ⟨n, hn⟩ := ops_fin hx
    exact ⟨n, x, hn, e⟩
  | dreg ops =>
    intro st r hr
    simp only [execL, aexec, Option.map_eq_some_iff] at hr ⊢
    obtain ⟨x, hx, e⟩ := hr
    obtain ⟨n, hn⟩ := dreg_fin hx
    exact ⟨n, x, hn, e⟩
  | keep l c ih => intro st r hr; simp only [execL, aexec] at hr ⊢; exact ih hr
  | seq a b iha ihb =>
    intro st r hr
    simp only [execL, aexec] at hr ⊢
    rw [seqR_some] at hr
    rcases hr with ⟨s, h1, h2⟩ | ⟨h1, h2⟩
    · obtain ⟨n, hn⟩ := iha h1
      obtain ⟨n', hn'⟩ := ihb h2
      exact ⟨max n n', seqR_some.2 (.inl ⟨s, aexec_mono (callN_le T (Nat.le_max_left _ _)) (Nat.le_max_left _ _) hn, aexec_mono (callN_le T (Nat.le_max_right _ _)) (Nat.le_max_right _ _) hn'⟩)⟩
    · obtain ⟨n, hn⟩ := iha h1
      exact ⟨n, seqR_some.2 (.inr ⟨hn, h2⟩)⟩
  | cond c a b iha ihb =>
    intro st r hr
    simp only [execL, aexec, condR] at hr ⊢
    split at hr
    · exact iha hr
    · exact ihb hr
    · cases hr
  | block id b ih =>
    intro st r hr
    simp only [execL, aexec] at hr ⊢
    cases hs : execL E (Call T) b st with
    | none => rw [hs] at hr; cases hr
    | some p =>
      rw [hs] at hr
      obtain ⟨n, hn⟩ := ih hs
      exact ⟨n, by rw [hn]; exact hr⟩
  | loop b ih =>
    intro st r hr
    simp only [execL, aexec] at hr ⊢
    obtain ⟨k, hk⟩ := (loopN_Mono _ _).lim.1 hr
    clear hr
    have key : ∀ k st, loopN (execL E (Call T) b) k st = some r → ∃ n, loopN (aexec E (callN T n) n b) n st = some r := by
      intro k
      induction k with
      | zero => intro st h; cases h
      | succ k ihk =>
        intro st h
        simp only [loopN] at h
        cases hs : execL E (Call T) b st with
        | none => rw [hs] at h; cases h
        | some p =>
          rw [hs] at h
          obtain ⟨n, hn⟩ := ih hs
          obtain ⟨e, s1⟩ := p
          cases e with
          | norm =>
            obtain ⟨n', hn'⟩ := ihk s1 h
            refine ⟨max n n' + 1, ?_⟩
            simp only [loopN]
            rw [aexec_mono (callN_le T (by omega : n ≤ max n n' + 1)) (by omega : n ≤ max n n' + 1) hn]
            exact loopN_mono (fun st r hr => aexec_mono (callN_le T (by omega : n' ≤ max n n' + 1)) (by omega : n' ≤ max n n' + 1) hr) (by omega) hn'
          | exit i =>
            refine ⟨n + 1, ?_⟩
            simp only [loopN]
            rw [aexec_mono (callN_le T (Nat.le_succ n)) (Nat.le_succ n) hn]
            exact h
          | ret =>
            refine ⟨n + 1, ?_⟩
            simp only [loopN]
            rw [aexec_mono (callN_le T (Nat.le_succ n)) (Nat.le_succ n) hn]
            exact h
    exact key k st hk
  | bad => intro st r hr; cases hr
  | exit id => intro st r hr; exact ⟨0, hr⟩
  | ret => intro st r hr; exact ⟨0, hr⟩
theorem exec_up {T : Tab} {E : Env} {n : Nat} {c : ACode} : ∀ {st : St} {r : AEx × St}, aexec E (callN T n) n c st = some r → execL E (Call T) c st = some r := by
  induction c with
  | skip => intro st r hr; exact hr
  | reg ops => intro st r hr; simp only [execL, aexec, Option.map_eq_some_iff] at hr ⊢; obtain ⟨x, hx, e⟩ := hr; exact ⟨x, opsA_mono (callN_Call T n) hx, e⟩
  | dreg ops => intro st r hr; simp only [execL, aexec, Option.map_eq_some_iff] at hr ⊢; obtain ⟨x, hx, e⟩ := hr; exact ⟨x, dregA_mono (callN_Call T n) hx, e⟩
  | keep l c ih => intro st r hr; simp only [execL, aexec] at hr ⊢; exact ih hr
  | seq a b iha ihb =>
    intro st r hr
    simp only [execL, aexec] at hr ⊢
    rw [seqR_some] at hr ⊢
    rcases hr with ⟨s, h1, h2⟩ | ⟨h1, h2⟩
    · exact .inl ⟨s, iha h1, ihb h2⟩
    · exact .inr ⟨iha h1, h2⟩
  | cond c a b iha ihb =>
    intro st r hr
    simp only [execL, aexec, condR] at hr ⊢
    split at hr
    · exact iha hr
    · exact ihb hr
    · cases hr
  | block id b ih =>
    intro st r hr
    simp only [execL, aexec] at hr ⊢
    cases hs : aexec E (callN T n) n b st with
    | none => rw [hs] at hr; cases hr
    | some p => rw [hs] at hr; rw [ih hs]; exact hr
  | loop b ih =>
    intro st r hr
    simp only [execL, aexec] at hr ⊢
    exact (loopN_Mono _ _).lim.2 ⟨n, loopN_mono (fun st r => ih) (Nat.le_refl n) hr⟩
  | exit id => intro st r hr; exact hr
  | ret => intro st r hr; exact hr
  | bad => intro st r hr; cases hr

/-- What a call comes to: its text's run, calls within by the same. -/
theorem Call_code {T : Tab} {f : Nat} {F : AFun} (hf : T.fn f = some (.code F)) (args : List AV) (H : AH) : Call T f args H = afunL T F args H := by
  apply Option.ext
  intro r
  rw [show (Call T f args H = some r) = (∃ n, callN T n f args H = some r) from propext Call_iff]
  constructor
  · rintro ⟨n, hn⟩
    cases n with
    | zero => cases hn
    | succ n =>
      unfold callN at hn
      rw [hf] at hn
      unfold afunL
      simp only [afun] at hn
      split at hn
      · rename_i hl
        rw [if_pos hl]
        cases hs : aexec T.E (callN T n) n F.body (frOf args, H) with
        | none => rw [hs] at hn; cases hn
        | some p => rw [hs] at hn; rw [exec_up hs]; exact hn
      · cases hn
  · intro h
    unfold afunL at h
    split at h
    · rename_i hl
      cases hs : execL T.E (Call T) F.body (frOf args, H) with
      | none => rw [hs] at h; cases h
      | some p =>
        rw [hs] at h
        obtain ⟨n, hn⟩ := exec_fin hs
        refine ⟨n + 1, ?_⟩
        unfold callN
        rw [hf]
        simp only [afun]
        rw [if_pos hl, hn]
        exact h
    · cases h
theorem Call_prim {T : Tab} {f : Nat} {p : List AV → AH → Option (AV × AH)} (hf : T.fn f = some (.prim p)) (args : List AV) (H : AH) : Call T f args H = p args H := by
  apply Option.ext
  intro r
  rw [show (Call T f args H = some r) = (∃ n, callN T n f args H = some r) from propext Call_iff]
  constructor
  · rintro ⟨n, hn⟩
    cases n with
    | zero => cases hn
    | succ n => unfold callN at hn; rw [hf] at hn; exact hn
  · intro h
    exact ⟨1, by unfold callN; rw [hf]; exact h⟩
/-- A loop's round. -/
theorem loopL_eq (step : St → Res) (s : St) : loopL step s = seqR (step s) (loopL step) := by
  apply Option.ext
  intro r
  rw [show (loopL step s = some r) = (∃ n, loopN step n s = some r) from propext (loopN_Mono step s).lim]
  constructor
  · rintro ⟨n, hn⟩
    cases n with
    | zero => cases hn
    | succ n =>
      simp only [loopN] at hn
      unfold seqR
      split at hn
      · cases hn
      · rename_i s' hs; exact (loopN_Mono step s').lim.2 ⟨n, hn⟩
      · exact hn
  · intro h
    rw [seqR_some] at h
    rcases h with ⟨s', h1, h2⟩ | ⟨h1, h2⟩
    · obtain ⟨n, hn⟩ := (loopN_Mono step s').lim.1 h2
      exact ⟨n + 1, by simp only [loopN]; rw [h1]; exact hn⟩
    · refine ⟨1, ?_⟩
      simp only [loopN]
      rw [h1]
      obtain ⟨e, s'⟩ := r
      cases e <;> first | rfl | exact absurd rfl (h2 s')
end Go.Proofs.YtlecbjcloleiiaaDoor.Ram

/-
  Parts of the proof: RamA, ValA, ValB, ValC, ValD, ValE, ValF, ValG, ValH, ValI.
-/
import Derived.WalkKit
/-! An abstract machine ('ram') for the translated Go text: one order, no capacities, no draws. Its values, heap, operations, runs; runs without a bound as limits. -/
namespace Go.Proofs.YtbpgbhmibmcbnaaGreatDoor.Ram
open Go

inductive AV where
  | int (k : IntKind) (n : Int)
  | bool (b : Bool)
  | str (s : List UInt8)
  | ptr (a : Option (Nat × Nat))
  | sl (a : Option (Nat × Nat)) (sz len : Nat) (cap : Option Nat)
  | map (r : Option Nat)
  | fn (f : Nat) (caps : List AV)
  | nilFn
  | nilI
  | und
  | ifc (t : Nat) (v : AV)
  | agg (l : List AV)
  | tup (l : List AV)
  /-- A pointer that is only handed on. -/
  | raw (b o : Nat)
  deriving Inhabited

inductive AObj where
  | cells (l : List AV) (ro : Bool)
  | map (l : List (List UInt8 × AV)) (ro : Bool)
  deriving Inhabited

structure AH where
  next : Nat
  get : Nat → Option AObj
  /-- Read-only rows that may be appended to where they end. -/
  tip : Nat → Bool := fun _ => false

def AH.set (H : AH) (i : Nat) (o : AObj) : AH := { H with get := fun j => if j = i then some o else H.get j }
def AH.kill (H : AH) (i : Nat) : AH := { H with get := fun j => if j = i then none else H.get j, tip := fun j => if j = i then false else H.tip j }
def AH.push (H : AH) (o : AObj) : AH := { H with next := H.next + 1, get := fun j => if j = H.next then some o else H.get j }
def AH.tipOn (H : AH) (i : Nat) : AH := { H with tip := fun j => if j = i then true else H.tip j }
def AH.grow (H : AH) (l : List AV) : AH := (H.push (.cells l true)).tipOn H.next
def AH.stop (H : AH) (i : Nat) : AH := { H with tip := fun j => if j = i then false else H.tip j }

abbrev Fr := List (Nat × AV)
def Fr.get : Fr → Nat → Option AV
  | [], _ => none
  | (k, v) :: r, n => if k = n then some v else Fr.get r n
def Fr.set (f : Fr) (n : Nat) (v : AV) : Fr := (n, v) :: f
def Fr.del (f : Fr) (n : Nat) : Fr := f.filter (fun p => p.1 != n)
def Fr.keep (f : Fr) (l : List Nat) : Fr := l.filterMap fun n => (Fr.get f n).map (n, ·)

inductive Opd where
  | t (n : Nat)
  | c (v : AV)
  | g (n : Nat)
  | f (n : Nat)
def Opd.ev (fr : Fr) : Opd → Option AV
  | .t n => Fr.get fr n
  | .c v => some v
  | .g n => some (.ptr (some (n, 0)))
  | .f n => some (.fn n [])
def evs (fr : Fr) : List Opd → Option (List AV)
  | [] => some []
  | x :: l => (x.ev fr).bind fun v => (evs fr l).map (v :: ·)

inductive EqK where
  | bool | ptr | ifc | flat (ks : List Nat) | nilS | nilM | nilF
inductive AOp where
  | mov (x : Opd)
  | pick (c a b : Opd)
  | alloc (zero : List AV)
  | box (x : Opd)
  | build (zero : List AV) (parts : List (Nat × Nat × Opd))
  | bslice (hp : Bool) (sz len : Nat) (zero : List AV) (parts : List (Nat × Nat × Opd))
  | load (n : Nat) (ag : Bool) (x : Opd)
  | store (n : Nat) (a v : Opd)
  | nilchk (x : Opd)
  | bin (op : BinOp) (x y : Opd)
  | eq (neg : Bool) (k : EqK) (x y : Opd)
  | not (x : Opd)
  | neg (x : Opd)
  | conv (k : IntKind) (x : Opd)
  | convS (x : Opd)
  | mkIfc (t : Nat) (x : Opd)
  | mkFn (f : Nat) (caps : List Opd)
  | mkMap
  | mkSlice (hp : Bool) (sz bytes : Nat) (zero : List AV) (len cap : Opd)
  | slc (sz : Nat) (x : Opd) (lo hi : Option Opd)
  | slc3 (sz : Nat) (x hi mx : Opd)
  | fieldA (off : Nat) (x : Opd)
  | field (off n : Nat) (ag : Bool) (x : Opd)
  | indexA (sz : Nat) (x i : Opd)
  | index (x i : Opd)
  | lookup (dflt : AV) (ok : Bool) (m k : Opd)
  | mset (m k v : Opd)
  | mdel (m k : Opd)
  | extract (x : Opd) (i : Nat)
  | callF (f : Nat) (args : List Opd)
  | callV (x : Opd) (args : List Opd)
  | len (st : Bool) (x : Opd)
  | append (fz : Bool) (sz bytes : Nat) (s x : Opd)
  | copy (sz : Nat) (d s : Opd)
  | clear (sz : Nat) (zero : List AV) (x : Opd)
  | minmax (mx : Bool) (x y : Opd)

structure AOper where
  dst : Option Nat
  op : AOp
  guard : Option (Nat × Bool) := none

abbrev AOper.o (d : Nat) (op : AOp) : AOper := ⟨some d, op, none⟩
abbrev AOper.n (op : AOp) : AOper := ⟨none, op, none⟩
abbrev AOper.g (d : Option Nat) (t : Nat) (want : Bool) (op : AOp) : AOper := ⟨d, op, some (t, want)⟩

abbrev Oracle := Nat → List AV → AH → Option (AV × AH)

def cellsOf : AV → List AV
  | .agg l => l
  | v => [v]
def oneCell : AV → Bool
  | .und => false
  | .agg _ => false
  | .tup _ => false
  | _ => true
def fillA (l : List AV) : List (Nat × Nat × AV) → Option (List AV)
  | [] => some l
  | (off, n, v) :: rest => if (cellsOf v).length = n ∧ off + n ≤ l.length ∧ (cellsOf v).all oneCell = true then fillA (l.take off ++ cellsOf v ++ l.drop (off + n)) rest else none
def evParts (fr : Fr) : List (Nat × Nat × Opd) → Option (List (Nat × Nat × AV))
  | [] => some []
  | (a, b, x) :: l => (x.ev fr).bind fun v => (evParts fr l).map ((a, b, v) :: ·)

def bytesLt : List UInt8 → List UInt8 → Bool := Op.bytesLess

def binA (op : BinOp) (x y : AV) : Option AV :=
  match x, y with
  | .int k a, .int k' b =>
    match op with
    | .shl => if 0 ≤ b then some (.int k (k.wrap (a * 2 ^ (min b.toNat k.bits)))) else none
    | .shr => if 0 ≤ b then some (.int k (a.fdiv (2 ^ (min b.toNat k.bits)))) else none
    | _ => if k = k' then
      match op with
      | .add => some (.int k (k.wrap (a + b)))
      | .sub => some (.int k (k.wrap (a - b)))
      | .mul => some (.int k (k.wrap (a * b)))
      | .quo => if b = 0 then none else some (.int k (k.wrap (a.tdiv b)))
      | .rem => if b = 0 then none else some (.int k (a.tmod b))
      | .and => some (.int k (k.wrap (BitVec.ofInt k.bits a &&& BitVec.ofInt k.bits b).toNat))
      | .or => some (.int k (k.wrap (BitVec.ofInt k.bits a ||| BitVec.ofInt k.bits b).toNat))
      | .xor => some (.int k (k.wrap (BitVec.ofInt k.bits a ^^^ BitVec.ofInt k.bits b).toNat))
      | .eql => some (.bool (a == b))
      | .neq => some (.bool (a != b))
      | .lss => some (.bool (decide (a < b)))
      | .leq => some (.bool (decide (a ≤ b)))
      | .gtr => some (.bool (decide (a > b)))
      | .geq => some (.bool (decide (a ≥ b)))
      | _ => none
      else none
  | .str a, .str b =>
    match op with
    | .add => if ((a.length + b.length : Nat) : Int) ≤ IntKind.i64.max then some (.str (a ++ b)) else none
    | .eql => some (.bool (a == b))
    | .neq => some (.bool (!(a == b)))
    | .lss => some (.bool (bytesLt a b))
    | .leq => some (.bool (bytesLt a b || a == b))
    | .gtr => some (.bool (!(bytesLt a b || a == b)))
    | .geq => some (.bool (!bytesLt a b))
    | _ => none
  | _, _ => none

def flatEq1 : Nat → AV → AV → Option Bool
  | 0, .int k a, .int k' b => if k = k' then some (a == b) else none
  | 1, .str a, .str b => some (a == b)
  | 2, .bool a, .bool b => some (a == b)
  | _, _, _ => none
def flatEq : List Nat → List AV → List AV → Option Bool
  | [], [], [] => some true
  | k :: ks, x :: l, y :: l' => (flatEq1 k x y).bind fun b => (flatEq ks l l').map (b && ·)
  | _, _, _ => none
def AH.there (H : AH) (i : Nat) : Bool := match H.get i with | some (.cells _ _) => true | _ => false
def shar (_i : Nat) (ro : Bool) : Bool := ro
def AH.live (H : AH) (i : Nat) : Bool := match H.get i with | some (.cells _ ro) => !ro | _ => false
structure Env where
  ptrTypes : List Nat
  /-- Blocks that are never written, whose pointers may be compared. -/
  sent : List Nat
def ptrEq (E : Env) (H : AH) : Option (Nat × Nat) → Option (Nat × Nat) → Option Bool
  | none, none => some true
  | some (i, a), some (j, b) => if H.live i && H.live j then some (i == j && a == b)
    else if E.sent.contains i && E.sent.contains j && (H.there i && H.there j) && (a == 0 && b == 0) then some (i == j) else none
  | _, _ => some false
def eqA (E : Env) (H : AH) (cst : Bool) (k : EqK) (x y : AV) : Option Bool :=
  match k, x, y with
  | .bool, .bool a, .bool b => some (a == b)
  | .ptr, .ptr a, .ptr b => ptrEq E H a b
  | .ifc, .nilI, .nilI => if cst then some true else none
  | .ifc, .nilI, .ifc _ _ => some false
  | .ifc, .ifc _ _, .nilI => some false
  | .ifc, .ifc t (.ptr a), .ifc t' (.ptr b) => if t = t' then (if E.ptrTypes.contains t then ptrEq E H a b else none) else some false
  | .flat ks, .agg l, .agg l' => flatEq ks l l'
  | .nilS, .sl none _ _ _, .sl a _ _ _ => some a.isNone
  | .nilS, .sl a _ _ _, .sl none _ _ _ => some a.isNone
  | .nilM, .map none, .map a => some a.isNone
  | .nilM, .map a, .map none => some a.isNone
  | .nilF, .nilFn, .nilFn => some true
  | .nilF, .nilFn, .fn _ _ => some false
  | .nilF, .fn _ _, .nilFn => some false
  | _, _, _ => none
def Opd.isC : Opd → Bool
  | .c _ => true
  | _ => false

def loadA (H : AH) (n : Nat) (ag : Bool) (x : AV) : Option AV :=
  match x with
  | .ptr (some (i, off)) =>
    match H.get i with
    | some (.cells l _) => if ag then (if off + n ≤ l.length then some (.agg ((l.drop off).take n)) else none) else l[off]?
    | _ => none
  | _ => none
def putCells (l : List AV) (off : Nat) (news : List AV) : List AV := l.take off ++ news ++ l.drop (off + news.length)
def storeA (H : AH) (n : Nat) (a v : AV) : Option AH :=
  match a with
  | .ptr (some (i, off)) =>
    match H.get i with
    | some (.cells l ro) => if ro = false ∧ (cellsOf v).length = n ∧ off + n ≤ l.length ∧ (cellsOf v).all oneCell = true then some (H.set i (.cells (putCells l off (cellsOf v)) ro)) else none
    | _ => none
  | _ => none
def sliceCells (H : AH) (sz k : Nat) (x : AV) : Option (List AV) :=
  match x with
  | .sl none _ _ _ => if k = 0 then some [] else none
  | .sl (some (i, off)) sz' len _ =>
    match H.get i with
    | some (.cells l _) => if sz' = sz ∧ k ≤ len ∧ off + k * sz ≤ l.length then some ((l.drop off).take (k * sz)) else none
    | _ => none
  | .str s => if sz = 1 ∧ k ≤ s.length then some ((s.take k).map fun b => .int .u8 b.toNat) else none
  | _ => none
def lenA : AV → Option Nat
  | .sl _ _ n _ => some n
  | .str s => some s.length
  | _ => none
def nilSl (sz : Nat) : AV := .sl none sz 0 (some 0)
def appendA (H : AH) (sz bytes : Nat) (s x : AV) : Option (AV × AH) :=
  (lenA x).bind fun n =>
  (sliceCells H sz n x).bind fun news =>
  match s with
  | .sl none _ _ _ =>
    if n = 0 then some (s, H)
    else if n * bytes ≤ 140737488355328 ∧ 0 < bytes ∧ 0 < sz then some (.sl (some (H.next, 0)) sz n none, H.push (.cells news false)) else none
  | .sl (some (i, off)) sz' len cap =>
    if sz' = sz ∧ 0 < sz ∧ 0 < bytes ∧ (len + n) * bytes ≤ 140737488355328 then
      match H.get i with
      | some (.cells l ro) =>
        match cap with
        | some c =>
          if len + n ≤ c then
            if n = 0 then some (s, H)
            else if ro = false ∧ off + (len + n) * sz ≤ l.length then some (.sl (some (i, off)) sz (len + n) (some c), H.set i (.cells (putCells l (off + len * sz) news) ro)) else none
          else if off + len * sz ≤ l.length then some (.sl (some (H.next, 0)) sz (len + n) none, H.push (.cells ((l.drop off).take (len * sz) ++ news) false))
          else none
        | none =>
          if ro = false ∧ off + len * sz = l.length ∧ off = 0 then some (.sl (some (H.next, 0)) sz (len + n) none, (H.push (.cells (l.drop off ++ news) false)).kill i)
          else none
      | _ => none
    else none
  | _ => none
def appendF (H : AH) (sz bytes : Nat) (s x : AV) : Option (AV × AH) :=
  (lenA x).bind fun n =>
  (sliceCells H sz n x).bind fun news =>
  match s with
  | .sl none _ _ _ =>
    if n = 0 then some (s, H)
    else if n * bytes ≤ 140737488355328 ∧ 0 < bytes ∧ 0 < sz ∧ 100 ≤ H.next then some (.sl (some (H.next, 0)) sz n none, H.grow news) else none
  | .sl (some (i, off)) sz' len cap =>
    if sz' = sz ∧ 0 < sz ∧ 0 < bytes ∧ (len + n) * bytes ≤ 140737488355328 then
      match H.get i with
      | some (.cells l ro) =>
        match cap with
        | some c =>
          if len + n ≤ c then
            if n = 0 then some (s, H)
            else if ro = false ∧ off + (len + n) * sz ≤ l.length then some (.sl (some (i, off)) sz (len + n) (some c), H.set i (.cells (putCells l (off + len * sz) news) ro)) else none
          else if off + len * sz ≤ l.length ∧ 100 ≤ H.next then some (.sl (some (H.next, 0)) sz (len + n) none, H.grow ((l.drop off).take (len * sz) ++ news))
          else none
        | none =>
          if H.tip i = true ∧ ro = true ∧ off + len * sz = l.length ∧ 100 ≤ H.next then some (.sl (some (H.next, 0)) sz (len + n) none, (H.grow (l.drop off ++ news)).stop i)
          else none
      | _ => none
    else none
  | _ => none
def appendX (H : AH) (fz : Bool) (sz bytes : Nat) (s x : AV) : Option (AV × AH) := if fz then appendF H sz bytes s x else appendA H sz bytes s x
def copyA (H : AH) (sz : Nat) (d s : AV) : Option (AV × AH) :=
  match d with
  | .sl none _ _ _ => (lenA s).bind fun _ => some (.int .i64 0, H)
  | .sl (some (i, off)) sz' len _ =>
    (lenA s).bind fun n =>
    (sliceCells H sz (min n len) s).bind fun news =>
    match H.get i with
    | some (.cells l ro) => if ro = false ∧ sz' = sz ∧ off + (min n len) * sz ≤ l.length then some (.int .i64 (min n len : Nat), H.set i (.cells (putCells l off news) ro)) else none
    | _ => none
  | _ => none
def clearA (H : AH) (sz : Nat) (zero : List AV) (x : AV) : Option (AV × AH) :=
  match x with
  | .sl none _ _ _ => some (.tup [], H)
  | .sl (some (i, off)) sz' len _ =>
    match H.get i with
    | some (.cells l ro) => if ro = false ∧ sz' = sz ∧ off + len * sz ≤ l.length then some (.tup [], H.set i (.cells (putCells l off (List.replicate len zero).flatten) ro)) else none
    | _ => none
  | _ => none
def natOf (v : AV) : Option Nat := match v with | .int _ n => if 0 ≤ n then some n.toNat else none | _ => none
def bndA (d : Nat) : Option AV → Option Nat
  | none => some d
  | some v => natOf v
def slcA (sz : Nat) (x : AV) (lo hi : Option AV) : Option AV :=
  match x with
  | .str s => (bndA 0 lo).bind fun l => (bndA s.length hi).bind fun h => if sz = 0 ∧ l ≤ h ∧ h ≤ s.length then some (.str ((s.take h).drop l)) else none
  | .sl none _ _ _ => (bndA 0 lo).bind fun l => (bndA 0 hi).bind fun h => if 0 < sz ∧ l = 0 ∧ h = 0 then some (nilSl sz) else none
  | .sl (some (i, off)) sz' len cap => (bndA 0 lo).bind fun l => (bndA len hi).bind fun h =>
    if 0 < sz ∧ sz' = sz ∧ l ≤ h ∧ h ≤ len then some (.sl (some (i, off + l * sz)) sz (h - l) (cap.map (· - l))) else none
  | _ => none
def indexAA (sz : Nat) (x i : AV) : Option AV :=
  match x, i with
  | .sl (some (id, off)) sz' len _, .int _ n => if sz' = sz ∧ 0 ≤ n ∧ n < (len : Int) then some (.ptr (some (id, off + n.toNat * sz))) else none
  | _, _ => none
def mapGet (l : List (List UInt8 × AV)) (k : List UInt8) : Option AV := (l.find? fun p => p.1 == k).map (·.2)
def mapSet : List (List UInt8 × AV) → List UInt8 → AV → List (List UInt8 × AV)
  | [], k, v => [(k, v)]
  | (k', v') :: l, k, v => if k' == k then (k, v) :: l else (k', v') :: mapSet l k v

def mapDel : List (List UInt8 × AV) → List UInt8 → List (List UInt8 × AV)
  | [], _ => []
  | (k', v') :: l, k => if k' == k then l else (k', v') :: mapDel l k

def pureA (fr : Fr) : AOp → Option AV
  | .mov x => x.ev fr
  | .pick c a b => match c.ev fr with | some (.bool true) => a.ev fr | some (.bool false) => b.ev fr | _ => none
  | .build zero parts => (evParts fr parts).bind fun ps => (fillA zero ps).map .agg
  | .nilchk x => match x.ev fr with | some (.ptr (some a)) => some (.ptr (some a)) | _ => none
  | .bin op x y => (x.ev fr).bind fun a => (y.ev fr).bind fun b => binA op a b
  | .not x => match x.ev fr with | some (.bool b) => some (.bool (!b)) | _ => none
  | .neg x => match x.ev fr with | some (.int k n) => some (.int k (k.wrap (-n))) | _ => none
  | .conv k x => match x.ev fr with | some (.int _ n) => some (.int k (k.wrap n)) | _ => none
  | .convS x => match x.ev fr with | some (.str s) => some (.str s) | _ => none
  | .mkIfc t x => (x.ev fr).map (.ifc t)
  | .mkFn f caps => (evs fr caps).map (.fn f)
  | .slc sz x lo hi => (x.ev fr).bind fun v =>
      match lo, hi with
      | none, none => slcA sz v none none
      | some a, none => (a.ev fr).bind fun l => slcA sz v (some l) none
      | none, some b => (b.ev fr).bind fun h => slcA sz v none (some h)
      | some a, some b => (a.ev fr).bind fun l => (b.ev fr).bind fun h => slcA sz v (some l) (some h)
  | .fieldA off x => match x.ev fr with | some (.ptr (some (i, o))) => some (.ptr (some (i, o + off))) | _ => none
  | .field off n ag x => match x.ev fr with
      | some (.agg l) => if ag then (if off + n ≤ l.length then some (.agg ((l.drop off).take n)) else none) else l[off]?
      | _ => none
  | .indexA sz x i => (x.ev fr).bind fun a => (i.ev fr).bind fun b => indexAA sz a b
  | .index x i => match x.ev fr, i.ev fr with
      | some (.str s), some (.int _ n) => if 0 ≤ n then (s[n.toNat]?).map fun b => .int .u8 b.toNat else none
      | _, _ => none
  | .extract x i => match x.ev fr with | some (.tup l) => l[i]? | _ => none
  | .len st x => match x.ev fr with
      | some (.sl _ _ n _) => if st = false then some (.int .i64 n) else none
      | some (.str s) => if st = true then some (.int .i64 s.length) else none
      | _ => none
  | .minmax mx x y => match x.ev fr, y.ev fr with
      | some (.int k a), some (.int k' b) => if k = k' then some (.int k (if mx then (if a < b then b else a) else (if b < a then b else a))) else none
      | _, _ => none
  | _ => none

def AOp.isPure : AOp → Bool
  | .mov _ | .pick .. | .build .. | .nilchk _ | .bin .. | .not _ | .neg _ | .conv .. | .convS _ | .mkIfc .. | .mkFn .. | .slc .. | .fieldA .. | .field .. | .indexA .. | .index .. | .extract .. | .len .. | .minmax .. => true
  | _ => false
def AOp.isRead : AOp → Bool
  | .load .. | .eq .. | .lookup .. => true
  | _ => false
def AOp.isMake : AOp → Bool
  | .alloc _ | .box _ | .bslice .. | .mkMap => true
  | _ => false

def readA (E : Env) (fr : Fr) (H : AH) : AOp → Option AV
  | .load n ag x => (x.ev fr).bind fun v => loadA H n ag v
  | .eq neg k x y => (x.ev fr).bind fun a => (y.ev fr).bind fun b => (eqA E H (x.isC || y.isC) k a b).map fun r => .bool (if neg then !r else r)
  | .lookup d ok m k => (m.ev fr).bind fun mv => (k.ev fr).bind fun kv =>
      match mv, kv with
      | .map none, .str _ => some (if ok then .tup [d, .bool false] else d)
      | .map (some i), .str s => match H.get i with
        | some (.map l _) => some (match mapGet l s with
          | some v => if ok then .tup [v, .bool true] else v
          | none => if ok then .tup [d, .bool false] else d)
        | _ => none
      | _, _ => none
  | _ => none

def makeA (fr : Fr) : AOp → Option ((Nat → AV) × AObj)
  | .alloc zero => some (fun i => .ptr (some (i, 0)), .cells zero false)
  | .box x => (x.ev fr).bind fun v => if (cellsOf v).all oneCell = true then some (fun i => .ptr (some (i, 0)), .cells (cellsOf v) false) else none
  | .bslice _ sz len zero parts => (evParts fr parts).bind fun ps => (fillA zero ps).map fun l => (fun i => .sl (some (i, 0)) sz len (some len), .cells l false)
  | .mkMap => some (fun i => .map (some i), .map [] false)
  | _ => none

def actA (O : Oracle) (fr : Fr) (H : AH) : AOp → Option (Option AV × AH)
  | .store n a v => (a.ev fr).bind fun p => (v.ev fr).bind fun x => (storeA H n p x).map (none, ·)
  | .mkSlice _ sz bytes zero len cap => match len.ev fr, cap.ev fr with
      | some (.int _ l), some (.int _ c) => if 0 ≤ l ∧ l ≤ c ∧ (bytes : Int) * c ≤ 281474976710656 ∧ c ≤ 9223372036854775807 then
          some (some (.sl (some (H.next, 0)) sz l.toNat (some c.toNat)), H.push (.cells (List.replicate c.toNat zero).flatten false)) else none
      | _, _ => none
  | .slc3 sz x hi mx => match x.ev fr, hi.ev fr, mx.ev fr with
      | some (.sl none _ _ _), some (.int _ h), some (.int _ m) => if h = 0 ∧ m = 0 then some (some (nilSl sz), H) else none
      | some (.sl (some (i, off)) sz' len _), some (.int _ h), some (.int _ m) => if sz' = sz ∧ 0 ≤ h ∧ h ≤ m ∧ m ≤ (len : Int) then some (some (.sl (some (i, off)) sz h.toNat (some m.toNat)), H) else none
      | _, _, _ => none
  | .mset m k v => match m.ev fr, k.ev fr, v.ev fr with
      | some (.map (some i)), some (.str s), some x => match H.get i with
        | some (.map l false) => if oneCell x then some (none, H.set i (.map (mapSet l s x) false)) else none
        | _ => none
      | _, _, _ => none
  | .mdel m k => match m.ev fr, k.ev fr with
      | some (.map (some i)), some (.str s) => match H.get i with
        | some (.map l false) => some (some (.tup []), H.set i (.map (mapDel l s) false))
        | _ => none
      | _, _ => none
  | .callF f args => (evs fr args).bind fun vs => (O f vs H).map fun r => (some r.1, r.2)
  | .callV x args => match x.ev fr with
      | some (.fn f caps) => (evs fr args).bind fun vs => (O f (vs ++ caps) H).map fun r => (some r.1, r.2)
      | _ => none
  | .append fz sz bytes s x => (s.ev fr).bind fun a => (x.ev fr).bind fun b => (appendX H fz sz bytes a b).map fun r => (some r.1, r.2)
  | .copy sz d s => (d.ev fr).bind fun a => (s.ev fr).bind fun b => (copyA H sz a b).map fun r => (some r.1, r.2)
  | .clear sz zero x => (x.ev fr).bind fun a => (clearA H sz zero a).map fun r => (some r.1, r.2)
  | _ => none

def opA (E : Env) (O : Oracle) (fr : Fr) (H : AH) (op : AOp) : Option (Option AV × AH) :=
  if op.isPure then (pureA fr op).map fun v => (some v, H)
  else if op.isRead then (readA E fr H op).map fun v => (some v, H)
  else if op.isMake then (makeA fr op).map fun r => (some (r.1 H.next), H.push r.2)
  else actA O fr H op

def putD (fr : Fr) : Option Nat → Option AV → Fr
  | none, _ => fr
  | some d, some v => Fr.set fr d v
  | some d, none => Fr.del fr d

def wantedA (fr : Fr) : Option (Nat × Bool) → Option Bool
  | none => some true
  | some (t, want) => match Fr.get fr t with | some (.bool b) => some (b == want) | some .und => some false | _ => none

def stepA (E : Env) (O : Oracle) (o : AOper) (st : Fr × AH) : Option (Fr × AH) :=
  match wantedA st.1 o.guard with
  | none => none
  | some false => some (putD st.1 o.dst (some .und), st.2)
  | some true => (opA E O st.1 st.2 o.op).map fun r => (putD st.1 o.dst r.1, r.2)

def opsA (E : Env) (O : Oracle) : List AOper → Fr × AH → Option (Fr × AH)
  | [], st => some st
  | o :: l, st => (stepA E O o st).bind (opsA E O l)

structure DOp where
  ix : Nat
  o : AOper
  pre : List Nat
  chk : List Nat
def findD (l : List DOp) (ix : Nat) : Option AOper := (l.find? fun d => d.ix == ix).map (·.o)
def sameRead (E : Env) (fr : Fr) (H H' : AH) (r : AOper) : Prop := wantedA fr r.guard = some false ∨ (wantedA fr r.guard = some true ∧ readA E fr H' r.op = readA E fr H r.op)
open Classical in
noncomputable def dregA (E : Env) (O : Oracle) (all : List DOp) : List DOp → Fr × AH → Option (Fr × AH)
  | [], st => some st
  | d :: l, st => (stepA E O d.o st).bind fun st' =>
    if (∀ j ∈ d.chk, ∀ r, findD all j = some r → sameRead E st.1 st.2 st'.2 r) then dregA E O all l st' else none

inductive AEx where
  | norm
  | exit (id : Nat)
  | ret

inductive ACode where
  | skip
  | reg (ops : List AOper)
  | dreg (ops : List DOp)
  | keep (l : List Nat) (c : ACode)
  | seq (a b : ACode)
  | cond (c : Opd) (a b : ACode)
  | block (id : Nat) (b : ACode)
  | loop (b : ACode)
  | exit (id : Nat)
  | ret
  | bad

abbrev St := Fr × AH
abbrev Res := Option (AEx × St)

def loopN (step : St → Res) : Nat → St → Res
  | 0, _ => none
  | k + 1, s => match step s with
    | none => none
    | some (.norm, s') => loopN step k s'
    | some (e, s') => some (e, s')

def seqR (r : Res) (k : St → Res) : Res := match r with
  | none => none
  | some (.norm, s) => k s
  | some (e, s) => some (e, s)
def blockR (id : Nat) (r : Res) : Res := match r with
  | none => none
  | some (.exit j, s) => if j = id then some (.norm, s) else some (.exit j, s)
  | some (e, s) => some (e, s)
def condR (c : Option AV) (a b : Res) : Res := match c with
  | some (.bool true) => a
  | some (.bool false) => b
  | _ => none

noncomputable def aexec (E : Env) (O : Oracle) (n : Nat) : ACode → St → Res
  | .skip, st => some (.norm, st)
  | .reg ops, st => (opsA E O ops st).map fun s => (.norm, s)
  | .dreg ops, st => (dregA E O ops ops st).map fun s => (.norm, s)
  | .keep l c, st => aexec E O n c (Fr.keep st.1 l, st.2)
  | .seq a b, st => seqR (aexec E O n a st) (aexec E O n b)
  | .cond c a b, st => condR (c.ev st.1) (aexec E O n a st) (aexec E O n b st)
  | .block id b, st => blockR id (aexec E O n b st)
  | .loop b, st => loopN (aexec E O n b) n st
  | .exit id, st => some (.exit id, st)
  | .ret, st => some (.ret, st)
  | .bad, _ => none

inductive ARes where
  | tmp (t : Nat)
  | cell (t n : Nat) (ag : Bool)
structure AFun where
  np : Nat
  body : ACode
  res : List ARes
def resA (st : St) : List ARes → Option (List AV)
  | [] => some []
  | .tmp t :: l => (Fr.get st.1 t).bind fun v => (resA st l).map (v :: ·)
  | .cell t n ag :: l => (Fr.get st.1 t).bind fun p => (loadA st.2 n ag p).bind fun v => (resA st l).map (v :: ·)
def tupOf : List AV → AV
  | [v] => v
  | l => .tup l
def frOf (args : List AV) : Fr := args.zipIdx.map fun p => (p.2, p.1)
def finA (F : AFun) (r : Res) : Option (AV × AH) := match r with
  | some (.norm, st) => (resA st F.res).map fun l => (tupOf l, st.2)
  | some (.ret, st) => (resA st F.res).map fun l => (tupOf l, st.2)
  | _ => none
noncomputable def afun (E : Env) (O : Oracle) (n : Nat) (F : AFun) (args : List AV) (H : AH) : Option (AV × AH) :=
  if args.length = F.np then finA F (aexec E O n F.body (frOf args, H)) else none

inductive ADef where
  | code (F : AFun)
  | prim (p : List AV → AH → Option (AV × AH))
structure Tab where
  E : Env
  fn : Nat → Option ADef

noncomputable def callN (T : Tab) : Nat → Oracle
  | 0, _, _, _ => none
  | n + 1, f, args, H => match T.fn f with
    | none => none
    | some (.prim p) => p args H
    | some (.code F) => afun T.E (callN T n) n F args H

/-! ### limits -/
open Classical in
noncomputable def Lim {α : Type} (g : Nat → Option α) : Option α := if h : ∃ r n, g n = some r then some (Classical.choose h) else none
def Mono {α : Type} (g : Nat → Option α) : Prop := ∀ n r, g n = some r → g (n + 1) = some r
theorem Mono.le {α : Type} {g : Nat → Option α} (h : Mono g) {n m : Nat} {r : α} (hn : g n = some r) (hm : n ≤ m) : g m = some r := by
  obtain ⟨d, rfl⟩ := Nat.le.dest hm
  clear hm
  induction d with
  | zero => exact hn
  | succ d ih => exact h _ _ ih
theorem Mono.lim {α : Type} {g : Nat → Option α} (h : Mono g) {r : α} : Lim g = some r ↔ ∃ n, g n = some r := by
  unfold Lim
  constructor
  · intro hl
    split at hl
    · rename_i hx
      obtain ⟨n, hn⟩ := Classical.choose_spec hx
      exact ⟨n, by rw [hn]; exact hl⟩
    · cases hl
  · rintro ⟨n, hn⟩
    have hx : ∃ r n, g n = some r := ⟨r, n, hn⟩
    rw [dif_pos hx]
    obtain ⟨n', hn'⟩ := Classical.choose_spec hx
    have h1 := h.le hn (Nat.le_max_left n n')
    have h2 := h.le hn' (Nat.le_max_right n n')
    rw [h1] at h2
    exact h2.symm

noncomputable def Call (T : Tab) : Oracle := fun f args H => Lim fun n => callN T n f args H
noncomputable def loopL (step : St → Res) (s : St) : Res := Lim fun n => loopN step n s
noncomputable def execL (E : Env) (O : Oracle) : ACode → St → Res
  | .skip, st => some (.norm, st)
  | .reg ops, st => (opsA E O ops st).map fun s => (.norm, s)
  | .dreg ops, st => (dregA E O ops ops st).map fun s => (.norm, s)
  | .keep l c, st => execL E O c (Fr.keep st.1 l, st.2)
  | .seq a b, st => seqR (execL E O a st) (execL E O b)
  | .cond c a b, st => condR (c.ev st.1) (execL E O a st) (execL E O b st)
  | .block id b, st => blockR id (execL E O b st)
  | .loop b, st => loopL (execL E O b) st
  | .exit id, st => some (.exit id, st)
  | .ret, st => some (.ret, st)
  | .bad, _ => none
noncomputable def afunL (T : Tab) (F : AFun) (args : List AV) (H : AH) : Option (AV × AH) :=
  if args.length = F.np then finA F (execL T.E (Call T) F.body (frOf args, H)) else none

def OLe (O O' : Oracle) : Prop := ∀ f vs H r, O f vs H = some r → O' f vs H = some r

theorem actA_mono {O O' : Oracle} (h : OLe O O') {fr : Fr} {H : AH} {op : AOp} {r : Option AV × AH} (hr : actA O fr H op = some r) : actA O' fr H op = some r := by
  cases op with
  | callF f args =>
    simp only [actA, Option.bind_eq_some_iff, Option.map_eq_some_iff] at hr ⊢
    obtain ⟨vs, hv, x, hx, e⟩ := hr
    exact ⟨vs, hv, x, h _ _ _ _ hx, e⟩
  | callV x args =>
    simp only [actA] at hr ⊢
    split at hr
    · rename_i f caps hx
      simp only [Option.bind_eq_some_iff, Option.map_eq_some_iff] at hr ⊢
      obtain ⟨vs, hv, x, hx, e⟩ := hr
      exact ⟨vs, hv, x, h _ _ _ _ hx, e⟩
    · cases hr
  | _ => simpa only [actA] using hr

theorem opA_mono {E : Env} {O O' : Oracle} (h : OLe O O') {fr : Fr} {H : AH} {op : AOp} {r : Option AV × AH} (hr : opA E O fr H op = some r) : opA E O' fr H op = some r := by
  unfold opA at hr ⊢
  split at hr
  · rename_i hp; rw [if_pos hp]; exact hr
  · rename_i hp
    rw [if_neg hp]
    split at hr
    · rename_i hq; rw [if_pos hq]; exact hr
    · rename_i hq
      rw [if_neg hq]
      split at hr
      · rename_i hm; rw [if_pos hm]; exact hr
      · rename_i hm; rw [if_neg hm]; exact actA_mono h hr
theorem stepA_mono {E : Env} {O O' : Oracle} (h : OLe O O') {o : AOper} {st r : St} (hr : stepA E O o st = some r) : stepA E O' o st = some r := by
  unfold stepA at hr ⊢
  split at hr
  · cases hr
  · exact hr
  · simp only [Option.map_eq_some_iff] at hr ⊢
    obtain ⟨x, hx, e⟩ := hr
    exact ⟨x, opA_mono h hx, e⟩
theorem opsA_mono {E : Env} {O O' : Oracle} (h : OLe O O') {l : List AOper} : ∀ {st r : St}, opsA E O l st = some r → opsA E O' l st = some r := by
  induction l with
  | nil => intro st r hr; exact hr
  | cons o l ih =>
    intro st r hr
    simp only [opsA, Option.bind_eq_some_iff] at hr ⊢
    obtain ⟨x, hx, hr⟩ := hr
    exact ⟨x, stepA_mono h hx, ih hr⟩
theorem dregA_mono {E : Env} {O O' : Oracle} (h : OLe O O') {all l : List DOp} : ∀ {st r : St}, dregA E O all l st = some r → dregA E O' all l st = some r := by
  induction l with
  | nil => intro st r hr; exact hr
  | cons o l ih =>
    intro st r hr
    simp only [dregA, Option.bind_eq_some_iff] at hr ⊢
    obtain ⟨x, hx, hr⟩ := hr
    refine ⟨x, stepA_mono h hx, ?_⟩
    split at hr
    · rename_i hc; rw [if_pos hc]; exact ih hr
    · cases hr
theorem loopN_mono {s s' : St → Res} (h : ∀ st r, s st = some r → s' st = some r) : ∀ {n m : Nat} {st : St} {r : AEx × St}, n ≤ m → loopN s n st = some r → loopN s' m st = some r := by
  intro n
  induction n with
  | zero => intro m st r _ hr; cases hr
  | succ n ih =>
    intro m st r hm hr
    obtain ⟨m, rfl⟩ : ∃ k, m = k + 1 := ⟨m - 1, by omega⟩
    simp only [loopN] at hr ⊢
    cases hs : s st with
    | none => rw [hs] at hr; cases hr
    | some p =>
      rw [hs] at hr; rw [h _ _ hs]
      obtain ⟨e, s1⟩ := p
      cases e with
      | norm => exact ih (by omega) hr
      | exit i => exact hr
      | ret => exact hr
theorem seqR_some {r : Res} {k : St → Res} {x : AEx × St} : seqR r k = some x ↔ (∃ s, r = some (.norm, s) ∧ k s = some x) ∨ (r = some x ∧ ∀ s, x ≠ (.norm, s)) := by
  unfold seqR
  split
  · simp
  · rename_i s
    constructor
    · intro h; exact .inl ⟨s, rfl, h⟩
    · rintro (⟨s', h, h2⟩ | ⟨h, h2⟩)
      · cases h; exact h2
      · cases h; exact absurd rfl (h2 s)
  · rename_i e s hne
    constructor
    · intro h; cases h; exact .inr ⟨rfl, fun s' h => by cases h; exact hne rfl⟩
    · rintro (⟨s', h, h2⟩ | ⟨h, _⟩)
      · cases h; exact absurd rfl hne
      · exact h
theorem aexec_mono {E : Env} {O O' : Oracle} (h : OLe O O') {n m : Nat} (hm : n ≤ m) {c : ACode} : ∀ {st : St} {r : AEx × St}, aexec E O n c st = some r → aexec E O' m c st = some r := by
  induction c with
  | skip => intro st r hr; exact hr
  | reg ops => intro st r hr; simp only [aexec, Option.map_eq_some_iff] at hr ⊢; obtain ⟨x, hx, e⟩ := hr; exact ⟨x, opsA_mono h hx, e⟩
  | dreg ops => intro st r hr; simp only [aexec, Option.map_eq_some_iff] at hr ⊢; obtain ⟨x, hx, e⟩ := hr; exact ⟨x, dregA_mono h hx, e⟩
  | keep l c ih => intro st r hr; simp only [aexec] at hr ⊢; exact ih hr
  | seq a b iha ihb =>
    intro st r hr
    simp only [aexec] at hr ⊢
    rw [seqR_some] at hr ⊢
    rcases hr with ⟨s, h1, h2⟩ | ⟨h1, h2⟩
    · exact .inl ⟨s, iha h1, ihb h2⟩
    · exact .inr ⟨iha h1, h2⟩
  | cond c a b iha ihb =>
    intro st r hr
    simp only [aexec, condR] at hr ⊢
    split at hr
    · exact iha hr
    · exact ihb hr
    · cases hr
  | block id b ih =>
    intro st r hr
    simp only [aexec] at hr ⊢
    cases hs : aexec E O n b st with
    | none => rw [hs] at hr; cases hr
    | some p => rw [hs] at hr; rw [ih hs]; exact hr
  | loop b ih => intro st r hr; simp only [aexec] at hr ⊢; exact loopN_mono (fun st r => ih) hm hr
  | exit id => intro st r hr; exact hr
  | ret => intro st r hr; exact hr
  | bad => intro st r hr; cases hr
theorem afun_mono {E : Env} {O O' : Oracle} (h : OLe O O') {n m : Nat} (hm : n ≤ m) {F : AFun} {args : List AV} {H : AH} {r : AV × AH} (hr : afun E O n F args H = some r) : afun E O' m F args H = some r := by
  unfold afun at hr ⊢
  split at hr
  · rename_i hl
    rw [if_pos hl]
    cases hs : aexec E O n F.body (frOf args, H) with
    | none => rw [hs] at hr; cases hr
    | some p => rw [hs] at hr; rw [aexec_mono h hm hs]; exact hr
  · cases hr
theorem callN_mono (T : Tab) : ∀ n, OLe (callN T n) (callN T (n + 1)) := by
  intro n
  induction n with
  | zero => intro f vs H r hr; cases hr
  | succ n ih =>
    intro f vs H r hr
    unfold callN at hr ⊢
    cases hd : T.fn f with
    | none => rw [hd] at hr; exact hr
    | some d =>
      rw [hd] at hr
      cases d with
      | prim p => exact hr
      | code F => exact afun_mono ih (Nat.le_succ n) hr
theorem callN_le (T : Tab) {n m : Nat} (hm : n ≤ m) : OLe (callN T n) (callN T m) := by
  intro f vs H r hr
  exact Mono.le (g := fun n => callN T n f vs H) (fun n r h => callN_mono T n f vs H r h) hr hm
theorem Call_iff {T : Tab} {f : Nat} {vs : List AV} {H : AH} {r : AV × AH} : Call T f vs H = some r ↔ ∃ n, callN T n f vs H = some r :=
  Mono.lim (fun n r h => callN_mono T n f vs H r h)
theorem callN_Call (T : Tab) (n : Nat) : OLe (callN T n) (Call T) := fun _ _ _ _ h => Call_iff.2 ⟨n, h⟩

/-! ### what the limits answer, some finite run answers -/
theorem act_fin {T : Tab} {fr : Fr} {H : AH} {op : AOp} {r : Option AV × AH} (hr : actA (Call T) fr H op = some r) : ∃ n, actA (callN T n) fr H op = some r := by
  cases op with
  | callF f args =>
    simp only [actA, Option.bind_eq_some_iff, Option.map_eq_some_iff] at hr ⊢
    obtain ⟨vs, hv, x, hx, e⟩ := hr
    obtain ⟨n, hn⟩ := Call_iff.1 hx
    exact ⟨n, vs, hv, x, hn, e⟩
  | callV x args =>
    simp only [actA] at hr ⊢
    split at hr
    · rename_i f caps hx
      simp only [Option.bind_eq_some_iff, Option.map_eq_some_iff] at hr ⊢
      obtain ⟨vs, hv, y, hy, e⟩ := hr
      obtain ⟨n, hn⟩ := Call_iff.1 hy
      exact ⟨n, vs, hv, y, hn, e⟩
    · cases hr
  | _ => exact ⟨0, by simpa only [actA] using hr⟩
theorem op_fin {T : Tab} {E : Env} {fr : Fr} {H : AH} {op : AOp} {r : Option AV × AH} (hr : opA E (Call T) fr H op = some r) : ∃ n, opA E (callN T n) fr H op = some r := by
  unfold opA at hr ⊢
  split at hr
  · rename_i hp; exact ⟨0, by rw [if_pos hp]; exact hr⟩
  · rename_i hp
    split at hr
    · rename_i hq; exact ⟨0, by rw [if_neg hp, if_pos hq]; exact hr⟩
    · rename_i hq
      split at hr
      · rename_i hm; exact ⟨0, by rw [if_neg hp, if_neg hq, if_pos hm]; exact hr⟩
      · rename_i hm
        obtain ⟨n, hn⟩ := act_fin hr
        exact ⟨n, by rw [if_neg hp, if_neg hq, if_neg hm]; exact hn⟩
theorem step_fin {T : Tab} {E : Env} {o : AOper} {st r : St} (hr : stepA E (Call T) o st = some r) : ∃ n, stepA E (callN T n) o st = some r := by
  unfold stepA at hr ⊢
  split at hr
  · cases hr
  · exact ⟨0, hr⟩
  · simp only [Option.map_eq_some_iff] at hr
    obtain ⟨x, hx, e⟩ := hr
    obtain ⟨n, hn⟩ := op_fin hx
    exact ⟨n, by simp only [Option.map_eq_some_iff]; exact ⟨x, hn, e⟩⟩
theorem ops_fin {T : Tab} {E : Env} {l : List AOper} : ∀ {st r : St}, opsA E (Call T) l st = some r → ∃ n, opsA E (callN T n) l st = some r := by
  induction l with
  | nil => intro st r hr; exact ⟨0, hr⟩
  | cons o l ih =>
    intro st r hr
    simp only [opsA, Option.bind_eq_some_iff] at hr ⊢
    obtain ⟨x, hx, hr⟩ := hr
    obtain ⟨n, hn⟩ := step_fin hx
    obtain ⟨n', hn'⟩ := ih hr
    exact ⟨max n n', x, stepA_mono (callN_le T (Nat.le_max_left _ _)) hn, opsA_mono (callN_le T (Nat.le_max_right _ _)) hn'⟩
theorem dreg_fin {T : Tab} {E : Env} {all l : List DOp} : ∀ {st r : St}, dregA E (Call T) all l st = some r → ∃ n, dregA E (callN T n) all l st = some r := by
  induction l with
  | nil => intro st r hr; exact ⟨0, hr⟩
  | cons o l ih =>
    intro st r hr
    simp only [dregA, Option.bind_eq_some_iff] at hr ⊢
    obtain ⟨x, hx, hr⟩ := hr
    obtain ⟨n, hn⟩ := step_fin hx
    split at hr
    · rename_i hc
      obtain ⟨n', hn'⟩ := ih hr
      exact ⟨max n n', x, stepA_mono (callN_le T (Nat.le_max_left _ _)) hn, by rw [if_pos hc]; exact dregA_mono (callN_le T (Nat.le_max_right _ _)) hn'⟩
    · cases hr
theorem loopN_Mono (s : St → Res) (st : St) : Mono fun n => loopN s n st := fun n _ h => loopN_mono (fun _ _ h => h) (Nat.le_succ n) h
theorem exec_fin {T : Tab} {E : Env} {c : ACode} : ∀ {st : St} {r : AEx × St}, execL E (Call T) c st = some r → ∃ n, aexec E (callN T n) n c st = some r := by
  induction c with
  | skip => intro st r hr; exact ⟨0, hr⟩
  | reg ops =>
    intro st r hr
    simp only [execL, aexec, Option.map_eq_some_iff] at hr ⊢
    obtain ⟨x, hx, e⟩ := hr
    obtain ⟨n, hn⟩ := ops_fin hx
    exact ⟨n, x, hn, e⟩
  | dreg ops =>
    intro st r hr
    simp only [execL, aexec, Option.map_eq_some_iff] at hr ⊢
    obtain ⟨x, hx, e⟩ := hr
    obtain ⟨n, hn⟩ := dreg_fin hx
    exact ⟨n, x, hn, e⟩
  | keep l c ih => intro st r hr; simp only [execL, aexec] at hr ⊢; exact ih hr
  | seq a b iha ihb =>
    intro st r hr
    simp only [execL, aexec] at hr ⊢
    rw [seqR_some] at hr
    rcases hr with ⟨s, h1, h2⟩ | ⟨h1, h2⟩
    · obtain ⟨n, hn⟩ := iha h1
      obtain ⟨n', hn'⟩ := ihb h2
      exact ⟨max n n', seqR_some.2 (.inl ⟨s, aexec_mono (callN_le T (Nat.le_max_left _ _)) (Nat.le_max_left _ _) hn, aexec_mono (callN_le T (Nat.le_max_right _ _)) (Nat.le_max_right _ _) hn'⟩)⟩
    · obtain ⟨n, hn⟩ := iha h1
      exact ⟨n, seqR_some.2 (.inr ⟨hn, h2⟩)⟩
  | cond c a b iha ihb =>
    intro st r hr
    simp only [execL, aexec, condR] at hr ⊢
    split at hr
    · exact iha hr
    · exact ihb hr
    · cases hr
  | block id b ih =>
    intro st r hr
    simp only [execL, aexec] at hr ⊢
    cases hs : execL E (Call T) b st with
    | none => rw [hs] at hr; cases hr
    | some p =>
      rw [hs] at hr
      obtain ⟨n, hn⟩ := ih hs
      exact ⟨n, by rw [hn]; exact hr⟩
  | loop b ih =>
    intro st r hr
    simp only [execL, aexec] at hr ⊢
    obtain ⟨k, hk⟩ := (loopN_Mono _ _).lim.1 hr
    clear hr
    have key : ∀ k st, loopN (execL E (Call T) b) k st = some r → ∃ n, loopN (aexec E (callN T n) n b) n st = some r := by
      intro k
      induction k with
      | zero => intro st h; cases h
      | succ k ihk =>
        intro st h
        simp only [loopN] at h
        cases hs : execL E (Call T) b st with
        | none => rw [hs] at h; cases h
        | some p =>
          rw [hs] at h
          obtain ⟨n, hn⟩ := ih hs
          obtain ⟨e, s1⟩ := p
          cases e with
          | norm =>
            obtain ⟨n', hn'⟩ := ihk s1 h
            refine ⟨max n n' + 1, ?_⟩
            simp only [loopN]
            rw [aexec_mono (callN_le T (by omega : n ≤ max n n' + 1)) (by omega : n ≤ max n n' + 1) hn]
            exact loopN_mono (fun st r hr => aexec_mono (callN_le T (by omega : n' ≤ max n n' + 1)) (by omega : n' ≤ max n n' + 1) hr) (by omega) hn'
          | exit i =>
            refine ⟨n + 1, ?_⟩
            simp only [loopN]
            rw [aexec_mono (callN_le T (Nat.le_succ n)) (Nat.le_succ n) hn]
            exact h
          | ret =>
            refine ⟨n + 1, ?_⟩
            simp only [loopN]
            rw [aexec_mono (callN_le T (Nat.le_succ n)) (Nat.le_succ n) hn]
            exact h
    exact key k st hk
  | bad => intro st r hr; cases hr
  | exit id => intro st r hr; exact ⟨0, hr⟩
  | ret => intro st r hr; exact ⟨0, hr⟩
theorem exec_up {T : Tab} {E : Env} {n : Nat} {c : ACode} : ∀ {st : St} {r : AEx × St}, aexec E (callN T n) n c st = some r → execL E (Call T) c st = some r := by
  induction c with
  | skip => intro st r hr; exact hr
  | reg ops => intro st r hr; simp only [execL, aexec, Option.map_eq_some_iff] at hr ⊢; obtain ⟨x, hx, e⟩ := hr; exact ⟨x, opsA_mono (callN_Call T n) hx, e⟩
  | dreg ops => intro st r hr; simp only [execL, aexec, Option.map_eq_some_iff] at hr ⊢; obtain ⟨x, hx, e⟩ := hr; exact ⟨x, dregA_mono (callN_Call T n) hx, e⟩
  | keep l c ih => intro st r hr; simp only [execL, aexec] at hr ⊢; exact ih hr
  | seq a b iha ihb =>
    intro st r hr
    simp only [execL, aexec] at hr ⊢
    rw [seqR_some] at hr ⊢
    rcases hr with ⟨s, h1, h2⟩ | ⟨h1, h2⟩
    · exact .inl ⟨s, iha h1, ihb h2⟩
    · exact .inr ⟨iha h1, h2⟩
  | cond c a b iha ihb =>
    intro st r hr
    simp only [execL, aexec, condR] at hr ⊢
    split at hr
    · exact iha hr
    · exact ihb hr
    · cases hr
  | block id b ih =>
    intro st r hr
    simp only [execL, aexec] at hr ⊢
    cases hs : aexec E (callN T n) n b st with
    | none => rw [hs] at hr; cases hr
    | some p => rw [hs] at hr; rw [ih hs]; exact hr
  | loop b ih =>
    intro st r hr
    simp only [execL, aexec] at hr ⊢
    exact (loopN_Mono _ _).lim.2 ⟨n, loopN_mono (fun st r => ih) (Nat.le_refl n) hr⟩
  | exit id => intro st r hr; exact hr
  | ret => intro st r hr; exact hr
  | bad => intro st r hr; cases hr

theorem Call_code {T : Tab} {f : Nat} {F : AFun} (hf : T.fn f = some (.code F)) (args : List AV) (H : AH) : Call T f args H = afunL T F args H := by
  apply Option.ext
  intro r
  rw [show (Call T f args H = some r) = (∃ n, callN T n f args H = some r) from propext Call_iff]
  constructor
  · rintro ⟨n, hn⟩
    cases n with
    | zero => cases hn
    | succ n =>
      unfold callN at hn
      rw [hf] at hn
      unfold afunL
      simp only [afun] at hn
      split at hn
      · rename_i hl
        rw [if_pos hl]
        cases hs : aexec T.E (callN T n) n F.body (frOf args, H) with
        | none => rw [hs] at hn; cases hn
        | some p => rw [hs] at hn; rw [exec_up hs]; exact hn
      · cases hn
  · intro h
    unfold afunL at h
    split at h
    · rename_i hl
      cases hs : execL T.E (Call T) F.body (frOf args, H) with
      | none => rw [hs] at h; cases h
      | some p =>
        rw [hs] at h
        obtain ⟨n, hn⟩ := exec_fin hs
        refine ⟨n + 1, ?_⟩
        unfold callN
        rw [hf]
        simp only [afun]
        rw [if_pos hl, hn]
        exact h
    · cases h
theorem Call_prim {T : Tab} {f : Nat} {p : List AV → AH → Option (AV × AH)} (hf : T.fn f = some (.prim p)) (args : List AV) (H : AH) : Call T f args H = p args H := by
  apply Option.ext
  intro r
  rw [show (Call T f args H = some r) = (∃ n, callN T n f args H = some r) from propext Call_iff]
  constructor
  · rintro ⟨n, hn⟩
    cases n with
    | zero => cases hn
    | succ n => unfold callN at hn; rw [hf] at hn; exact hn
  · intro h
    exact ⟨1, by unfold callN; rw [hf]; exact h⟩
theorem loopL_eq (step : St → Res) (s : St) : loopL step s = seqR (step s) (loopL step) := by
  apply Option.ext
  intro r
  rw [show (loopL step s = some r) = (∃ n, loopN step n s = some r) from propext (loopN_Mono step s).lim]
  constructor
  · rintro ⟨n, hn⟩
    cases n with
    | zero => cases hn
    | succ n =>
      simp only [loopN] at hn
      unfold seqR
      split at hn
      · cases hn
      · rename_i s' hs; exact (loopN_Mono step s').lim.2 ⟨n, hn⟩
      · exact hn
  · intro h
    rw [seqR_some] at h
    rcases h with ⟨s', h1, h2⟩ | ⟨h1, h2⟩
    · obtain ⟨n, hn⟩ := (loopN_Mono step s').lim.1 h2
      exact ⟨n + 1, by simp only [loopN]; rw [h1]; exact hn⟩
    · refine ⟨1, ?_⟩
      simp only [loopN]
      rw [h1]
      obtain ⟨e, s'⟩ := r
      cases e <;> first | rfl | exact absurd rfl (h2 s')
end Go.Proofs.YtbpgbhmibmcbnaaGreatDoor.Ram

/-! A second machine over the same texts ('val'): slices are lists of rows by value, read-only once made; what is appended to is owned by one slot or cell; a call's and a round's own blocks are dropped behind it. -/
namespace Go.Proofs.YtbpgbhmibmcbnaaGreatDoor.Val
open Go Go.Proofs.YtbpgbhmibmcbnaaGreatDoor.Ram

inductive V where
  | int (k : IntKind) (n : Int)
  | bool (b : Bool)
  | str (s : List UInt8)
  | ptr (a : Option (Nat × Nat))
  | rptr (row : List V) (off : Nat)
  | lst (sz : Nat) (rows : List (List V))
  | sl (a : Option (Nat × Nat)) (sz len : Nat) (cap : Option Nat)
  | map (r : Option Nat)
  | fn (f : Nat) (caps : List V)
  | nilFn
  | nilI
  | und
  | ifc (t : Nat) (v : V)
  | agg (l : List V)
  | tup (l : List V)
  | raw (b o : Nat)
  deriving Inhabited

inductive VObj where
  | cells (l : List V) (own : List Nat)
  | map (l : List (List UInt8 × V))
  deriving Inhabited
structure VH where
  next : Nat
  get : Nat → Option VObj
  /-- What is laid ahead, and never written. -/
  gl : Nat → Option (List V)
def VH.set (S : VH) (i : Nat) (o : VObj) : VH := { S with get := fun j => if j = i then some o else S.get j }
def VH.push (S : VH) (o : VObj) : VH := { S with next := S.next + 1, get := fun j => if j = S.next then some o else S.get j }
def VH.trim (S S1 : VH) : VH := { S with get := fun j => if j < S.next then S1.get j else S.get j }

abbrev VFr := List (Nat × V)
def VFr.get : VFr → Nat → Option V
  | [], _ => none
  | (k, v) :: r, n => if k = n then some v else VFr.get r n
def VFr.set (f : VFr) (n : Nat) (v : V) : VFr := (n, v) :: f
def VFr.del (f : VFr) (n : Nat) : VFr := f.filter (fun p => p.1 != n)
def VFr.keep (f : VFr) (l : List Nat) : VFr := l.filterMap fun n => (VFr.get f n).map (n, ·)

inductive Tag where
  | own
  | cell (i off : Nat)
  | comp (j : Nat)
  deriving DecidableEq
abbrev Rts := List (Nat × Tag)
def Rts.del (w : Rts) (d : Nat) : Rts := w.filter fun p => p.1 != d
def Rts.move (w : Rts) (n d : Nat) : Rts := if n = d then w else (w.filter fun p => p.1 != d).map fun p => if p.1 = n then (d, p.2) else p
def Rts.noCell (w : Rts) : Rts := w.filter fun p => match p.2 with | .cell _ _ => false | _ => true
def Rts.noCellAt (w : Rts) (i off : Nat) : Rts := w.filter fun p => p.2 != .cell i off
def Rts.keep (w : Rts) (l : List Nat) : Rts := w.filter fun p => l.contains p.1

structure VS where
  f : VFr
  w : Rts
  h : VH

mutual
def ofAV : AV → Option V
  | .int k n => some (.int k n)
  | .bool b => some (.bool b)
  | .str s => some (.str s)
  | .ptr none => some (.ptr none)
  | .sl none sz 0 (some _) => some (.lst sz [])
  | .sl none sz 0 none => some (.sl none sz 0 none)
  | .map none => some (.map none)
  | .nilFn => some .nilFn
  | .nilI => some .nilI
  | .ifc t v => (ofAV v).map (.ifc t)
  | .agg l => (ofAVs l).map .agg
  | _ => none
def ofAVs : List AV → Option (List V)
  | [] => some []
  | x :: l => (ofAV x).bind fun v => (ofAVs l).map (v :: ·)
end
def evV (fr : VFr) : Opd → Option V
  | .t n => VFr.get fr n
  | .c v => ofAV v
  | .g n => if n < 100 then some (.ptr (some (n, 0))) else none
  | .f n => some (.fn n [])
def evsV (fr : VFr) : List Opd → Option (List V)
  | [] => some []
  | x :: l => (evV fr x).bind fun v => (evsV fr l).map (v :: ·)
def cellsV : V → List V
  | .agg l => l
  | v => [v]
def oneV : V → Bool
  | .und => false
  | .agg _ => false
  | .tup _ => false
  | _ => true
def fillV (l : List V) : List (Nat × Nat × V) → Option (List V)
  | [] => some l
  | (off, n, v) :: rest => if (cellsV v).length = n ∧ off + n ≤ l.length ∧ (cellsV v).all oneV = true then fillV (l.take off ++ cellsV v ++ l.drop (off + n)) rest else none
def partsV (fr : VFr) : List (Nat × Nat × Opd) → Option (List (Nat × Nat × V))
  | [] => some []
  | (a, b, x) :: l => (evV fr x).bind fun v => (partsV fr l).map ((a, b, v) :: ·)
def scal : V → Option AV
  | .int k n => some (.int k n)
  | .str s => some (.str s)
  | .bool b => some (.bool b)
  | _ => none
def binV (op : BinOp) (x y : V) : Option V := (scal x).bind fun a => (scal y).bind fun b => (binA op a b).bind ofAV

def flatEq1V : Nat → V → V → Option Bool
  | 0, .int k a, .int k' b => if k = k' then some (a == b) else none
  | 1, .str a, .str b => some (a == b)
  | 2, .bool a, .bool b => some (a == b)
  | _, _, _ => none
def flatEqV : List Nat → List V → List V → Option Bool
  | [], [], [] => some true
  | k :: ks, x :: l, y :: l' => (flatEq1V k x y).bind fun b => (flatEqV ks l l').map (b && ·)
  | _, _, _ => none
def liveV (S : VH) (i : Nat) : Bool := match S.get i with | some (.cells _ _) => true | _ => false
def glV (E : Env) (S : VH) (i : Nat) : Bool := E.sent.contains i && (S.gl i).isSome
def ptrEqV (E : Env) (S : VH) : Option (Nat × Nat) → Option (Nat × Nat) → Option Bool
  | none, none => some true
  | some (i, a), some (j, b) => if liveV S i && liveV S j then some (i == j && a == b)
    else if glV E S i && glV E S j && (a == 0 && b == 0) then some (i == j) else none
  | _, _ => some false
def eqV (E : Env) (S : VH) (cst : Bool) (k : EqK) (x y : V) : Option Bool :=
  match k, x, y with
  | .bool, .bool a, .bool b => some (a == b)
  | .ptr, .ptr a, .ptr b => ptrEqV E S a b
  | .ifc, .nilI, .nilI => if cst then some true else none
  | .ifc, .nilI, .ifc _ _ => some false
  | .ifc, .ifc _ _, .nilI => some false
  | .ifc, .ifc t (.ptr a), .ifc t' (.ptr b) => if t = t' then (if E.ptrTypes.contains t then ptrEqV E S a b else none) else some false
  | .flat ks, .agg l, .agg l' => flatEqV ks l l'
  | .nilS, .sl none _ _ _, .sl a _ _ _ => some a.isNone
  | .nilS, .sl a _ _ _, .sl none _ _ _ => some a.isNone
  | .nilM, .map none, .map a => some a.isNone
  | .nilM, .map a, .map none => some a.isNone
  | .nilF, .nilFn, .nilFn => some true
  | .nilF, .nilFn, .fn _ _ => some false
  | .nilF, .fn _ _, .nilFn => some false
  | _, _, _ => none

def loadV (S : VH) (n : Nat) (ag : Bool) (x : V) : Option V :=
  match x with
  | .ptr (some (i, off)) =>
    match S.get i with
    | some (.cells l _) => if ag then (if off + n ≤ l.length then some (.agg ((l.drop off).take n)) else none) else l[off]?
    | some (.map _) => none
    | none => match S.gl i with
      | some l => if ag then (if off + n ≤ l.length ∧ 0 < n then some (.agg ((l.drop off).take n)) else none) else l[off]?
      | none => none
  | .rptr row off => if ag then (if off + n ≤ row.length ∧ 0 < n then some (.agg ((row.drop off).take n)) else none) else row[off]?
  | _ => none
def putV (l : List V) (off : Nat) (news : List V) : List V := l.take off ++ news ++ l.drop (off + news.length)
def storeV (S : VH) (n : Nat) (a v : V) (rt : Bool) : Option VH :=
  match a with
  | .ptr (some (i, off)) =>
    match S.get i with
    | some (.cells l own) => if (cellsV v).length = n ∧ off + n ≤ l.length ∧ (cellsV v).all oneV = true then
        some (S.set i (.cells (putV l off (cellsV v)) ((if rt then [off] else []) ++ own.filter fun o => !(decide (off ≤ o) && decide (o < off + n))))) else none
    | _ => none
  | _ => none
def lenV (st : Bool) : V → Option V
  | .lst _ rows => if st = false then some (.int .i64 rows.length) else none
  | .sl _ _ n _ => if st = false then some (.int .i64 n) else none
  | .str s => if st = true then some (.int .i64 s.length) else none
  | _ => none
def natV (v : V) : Option Nat := match v with | .int _ n => if 0 ≤ n then some n.toNat else none | _ => none
def bndV (d : Nat) : Option V → Option Nat
  | none => some d
  | some v => natV v
def slcV (sz : Nat) (x : V) (lo hi : Option V) : Option V :=
  match x with
  | .str s => (bndV 0 lo).bind fun l => (bndV s.length hi).bind fun h => if sz = 0 ∧ l ≤ h ∧ h ≤ s.length then some (.str ((s.take h).drop l)) else none
  | .lst sz' rows => (bndV 0 lo).bind fun l => (bndV rows.length hi).bind fun h => if 0 < sz ∧ sz' = sz ∧ l ≤ h ∧ h ≤ rows.length then some (.lst sz ((rows.take h).drop l)) else none
  | .sl none _ _ _ => (bndV 0 lo).bind fun l => (bndV 0 hi).bind fun h => if 0 < sz ∧ l = 0 ∧ h = 0 then some (.sl none sz 0 none) else none
  | .sl (some (i, off)) sz' len cap => (bndV 0 lo).bind fun l => (bndV len hi).bind fun h =>
    if 0 < sz ∧ sz' = sz ∧ l ≤ h ∧ h ≤ len then some (.sl (some (i, off + l * sz)) sz (h - l) (cap.map (· - l))) else none
  | _ => none
def indexV (sz : Nat) (x i : V) : Option V :=
  match x, i with
  | .lst sz' rows, .int _ n => if sz' = sz ∧ 0 ≤ n then (rows[n.toNat]?).map fun r => .rptr r 0 else none
  | .sl (some (id, off)) sz' len _, .int _ n => if sz' = sz ∧ 0 ≤ n ∧ n < (len : Int) then some (.ptr (some (id, off + n.toNat * sz))) else none
  | _, _ => none
def mapGetV (l : List (List UInt8 × V)) (k : List UInt8) : Option V := (l.find? fun p => p.1 == k).map (·.2)
def mapSetV : List (List UInt8 × V) → List UInt8 → V → List (List UInt8 × V)
  | [], k, v => [(k, v)]
  | (k', v') :: l, k, v => if k' == k then (k, v) :: l else (k', v') :: mapSetV l k v
def mapDelV : List (List UInt8 × V) → List UInt8 → List (List UInt8 × V)
  | [], _ => []
  | (k', v') :: l, k => if k' == k then l else (k', v') :: mapDelV l k
def oev (fr : VFr) : Option Opd → Option (Option V)
  | none => some none
  | some x => (evV fr x).map some

def pickV (c a b : Option V) : Option V := match c with
  | some (.bool true) => a
  | some (.bool false) => b
  | _ => none
def nilchkV : V → Option V
  | .ptr (some a) => some (.ptr (some a))
  | .rptr r o => some (.rptr r o)
  | _ => none
def notV : V → Option V
  | .bool b => some (.bool (!b))
  | _ => none
def negV : V → Option V
  | .int k n => some (.int k (k.wrap (-n)))
  | _ => none
def convV (k : IntKind) : V → Option V
  | .int _ n => some (.int k (k.wrap n))
  | _ => none
def convSV : V → Option V
  | .str s => some (.str s)
  | _ => none
def fieldAV (off : Nat) : V → Option V
  | .ptr (some (i, o)) => some (.ptr (some (i, o + off)))
  | .rptr r o => some (.rptr r (o + off))
  | _ => none
def fieldV (off n : Nat) (ag : Bool) : V → Option V
  | .agg l => if ag then (if off + n ≤ l.length then some (.agg ((l.drop off).take n)) else none) else l[off]?
  | _ => none
def chrV (x i : V) : Option V :=
  match x, i with
  | .str s, .int _ n => if 0 ≤ n then (s[n.toNat]?).map fun b => .int .u8 b.toNat else none
  | _, _ => none
def extractV (i : Nat) : V → Option V
  | .tup l => l[i]?
  | _ => none
def minmaxV (mx : Bool) (x y : V) : Option V :=
  match x, y with
  | .int k a, .int k' b => if k = k' then some (.int k (if mx then (if a < b then b else a) else (if b < a then b else a))) else none
  | _, _ => none
def rowsOf (sz : Nat) : Nat → List V → List (List V)
  | 0, _ => []
  | n + 1, l => l.take sz :: rowsOf sz n (l.drop sz)

def pureV (fr : VFr) : AOp → Option V
  | .mov x => evV fr x
  | .pick c a b => pickV (evV fr c) (evV fr a) (evV fr b)
  | .build zero parts => (ofAVs zero).bind fun z => (partsV fr parts).bind fun ps => (fillV z ps).map .agg
  | .nilchk x => (evV fr x).bind nilchkV
  | .bin op x y => (evV fr x).bind fun a => (evV fr y).bind fun b => binV op a b
  | .not x => (evV fr x).bind notV
  | .neg x => (evV fr x).bind negV
  | .conv k x => (evV fr x).bind (convV k)
  | .convS x => (evV fr x).bind convSV
  | .mkIfc t x => (evV fr x).map (.ifc t)
  | .mkFn f caps => (evsV fr caps).map (.fn f)
  | .slc sz x lo hi => (evV fr x).bind fun v => (oev fr lo).bind fun l => (oev fr hi).bind fun h => slcV sz v l h
  | .fieldA off x => (evV fr x).bind (fieldAV off)
  | .field off n ag x => (evV fr x).bind (fieldV off n ag)
  | .indexA sz x i => (evV fr x).bind fun a => (evV fr i).bind fun b => indexV sz a b
  | .index x i => (evV fr x).bind fun a => (evV fr i).bind fun b => chrV a b
  | .extract x i => (evV fr x).bind (extractV i)
  | .len st x => (evV fr x).bind (lenV st)
  | .minmax mx x y => (evV fr x).bind fun a => (evV fr y).bind fun b => minmaxV mx a b
  | _ => none
def lookupV (S : VH) (d : V) (ok : Bool) (m k : V) : Option V :=
  match m, k with
  | .map none, .str _ => some (if ok then .tup [d, .bool false] else d)
  | .map (some i), .str s => match S.get i with
    | some (.map l) => some (match mapGetV l s with
      | some v => if ok then .tup [v, .bool true] else v
      | none => if ok then .tup [d, .bool false] else d)
    | _ => none
  | _, _ => none
def readV (E : Env) (fr : VFr) (S : VH) : AOp → Option V
  | .load n ag x => (evV fr x).bind fun v => loadV S n ag v
  | .eq neg k x y => (evV fr x).bind fun a => (evV fr y).bind fun b => (eqV E S (x.isC || y.isC) k a b).map fun r => .bool (if neg then !r else r)
  | .lookup d ok m k => (ofAV d).bind fun d => (evV fr m).bind fun mv => (evV fr k).bind fun kv => lookupV S d ok mv kv
  | _ => none

def isNilC : Opd → Bool
  | .c (.sl none _ _ _) => true
  | _ => false
def movR (w : Rts) (x : Opd) (d : Nat) : Rts := match x with
  | .t n => w.move n d
  | x => (if isNilC x then [(d, .own)] else []) ++ w.del d
def slcR (w : Rts) (x : Opd) (hi : Option Opd) (d : Nat) : Rts := match x, hi with
  | .t n, none => if w.contains (n, .own) && n != d then (d, .own) :: (Rts.del (w.filter fun p => p != (n, .own)) d) else w.del d
  | _, _ => w.del d
def extR (w : Rts) (x : Opd) (j d : Nat) : Rts := match x with
  | .t n => if w.contains (n, .comp j) && n != d then (d, .own) :: (Rts.del (w.filter fun p => p != (n, .comp j)) d) else w.del d
  | _ => w.del d
def ownAt (S : VH) (i off : Nat) : Bool := match S.get i with
  | some (.cells _ own) => own.contains off
  | _ => false
def loadR (w : Rts) (S : VH) (ag : Bool) (p : Option V) (d : Nat) : Rts := match ag, p with
  | false, some (.ptr (some (i, off))) => if ownAt S i off then (d, .cell i off) :: w.del d else w.del d
  | _, _ => w.del d
def isNilA : AV → Bool
  | .sl none _ 0 _ => true
  | _ => false
def nilsFrom : Nat → List AV → List Nat
  | _, [] => []
  | k, x :: l => if isNilA x then k :: nilsFrom (k + 1) l else nilsFrom (k + 1) l
def free (parts : List (Nat × Nat × Opd)) (j : Nat) : Bool := parts.all fun p => decide (j < p.1) || decide (p.1 + p.2.1 ≤ j)
def bldR (w : Rts) (d : Nat) (zero : List AV) (parts : List (Nat × Nat × Opd)) : Rts := ((nilsFrom 0 zero).filter (free parts)).map (fun j => (d, .comp j)) ++ w.del d
def compsOf (w : Rts) (x : Opd) (v : V) : List Nat := match x, v with
  | .t n, .agg _ => w.filterMap fun p => match p.2 with | .comp j => if p.1 = n then some j else none | _ => none
  | _, _ => []
def noCellNew (n : Nat) (w : Rts) : Rts := w.filter fun p => match p.2 with | .cell i _ => decide (i < n) | _ => true
def rtsV (st : VS) (d : Nat) : AOp → Rts
  | .mov x => movR st.w x d
  | .slc _ x _ hi => slcR st.w x hi d
  | .extract x j => extR st.w x j d
  | .load _ ag x => loadR st.w st.h ag (evV st.f x) d
  | .build zero parts => bldR st.w d zero parts
  | _ => st.w.del d
def dropOwn (S : VH) (i off : Nat) : VH := match S.get i with
  | some (.cells l own) => S.set i (.cells l (own.filter (· != off)))
  | _ => S

abbrev VOracle := Nat → List V → List Nat → VH → Option (V × List Nat × VH)
structure Flags where
  lin : Nat → Option Nat
  ret : Nat → Bool
  made : Nat → Bool
  /-- Functions whose answers are written no more behind them. -/
  frz : Nat → Bool := fun _ => false

def tOf : Opd → Option Nat
  | .t n => some n
  | _ => none
def goes (w : Rts) (l : Option Nat) (args : List Opd) : Option (Nat × Nat) := l.bind fun k => ((args[k]?).bind tOf).bind fun n => if w.contains (n, .own) then some (k, n) else none
def gone (w : Rts) : Option (Nat × Nat) → Rts
  | none => w
  | some (_, n) => w.filter fun p => p != (n, .own)
def fstL : Option (Nat × Nat) → List Nat
  | none => []
  | some (k, _) => [k]
def gives (d : Nat) (v : V) (rs : List Nat) : Rts := match v with
  | .tup _ => rs.eraseDups.map fun j => (d, .comp j)
  | .lst _ _ => if rs.contains 0 then [(d, .own)] else []
  | _ => []
def callR (Fl : Flags) (O : VOracle) (st : VS) (d : Option Nat) (f : Nat) (args : List Opd) (vs : List V) : Option VS :=
  (O f vs (fstL (goes st.w (Fl.lin f) args)) st.h).map fun r =>
    match d with
    | some d => ⟨VFr.set st.f d r.1, gives d r.1 r.2.1 ++ (gone st.w.noCell (goes st.w (Fl.lin f) args)).del d, r.2.2⟩
    | none => ⟨st.f, gone st.w.noCell (goes st.w (Fl.lin f) args), r.2.2⟩

def rowsOfV (sz : Nat) : V → Option (List (List V))
  | .lst sz' rows => if sz' = sz then some rows else none
  | .str s => if sz = 1 then some (s.map fun b => [.int .u8 b.toNat]) else none
  | _ => none
def seenV (S : VH) (sz : Nat) : V → Option (List (List V))
  | .lst sz' rows => if sz' = sz then some rows else none
  | .str s => if sz = 1 then some (s.map fun b => [.int .u8 b.toNat]) else none
  | .sl none _ _ _ => some []
  | .sl (some (i, off)) sz' len _ => match S.get i with
    | some (.cells l _) => if sz' = sz ∧ off + len * sz ≤ l.length then some (rowsOf sz len (l.drop off)) else none
    | _ => none
  | _ => none
def killV (S : VH) (i : Nat) : VH := { S with get := fun j => if j = i then none else S.get j }
def appH (S : VH) (sz bytes : Nat) (a : V) (news : List (List V)) : Option (V × VH) :=
  match a with
  | .sl none sz' len cap => if news.length = 0 then some (.sl none sz' len cap, S)
    else if 0 < sz ∧ 0 < bytes ∧ news.length * bytes ≤ 140737488355328 then some (.sl (some (S.next, 0)) sz news.length none, S.push (.cells news.flatten [])) else none
  | .sl (some (i, off)) sz' len cap =>
    if sz' = sz ∧ 0 < sz ∧ 0 < bytes ∧ (len + news.length) * bytes ≤ 140737488355328 then
      match S.get i with
      | some (.cells l _) =>
        match cap with
        | some c =>
          if len + news.length ≤ c then
            if news.length = 0 then some (.sl (some (i, off)) sz len (some c), S)
            else if off + (len + news.length) * sz ≤ l.length then some (.sl (some (i, off)) sz (len + news.length) (some c), S.set i (.cells (putV l (off + len * sz) news.flatten) [])) else none
          else if off + len * sz ≤ l.length then some (.sl (some (S.next, 0)) sz (len + news.length) none, S.push (.cells ((l.drop off).take (len * sz) ++ news.flatten) []))
          else none
        | none => if off + len * sz = l.length ∧ off = 0 then some (.sl (some (S.next, 0)) sz (len + news.length) none, killV (S.push (.cells (l.drop off ++ news.flatten) [])) i) else none
      | _ => none
    else none
  | _ => none
def copyV (S : VH) (sz : Nat) (d : V) (rows : List (List V)) : Option (V × VH) :=
  match d with
  | .sl none _ _ _ => some (.int .i64 0, S)
  | .sl (some (i, off)) sz' len _ => match S.get i with
    | some (.cells l _) => if sz' = sz ∧ off + (min rows.length len) * sz ≤ l.length then some (.int .i64 (min rows.length len : Nat), S.set i (.cells (putV l off (rows.take (min rows.length len)).flatten) [])) else none
    | _ => none
  | _ => none
def clearV (S : VH) (sz : Nat) (z : List V) (x : V) : Option VH :=
  match x with
  | .sl none _ _ _ => some S
  | .sl (some (i, off)) sz' len _ => match S.get i with
    | some (.cells l _) => if sz' = sz ∧ off + len * sz ≤ l.length then some (S.set i (.cells (putV l off (List.replicate len z).flatten) [])) else none
    | _ => none
  | _ => none
def slc3V (sz : Nat) (x h m : V) : Option V :=
  match x, h, m with
  | .sl none _ _ _, .int _ h, .int _ m => if h = 0 ∧ m = 0 then some (.sl none sz 0 none) else none
  | .sl (some (i, off)) sz' len _, .int _ h, .int _ m => if sz' = sz ∧ 0 ≤ h ∧ h ≤ m ∧ m ≤ (len : Int) then some (.sl (some (i, off)) sz h.toNat (some m.toNat)) else none
  | _, _, _ => none
def putH (st : VS) (d : Option Nat) (v : V) (S : VH) : VS := match d with
  | some d => ⟨VFr.set st.f d v, st.w.noCell.del d, S⟩
  | none => ⟨st.f, st.w.noCell, S⟩
def takeR (st : VS) (x : Opd) : Option VS := match x with
  | .t n => if st.w.contains (n, .own) then some { st with w := st.w.filter fun p => p != (n, .own) } else
      match st.w.find? fun p => p.1 == n with
      | some (_, .cell i off) => if ownAt st.h i off then some ⟨st.f, st.w.noCellAt i off, dropOwn st.h i off⟩ else none
      | _ => none
  | x => if isNilC x then some st else none
def appV (st : VS) (d sz bytes : Nat) (x y : Opd) : Option VS :=
  (evV st.f x).bind fun a => (evV st.f y).bind fun b => (rowsOfV sz a).bind fun rows => (seenV st.h sz b).bind fun news =>
    if 0 < sz ∧ 0 < bytes ∧ (rows.length + news.length) * bytes ≤ 140737488355328 then
      (takeR st x).map fun s => ⟨VFr.set s.f d (.lst sz (rows ++ news)), (d, .own) :: s.w.del d, s.h⟩
    else none
def storeRt (w : Rts) (n : Nat) : Opd → Bool
  | .t k => decide (n = 1) && w.contains (k, Tag.own)
  | .c (.sl none _ _ _) => decide (n = 1)
  | _ => false
def storeW (w : Rts) (v : Opd) (rt : Bool) : Rts := match v with
  | .t k => if rt then Rts.noCell (w.filter fun p => p != (k, Tag.own)) else Rts.noCell w
  | _ => Rts.noCell w
def actV (Fl : Flags) (O : VOracle) (st : VS) (d : Option Nat) : AOp → Option VS
  | .store n a v => if d.isSome then none else (evV st.f a).bind fun p => (evV st.f v).bind fun x =>
      (storeV st.h n p x (storeRt st.w n v)).map fun S => ⟨st.f, storeW st.w v (storeRt st.w n v), S⟩
  | .alloc zero => (ofAVs zero).bind fun z => d.map fun d => ⟨VFr.set st.f d (.ptr (some (st.h.next, 0))), noCellNew st.h.next (st.w.del d), st.h.push (.cells z (nilsFrom 0 zero))⟩
  | .box x => (evV st.f x).bind fun v => if (cellsV v).all oneV = true then d.map fun d => ⟨VFr.set st.f d (.ptr (some (st.h.next, 0))), noCellNew st.h.next (st.w.del d), st.h.push (.cells (cellsV v) (compsOf st.w x v))⟩ else none
  | .mkMap => d.map fun d => ⟨VFr.set st.f d (.map (some st.h.next)), st.w.del d, st.h.push (.map [])⟩
  | .bslice hp sz len zero parts => (ofAVs zero).bind fun z => (partsV st.f parts).bind fun ps => (fillV z ps).bind fun l =>
      if hp = true then d.map fun d => ⟨VFr.set st.f d (.sl (some (st.h.next, 0)) sz len (some len)), noCellNew st.h.next (st.w.del d), st.h.push (.cells l [])⟩ else
      if l.length = len * sz ∧ 0 < sz then d.map fun d => ⟨VFr.set st.f d (.lst sz (rowsOf sz len l)), (d, .own) :: st.w.del d, st.h⟩ else none
  | .mkSlice hp sz bytes zero len cap => (evV st.f len).bind fun l => (evV st.f cap).bind fun c => match l, c with
      | .int _ l, .int _ c => if hp = true then (ofAVs zero).bind fun z => if 0 ≤ l ∧ l ≤ c ∧ (bytes : Int) * c ≤ 281474976710656 ∧ c ≤ 9223372036854775807 then
          d.map fun d => ⟨VFr.set st.f d (.sl (some (st.h.next, 0)) sz l.toNat (some c.toNat)), noCellNew st.h.next (st.w.del d), st.h.push (.cells (List.replicate c.toNat z).flatten [])⟩ else none
        else if l = 0 ∧ 0 ≤ c ∧ (bytes : Int) * c ≤ 281474976710656 ∧ c ≤ 9223372036854775807 ∧ 0 < sz ∧ zero.length = sz then d.map fun d => ⟨VFr.set st.f d (.lst sz []), (d, .own) :: st.w.del d, st.h⟩ else none
      | _, _ => none
  | .mset m k v => (evV st.f m).bind fun m => (evV st.f k).bind fun k => (evV st.f v).bind fun x => match m, k with
      | .map (some i), .str s => match st.h.get i with
        | some (.map l) => if oneV x && d.isNone then some ⟨st.f, st.w, st.h.set i (.map (mapSetV l s x))⟩ else none
        | _ => none
      | _, _ => none
  | .mdel m k => (evV st.f m).bind fun m => (evV st.f k).bind fun k => match m, k with
      | .map (some i), .str s => match st.h.get i with
        | some (.map l) => some ⟨(match d with | some d => VFr.set st.f d (.tup []) | none => st.f), (match d with | some d => st.w.del d | none => st.w), st.h.set i (.map (mapDelV l s))⟩
        | _ => none
      | _, _ => none
  | .callF f args => (evsV st.f args).bind fun vs => callR Fl O st d f args vs
  | .callV x args => (evV st.f x).bind fun c => match c with
      | .fn f caps => if Fl.lin f = none then (evsV st.f args).bind fun vs => callR Fl O st d f args (vs ++ caps) else none
      | _ => none
  | .append fz sz bytes x y => if fz then d.bind fun d => appV st d sz bytes x y else
      (evV st.f x).bind fun a => (evV st.f y).bind fun b => (seenV st.h sz b).bind fun news => (appH st.h sz bytes a news).map fun r => putH st d r.1 r.2
  | .copy sz x y => (evV st.f x).bind fun a => (evV st.f y).bind fun b => (seenV st.h sz b).bind fun news => (copyV st.h sz a news).map fun r => putH st d r.1 r.2
  | .clear sz zero x => (ofAVs zero).bind fun z => (evV st.f x).bind fun a => (clearV st.h sz z a).map fun S => putH st d (.tup []) S
  | .slc3 sz x h m => (evV st.f x).bind fun a => (evV st.f h).bind fun b => (evV st.f m).bind fun c => (slc3V sz a b c).map fun v => putH st d v st.h
  | _ => none

def setS (st : VS) (dst : Option Nat) (op : AOp) (v : V) : VS := match dst with
  | some d => ⟨VFr.set st.f d v, rtsV st d op, st.h⟩
  | none => st
def opV (E : Env) (Fl : Flags) (O : VOracle) (st : VS) (dst : Option Nat) (op : AOp) : Option VS :=
  if op.isPure then (pureV st.f op).map (setS st dst op)
  else if op.isRead then (readV E st.f st.h op).map (setS st dst op)
  else actV Fl O st dst op
def wantedV (fr : VFr) : Option (Nat × Bool) → Option Bool
  | none => some true
  | some (t, want) => match VFr.get fr t with | some (.bool b) => some (b == want) | some .und => some false | _ => none
def stepV (E : Env) (Fl : Flags) (O : VOracle) (o : AOper) (st : VS) : Option VS :=
  match wantedV st.f o.guard with
  | none => none
  | some false => some (match o.dst with | some d => ⟨VFr.set st.f d .und, st.w.del d, st.h⟩ | none => st)
  | some true => opV E Fl O st o.dst o.op
def opsV (E : Env) (Fl : Flags) (O : VOracle) : List AOper → VS → Option VS
  | [], st => some st
  | o :: l, st => (stepV E Fl O o st).bind (opsV E Fl O l)
mutual
def rigid : V → Bool
  | .int .. | .bool _ | .str _ | .ptr _ | .map _ | .nilI | .nilFn => true
  | .ifc _ v => rigid v
  | .agg l => rigids l
  | _ => false
def rigids : List V → Bool
  | [] => true
  | v :: l => rigid v && rigids l
end
def sameReadV (E : Env) (st st' : VS) (r : AOper) : Prop := wantedV st.f r.guard = some false ∨ (wantedV st.f r.guard = some true ∧ ∃ v, readV E st.f st'.h r.op = some v ∧ readV E st.f st.h r.op = some v ∧ rigid v = true)
/-! A block that is hidden while a call runs: it stays as it is. -/
def VH.hide (S : VH) (i : Nat) : VH := { S with get := fun j => if j = i then none else S.get j }
def VH.back (S : VH) (i : Nat) (o : Option VObj) : VH := { S with get := fun j => if j = i then o else S.get j }
def hidO (n off i : Nat) : Option VObj → Option Nat
  | some (.cells cs []) => if rigids ((cs.drop off).take n) = true then none else some i
  | _ => none
def hidV (S : VH) (n : Nat) : Option V → Option Nat
  | some (.ptr (some (i, off))) => hidO n off i (S.get i)
  | _ => none
def hidR (st : VS) : Option AOper → Option Nat
  | some ⟨_, .load n true (.t s), none⟩ => hidV st.h n (VFr.get st.f s)
  | _ => none
def hidL (all : List DOp) (st : VS) : List Nat → Option Nat
  | [] => none
  | j :: l => match hidR st (findD all j) with
    | some i => some i
    | none => hidL all st l
def VS.hide (st : VS) (i : Nat) : VS := ⟨st.f, st.w, st.h.hide i⟩
def sameHidV (E : Env) (i : Nat) (st st' : VS) (r : AOper) : Prop := sameReadV E (st.hide i) st' r ∨ (r.guard = none ∧ ∃ n ag s off, r.op = .load n ag (.t s) ∧ VFr.get st.f s = some (.ptr (some (i, off))))
open Classical in
noncomputable def dregV (E : Env) (Fl : Flags) (O : VOracle) (all : List DOp) : List DOp → VS → Option VS
  | [], st => some st
  | d :: l, st => match hidL all st d.chk with
    | none => (stepV E Fl O d.o st).bind fun st' =>
      if (∀ j ∈ d.chk, ∀ r, findD all j = some r → sameReadV E st st' r) then dregV E Fl O all l st' else none
    | some i => (stepV E Fl O d.o (st.hide i)).bind fun st' =>
      if st'.h.get i = none ∧ (∀ j ∈ d.chk, ∀ r, findD all j = some r → sameHidV E i st st' r) then dregV E Fl O all l ⟨st'.f, st'.w, st'.h.back i (st.h.get i)⟩ else none

/-! what is new is dropped -/
mutual
def V.clo (n : Nat) : V → Bool
  | .ptr (some (i, _)) => decide (i < 100) || decide (i < n)
  | .map (some i) => decide (i < n)
  | .rptr row _ => V.clos n row
  | .lst _ rows => V.closs n rows
  | .sl (some (i, _)) _ _ _ => decide (i < n)
  | .fn _ caps => V.clos n caps
  | .ifc _ v => V.clo n v
  | .agg l => V.clos n l
  | .tup l => V.clos n l
  | _ => true
def V.clos (n : Nat) : List V → Bool
  | [] => true
  | v :: l => V.clo n v && V.clos n l
def V.closs (n : Nat) : List (List V) → Bool
  | [] => true
  | r :: l => V.clos n r && V.closs n l
end
def VObj.clo (n : Nat) : VObj → Bool
  | .cells l _ => V.clos n l
  | .map l => l.all fun p => V.clo n p.2
def cloH (S S1 : VH) : Prop := ∀ i, i < S.next → S1.get i = S.get i ∨ ∀ o, S1.get i = some o → o.clo S.next = true
def cloF (n : Nat) (f : VFr) : Bool := f.all fun p => V.clo n p.2

def VS.top (st : VS) : VS := ⟨st.f, st.w.noCell, st.h⟩
abbrev VRes := Option (AEx × VS)
open Classical in
noncomputable def roundV (S : VH) (r : VRes) : VRes := match r with
  | some (.norm, st) => if cloH S st.h ∧ cloF S.next st.f = true then some (.norm, ⟨st.f, noCellNew S.next st.w, VH.trim S st.h⟩) else some (.norm, st)
  | r => r
def loopNV (step : VS → VRes) : Nat → VS → VRes
  | 0, _ => none
  | k + 1, s => match step s with
    | none => none
    | some (.norm, s') => loopNV step k s'
    | some (e, s') => some (e, s')
def seqV (r : VRes) (k : VS → VRes) : VRes := match r with
  | none => none
  | some (.norm, s) => k s
  | some (e, s) => some (e, s)
def blockV (id : Nat) (r : VRes) : VRes := match r with
  | none => none
  | some (.exit j, s) => if j = id then some (.norm, s) else some (.exit j, s)
  | some (e, s) => some (e, s)
def condV (c : Option V) (a b : VRes) : VRes := match c with
  | some (.bool true) => a
  | some (.bool false) => b
  | _ => none
noncomputable def vexec (E : Env) (Fl : Flags) (O : VOracle) (n : Nat) : ACode → VS → VRes
  | .skip, st => some (.norm, st)
  | .reg ops, st => (opsV E Fl O ops st).map fun s => (.norm, s)
  | .dreg ops, st => (dregV E Fl O ops ops st).map fun s => (.norm, s)
  | .keep l c, st => vexec E Fl O n c ⟨VFr.keep st.f l, Rts.keep st.w l, st.h⟩
  | .seq a b, st => seqV (vexec E Fl O n a st) (vexec E Fl O n b)
  | .cond c a b, st => condV (evV st.f c) (vexec E Fl O n a st) (vexec E Fl O n b st)
  | .block id b, st => blockV id (vexec E Fl O n b st)
  | .loop b, st => loopNV (fun s => roundV s.h (vexec E Fl O n b s.top)) n st
  | .exit id, st => some (.exit id, st)
  | .ret, st => some (.ret, st)
  | .bad, _ => none
def resV (st : VS) : List ARes → Option (List V)
  | [] => some []
  | .tmp t :: l => (VFr.get st.f t).bind fun v => (resV st l).map (v :: ·)
  | .cell t n ag :: l => (VFr.get st.f t).bind fun p => (loadV st.h n ag p).bind fun v => (resV st l).map (v :: ·)
def tupV : List V → V
  | [v] => v
  | l => .tup l
def tmpOf : ARes → Option Nat
  | .tmp t => some t
  | _ => none
def resR (w : Rts) (l : List ARes) : List Nat := if (l.filterMap tmpOf).Nodup then (List.range l.length).filter fun j => match (l[j]?).bind tmpOf with
  | some t => w.contains (t, .own)
  | none => false else []
def rtsR (Fl : Flags) (f : Nat) (F : AFun) (w : Rts) (l : List V) : List Nat := if Fl.ret f then (match l with
  | [.lst _ _] => resR w F.res
  | [_] => []
  | _ => resR w F.res) else []
def frV (args : List V) : VFr := args.zipIdx.map fun p => (p.2, p.1)
def frzV (n : Nat) (S : VH) : V → V
  | .sl none sz _ _ => .lst sz []
  | .sl (some (i, off)) sz len cap => if i < n then .sl (some (i, off)) sz len cap else match S.get i with
    | some (.cells l _) => if off + len * sz ≤ l.length then .lst sz (rowsOf sz len (l.drop off)) else .sl (some (i, off)) sz len cap
    | _ => .sl (some (i, off)) sz len cap
  | v => v
open Classical in
noncomputable def endV (Fl : Flags) (f : Nat) (F : AFun) (S : VH) (r : VRes) : Option (V × List Nat × VH) :=
  match r with
  | some (.exit _, _) => none
  | some (_, st) => (resV st F.res).bind fun l =>
      if Fl.made f then some (tupV l, rtsR Fl f F st.w l, st.h)
      else if Fl.frz f then (if cloH S st.h ∧ V.clo S.next (tupV (l.map (frzV S.next st.h))) = true then some (tupV (l.map (frzV S.next st.h)), [], VH.trim S st.h) else none)
      else if cloH S st.h ∧ V.clo S.next (tupV l) = true then some (tupV l, rtsR Fl f F st.w l, VH.trim S st.h) else none
  | none => none
noncomputable def vfun (E : Env) (Fl : Flags) (O : VOracle) (n : Nat) (f : Nat) (F : AFun) (args : List V) (rs : List Nat) (S : VH) : Option (V × List Nat × VH) :=
  if args.length = F.np then endV Fl f F S (vexec E Fl O n F.body ⟨frV args, rs.map fun k => (k, .own), S⟩) else none
inductive VDef where
  | code (F : AFun)
  | prim (p : List V → VH → Option (V × VH))
structure VTab where
  E : Env
  Fl : Flags
  fn : Nat → Option VDef
noncomputable def vcallN (T : VTab) : Nat → VOracle
  | 0, _, _, _, _ => none
  | n + 1, f, args, rs, S => match T.fn f with
    | none => none
    | some (.prim p) => (p args S).map fun r => (r.1, [], r.2)
    | some (.code F) => vfun T.E T.Fl (vcallN T n) n f F args rs S
noncomputable def VCall (T : VTab) : VOracle := fun f args rs S => Lim fun n => vcallN T n f args rs S
noncomputable def loopV (step : VS → VRes) (s : VS) : VRes := Lim fun n => loopNV step n s
noncomputable def execV (E : Env) (Fl : Flags) (O : VOracle) : ACode → VS → VRes
  | .skip, st => some (.norm, st)
  | .reg ops, st => (opsV E Fl O ops st).map fun s => (.norm, s)
  | .dreg ops, st => (dregV E Fl O ops ops st).map fun s => (.norm, s)
  | .keep l c, st => execV E Fl O c ⟨VFr.keep st.f l, Rts.keep st.w l, st.h⟩
  | .seq a b, st => seqV (execV E Fl O a st) (execV E Fl O b)
  | .cond c a b, st => condV (evV st.f c) (execV E Fl O a st) (execV E Fl O b st)
  | .block id b, st => blockV id (execV E Fl O b st)
  | .loop b, st => loopV (fun s => roundV s.h (execV E Fl O b s.top)) st
  | .exit id, st => some (.exit id, st)
  | .ret, st => some (.ret, st)
  | .bad, _ => none
noncomputable def vfunL (T : VTab) (f : Nat) (F : AFun) (args : List V) (rs : List Nat) (S : VH) : Option (V × List Nat × VH) :=
  if args.length = F.np then endV T.Fl f F S (execV T.E T.Fl (VCall T) F.body ⟨frV args, rs.map fun k => (k, .own), S⟩) else none
end Go.Proofs.YtbpgbhmibmcbnaaGreatDoor.Val

/-! The second machine's runs without a bound as limits. -/
namespace Go.Proofs.YtbpgbhmibmcbnaaGreatDoor.Val
open Go Go.Proofs.YtbpgbhmibmcbnaaGreatDoor.Ram

def VLe (O O' : VOracle) : Prop := ∀ f vs rs S r, O f vs rs S = some r → O' f vs rs S = some r
theorem callR_mono {Fl : Flags} {O O' : VOracle} (h : VLe O O') {st : VS} {d : Option Nat} {f : Nat} {args : List Opd} {vs : List V} {r : VS} (hr : callR Fl O st d f args vs = some r) : callR Fl O' st d f args vs = some r := by
  unfold callR at hr ⊢
  simp only [Option.map_eq_some_iff] at hr ⊢
  obtain ⟨x, hx, e⟩ := hr
  exact ⟨x, h _ _ _ _ _ hx, e⟩
theorem actV_mono {Fl : Flags} {O O' : VOracle} (h : VLe O O') {st : VS} {d : Option Nat} {op : AOp} {r : VS} (hr : actV Fl O st d op = some r) : actV Fl O' st d op = some r := by
  cases op with
  | callF f args =>
    simp only [actV, Option.bind_eq_some_iff] at hr ⊢
    obtain ⟨vs, hv, hx⟩ := hr
    exact ⟨vs, hv, callR_mono h hx⟩
  | callV x args =>
    simp only [actV, Option.bind_eq_some_iff] at hr ⊢
    obtain ⟨c, hc, hx⟩ := hr
    refine ⟨c, hc, ?_⟩
    split at hx
    · split at hx
      · rename_i hl
        try dsimp only
        rw [if_pos hl]
        simp only [Option.bind_eq_some_iff] at hx ⊢
        obtain ⟨vs, hv, hx⟩ := hx
        exact ⟨vs, hv, callR_mono h hx⟩
      · cases hx
    · cases hx
  | _ => simpa only [actV] using hr
theorem opV_mono {E : Env} {Fl : Flags} {O O' : VOracle} (h : VLe O O') {st : VS} {d : Option Nat} {op : AOp} {r : VS} (hr : opV E Fl O st d op = some r) : opV E Fl O' st d op = some r := by
  unfold opV at hr ⊢
  split at hr
  · rename_i hp; rw [if_pos hp]; exact hr
  · rename_i hp
    rw [if_neg hp]
    split at hr
    · rename_i hq; rw [if_pos hq]; exact hr
    · rename_i hq; rw [if_neg hq]; exact actV_mono h hr
theorem stepV_mono {E : Env} {Fl : Flags} {O O' : VOracle} (h : VLe O O') {o : AOper} {st r : VS} (hr : stepV E Fl O o st = some r) : stepV E Fl O' o st = some r := by
  unfold stepV at hr ⊢
  split at hr
  · cases hr
  · exact hr
  · exact opV_mono h hr
theorem opsV_mono {E : Env} {Fl : Flags} {O O' : VOracle} (h : VLe O O') {l : List AOper} : ∀ {st r : VS}, opsV E Fl O l st = some r → opsV E Fl O' l st = some r := by
  induction l with
  | nil => intro st r hr; exact hr
  | cons o l ih =>
    intro st r hr
    simp only [opsV, Option.bind_eq_some_iff] at hr ⊢
    obtain ⟨x, hx, hr⟩ := hr
    exact ⟨x, stepV_mono h hx, ih hr⟩
theorem dregV_mono {E : Env} {Fl : Flags} {O O' : VOracle} (h : VLe O O') {all l : List DOp} : ∀ {st r : VS}, dregV E Fl O all l st = some r → dregV E Fl O' all l st = some r := by
  induction l with
  | nil => intro st r hr; exact hr
  | cons o l ih =>
    intro st r hr
    simp only [dregV] at hr ⊢
    split at hr
    · simp only [Option.bind_eq_some_iff] at hr ⊢
      obtain ⟨x, hx, hr⟩ := hr
      refine ⟨x, stepV_mono h hx, ?_⟩
      split at hr
      · rename_i hc; rw [if_pos hc]; exact ih hr
      · cases hr
    · simp only [Option.bind_eq_some_iff] at hr ⊢
      obtain ⟨x, hx, hr⟩ := hr
      refine ⟨x, stepV_mono h hx, ?_⟩
      split at hr
      · rename_i hc; rw [if_pos hc]; exact ih hr
      · cases hr
theorem loopNV_mono {s s' : VS → VRes} (h : ∀ st r, s st = some r → s' st = some r) : ∀ {n m : Nat} {st : VS} {r : AEx × VS}, n ≤ m → loopNV s n st = some r → loopNV s' m st = some r := by
  intro n
  induction n with
  | zero => intro m st r _ hr; cases hr
  | succ n ih =>
    intro m st r hm hr
    obtain ⟨m, rfl⟩ : ∃ k, m = k + 1 := ⟨m - 1, by omega⟩
    simp only [loopNV] at hr ⊢
    cases hs : s st with
    | none => rw [hs] at hr; cases hr
    | some p =>
      rw [hs] at hr; rw [h _ _ hs]
      obtain ⟨e, s1⟩ := p
      cases e with
      | norm => exact ih (by omega) hr
      | exit i => exact hr
      | ret => exact hr
theorem seqV_some {r : VRes} {k : VS → VRes} {x : AEx × VS} : seqV r k = some x ↔ (∃ s, r = some (.norm, s) ∧ k s = some x) ∨ (r = some x ∧ ∀ s, x ≠ (.norm, s)) := by
  unfold seqV
  split
  · simp
  · rename_i s
    constructor
    · intro h; exact .inl ⟨s, rfl, h⟩
    · rintro (⟨s', h, h2⟩ | ⟨h, h2⟩)
      · cases h; exact h2
      · cases h; exact absurd rfl (h2 s)
  · rename_i e s hne
    constructor
    · intro h; cases h; exact .inr ⟨rfl, fun s' h => by cases h; exact hne rfl⟩
    · rintro (⟨s', h, h2⟩ | ⟨h, _⟩)
      · cases h; exact absurd rfl hne
      · exact h
theorem round_mono {S : VH} {x y : VRes} (h : ∀ r, x = some r → y = some r) {r : AEx × VS} (hr : roundV S x = some r) : roundV S y = some r := by
  cases x with
  | none => cases hr
  | some p => rw [h p rfl]; exact hr
theorem vexec_mono {E : Env} {Fl : Flags} {O O' : VOracle} (h : VLe O O') {n m : Nat} (hm : n ≤ m) {c : ACode} : ∀ {st : VS} {r : AEx × VS}, vexec E Fl O n c st = some r → vexec E Fl O' m c st = some r := by
  induction c with
  | skip => intro st r hr; exact hr
  | reg ops => intro st r hr; simp only [vexec, Option.map_eq_some_iff] at hr ⊢; obtain ⟨x, hx, e⟩ := hr; exact ⟨x, opsV_mono h hx, e⟩
  | dreg ops => intro st r hr; simp only [vexec, Option.map_eq_some_iff] at hr ⊢; obtain ⟨x, hx, e⟩ := hr; exact ⟨x, dregV_mono h hx, e⟩
  | keep l c ih => intro st r hr; simp only [vexec] at hr ⊢; exact ih hr
  | seq a b iha ihb =>
    intro st r hr
    simp only [vexec] at hr ⊢
    rw [seqV_some] at hr ⊢
    rcases hr with ⟨s, h1, h2⟩ | ⟨h1, h2⟩
    · exact .inl ⟨s, iha h1, ihb h2⟩
    · exact .inr ⟨iha h1, h2⟩
  | cond c a b iha ihb =>
    intro st r hr
    simp only [vexec, condV] at hr ⊢
    split at hr
    · exact iha hr
    · exact ihb hr
    · cases hr
  | block id b ih =>
    intro st r hr
    simp only [vexec] at hr ⊢
    cases hs : vexec E Fl O n b st with
    | none => rw [hs] at hr; cases hr
    | some p => rw [hs] at hr; rw [ih hs]; exact hr
  | loop b ih =>
    intro st r hr
    simp only [vexec] at hr ⊢
    exact loopNV_mono (fun st r hr => round_mono (fun r h => ih h) hr) hm hr
  | exit id => intro st r hr; exact hr
  | ret => intro st r hr; exact hr
  | bad => intro st r hr; cases hr
theorem endV_mono {Fl : Flags} {f : Nat} {F : AFun} {S : VH} {x y : VRes} (h : ∀ r, x = some r → y = some r) {r : V × List Nat × VH} (hr : endV Fl f F S x = some r) : endV Fl f F S y = some r := by
  cases x with
  | none => cases hr
  | some p => rw [h p rfl]; exact hr
theorem vfun_mono {E : Env} {Fl : Flags} {O O' : VOracle} (h : VLe O O') {n m : Nat} (hm : n ≤ m) {f : Nat} {F : AFun} {args : List V} {rs : List Nat} {S : VH} {r : V × List Nat × VH} (hr : vfun E Fl O n f F args rs S = some r) : vfun E Fl O' m f F args rs S = some r := by
  unfold vfun at hr ⊢
  split at hr
  · rename_i hl
    rw [if_pos hl]
    exact endV_mono (fun r h' => vexec_mono h hm h') hr
  · cases hr
theorem vcallN_mono (T : VTab) : ∀ n, VLe (vcallN T n) (vcallN T (n + 1)) := by
  intro n
  induction n with
  | zero => intro f vs rs S r hr; cases hr
  | succ n ih =>
    intro f vs rs S r hr
    unfold vcallN at hr ⊢
    cases hd : T.fn f with
    | none => rw [hd] at hr; exact hr
    | some d =>
      rw [hd] at hr
      cases d with
      | prim p => exact hr
      | code F => exact vfun_mono ih (Nat.le_succ n) hr
theorem vcallN_le (T : VTab) {n m : Nat} (hm : n ≤ m) : VLe (vcallN T n) (vcallN T m) := by
  intro f vs rs S r hr
  exact Mono.le (g := fun n => vcallN T n f vs rs S) (fun n r h => vcallN_mono T n f vs rs S r h) hr hm
theorem VCall_iff {T : VTab} {f : Nat} {vs : List V} {rs : List Nat} {S : VH} {r : V × List Nat × VH} : VCall T f vs rs S = some r ↔ ∃ n, vcallN T n f vs rs S = some r :=
  Mono.lim (fun n r h => vcallN_mono T n f vs rs S r h)
theorem vcallN_VCall (T : VTab) (n : Nat) : VLe (vcallN T n) (VCall T) := fun _ _ _ _ _ h => VCall_iff.2 ⟨n, h⟩

/-! ### what the limits answer, some finite run answers -/
theorem callR_fin {T : VTab} {st : VS} {d : Option Nat} {f : Nat} {args : List Opd} {vs : List V} {r : VS} (hr : callR T.Fl (VCall T) st d f args vs = some r) : ∃ n, callR T.Fl (vcallN T n) st d f args vs = some r := by
  unfold callR at hr
  simp only [Option.map_eq_some_iff] at hr
  obtain ⟨x, hx, e⟩ := hr
  obtain ⟨n, hn⟩ := VCall_iff.1 hx
  exact ⟨n, by unfold callR; simp only [Option.map_eq_some_iff]; exact ⟨x, hn, e⟩⟩
theorem act_finV {T : VTab} {st : VS} {d : Option Nat} {op : AOp} {r : VS} (hr : actV T.Fl (VCall T) st d op = some r) : ∃ n, actV T.Fl (vcallN T n) st d op = some r := by
  cases op with
  | callF f args =>
    simp only [actV, Option.bind_eq_some_iff] at hr ⊢
    obtain ⟨vs, hv, hx⟩ := hr
    obtain ⟨n, hn⟩ := callR_fin hx
    exact ⟨n, vs, hv, hn⟩
  | callV x args =>
    simp only [actV, Option.bind_eq_some_iff] at hr ⊢
    obtain ⟨c, hc, hx⟩ := hr
    split at hx
    · split at hx
      · rename_i f caps hl
        simp only [Option.bind_eq_some_iff] at hx
        obtain ⟨vs, hv, hx⟩ := hx
        obtain ⟨n, hn⟩ := callR_fin hx
        exact ⟨n, .fn f caps, hc, by (try dsimp only); rw [if_pos hl]; simp only [Option.bind_eq_some_iff]; exact ⟨vs, hv, hn⟩⟩
      · cases hx
    · cases hx
  | _ => exact ⟨0, by simpa only [actV] using hr⟩
theorem op_finV {T : VTab} {E : Env} {st : VS} {d : Option Nat} {op : AOp} {r : VS} (hr : opV E T.Fl (VCall T) st d op = some r) : ∃ n, opV E T.Fl (vcallN T n) st d op = some r := by
  unfold opV at hr ⊢
  split at hr
  · rename_i hp; exact ⟨0, by rw [if_pos hp]; exact hr⟩
  · rename_i hp
    split at hr
    · rename_i hq; exact ⟨0, by rw [if_neg hp, if_pos hq]; exact hr⟩
    · rename_i hq
      obtain ⟨n, hn⟩ := act_finV hr
      exact ⟨n, by rw [if_neg hp, if_neg hq]; exact hn⟩
theorem step_finV {T : VTab} {E : Env} {o : AOper} {st r : VS} (hr : stepV E T.Fl (VCall T) o st = some r) : ∃ n, stepV E T.Fl (vcallN T n) o st = some r := by
  unfold stepV at hr ⊢
  split at hr
  · cases hr
  · exact ⟨0, hr⟩
  · exact op_finV hr
theorem ops_finV {T : VTab} {E : Env} {l : List AOper} : ∀ {st r : VS}, opsV E T.Fl (VCall T) l st = some r → ∃ n, opsV E T.Fl (vcallN T n) l st = some r := by
  induction l with
  | nil => intro st r hr; exact ⟨0, hr⟩
  | cons o l ih =>
    intro st r hr
    simp only [opsV, Option.bind_eq_some_iff] at hr ⊢
    obtain ⟨x, hx, hr⟩ := hr
    obtain ⟨n, hn⟩ := step_finV hx
    obtain ⟨n', hn'⟩ := ih hr
    exact ⟨max n n', x, stepV_mono (vcallN_le T (Nat.le_max_left _ _)) hn, opsV_mono (vcallN_le T (Nat.le_max_right _ _)) hn'⟩
theorem dreg_finV {T : VTab} {E : Env} {all l : List DOp} : ∀ {st r : VS}, dregV E T.Fl (VCall T) all l st = some r → ∃ n, dregV E T.Fl (vcallN T n) all l st = some r := by
  induction l with
  | nil => intro st r hr; exact ⟨0, hr⟩
  | cons o l ih =>
    intro st r hr
    simp only [dregV] at hr ⊢
    split at hr
    · simp only [Option.bind_eq_some_iff] at hr ⊢
      obtain ⟨x, hx, hr⟩ := hr
      obtain ⟨n, hn⟩ := step_finV hx
      split at hr
      · rename_i hc
        obtain ⟨n', hn'⟩ := ih hr
        exact ⟨max n n', x, stepV_mono (vcallN_le T (Nat.le_max_left _ _)) hn, by rw [if_pos hc]; exact dregV_mono (vcallN_le T (Nat.le_max_right _ _)) hn'⟩
      · cases hr
    · simp only [Option.bind_eq_some_iff] at hr ⊢
      obtain ⟨x, hx, hr⟩ := hr
      obtain ⟨n, hn⟩ := step_finV hx
      split at hr
      · rename_i hc
        obtain ⟨n', hn'⟩ := ih hr
        exact ⟨max n n', x, stepV_mono (vcallN_le T (Nat.le_max_left _ _)) hn, by rw [if_pos hc]; exact dregV_mono (vcallN_le T (Nat.le_max_right _ _)) hn'⟩
      · cases hr
theorem loopNV_Mono (s : VS → VRes) (st : VS) : Mono fun n => loopNV s n st := fun n _ h => loopNV_mono (fun _ _ h => h) (Nat.le_succ n) h
theorem exec_finV {T : VTab} {E : Env} {c : ACode} : ∀ {st : VS} {r : AEx × VS}, execV E T.Fl (VCall T) c st = some r → ∃ n, vexec E T.Fl (vcallN T n) n c st = some r := by
  induction c with
  | skip => intro st r hr; exact ⟨0, hr⟩
  | reg ops =>
    intro st r hr
    simp only [execV, vexec, Option.map_eq_some_iff] at hr ⊢
    obtain ⟨x, hx, e⟩ := hr
    obtain ⟨n, hn⟩ := ops_finV hx
    exact ⟨n, x, hn, e⟩
  | dreg ops =>
    intro st r hr
    simp only [execV, vexec, Option.map_eq_some_iff] at hr ⊢
    obtain ⟨x, hx, e⟩ := hr
    obtain ⟨n, hn⟩ := dreg_finV hx
    exact ⟨n, x, hn, e⟩
  | keep l c ih => intro st r hr; simp only [execV, vexec] at hr ⊢; exact ih hr
  | seq a b iha ihb =>
    intro st r hr
    simp only [execV, vexec] at hr ⊢
    rw [seqV_some] at hr
    rcases hr with ⟨s, h1, h2⟩ | ⟨h1, h2⟩
    · obtain ⟨n, hn⟩ := iha h1
      obtain ⟨n', hn'⟩ := ihb h2
      exact ⟨max n n', seqV_some.2 (.inl ⟨s, vexec_mono (vcallN_le T (Nat.le_max_left _ _)) (Nat.le_max_left _ _) hn, vexec_mono (vcallN_le T (Nat.le_max_right _ _)) (Nat.le_max_right _ _) hn'⟩)⟩
    · obtain ⟨n, hn⟩ := iha h1
      exact ⟨n, seqV_some.2 (.inr ⟨hn, h2⟩)⟩
  | cond c a b iha ihb =>
    intro st r hr
    simp only [execV, vexec, condV] at hr ⊢
    split at hr
    · exact iha hr
    · exact ihb hr
    · cases hr
  | block id b ih =>
    intro st r hr
    simp only [execV, vexec] at hr ⊢
    cases hs : execV E T.Fl (VCall T) b st with
    | none => rw [hs] at hr; cases hr
    | some p =>
      rw [hs] at hr
      obtain ⟨n, hn⟩ := ih hs
      exact ⟨n, by rw [hn]; exact hr⟩
  | loop b ih =>
    intro st r hr
    simp only [execV, vexec] at hr ⊢
    obtain ⟨k, hk⟩ := (loopNV_Mono _ _).lim.1 hr
    clear hr
    have key : ∀ k st, loopNV (fun s => roundV s.h (execV E T.Fl (VCall T) b s.top)) k st = some r → ∃ n, loopNV (fun s => roundV s.h (vexec E T.Fl (vcallN T n) n b s.top)) n st = some r := by
      intro k
      induction k with
      | zero => intro st h; cases h
      | succ k ihk =>
        intro st h
        simp only [loopNV] at h
        cases hs : execV E T.Fl (VCall T) b st.top with
        | none => rw [hs] at h; cases h
        | some p =>
          rw [hs] at h
          obtain ⟨n, hn⟩ := ih hs
          cases hq : roundV st.h (some p) with
          | none => rw [hq] at h; cases h
          | some q =>
            rw [hq] at h
            have up : ∀ m, n ≤ m → roundV st.h (vexec E T.Fl (vcallN T m) m b st.top) = some q := fun m hm => by
              rw [vexec_mono (vcallN_le T hm) hm hn]; exact hq
            obtain ⟨e, s1⟩ := q
            cases e with
            | norm =>
              obtain ⟨n', hn'⟩ := ihk s1 h
              refine ⟨max n n' + 1, ?_⟩
              simp only [loopNV]
              rw [up _ (by omega)]
              exact loopNV_mono (fun st r hr => round_mono (fun r h => vexec_mono (vcallN_le T (by omega : n' ≤ max n n' + 1)) (by omega : n' ≤ max n n' + 1) h) hr) (by omega) hn'
            | exit i =>
              refine ⟨n + 1, ?_⟩
              simp only [loopNV]
              rw [up _ (by omega)]
              exact h
            | ret =>
              refine ⟨n + 1, ?_⟩
              simp only [loopNV]
              rw [up _ (by omega)]
              exact h
    exact key k st hk
  | bad => intro st r hr; cases hr
  | exit id => intro st r hr; exact ⟨0, hr⟩
  | ret => intro st r hr; exact ⟨0, hr⟩
theorem exec_upV {T : VTab} {E : Env} {n : Nat} {c : ACode} : ∀ {st : VS} {r : AEx × VS}, vexec E T.Fl (vcallN T n) n c st = some r → execV E T.Fl (VCall T) c st = some r := by
  induction c with
  | skip => intro st r hr; exact hr
  | reg ops => intro st r hr; simp only [execV, vexec, Option.map_eq_some_iff] at hr ⊢; obtain ⟨x, hx, e⟩ := hr; exact ⟨x, opsV_mono (vcallN_VCall T n) hx, e⟩
  | dreg ops => intro st r hr; simp only [execV, vexec, Option.map_eq_some_iff] at hr ⊢; obtain ⟨x, hx, e⟩ := hr; exact ⟨x, dregV_mono (vcallN_VCall T n) hx, e⟩
  | keep l c ih => intro st r hr; simp only [execV, vexec] at hr ⊢; exact ih hr
  | seq a b iha ihb =>
    intro st r hr
    simp only [execV, vexec] at hr ⊢
    rw [seqV_some] at hr ⊢
    rcases hr with ⟨s, h1, h2⟩ | ⟨h1, h2⟩
    · exact .inl ⟨s, iha h1, ihb h2⟩
    · exact .inr ⟨iha h1, h2⟩
  | cond c a b iha ihb =>
    intro st r hr
    simp only [execV, vexec, condV] at hr ⊢
    split at hr
    · exact iha hr
    · exact ihb hr
    · cases hr
  | block id b ih =>
    intro st r hr
    simp only [execV, vexec] at hr ⊢
    cases hs : vexec E T.Fl (vcallN T n) n b st with
    | none => rw [hs] at hr; cases hr
    | some p => rw [hs] at hr; rw [ih hs]; exact hr
  | loop b ih =>
    intro st r hr
    simp only [execV, vexec] at hr ⊢
    exact (loopNV_Mono _ _).lim.2 ⟨n, loopNV_mono (fun st r hr => round_mono (fun r h => ih h) hr) (Nat.le_refl n) hr⟩
  | exit id => intro st r hr; exact hr
  | ret => intro st r hr; exact hr
  | bad => intro st r hr; cases hr

theorem VCall_code {T : VTab} {f : Nat} {F : AFun} (hf : T.fn f = some (.code F)) (args : List V) (rs : List Nat) (S : VH) : VCall T f args rs S = vfunL T f F args rs S := by
  apply Option.ext
  intro r
  rw [show (VCall T f args rs S = some r) = (∃ n, vcallN T n f args rs S = some r) from propext VCall_iff]
  constructor
  · rintro ⟨n, hn⟩
    cases n with
    | zero => cases hn
    | succ n =>
      unfold vcallN at hn
      rw [hf] at hn
      unfold vfunL
      simp only [vfun] at hn
      split at hn
      · rename_i hl
        rw [if_pos hl]
        exact endV_mono (fun r h => exec_upV h) hn
      · cases hn
  · intro h
    unfold vfunL at h
    split at h
    · rename_i hl
      cases hs : execV T.E T.Fl (VCall T) F.body ⟨frV args, rs.map fun k => (k, .own), S⟩ with
      | none => rw [hs] at h; cases h
      | some p =>
        rw [hs] at h
        obtain ⟨n, hn⟩ := exec_finV hs
        refine ⟨n + 1, ?_⟩
        unfold vcallN
        rw [hf]
        simp only [vfun]
        rw [if_pos hl, hn]
        exact h
    · cases h
theorem VCall_prim {T : VTab} {f : Nat} {p : List V → VH → Option (V × VH)} (hf : T.fn f = some (.prim p)) (args : List V) (rs : List Nat) (S : VH) : VCall T f args rs S = (p args S).map fun r => (r.1, [], r.2) := by
  apply Option.ext
  intro r
  rw [show (VCall T f args rs S = some r) = (∃ n, vcallN T n f args rs S = some r) from propext VCall_iff]
  constructor
  · rintro ⟨n, hn⟩
    cases n with
    | zero => cases hn
    | succ n => unfold vcallN at hn; rw [hf] at hn; exact hn
  · intro h
    exact ⟨1, by unfold vcallN; rw [hf]; exact h⟩
theorem loopV_eq (step : VS → VRes) (s : VS) : loopV step s = seqV (step s) (loopV step) := by
  apply Option.ext
  intro r
  rw [show (loopV step s = some r) = (∃ n, loopNV step n s = some r) from propext (loopNV_Mono step s).lim]
  constructor
  · rintro ⟨n, hn⟩
    cases n with
    | zero => cases hn
    | succ n =>
      simp only [loopNV] at hn
      unfold seqV
      split at hn
      · cases hn
      · rename_i s' hs; exact (loopNV_Mono step s').lim.2 ⟨n, hn⟩
      · exact hn
  · intro h
    rw [seqV_some] at h
    rcases h with ⟨s', h1, h2⟩ | ⟨h1, h2⟩
    · obtain ⟨n, hn⟩ := (loopNV_Mono step s').lim.1 h2
      exact ⟨n + 1, by simp only [loopNV]; rw [h1]; exact hn⟩
    · refine ⟨1, ?_⟩
      simp only [loopNV]
      rw [h1]
      obtain ⟨e, s'⟩ := r
      cases e <;> first | rfl | exact absurd rfl (h2 s')
end Go.Proofs.YtbpgbhmibmcbnaaGreatDoor.Val

/-! How the second machine's values and states stand to the first one's. -/
namespace Go.Proofs.YtbpgbhmibmcbnaaGreatDoor.Val
open Go Go.Proofs.YtbpgbhmibmcbnaaGreatDoor.Ram

abbrev Fz := Nat → Option (List AV)
abbrev Bk := Nat → Option Nat

mutual
def VRel (φ : Bk) (G : Fz) : V → AV → Prop
  | .int k n, a => a = .int k n
  | .bool b, a => a = .bool b
  | .str s, a => a = .str s
  | .ptr none, a => a = .ptr none
  | .ptr (some (i, o)), a => ∃ r, φ i = some r ∧ a = .ptr (some (r, o))
  | .rptr row off, a => ∃ r o pre, G r = some pre ∧ a = .ptr (some (r, o + off)) ∧ VRels φ G row ((pre.drop o).take row.length)
  | .lst sz rows, a => (rows = [] ∧ ∃ s c, a = .sl none s 0 c) ∨ ∃ r o c pre, a = .sl (some (r, o)) sz rows.length c ∧ G r = some pre ∧ o + rows.length * sz ≤ pre.length ∧ RowsRel φ G sz rows (pre.drop o)
  | .sl none _ n _, a => n = 0 ∧ ∃ s c, a = .sl none s 0 c
  | .sl (some (i, o)) sz len cap, a => ∃ r, φ i = some r ∧ a = .sl (some (r, o)) sz len cap
  | .map none, a => a = .map none
  | .map (some i), a => ∃ r, φ i = some r ∧ a = .map (some r)
  | .fn f caps, a => ∃ cs, a = .fn f cs ∧ VRels φ G caps cs
  | .nilFn, a => a = .nilFn
  | .nilI, a => a = .nilI
  | .und, a => a = .und
  | .ifc t v, a => ∃ b, a = .ifc t b ∧ VRel φ G v b
  | .agg l, a => ∃ cs, a = .agg cs ∧ VRels φ G l cs
  | .tup l, a => ∃ cs, a = .tup cs ∧ VRels φ G l cs
  | .raw b o, a => a = .raw b o
def VRels (φ : Bk) (G : Fz) : List V → List AV → Prop
  | [], cs => cs = []
  | v :: l, cs => ∃ a r, cs = a :: r ∧ VRel φ G v a ∧ VRels φ G l r
def RowsRel (φ : Bk) (G : Fz) (sz : Nat) : List (List V) → List AV → Prop
  | [], _ => True
  | r :: rows, cs => r.length = sz ∧ VRels φ G r (cs.take sz) ∧ RowsRel φ G sz rows (cs.drop sz)
end
def FzLe (G G' : Fz) : Prop := ∀ r pre, G r = some pre → ∃ pre', G' r = some pre' ∧ pre <+: pre'
def BkLe (φ φ' : Bk) : Prop := ∀ i r, φ i = some r → φ' i = some r
theorem FzLe.refl (G : Fz) : FzLe G G := fun _ pre h => ⟨pre, h, List.prefix_refl _⟩
theorem FzLe.trans {G G1 G2 : Fz} (h : FzLe G G1) (k : FzLe G1 G2) : FzLe G G2 := fun r pre hp => by
  obtain ⟨p1, h1, h2⟩ := h r pre hp
  obtain ⟨p2, h3, h4⟩ := k r p1 h1
  exact ⟨p2, h3, h2.trans h4⟩
theorem BkLe.refl (φ : Bk) : BkLe φ φ := fun _ _ h => h
theorem BkLe.trans {φ φ1 φ2 : Bk} (h : BkLe φ φ1) (k : BkLe φ1 φ2) : BkLe φ φ2 := fun i r hi => k i r (h i r hi)
section
variable {φ φ' : Bk} {G G' : Fz}

theorem VRels.length : ∀ {l : List V} {cs : List AV}, VRels φ G l cs → cs.length = l.length
  | [], _, h => by simp only [VRels] at h; subst h; rfl
  | _ :: l, _, h => by
    simp only [VRels] at h
    obtain ⟨a, r, rfl, _, h3⟩ := h
    simp [VRels.length h3]
theorem take_prefix {pre pre' : List AV} (h : pre <+: pre') {o n : Nat} (hl : o + n ≤ pre.length) : (pre'.drop o).take n = (pre.drop o).take n := by
  obtain ⟨t, rfl⟩ := h
  rw [List.drop_append_of_le_length (by omega), List.take_append_of_le_length (by simp; omega)]
theorem take_prefix0 {cs cs' : List AV} (h : cs <+: cs') {n : Nat} (hl : n ≤ cs.length) : cs'.take n = cs.take n := by
  have := take_prefix h (o := 0) (n := n) (by omega)
  simpa using this
theorem drop_prefix {cs cs' : List AV} (h : cs <+: cs') (n : Nat) (hl : n ≤ cs.length) : cs.drop n <+: cs'.drop n := by
  obtain ⟨t, rfl⟩ := h
  exact ⟨t, by rw [List.drop_append_of_le_length hl]⟩
mutual
theorem VRel.mono (h1 : BkLe φ φ') (h2 : FzLe G G') : ∀ {v : V} {a : AV}, VRel φ G v a → VRel φ' G' v a
  | .int _ _, _, h => h
  | .bool _, _, h => h
  | .str _, _, h => h
  | .ptr none, _, h => h
  | .ptr (some (_, _)), _, h => by
    obtain ⟨r, h3, h4⟩ := (by simpa only [VRel] using h)
    simp only [VRel]; exact ⟨r, h1 _ _ h3, h4⟩
  | .rptr row off, _, h => by
    obtain ⟨r, o, pre, h3, h4, h5⟩ := (by simpa only [VRel] using h)
    obtain ⟨pre', h6, h7⟩ := h2 r pre h3
    simp only [VRel]
    refine ⟨r, o, pre', h6, h4, ?_⟩
    have hl := h5.length
    simp only [List.length_take, List.length_drop] at hl
    by_cases h0 : row.length = 0
    · rw [h0, List.take_zero]; rw [h0, List.take_zero] at h5; exact VRels.mono h1 h2 h5
    · rw [take_prefix h7 (by omega)]; exact VRels.mono h1 h2 h5
  | .lst sz rows, _, h => by
    simp only [VRel] at h ⊢
    rcases h with h | ⟨r, o, c, pre, h3, h4, h5, h6⟩
    · exact .inl h
    · obtain ⟨pre', h7, h8⟩ := h2 r pre h4
      refine .inr ⟨r, o, c, pre', h3, h7, by have := h8.length_le; omega, RowsRel.mono h1 h2 (drop_prefix h8 o (by omega)) ?_ h6⟩
      simp only [List.length_drop]; omega
  | .sl none _ _ _, _, h => h
  | .sl (some (_, _)) _ _ _, _, h => by
    obtain ⟨r, h3, h4⟩ := (by simpa only [VRel] using h)
    simp only [VRel]; exact ⟨r, h1 _ _ h3, h4⟩
  | .map none, _, h => h
  | .map (some _), _, h => by
    obtain ⟨r, h3, h4⟩ := (by simpa only [VRel] using h)
    simp only [VRel]; exact ⟨r, h1 _ _ h3, h4⟩
  | .fn _ _, _, h => by
    obtain ⟨cs, h3, h4⟩ := (by simpa only [VRel] using h)
    simp only [VRel]; exact ⟨cs, h3, VRels.mono h1 h2 h4⟩
  | .nilFn, _, h => h
  | .nilI, _, h => h
  | .und, _, h => h
  | .ifc _ _, _, h => by
    obtain ⟨b, h3, h4⟩ := (by simpa only [VRel] using h)
    simp only [VRel]; exact ⟨b, h3, VRel.mono h1 h2 h4⟩
  | .agg _, _, h => by
    obtain ⟨cs, h3, h4⟩ := (by simpa only [VRel] using h)
    simp only [VRel]; exact ⟨cs, h3, VRels.mono h1 h2 h4⟩
  | .tup _, _, h => by
    obtain ⟨cs, h3, h4⟩ := (by simpa only [VRel] using h)
    simp only [VRel]; exact ⟨cs, h3, VRels.mono h1 h2 h4⟩
  | .raw _ _, _, h => h
theorem VRels.mono (h1 : BkLe φ φ') (h2 : FzLe G G') : ∀ {l : List V} {cs : List AV}, VRels φ G l cs → VRels φ' G' l cs
  | [], _, h => h
  | _ :: _, _, h => by
    obtain ⟨a, r, h3, h4, h5⟩ := (by simpa only [VRels] using h)
    simp only [VRels]; exact ⟨a, r, h3, VRel.mono h1 h2 h4, VRels.mono h1 h2 h5⟩
theorem RowsRel.mono (h1 : BkLe φ φ') (h2 : FzLe G G') {sz : Nat} : ∀ {rows : List (List V)} {cs cs' : List AV}, cs <+: cs' → rows.length * sz ≤ cs.length → RowsRel φ G sz rows cs → RowsRel φ' G' sz rows cs'
  | [], _, _, _, _, _ => by simp only [RowsRel]
  | r :: rows, cs, cs', hp, hl, h => by
    simp only [RowsRel] at h ⊢
    obtain ⟨h3, h4, h5⟩ := h
    rw [List.length_cons, Nat.succ_mul] at hl
    exact ⟨h3, by rw [take_prefix0 hp (by omega)]; exact VRels.mono h1 h2 h4, RowsRel.mono h1 h2 (drop_prefix hp sz (by omega)) (by simp only [List.length_drop]; omega) h5⟩
end
-- Only the blocks that a value names matter.
mutual
theorem VRel.clo {n : Nat} (h1 : ∀ i r, i < 100 ∨ i < n → φ i = some r → φ' i = some r) : ∀ {v : V} {a : AV}, V.clo n v = true → VRel φ G v a → VRel φ' G v a
  | .int _ _, _, _, h => h
  | .bool _, _, _, h => h
  | .str _, _, _, h => h
  | .ptr none, _, _, h => h
  | .ptr (some (_, _)), _, hc, h => by
    obtain ⟨r, h3, h4⟩ := (by simpa only [VRel] using h)
    simp only [V.clo, Bool.or_eq_true, decide_eq_true_eq] at hc
    simp only [VRel]; exact ⟨r, h1 _ _ hc h3, h4⟩
  | .rptr row off, _, hc, h => by
    obtain ⟨r, o, pre, h3, h4, h5⟩ := (by simpa only [VRel] using h)
    simp only [V.clo] at hc
    simp only [VRel]
    exact ⟨r, o, pre, h3, h4, VRels.clo h1 hc h5⟩
  | .lst sz rows, _, hc, h => by
    simp only [VRel] at h ⊢
    simp only [V.clo] at hc
    rcases h with h | ⟨r, o, c, pre, h3, h4, h5, h6⟩
    · exact .inl h
    · exact .inr ⟨r, o, c, pre, h3, h4, h5, RowsRel.clo h1 hc h6⟩
  | .sl none _ _ _, _, _, h => h
  | .sl (some (_, _)) _ _ _, _, hc, h => by
    obtain ⟨r, h3, h4⟩ := (by simpa only [VRel] using h)
    simp only [V.clo, decide_eq_true_eq] at hc
    simp only [VRel]; exact ⟨r, h1 _ _ (.inr hc) h3, h4⟩
  | .map none, _, _, h => h
  | .map (some _), _, hc, h => by
    obtain ⟨r, h3, h4⟩ := (by simpa only [VRel] using h)
    simp only [V.clo, decide_eq_true_eq] at hc
    simp only [VRel]; exact ⟨r, h1 _ _ (.inr hc) h3, h4⟩
  | .fn _ _, _, hc, h => by
    obtain ⟨cs, h3, h4⟩ := (by simpa only [VRel] using h)
    simp only [V.clo] at hc
    simp only [VRel]; exact ⟨cs, h3, VRels.clo h1 hc h4⟩
  | .nilFn, _, _, h => h
  | .nilI, _, _, h => h
  | .und, _, _, h => h
  | .ifc _ _, _, hc, h => by
    obtain ⟨b, h3, h4⟩ := (by simpa only [VRel] using h)
    simp only [V.clo] at hc
    simp only [VRel]; exact ⟨b, h3, VRel.clo h1 hc h4⟩
  | .agg _, _, hc, h => by
    obtain ⟨cs, h3, h4⟩ := (by simpa only [VRel] using h)
    simp only [V.clo] at hc
    simp only [VRel]; exact ⟨cs, h3, VRels.clo h1 hc h4⟩
  | .tup _, _, hc, h => by
    obtain ⟨cs, h3, h4⟩ := (by simpa only [VRel] using h)
    simp only [V.clo] at hc
    simp only [VRel]; exact ⟨cs, h3, VRels.clo h1 hc h4⟩
  | .raw _ _, _, _, h => h
theorem VRels.clo {n : Nat} (h1 : ∀ i r, i < 100 ∨ i < n → φ i = some r → φ' i = some r) : ∀ {l : List V} {cs : List AV}, V.clos n l = true → VRels φ G l cs → VRels φ' G l cs
  | [], _, _, h => h
  | _ :: _, _, hc, h => by
    obtain ⟨a, r, h3, h4, h5⟩ := (by simpa only [VRels] using h)
    simp only [V.clos, Bool.and_eq_true] at hc
    simp only [VRels]; exact ⟨a, r, h3, VRel.clo h1 hc.1 h4, VRels.clo h1 hc.2 h5⟩
theorem RowsRel.clo {n : Nat} (h1 : ∀ i r, i < 100 ∨ i < n → φ i = some r → φ' i = some r) {sz : Nat} : ∀ {rows : List (List V)} {cs : List AV}, V.closs n rows = true → RowsRel φ G sz rows cs → RowsRel φ' G sz rows cs
  | [], _, _, _ => by simp only [RowsRel]
  | r :: rows, cs, hc, h => by
    simp only [RowsRel] at h ⊢
    simp only [V.closs, Bool.and_eq_true] at hc
    obtain ⟨h3, h4, h5⟩ := h
    exact ⟨h3, VRels.clo h1 hc.1 h4, RowsRel.clo h1 hc.2 h5⟩
end
-- What is known of the blocks holds of the blocks that values name.
mutual
theorem VRel.clo_of {n : Nat} (h1 : ∀ i r, φ i = some r → i < n) : ∀ {v : V} {a : AV}, VRel φ G v a → V.clo n v = true
  | .int _ _, _, _ => rfl
  | .bool _, _, _ => rfl
  | .str _, _, _ => rfl
  | .ptr none, _, _ => rfl
  | .ptr (some (_, _)), _, h => by
    obtain ⟨r, h3, h4⟩ := (by simpa only [VRel] using h)
    simp only [V.clo, Bool.or_eq_true, decide_eq_true_eq]; exact .inr (h1 _ _ h3)
  | .rptr row off, _, h => by
    obtain ⟨r, o, pre, h3, h4, h5⟩ := (by simpa only [VRel] using h)
    simp only [V.clo]; exact VRels.clo_of h1 h5
  | .lst sz rows, _, h => by
    simp only [VRel] at h
    simp only [V.clo]
    rcases h with ⟨rfl, _⟩ | ⟨r, o, c, pre, h3, h4, h5, h6⟩
    · rfl
    · exact RowsRel.clo_of h1 h6
  | .sl none _ _ _, _, _ => rfl
  | .sl (some (_, _)) _ _ _, _, h => by
    obtain ⟨r, h3, h4⟩ := (by simpa only [VRel] using h)
    simp only [V.clo, decide_eq_true_eq]; exact h1 _ _ h3
  | .map none, _, _ => rfl
  | .map (some _), _, h => by
    obtain ⟨r, h3, h4⟩ := (by simpa only [VRel] using h)
    simp only [V.clo, decide_eq_true_eq]; exact h1 _ _ h3
  | .fn _ _, _, h => by
    obtain ⟨cs, h3, h4⟩ := (by simpa only [VRel] using h)
    simp only [V.clo]; exact VRels.clo_of h1 h4
  | .nilFn, _, _ => rfl
  | .nilI, _, _ => rfl
  | .und, _, _ => rfl
  | .ifc _ _, _, h => by
    obtain ⟨b, h3, h4⟩ := (by simpa only [VRel] using h)
    simp only [V.clo]; exact VRel.clo_of h1 h4
  | .agg _, _, h => by
    obtain ⟨cs, h3, h4⟩ := (by simpa only [VRel] using h)
    simp only [V.clo]; exact VRels.clo_of h1 h4
  | .tup _, _, h => by
    obtain ⟨cs, h3, h4⟩ := (by simpa only [VRel] using h)
    simp only [V.clo]; exact VRels.clo_of h1 h4
  | .raw _ _, _, _ => rfl
theorem VRels.clo_of {n : Nat} (h1 : ∀ i r, φ i = some r → i < n) : ∀ {l : List V} {cs : List AV}, VRels φ G l cs → V.clos n l = true
  | [], _, _ => rfl
  | _ :: _, _, h => by
    obtain ⟨a, r, h3, h4, h5⟩ := (by simpa only [VRels] using h)
    simp only [V.clos, Bool.and_eq_true]; exact ⟨VRel.clo_of h1 h4, VRels.clo_of h1 h5⟩
theorem RowsRel.clo_of {n : Nat} (h1 : ∀ i r, φ i = some r → i < n) {sz : Nat} : ∀ {rows : List (List V)} {cs : List AV}, RowsRel φ G sz rows cs → V.closs n rows = true
  | [], _, _ => rfl
  | r :: rows, cs, h => by
    simp only [RowsRel] at h
    simp only [V.closs, Bool.and_eq_true]
    exact ⟨VRels.clo_of h1 h.2.1, RowsRel.clo_of h1 h.2.2⟩
end
theorem VRels.get : ∀ {l : List V} {cs : List AV} {j : Nat} {v : V}, VRels φ G l cs → l[j]? = some v → ∃ a, cs[j]? = some a ∧ VRel φ G v a
  | [], _, _, _, _, h => by simp at h
  | x :: l, _, 0, v, h, hv => by
    simp only [VRels] at h
    obtain ⟨a, r, rfl, h2, _⟩ := h
    simp at hv; subst hv
    exact ⟨a, rfl, h2⟩
  | x :: l, _, j + 1, v, h, hv => by
    simp only [VRels] at h
    obtain ⟨a, r, rfl, _, h3⟩ := h
    simp at hv
    obtain ⟨b, h4, h5⟩ := VRels.get h3 hv
    exact ⟨b, by simpa using h4, h5⟩
theorem VRels.append : ∀ {l l' : List V} {cs cs' : List AV}, VRels φ G l cs → VRels φ G l' cs' → VRels φ G (l ++ l') (cs ++ cs')
  | [], _, _, _, h, h' => by simp only [VRels] at h; subst h; exact h'
  | _ :: _, _, _, _, h, h' => by
    simp only [VRels] at h
    obtain ⟨a, r, rfl, h2, h3⟩ := h
    simp only [List.cons_append, VRels]
    exact ⟨a, _, rfl, h2, VRels.append h3 h'⟩
theorem VRels.drop : ∀ {l : List V} {cs : List AV} (k : Nat), VRels φ G l cs → VRels φ G (l.drop k) (cs.drop k)
  | [], _, k, h => by simp only [VRels] at h; subst h; simp [VRels]
  | _ :: _, _, 0, h => h
  | _ :: _, _, k + 1, h => by
    simp only [VRels] at h
    obtain ⟨a, r, rfl, _, h3⟩ := h
    exact VRels.drop k h3
theorem VRels.take : ∀ {l : List V} {cs : List AV} (k : Nat), VRels φ G l cs → VRels φ G (l.take k) (cs.take k)
  | [], _, k, h => by simp only [VRels] at h; subst h; simp [VRels]
  | _ :: _, _, 0, h => by simp [VRels]
  | _ :: _, _, k + 1, h => by
    simp only [VRels] at h
    obtain ⟨a, r, rfl, h2, h3⟩ := h
    simp only [List.take_succ_cons, VRels]
    exact ⟨a, _, rfl, h2, VRels.take k h3⟩
theorem RowsRel.get {sz : Nat} : ∀ {rows : List (List V)} {cs : List AV} {j : Nat} {r : List V}, RowsRel φ G sz rows cs → rows[j]? = some r → r.length = sz ∧ VRels φ G r ((cs.drop (j * sz)).take sz)
  | [], _, _, _, _, h => by simp at h
  | x :: rows, cs, 0, r, h, hr => by
    simp only [RowsRel] at h
    simp at hr; subst hr
    exact ⟨h.1, by simpa using h.2.1⟩
  | x :: rows, cs, j + 1, r, h, hr => by
    simp only [RowsRel] at h
    simp at hr
    obtain ⟨h1, h2⟩ := RowsRel.get h.2.2 hr
    refine ⟨h1, ?_⟩
    rw [List.drop_drop] at h2
    rw [show (j + 1) * sz = sz + j * sz by rw [Nat.succ_mul]; omega]
    exact h2
theorem RowsRel.drop {sz : Nat} : ∀ {rows : List (List V)} {cs : List AV} (k : Nat), RowsRel φ G sz rows cs → RowsRel φ G sz (rows.drop k) (cs.drop (k * sz))
  | rows, cs, 0, h => by simpa using h
  | [], cs, k + 1, h => by simp [RowsRel]
  | x :: rows, cs, k + 1, h => by
    simp only [RowsRel] at h
    have := RowsRel.drop k h.2.2
    rw [List.drop_drop] at this
    rw [List.drop_succ_cons, show (k + 1) * sz = sz + k * sz by rw [Nat.succ_mul]; omega]
    exact this
theorem RowsRel.take {sz : Nat} : ∀ {rows : List (List V)} {cs : List AV} (k : Nat), RowsRel φ G sz rows cs → RowsRel φ G sz (rows.take k) cs
  | rows, cs, 0, h => by simp [RowsRel]
  | [], cs, k + 1, h => by simp [RowsRel]
  | x :: rows, cs, k + 1, h => by
    simp only [RowsRel] at h
    simp only [List.take_succ_cons, RowsRel]
    exact ⟨h.1, h.2.1, RowsRel.take k h.2.2⟩
theorem RowsRel.append {sz : Nat} : ∀ {rows rows' : List (List V)} {cs cs' : List AV}, RowsRel φ G sz rows cs → cs.length = rows.length * sz → RowsRel φ G sz rows' cs' → RowsRel φ G sz (rows ++ rows') (cs ++ cs')
  | [], _, cs, _, h, hl, h' => by
    simp at hl; subst hl; exact h'
  | x :: rows, _, cs, cs', h, hl, h' => by
    simp only [RowsRel] at h
    rw [List.length_cons, Nat.succ_mul] at hl
    simp only [List.cons_append, RowsRel]
    refine ⟨h.1, ?_, ?_⟩
    · rw [List.take_append_of_le_length (by omega)]; exact h.2.1
    · rw [List.drop_append_of_le_length (by omega)]
      exact RowsRel.append h.2.2 (by simp only [List.length_drop]; omega) h'
theorem RowsRel.cells {sz : Nat} : ∀ {rows : List (List V)} {cs : List AV}, RowsRel φ G sz rows cs → rows.length * sz ≤ cs.length → VRels φ G rows.flatten (cs.take (rows.length * sz))
  | [], cs, h, hl => by simp [VRels]
  | x :: rows, cs, h, hl => by
    simp only [RowsRel] at h
    rw [List.length_cons, Nat.succ_mul] at hl ⊢
    have h3 := RowsRel.cells h.2.2 (by simp only [List.length_drop]; omega)
    rw [List.flatten_cons, show rows.length * sz + sz = sz + rows.length * sz by omega, List.take_add]
    exact h.2.1.append h3
theorem VRel.one {v : V} {a : AV} (h : VRel φ G v a) : oneCell a = oneV v := by
  cases v with
  | ptr p => cases p with
    | none => simp only [VRel] at h; subst h; rfl
    | some q => obtain ⟨i, o⟩ := q; simp only [VRel] at h; obtain ⟨r, _, rfl⟩ := h; rfl
  | map p => cases p with
    | none => simp only [VRel] at h; subst h; rfl
    | some q => simp only [VRel] at h; obtain ⟨r, _, rfl⟩ := h; rfl
  | rptr r o => simp only [VRel] at h; obtain ⟨_, _, _, _, rfl, _⟩ := h; rfl
  | lst sz rows => simp only [VRel] at h; rcases h with ⟨_, _, _, rfl⟩ | ⟨_, _, _, _, rfl, _⟩ <;> rfl
  | sl p sz len c => cases p with
    | none => simp only [VRel] at h; obtain ⟨_, _, _, rfl⟩ := h; rfl
    | some q => obtain ⟨i, o⟩ := q; simp only [VRel] at h; obtain ⟨r, _, rfl⟩ := h; rfl
  | fn f l => simp only [VRel] at h; obtain ⟨_, rfl, _⟩ := h; rfl
  | ifc t v => simp only [VRel] at h; obtain ⟨_, rfl, _⟩ := h; rfl
  | agg l => simp only [VRel] at h; obtain ⟨_, rfl, _⟩ := h; rfl
  | tup l => simp only [VRel] at h; obtain ⟨_, rfl, _⟩ := h; rfl
  | int k n => simp only [VRel] at h; subst h; rfl
  | bool b => simp only [VRel] at h; subst h; rfl
  | str s => simp only [VRel] at h; subst h; rfl
  | nilFn => simp only [VRel] at h; subst h; rfl
  | nilI => simp only [VRel] at h; subst h; rfl
  | und => simp only [VRel] at h; subst h; rfl
  | raw b o => simp only [VRel] at h; subst h; rfl
theorem VRels.one : ∀ {l : List V} {cs : List AV}, VRels φ G l cs → cs.all oneCell = l.all oneV
  | [], _, h => by simp only [VRels] at h; subst h; rfl
  | _ :: _, _, h => by
    simp only [VRels] at h
    obtain ⟨a, r, rfl, h2, h3⟩ := h
    simp only [List.all_cons, h2.one, VRels.one h3]
theorem VRel.cells {v : V} {a : AV} (h : VRel φ G v a) : VRels φ G (cellsV v) (cellsOf a) := by
  have base : ∀ {v : V} {a : AV}, VRel φ G v a → VRels φ G [v] [a] := fun h => by simp only [VRels]; exact ⟨_, _, rfl, h, rfl⟩
  cases v with
  | agg l => simp only [VRel] at h; obtain ⟨_, rfl, h⟩ := h; exact h
  | ptr p =>
    have := base h
    cases p with
    | none => simp only [VRel] at h; subst h; exact this
    | some q => obtain ⟨i, o⟩ := q; simp only [VRel] at h; obtain ⟨r, _, rfl⟩ := h; exact this
  | map p =>
    have := base h
    cases p with
    | none => simp only [VRel] at h; subst h; exact this
    | some q => simp only [VRel] at h; obtain ⟨r, _, rfl⟩ := h; exact this
  | rptr r o => have := base h; simp only [VRel] at h; obtain ⟨_, _, _, _, rfl, _⟩ := h; exact this
  | lst sz rows => have := base h; simp only [VRel] at h; rcases h with ⟨_, _, _, rfl⟩ | ⟨_, _, _, _, rfl, _⟩ <;> exact this
  | sl p sz len c =>
    have := base h
    cases p with
    | none => simp only [VRel] at h; obtain ⟨_, _, _, rfl⟩ := h; exact this
    | some q => obtain ⟨i, o⟩ := q; simp only [VRel] at h; obtain ⟨r, _, rfl⟩ := h; exact this
  | fn f l => have := base h; simp only [VRel] at h; obtain ⟨_, rfl, _⟩ := h; exact this
  | ifc t v => have := base h; simp only [VRel] at h; obtain ⟨_, rfl, _⟩ := h; exact this
  | tup l => have := base h; simp only [VRel] at h; obtain ⟨_, rfl, _⟩ := h; exact this
  | int k n => have := base h; simp only [VRel] at h; subst h; exact this
  | bool b => have := base h; simp only [VRel] at h; subst h; exact this
  | str s => have := base h; simp only [VRel] at h; subst h; exact this
  | nilFn => have := base h; simp only [VRel] at h; subst h; exact this
  | nilI => have := base h; simp only [VRel] at h; subst h; exact this
  | und => have := base h; simp only [VRel] at h; subst h; exact this
  | raw b o => have := base h; simp only [VRel] at h; subst h; exact this
mutual
theorem VRel.rigid : ∀ {v : V} {a b : AV}, rigid v = true → VRel φ G v a → VRel φ' G' v b → BkLe φ φ' → a = b
  | .int _ _, _, _, _, h, k, _ => by simp only [VRel] at h k; rw [h, k]
  | .bool _, _, _, _, h, k, _ => by simp only [VRel] at h k; rw [h, k]
  | .str _, _, _, _, h, k, _ => by simp only [VRel] at h k; rw [h, k]
  | .ptr none, _, _, _, h, k, _ => by simp only [VRel] at h k; rw [h, k]
  | .ptr (some (_, _)), _, _, _, h, k, hb => by
    simp only [VRel] at h k
    obtain ⟨r, h1, rfl⟩ := h
    obtain ⟨r', h2, rfl⟩ := k
    rw [hb _ _ h1] at h2
    obtain rfl := Option.some.inj h2
    rfl
  | .map none, _, _, _, h, k, _ => by simp only [VRel] at h k; rw [h, k]
  | .map (some _), _, _, _, h, k, hb => by
    simp only [VRel] at h k
    obtain ⟨r, h1, rfl⟩ := h
    obtain ⟨r', h2, rfl⟩ := k
    rw [hb _ _ h1] at h2
    obtain rfl := Option.some.inj h2
    rfl
  | .nilI, _, _, _, h, k, _ => by simp only [VRel] at h k; rw [h, k]
  | .nilFn, _, _, _, h, k, _ => by simp only [VRel] at h k; rw [h, k]
  | .ifc _ v, _, _, hr, h, k, hb => by
    simp only [VRel] at h k
    obtain ⟨a, rfl, h1⟩ := h
    obtain ⟨b, rfl, h2⟩ := k
    rw [VRel.rigid (by simpa only [Val.rigid] using hr) h1 h2 hb]
  | .rptr _ _, _, _, hr, _, _, _ => by cases hr
  | .lst _ _, _, _, hr, _, _, _ => by cases hr
  | .sl _ _ _ _, _, _, hr, _, _, _ => by cases hr
  | .fn _ _, _, _, hr, _, _, _ => by cases hr
  | .und, _, _, hr, _, _, _ => by cases hr
  | .agg l, _, _, hr, h, k, hb => by
    simp only [VRel] at h k
    obtain ⟨cs, rfl, h1⟩ := h
    obtain ⟨cs', rfl, h2⟩ := k
    rw [VRels.rigid (by simpa only [Val.rigid] using hr) h1 h2 hb]
  | .tup _, _, _, hr, _, _, _ => by cases hr
theorem VRels.rigid : ∀ {l : List V} {cs cs' : List AV}, rigids l = true → VRels φ G l cs → VRels φ' G' l cs' → BkLe φ φ' → cs = cs'
  | [], _, _, _, h, k, _ => by simp only [VRels] at h k; rw [h, k]
  | _ :: _, _, _, hr, h, k, hb => by
    simp only [VRels] at h k
    simp only [rigids, Bool.and_eq_true] at hr
    obtain ⟨a, r, rfl, h1, h2⟩ := h
    obtain ⟨a', r', rfl, k1, k2⟩ := k
    rw [VRel.rigid hr.1 h1 k1 hb, VRels.rigid hr.2 h2 k2 hb]
end
mutual
theorem ofAV_rel : ∀ {a : AV} {v : V}, ofAV a = some v → VRel φ G v a
  | .int _ _, _, h => by simp only [ofAV, Option.some.injEq] at h; subst h; simp [VRel]
  | .bool _, _, h => by simp only [ofAV, Option.some.injEq] at h; subst h; simp [VRel]
  | .str _, _, h => by simp only [ofAV, Option.some.injEq] at h; subst h; simp [VRel]
  | .ptr none, _, h => by simp only [ofAV, Option.some.injEq] at h; subst h; simp [VRel]
  | .ptr (some _), _, h => by simp only [ofAV] at h; cases h
  | .sl none sz 0 (some c), _, h => by simp only [ofAV, Option.some.injEq] at h; subst h; simp [VRel]
  | .sl none sz 0 none, _, h => by simp only [ofAV, Option.some.injEq] at h; subst h; simp [VRel]
  | .sl none _ (_ + 1) _, _, h => by simp only [ofAV] at h; cases h
  | .sl (some _) _ _ _, _, h => by simp only [ofAV] at h; cases h
  | .map none, _, h => by simp only [ofAV, Option.some.injEq] at h; subst h; simp [VRel]
  | .map (some _), _, h => by simp only [ofAV] at h; cases h
  | .fn _ _, _, h => by simp only [ofAV] at h; cases h
  | .nilFn, _, h => by simp only [ofAV, Option.some.injEq] at h; subst h; simp [VRel]
  | .nilI, _, h => by simp only [ofAV, Option.some.injEq] at h; subst h; simp [VRel]
  | .und, _, h => by simp only [ofAV] at h; cases h
  | .ifc _ a, _, h => by
    simp only [ofAV, Option.map_eq_some_iff] at h
    obtain ⟨v, h1, rfl⟩ := h
    simp only [VRel]; exact ⟨_, rfl, ofAV_rel h1⟩
  | .agg l, _, h => by
    simp only [ofAV, Option.map_eq_some_iff] at h
    obtain ⟨v, h1, rfl⟩ := h
    simp only [VRel]; exact ⟨_, rfl, ofAVs_rel h1⟩
  | .tup _, _, h => by simp only [ofAV] at h; cases h
theorem ofAVs_rel : ∀ {l : List AV} {vs : List V}, ofAVs l = some vs → VRels φ G vs l
  | [], _, h => by simp only [ofAVs, Option.some.injEq] at h; subst h; simp [VRels]
  | a :: l, _, h => by
    simp only [ofAVs, Option.bind_eq_some_iff, Option.map_eq_some_iff] at h
    obtain ⟨v, h1, vs, h2, rfl⟩ := h
    simp only [VRels]; exact ⟨_, _, rfl, ofAV_rel h1, ofAVs_rel h2⟩
end
end
end Go.Proofs.YtbpgbhmibmcbnaaGreatDoor.Val

/-! States; what asks nothing of memory. -/
namespace Go.Proofs.YtbpgbhmibmcbnaaGreatDoor.Val
open Go Go.Proofs.YtbpgbhmibmcbnaaGreatDoor.Ram

inductive Rt where
  | slot (n : Nat)
  | part (n j : Nat)
  | cell (i off : Nat)
def Rt.off (d : Nat) : Rt → Prop
  | .slot n => n ≠ d
  | .part n _ => n ≠ d
  | .cell _ _ => True
def Has (st : VS) : Rt → Prop
  | .slot n => (n, Tag.own) ∈ st.w
  | .part n j => (n, Tag.comp j) ∈ st.w
  | .cell i off => ownAt st.h i off = true
def Pt (o : Option AV) (l : List AV) (a : AV) : Prop := o = some (.tup l) ∨ (o = some (.agg l) ∧ ∃ s c, a = .sl none s 0 c)
theorem Pt.uniq {o : Option AV} {l l' : List AV} {a a' : AV} (h : Pt o l a) (k : Pt o l' a') : l = l' := by
  rcases h with h | ⟨h, _⟩ <;> rcases k with k | ⟨k, _⟩ <;> (rw [h] at k; first | (cases k; rfl) | cases k)
def At (fr : Fr) (H : AH) (φ : Bk) : Rt → AV → Prop
  | .slot n, a => Fr.get fr n = some a
  | .part n j, a => ∃ l, Pt (Fr.get fr n) l a ∧ l[j]? = some a
  | .cell i off, a => ∃ r cs ro, φ i = some r ∧ H.get r = some (.cells cs ro) ∧ cs[off]? = some a
def headId : AV → Option Nat
  | .sl (some (r, _)) _ _ _ => some r
  | _ => none
def Can (G : Fz) (H : AH) (W : Nat → Prop) (a : AV) : Prop :=
  (∃ s c, a = .sl none s 0 c) ∨ ∃ r o sz len c pre, a = .sl (some (r, o)) sz len c ∧ W r ∧ G r = some pre ∧ pre.length = o + len * sz ∧
    (c = none → H.tip r = true ∧ H.get r = some (.cells pre true)) ∧ ∀ d, c = some d → len ≤ d ∧ ∃ l, H.get r = some (.cells l false) ∧ pre <+: l ∧ o + d * sz ≤ l.length
inductive MapV (φ : Bk) (G : Fz) : List (List UInt8 × V) → List (List UInt8 × AV) → Prop where
  | nil : MapV φ G [] []
  | cons {s : List UInt8} {v : V} {a : AV} {l : List (List UInt8 × V)} {l' : List (List UInt8 × AV)} (hv : VRel φ G v a) (h : MapV φ G l l') : MapV φ G ((s, v) :: l) ((s, a) :: l')
theorem MapV.mono {φ φ' : Bk} {G G' : Fz} (h1 : BkLe φ φ') (h2 : FzLe G G') {l : List (List UInt8 × V)} {l' : List (List UInt8 × AV)} (h : MapV φ G l l') : MapV φ' G' l l' := by
  induction h with
  | nil => exact .nil
  | cons hv _ ih => exact .cons (hv.mono h1 h2) ih
theorem MapV.clo {n : Nat} {φ φ' : Bk} {G : Fz} (h1 : ∀ i r, i < 100 ∨ i < n → φ i = some r → φ' i = some r) {l : List (List UInt8 × V)} {l' : List (List UInt8 × AV)} (h : MapV φ G l l') (hc : ∀ p ∈ l, V.clo n p.2 = true) : MapV φ' G l l' := by
  induction h with
  | nil => exact .nil
  | cons hv _ ih => exact .cons (hv.clo h1 (hc _ List.mem_cons_self)) (ih fun p hp => hc p (List.mem_cons_of_mem _ hp))
theorem MapV.clo_of {n : Nat} {φ : Bk} {G : Fz} (h1 : ∀ i r, φ i = some r → i < n) {l : List (List UInt8 × V)} {l' : List (List UInt8 × AV)} (h : MapV φ G l l') : ∀ p ∈ l, V.clo n p.2 = true := by
  induction h with
  | nil => intro p hp; cases hp
  | cons hv _ ih =>
    intro p hp
    rcases List.mem_cons.1 hp with rfl | hp
    · exact hv.clo_of h1
    · exact ih p hp
def ObjV (φ : Bk) (G : Fz) (H : AH) (r : Nat) : VObj → Prop
  | .cells l _ => ∃ cs, H.get r = some (.cells cs false) ∧ VRels φ G l cs
  | .map l => ∃ l', H.get r = some (.map l' false) ∧ MapV φ G l l'
structure Rel (φ : Bk) (G : Fz) (W : Nat → Prop) (st : VS) (fr : Fr) (H : AH) : Prop where
  slots : ∀ n v, VFr.get st.f n = some v → ∃ a, Fr.get fr n = some a ∧ VRel φ G v a
  objs : ∀ i o, st.h.get i = some o → i < st.h.next ∧ ∃ r, φ i = some r ∧ W r ∧ G r = none ∧ ObjV φ G H r o
  inj : ∀ i j r oi oj, st.h.get i = some oi → st.h.get j = some oj → φ i = some r → φ j = some r → i = j
  dom : ∀ i r, φ i = some r → i < st.h.next
  glob : ∀ g, g < 100 → φ g = some g
  n100 : 100 ≤ st.h.next ∧ 100 ≤ H.next
  fz : ∀ r pre, G r = some pre → r < H.next ∧ ∃ l ro, H.get r = some (.cells l ro) ∧ pre <+: l
  win : ∀ r, W r → r < H.next
  rt : ∀ R, Has st R → ∃ a, At fr H φ R a ∧ Can G H W a
  rtx : ∀ R R' a a' r, Has st R → Has st R' → At fr H φ R a → At fr H φ R' a' → headId a = some r → headId a' = some r → R = R'
  gl : ∀ i l, st.h.gl i = some l → i < 100 ∧ ∃ pre cs, G i = some pre ∧ cs <+: pre ∧ VRels φ G l cs
  alias : ∀ n i off, (n, Tag.cell i off) ∈ st.w → ownAt st.h i off = true → ∃ a, Fr.get fr n = some a ∧ At fr H φ (.cell i off) a
theorem gl_mono {φ φ' : Bk} {G G' : Fz} {g : Nat → Option (List V)} (hb : BkLe φ φ') (hg : FzLe G G') (h : ∀ i l, g i = some l → i < 100 ∧ ∃ pre cs, G i = some pre ∧ cs <+: pre ∧ VRels φ G l cs) : ∀ i l, g i = some l → i < 100 ∧ ∃ pre cs, G' i = some pre ∧ cs <+: pre ∧ VRels φ' G' l cs := fun i l hi => by
  obtain ⟨h1, pre, cs, h2, h3, h4⟩ := h i l hi
  obtain ⟨pre', h5, h6⟩ := hg _ _ h2
  exact ⟨h1, pre', cs, h5, h3.trans h6, h4.mono hb hg⟩
structure Frm (φ : Bk) (G : Fz) (W : Nat → Prop) (H : AH) (φ' : Bk) (G' : Fz) (W' : Nat → Prop) (H' : AH) : Prop where
  next : H.next ≤ H'.next
  phi : BkLe φ φ'
  fz : FzLe G G'
  out : ∀ r, r < H.next → ¬ W r → H'.get r = H.get r ∧ H'.tip r = H.tip r ∧ G' r = G r
  win : ∀ r, W' r → W r ∨ H.next ≤ r
theorem Frm.refl (φ : Bk) (G : Fz) (W : Nat → Prop) (H : AH) : Frm φ G W H φ G W H := ⟨Nat.le_refl _, BkLe.refl _, FzLe.refl _, fun _ _ _ => ⟨rfl, rfl, rfl⟩, fun _ h => .inl h⟩
theorem Frm.trans {φ φ1 φ2 : Bk} {G G1 G2 : Fz} {W W1 W2 : Nat → Prop} {H H1 H2 : AH} (h : Frm φ G W H φ1 G1 W1 H1) (k : Frm φ1 G1 W1 H1 φ2 G2 W2 H2) : Frm φ G W H φ2 G2 W2 H2 where
  next := Nat.le_trans h.next k.next
  phi := h.phi.trans k.phi
  fz := h.fz.trans k.fz
  out := fun r hr hw => by
    obtain ⟨h1, h2, h3⟩ := h.out r hr hw
    obtain ⟨k1, k2, k3⟩ := k.out r (Nat.lt_of_lt_of_le hr h.next) (fun hw1 => (h.win r hw1).elim hw (fun h4 => by omega))
    exact ⟨k1.trans h1, k2.trans h2, k3.trans h3⟩
  win := fun r hr => (k.win r hr).elim (fun h1 => h.win r h1) fun h1 => .inr (Nat.le_trans h.next h1)
section
variable {φ : Bk} {G : Fz} {W : Nat → Prop} {st : VS} {fr : Fr} {H : AH}

theorem Rel.ev (h : Rel φ G W st fr H) {x : Opd} {v : V} (hv : evV st.f x = some v) : ∃ a, x.ev fr = some a ∧ VRel φ G v a := by
  cases x with
  | t n => exact h.slots n v hv
  | c a => exact ⟨a, rfl, ofAV_rel hv⟩
  | g n =>
    simp only [evV] at hv
    split at hv
    · rename_i hn
      obtain rfl := Option.some.inj hv
      exact ⟨_, rfl, by simp only [VRel]; exact ⟨n, h.glob n hn, rfl⟩⟩
    · cases hv
  | f n => simp only [evV, Option.some.injEq] at hv; subst hv; exact ⟨_, rfl, by simp [VRel, VRels]⟩
theorem Rel.evs (h : Rel φ G W st fr H) : ∀ {l : List Opd} {vs : List V}, evsV st.f l = some vs → ∃ as', evs fr l = some as' ∧ VRels φ G vs as'
  | [], _, hv => by simp only [evsV, Option.some.injEq] at hv; subst hv; exact ⟨[], rfl, by simp [VRels]⟩
  | x :: l, _, hv => by
    simp only [evsV, Option.bind_eq_some_iff, Option.map_eq_some_iff] at hv
    obtain ⟨v, h1, vs, h2, rfl⟩ := hv
    obtain ⟨a, h3, h4⟩ := h.ev h1
    obtain ⟨bs, h5, h6⟩ := h.evs h2
    exact ⟨a :: bs, by simp [Ram.evs, h3, h5], by simp only [VRels]; exact ⟨a, bs, rfl, h4, h6⟩⟩
inductive PartsRel (φ : Bk) (G : Fz) : List (Nat × Nat × V) → List (Nat × Nat × AV) → Prop where
  | nil : PartsRel φ G [] []
  | cons {a b : Nat} {v : V} {x : AV} {l : List (Nat × Nat × V)} {l' : List (Nat × Nat × AV)} (hv : VRel φ G v x) (h : PartsRel φ G l l') : PartsRel φ G ((a, b, v) :: l) ((a, b, x) :: l')
theorem Rel.parts (h : Rel φ G W st fr H) : ∀ {l : List (Nat × Nat × Opd)} {ps : List (Nat × Nat × V)}, partsV st.f l = some ps → ∃ qs, evParts fr l = some qs ∧ PartsRel φ G ps qs
  | [], _, hv => by simp only [partsV, Option.some.injEq] at hv; subst hv; exact ⟨[], rfl, .nil⟩
  | (a, b, x) :: l, _, hv => by
    simp only [partsV, Option.bind_eq_some_iff, Option.map_eq_some_iff] at hv
    obtain ⟨v, h1, vs, h2, rfl⟩ := hv
    obtain ⟨y, h3, h4⟩ := h.ev h1
    obtain ⟨bs, h5, h6⟩ := h.parts h2
    exact ⟨(a, b, y) :: bs, by simp [evParts, h3, h5], .cons h4 h6⟩
theorem fill_rel {ps : List (Nat × Nat × V)} {qs : List (Nat × Nat × AV)} (hp : PartsRel φ G ps qs) : ∀ {z r : List V} {y : List AV}, VRels φ G z y → fillV z ps = some r → ∃ s, fillA y qs = some s ∧ VRels φ G r s := by
  induction hp with
  | nil => intro z r y hz h; simp only [fillV, Option.some.injEq] at h; subst h; exact ⟨y, rfl, hz⟩
  | cons hv _ ih =>
    intro z r y hz h
    simp only [fillV] at h
    split at h
    · rename_i hc
      have hcl := hv.cells.length
      obtain ⟨s, h1, h2⟩ := ih (((hz.take _).append hv.cells).append (hz.drop _)) h
      refine ⟨s, ?_, h2⟩
      simp only [fillA]
      rw [if_pos ⟨hcl.trans hc.1, by rw [hz.length]; exact hc.2.1, by rw [hv.cells.one]; exact hc.2.2⟩]
      exact h1
    · cases h
theorem scal_rel {v : V} {a b : AV} (hs : scal v = some b) (h : VRel φ G v a) : a = b := by
  cases v <;> simp only [scal, Option.some.injEq, reduceCtorEq] at hs <;> (subst hs; simpa only [VRel] using h)
theorem natV_rel {v : V} {a : AV} {n : Nat} (h : VRel φ G v a) (hn : natV v = some n) : natOf a = some n := by
  cases v <;> simp only [natV, reduceCtorEq] at hn
  simp only [VRel] at h; subst h; exact hn
def OptRel (φ : Bk) (G : Fz) : Option V → Option AV → Prop
  | none, none => True
  | some x, some y => VRel φ G x y
  | _, _ => False
theorem slc_rel {sz : Nat} {v w : V} {a : AV} {lo hi : Option V} {la ha : Option AV} (h : VRel φ G v a)
    (hlo : OptRel φ G lo la) (hhi : OptRel φ G hi ha) (hs : slcV sz v lo hi = some w) : ∃ b, slcA sz a la ha = some b ∧ VRel φ G w b := by
  have bnd : ∀ {d : Nat} {x : Option V} {y : Option AV} {n : Nat}, OptRel φ G x y → bndV d x = some n → bndA d y = some n := fun {d x y n} h1 h2 => by
    cases x <;> cases y <;> first | exact h1.elim | exact h2 | skip
    exact natV_rel h1 h2
  cases v <;> simp only [slcV, reduceCtorEq] at hs
  · rename_i s
    simp only [VRel] at h; subst h
    simp only [Option.bind_eq_some_iff] at hs
    obtain ⟨l, h1, u, h2, h3⟩ := hs
    split at h3
    · rename_i hc
      obtain rfl := Option.some.inj h3
      refine ⟨_, ?_, (by simp only [VRel]; rfl)⟩
      simp only [slcA, bnd hlo h1, bnd hhi h2, Option.bind_some]
      rw [if_pos hc]
    · cases h3
  · rename_i sz' rows
    simp only [Option.bind_eq_some_iff] at hs
    obtain ⟨l, h1, u, h2, h3⟩ := hs
    split at h3
    · rename_i hc
      obtain ⟨h0, rfl, hlu, hu⟩ := hc
      obtain rfl := Option.some.inj h3
      simp only [VRel] at h
      rcases h with ⟨rfl, s, c, rfl⟩ | ⟨r, o, c, pre, rfl, h4, h5, h6⟩
      · simp at hu
        obtain rfl : u = 0 := hu
        obtain rfl : l = 0 := by omega
        refine ⟨nilSl sz', ?_, ?_⟩
        · simp only [slcA, bnd hlo h1]
          have := bnd hhi h2
          simp only [List.length_nil] at this
          rw [this]
          simp [h0]
        · simp only [VRel, nilSl]; exact .inl ⟨by simp, _, _, rfl⟩
      · have hmul : u * sz' ≤ rows.length * sz' := Nat.mul_le_mul_right _ hu
        have hmul2 : l * sz' ≤ u * sz' := Nat.mul_le_mul_right _ hlu
        have hsub : (u - l) * sz' = u * sz' - l * sz' := Nat.sub_mul _ _ _
        refine ⟨.sl (some (r, o + l * sz')) sz' (u - l) (c.map (· - l)), ?_, ?_⟩
        · simp only [slcA, bnd hlo h1, bnd hhi h2, Option.bind_some]
          rw [if_pos ⟨h0, trivial, hlu, hu⟩]
        · simp only [VRel]
          have hlen : ((rows.take u).drop l).length = u - l := by simp; omega
          refine .inr ⟨r, o + l * sz', c.map (· - l), pre, by rw [hlen], h4, by rw [hlen]; omega, ?_⟩
          have := (h6.take u).drop l
          rw [List.drop_drop] at this
          exact this
    · cases h3
  · rename_i p sz' len cap
    cases p with
    | none =>
      simp only [Option.bind_eq_some_iff] at hs
      obtain ⟨l, h1, u, h2, h3⟩ := hs
      split at h3
      · rename_i hc
        obtain ⟨h0, rfl, rfl⟩ := hc
        obtain rfl := Option.some.inj h3
        simp only [VRel] at h
        obtain ⟨rfl, s, c, rfl⟩ := h
        refine ⟨nilSl sz, ?_, by simp only [VRel, nilSl]; exact ⟨trivial, _, _, rfl⟩⟩
        simp only [slcA, bnd hlo h1, bnd hhi h2, Option.bind_some]
        rw [if_pos ⟨h0, trivial, trivial⟩]
      · cases h3
    | some q =>
      obtain ⟨i, off⟩ := q
      simp only [Option.bind_eq_some_iff] at hs
      obtain ⟨l, h1, u, h2, h3⟩ := hs
      split at h3
      · rename_i hc
        obtain ⟨h0, rfl, hlu, hu⟩ := hc
        obtain rfl := Option.some.inj h3
        simp only [VRel] at h
        obtain ⟨r, h4, rfl⟩ := h
        refine ⟨.sl (some (r, off + l * sz')) sz' (u - l) (cap.map (· - l)), ?_, by simp only [VRel]; exact ⟨r, h4, rfl⟩⟩
        simp only [slcA, bnd hlo h1, bnd hhi h2, Option.bind_some]
        rw [if_pos ⟨h0, trivial, hlu, hu⟩]
      · cases h3
theorem oev_rel (h : Rel φ G W st fr H) {x : Option Opd} {l : Option V} (hv : oev st.f x = some l) : ∃ la : Option AV, OptRel φ G l la ∧ (match x with | none => la = none | some y => ∃ b, y.ev fr = some b ∧ la = some b) := by
  cases x with
  | none => simp only [oev, Option.some.injEq] at hv; subst hv; exact ⟨none, trivial, rfl⟩
  | some y =>
    simp only [oev, Option.map_eq_some_iff] at hv
    obtain ⟨v, h1, rfl⟩ := hv
    obtain ⟨a, h2, h3⟩ := h.ev h1
    exact ⟨some a, h3, a, h2, rfl⟩

theorem pure_rel (h : Rel φ G W st fr H) {op : AOp} (hp : op.isPure = true) {v : V} (hv : pureV st.f op = some v) : ∃ a, pureA fr op = some a ∧ VRel φ G v a := by
  cases op <;> first | (cases hp; done) | skip
  case mov x => exact h.ev hv
  case pick c a b =>
    simp only [pureV, pickV] at hv
    split at hv
    · rename_i hc
      obtain ⟨c', h1, h2⟩ := h.ev hc
      simp only [VRel] at h2; subst h2
      obtain ⟨a', h3, h4⟩ := h.ev hv
      exact ⟨a', by simp only [pureA, h1, h3], h4⟩
    · rename_i hc
      obtain ⟨c', h1, h2⟩ := h.ev hc
      simp only [VRel] at h2; subst h2
      obtain ⟨a', h3, h4⟩ := h.ev hv
      exact ⟨a', by simp only [pureA, h1, h3], h4⟩
    · cases hv
  case build zero parts =>
    simp only [pureV, Option.bind_eq_some_iff, Option.map_eq_some_iff] at hv
    obtain ⟨z, h1, ps, h2, l, h3, rfl⟩ := hv
    obtain ⟨qs, h4, h5⟩ := h.parts h2
    obtain ⟨s, h6, h7⟩ := fill_rel h5 (ofAVs_rel h1) h3
    exact ⟨.agg s, by simp [pureA, h4, h6], by simp only [VRel]; exact ⟨s, rfl, h7⟩⟩
  case nilchk x =>
    simp only [pureV, Option.bind_eq_some_iff] at hv
    obtain ⟨u, h1, h2⟩ := hv
    obtain ⟨a, h3, h4⟩ := h.ev h1
    cases u <;> simp only [nilchkV, reduceCtorEq] at h2
    · rename_i p
      cases p with
      | none => cases h2
      | some q =>
        obtain rfl := Option.some.inj h2
        obtain ⟨i, o⟩ := q
        have h5 := h4
        simp only [VRel] at h4
        obtain ⟨r, _, rfl⟩ := h4
        exact ⟨_, by simp only [pureA, h3], h5⟩
    · obtain rfl := Option.some.inj h2
      have h5 := h4
      simp only [VRel] at h4
      obtain ⟨r, o, pre, _, rfl, _⟩ := h4
      exact ⟨_, by simp only [pureA, h3], h5⟩
  case bin op x y =>
    simp only [pureV, Option.bind_eq_some_iff, binV] at hv
    obtain ⟨u, h1, w, h2, a, h3, b, h4, r, h5, h6⟩ := hv
    obtain ⟨a', k1, k2⟩ := h.ev h1
    obtain ⟨b', k3, k4⟩ := h.ev h2
    obtain rfl := scal_rel h3 k2
    obtain rfl := scal_rel h4 k4
    exact ⟨r, by simp [pureA, k1, k3, h5], ofAV_rel h6⟩
  case not x =>
    simp only [pureV, Option.bind_eq_some_iff] at hv
    obtain ⟨u, h1, h2⟩ := hv
    obtain ⟨a, h3, h4⟩ := h.ev h1
    cases u <;> simp only [notV, reduceCtorEq, Option.some.injEq] at h2
    subst h2
    simp only [VRel] at h4; subst h4
    refine ⟨_, ?_, (by simp only [VRel]; rfl)⟩
    simp only [pureA, h3]
  case neg x =>
    simp only [pureV, Option.bind_eq_some_iff] at hv
    obtain ⟨u, h1, h2⟩ := hv
    obtain ⟨a, h3, h4⟩ := h.ev h1
    cases u <;> simp only [negV, reduceCtorEq, Option.some.injEq] at h2
    subst h2
    simp only [VRel] at h4; subst h4
    refine ⟨_, ?_, (by simp only [VRel]; rfl)⟩
    simp only [pureA, h3]
  case conv k x =>
    simp only [pureV, Option.bind_eq_some_iff] at hv
    obtain ⟨u, h1, h2⟩ := hv
    obtain ⟨a, h3, h4⟩ := h.ev h1
    cases u <;> simp only [convV, reduceCtorEq, Option.some.injEq] at h2
    subst h2
    simp only [VRel] at h4; subst h4
    refine ⟨_, ?_, (by simp only [VRel]; rfl)⟩
    simp only [pureA, h3]
  case convS x =>
    simp only [pureV, Option.bind_eq_some_iff] at hv
    obtain ⟨u, h1, h2⟩ := hv
    obtain ⟨a, h3, h4⟩ := h.ev h1
    cases u <;> simp only [convSV, reduceCtorEq, Option.some.injEq] at h2
    subst h2
    simp only [VRel] at h4; subst h4
    refine ⟨_, ?_, (by simp only [VRel]; rfl)⟩
    simp only [pureA, h3]
  case mkIfc t x =>
    simp only [pureV, Option.map_eq_some_iff] at hv
    obtain ⟨u, h1, rfl⟩ := hv
    obtain ⟨a, h3, h4⟩ := h.ev h1
    exact ⟨.ifc t a, by simp [pureA, h3], by simp only [VRel]; exact ⟨a, rfl, h4⟩⟩
  case mkFn f caps =>
    simp only [pureV, Option.map_eq_some_iff] at hv
    obtain ⟨u, h1, rfl⟩ := hv
    obtain ⟨a, h3, h4⟩ := h.evs h1
    exact ⟨.fn f a, by simp [pureA, h3], by simp only [VRel]; exact ⟨a, rfl, h4⟩⟩
  case slc sz x lo hi =>
    simp only [pureV, Option.bind_eq_some_iff] at hv
    obtain ⟨u, h1, l, h2, m, h3, h4⟩ := hv
    obtain ⟨a, k1, k2⟩ := h.ev h1
    obtain ⟨la, k3, k4⟩ := oev_rel h h2
    obtain ⟨ha, k5, k6⟩ := oev_rel h h3
    obtain ⟨b, k7, k8⟩ := slc_rel k2 k3 k5 h4
    refine ⟨b, ?_, k8⟩
    simp only [pureA, k1, Option.bind_some]
    cases lo with
    | none =>
      obtain rfl := k4
      cases hi with
      | none => obtain rfl := k6; exact k7
      | some y => obtain ⟨c, k9, rfl⟩ := k6; simp only [k9, Option.bind_some]; exact k7
    | some z =>
      obtain ⟨e, k10, rfl⟩ := k4
      cases hi with
      | none => obtain rfl := k6; simp only [k10, Option.bind_some]; exact k7
      | some y => obtain ⟨c, k9, rfl⟩ := k6; simp only [k9, k10, Option.bind_some]; exact k7
  case fieldA off x =>
    simp only [pureV, Option.bind_eq_some_iff] at hv
    obtain ⟨u, h1, h2⟩ := hv
    obtain ⟨a, h3, h4⟩ := h.ev h1
    cases u <;> simp only [fieldAV, reduceCtorEq] at h2
    · rename_i p
      cases p with
      | none => cases h2
      | some q =>
        obtain ⟨i, o⟩ := q
        obtain rfl := Option.some.inj h2
        simp only [VRel] at h4
        obtain ⟨r, k1, rfl⟩ := h4
        refine ⟨.ptr (some (r, o + off)), ?_, (by simp only [VRel]; exact ⟨r, k1, rfl⟩)⟩
        simp only [pureA, h3]
    · obtain rfl := Option.some.inj h2
      simp only [VRel] at h4
      obtain ⟨r, o, pre, k1, rfl, k2⟩ := h4
      rename_i off'
      refine ⟨.ptr (some (r, o + off' + off)), ?_, (by simp only [VRel]; exact ⟨r, o, pre, k1, by rw [Nat.add_assoc], k2⟩)⟩
      simp only [pureA, h3]
  case field off n ag x =>
    simp only [pureV, Option.bind_eq_some_iff] at hv
    obtain ⟨u, h1, h2⟩ := hv
    obtain ⟨a, h3, h4⟩ := h.ev h1
    cases u <;> simp only [fieldV, reduceCtorEq] at h2
    rename_i l
    simp only [VRel] at h4
    obtain ⟨cs, rfl, h5⟩ := h4
    split at h2
    · rename_i hag
      split at h2
      · rename_i hle
        obtain rfl := Option.some.inj h2
        refine ⟨.agg ((cs.drop off).take n), by simp only [pureA, h3]; rw [if_pos hag, if_pos (by rw [h5.length]; exact hle)], by simp only [VRel]; exact ⟨_, rfl, (h5.drop off).take n⟩⟩
      · cases h2
    · rename_i hag
      obtain ⟨b, k1, k2⟩ := h5.get h2
      exact ⟨b, by simp only [pureA, h3]; rw [if_neg hag]; exact k1, k2⟩
  case indexA sz x i =>
    simp only [pureV, Option.bind_eq_some_iff] at hv
    obtain ⟨u, h1, w, h2, h3⟩ := hv
    obtain ⟨a, k1, k2⟩ := h.ev h1
    obtain ⟨b, k3, k4⟩ := h.ev h2
    unfold indexV at h3
    split at h3
    · rename_i sz' rows kk n
      split at h3
      · rename_i hc
        obtain ⟨rfl, h0⟩ := hc
        simp only [Option.map_eq_some_iff] at h3
        obtain ⟨row, h5, rfl⟩ := h3
        simp only [VRel] at k4; subst k4
        have hlt := (List.getElem?_eq_some_iff.1 h5).1
        simp only [VRel] at k2
        rcases k2 with ⟨rfl, _⟩ | ⟨r, o, c, pre, rfl, h6, h7, h8⟩
        · simp at h5
        · obtain ⟨h9, h10⟩ := h8.get h5
          refine ⟨.ptr (some (r, o + n.toNat * sz')), ?_, ?_⟩
          · simp only [pureA, k1, k3, Option.bind_some, indexAA]
            rw [if_pos ⟨trivial, h0, by omega⟩]
          · simp only [VRel]
            refine ⟨r, o + n.toNat * sz', pre, h6, rfl, ?_⟩
            rw [List.drop_drop] at h10
            rw [h9]; exact h10
      · cases h3
    · rename_i id off sz' len cap kk n
      split at h3
      · rename_i hc
        obtain ⟨rfl, h0, hn⟩ := hc
        obtain rfl := Option.some.inj h3
        simp only [VRel] at k4; subst k4
        simp only [VRel] at k2
        obtain ⟨r, h6, rfl⟩ := k2
        refine ⟨.ptr (some (r, off + n.toNat * sz')), ?_, by simp only [VRel]; exact ⟨r, h6, rfl⟩⟩
        simp only [pureA, k1, k3, Option.bind_some, indexAA]
        rw [if_pos ⟨trivial, h0, hn⟩]
      · cases h3
    · cases h3
  case index x i =>
    simp only [pureV, Option.bind_eq_some_iff] at hv
    obtain ⟨u, h1, w, h2, h3⟩ := hv
    obtain ⟨a, k1, k2⟩ := h.ev h1
    obtain ⟨b, k3, k4⟩ := h.ev h2
    unfold chrV at h3
    split at h3
    · rename_i s kk n
      simp only [VRel] at k2 k4
      subst k2; subst k4
      split at h3
      · rename_i h0
        simp only [Option.map_eq_some_iff] at h3
        obtain ⟨c, h5, rfl⟩ := h3
        exact ⟨.int .u8 c.toNat, by simp only [pureA, k1, k3]; rw [if_pos h0, h5]; rfl, by simp only [VRel]⟩
      · cases h3
    · cases h3
  case extract x i =>
    simp only [pureV, Option.bind_eq_some_iff] at hv
    obtain ⟨u, h1, h2⟩ := hv
    obtain ⟨a, h3, h4⟩ := h.ev h1
    cases u <;> simp only [extractV, reduceCtorEq] at h2
    simp only [VRel] at h4
    obtain ⟨cs, rfl, h5⟩ := h4
    obtain ⟨b, k1, k2⟩ := h5.get h2
    exact ⟨b, by simp only [pureA, h3]; exact k1, k2⟩
  case len s x =>
    simp only [pureV, Option.bind_eq_some_iff] at hv
    obtain ⟨u, h1, h2⟩ := hv
    obtain ⟨a, h3, h4⟩ := h.ev h1
    cases u <;> simp only [lenV, reduceCtorEq] at h2
    · split at h2
      · rename_i hs
        obtain rfl := Option.some.inj h2
        simp only [VRel] at h4; subst h4
        exact ⟨_, by simp only [pureA, h3]; rw [if_pos hs], by simp only [VRel]⟩
      · cases h2
    · split at h2
      · rename_i hs
        obtain rfl := Option.some.inj h2
        simp only [VRel] at h4
        rcases h4 with ⟨rfl, q, c, rfl⟩ | ⟨r, o, c, pre, rfl, _⟩
        · exact ⟨_, by simp only [pureA, h3]; rw [if_pos hs], by simp only [VRel]; rfl⟩
        · exact ⟨_, by simp only [pureA, h3]; rw [if_pos hs], by simp only [VRel]⟩
      · cases h2
    · rename_i p sz' len cap
      split at h2
      · rename_i hs
        obtain rfl := Option.some.inj h2
        cases p with
        | none =>
          simp only [VRel] at h4
          obtain ⟨rfl, q, c, rfl⟩ := h4
          exact ⟨_, by simp only [pureA, h3]; rw [if_pos hs], by simp only [VRel]⟩
        | some q =>
          obtain ⟨i, o⟩ := q
          simp only [VRel] at h4
          obtain ⟨r, _, rfl⟩ := h4
          exact ⟨_, by simp only [pureA, h3]; rw [if_pos hs], by simp only [VRel]⟩
      · cases h2
  case minmax mx x y =>
    simp only [pureV, Option.bind_eq_some_iff] at hv
    obtain ⟨u, h1, w, h2, h3⟩ := hv
    obtain ⟨a, k1, k2⟩ := h.ev h1
    obtain ⟨b, k3, k4⟩ := h.ev h2
    unfold minmaxV at h3
    split at h3
    · simp only [VRel] at k2 k4
      subst k2; subst k4
      split at h3
      · rename_i hk
        obtain rfl := Option.some.inj h3
        exact ⟨_, by simp only [pureA, k1, k3]; rw [if_pos hk], by simp only [VRel]⟩
      · cases h3
    · cases h3
end
end Go.Proofs.YtbpgbhmibmcbnaaGreatDoor.Val

/-! What reads memory; a slot is set; a block is made. -/
namespace Go.Proofs.YtbpgbhmibmcbnaaGreatDoor.Val
open Go Go.Proofs.YtbpgbhmibmcbnaaGreatDoor.Ram
section
variable {φ : Bk} {G : Fz} {W : Nat → Prop} {st : VS} {fr : Fr} {H : AH}

theorem Rel.load (h : Rel φ G W st fr H) {n : Nat} {ag : Bool} {p v : V} {a : AV} (hp : VRel φ G p a) (hv : loadV st.h n ag p = some v) : ∃ b, loadA H n ag a = some b ∧ VRel φ G v b := by
  unfold loadV at hv
  split at hv
  · rename_i i off
    split at hv
    · rename_i l own hg
      simp only [VRel] at hp
      obtain ⟨r, h1, rfl⟩ := hp
      obtain ⟨_, r', h2, _, _, cs, h3, h4⟩ := h.objs i _ hg
      rw [h1] at h2
      obtain rfl := Option.some.inj h2
      split at hv
      · rename_i hag
        split at hv
        · rename_i hle
          obtain rfl := Option.some.inj hv
          refine ⟨.agg ((cs.drop off).take n), by simp only [loadA, h3]; rw [if_pos hag, if_pos (by rw [h4.length]; exact hle)], by simp only [VRel]; exact ⟨_, rfl, (h4.drop off).take n⟩⟩
        · cases hv
      · rename_i hag
        obtain ⟨b, h5, h6⟩ := h4.get hv
        exact ⟨b, by simp only [loadA, h3]; rw [if_neg hag]; exact h5, h6⟩
    · cases hv
    · rename_i hg
      split at hv
      · rename_i l hl
        obtain ⟨hi, pre, cs, g1, g3, g2⟩ := h.gl i l hl
        simp only [VRel] at hp
        obtain ⟨r, h1, rfl⟩ := hp
        rw [h.glob i hi] at h1
        obtain rfl := Option.some.inj h1
        obtain ⟨_, l', ro, h3, h40⟩ := h.fz i pre g1
        have h4 := g3.trans h40
        have hlen := g2.length
        split at hv
        · rename_i hag
          split at hv
          · rename_i hle
            obtain rfl := Option.some.inj hv
            have hll := h4.length_le
            have e : (l'.drop off).take n = (cs.drop off).take n := take_prefix h4 (by omega)
            refine ⟨.agg ((l'.drop off).take n), ?_, by simp only [VRel]; rw [e]; exact ⟨_, rfl, (g2.drop off).take n⟩⟩
            simp only [loadA, h3]
            rw [if_pos hag, if_pos (by omega)]
          · cases hv
        · rename_i hag
          have hlt := (List.getElem?_eq_some_iff.1 hv).1
          obtain ⟨b, h5, h6⟩ := g2.get hv
          refine ⟨b, ?_, h6⟩
          simp only [loadA, h3]
          rw [if_neg hag]
          obtain ⟨t, rfl⟩ := h4
          rw [List.getElem?_append_left (by omega)]
          exact h5
      · cases hv
  · rename_i row off
    simp only [VRel] at hp
    obtain ⟨r, o, pre, h1, rfl, h2⟩ := hp
    obtain ⟨_, l, ro, h3, h4⟩ := h.fz r pre h1
    have hlen := h2.length
    simp only [List.length_take, List.length_drop] at hlen
    split at hv
    · rename_i hag
      split at hv
      · rename_i hle
        obtain rfl := Option.some.inj hv
        have hn : o + row.length ≤ pre.length := by omega
        have e : (l.drop (o + off)).take n = (((pre.drop o).take row.length).drop off).take n := by
          rw [List.drop_take, List.drop_drop, List.take_take, Nat.min_eq_left (by omega)]
          exact take_prefix h4 (by omega)
        have hll := h4.length_le
        refine ⟨.agg ((l.drop (o + off)).take n), ?_, by simp only [VRel]; rw [e]; exact ⟨_, rfl, (h2.drop off).take n⟩⟩
        simp only [loadA, h3]
        rw [if_pos hag, if_pos (by omega)]
      · cases hv
    · rename_i hag
      have hlt := (List.getElem?_eq_some_iff.1 hv).1
      obtain ⟨b, h5, h6⟩ := h2.get hv
      refine ⟨b, ?_, h6⟩
      simp only [loadA, h3]
      rw [if_neg hag]
      rw [List.getElem?_take, if_pos hlt, List.getElem?_drop] at h5
      obtain ⟨t, rfl⟩ := h4
      rw [List.getElem?_append_left (by omega)]
      exact h5
  · cases hv
theorem flatEq_rel : ∀ {ks : List Nat} {l l' : List V} {cs cs' : List AV} {b : Bool}, VRels φ G l cs → VRels φ G l' cs' → flatEqV ks l l' = some b → flatEq ks cs cs' = some b
  | [], [], [], _, _, _, h, h', e => by simp only [VRels] at h h'; subst h; subst h'; exact e
  | k :: ks, x :: l, y :: l', _, _, _, h, h', e => by
    simp only [VRels] at h h'
    obtain ⟨a, r, rfl, h1, h2⟩ := h
    obtain ⟨a', r', rfl, h3, h4⟩ := h'
    simp only [flatEqV, Option.bind_eq_some_iff, Option.map_eq_some_iff] at e
    obtain ⟨b1, e1, b2, e2, rfl⟩ := e
    simp only [flatEq, Option.bind_eq_some_iff, Option.map_eq_some_iff]
    refine ⟨b1, ?_, b2, flatEq_rel h2 h4 e2, rfl⟩
    unfold flatEq1V at e1
    split at e1
    · simp only [VRel] at h1 h3; subst h1; subst h3; exact e1
    · simp only [VRel] at h1 h3; subst h1; subst h3; exact e1
    · simp only [VRel] at h1 h3; subst h1; subst h3; exact e1
    · cases e1
  | [], _ :: _, _, _, _, _, _, _, e => by simp [flatEqV] at e
  | [], [], _ :: _, _, _, _, _, _, e => by simp [flatEqV] at e
  | _ :: _, [], _, _, _, _, _, _, e => by simp [flatEqV] at e
  | _ :: _, _ :: _, [], _, _, _, _, _, e => by simp [flatEqV] at e
theorem Rel.live (h : Rel φ G W st fr H) {i r : Nat} (hi : φ i = some r) (hl : liveV st.h i = true) : H.live r = true ∧ ∃ o, st.h.get i = some o := by
  unfold liveV at hl
  split at hl
  · rename_i l own hg
    obtain ⟨_, r', h2, _, _, cs, h3, _⟩ := h.objs i _ hg
    rw [hi] at h2
    obtain rfl := Option.some.inj h2
    exact ⟨by simp [AH.live, h3], _, hg⟩
  · cases hl
theorem Rel.there (h : Rel φ G W st fr H) {E : Env} {i r : Nat} (hi : φ i = some r) (hl : glV E st.h i = true) : r = i ∧ E.sent.contains i = true ∧ H.there i = true := by
  simp only [glV, Bool.and_eq_true, Option.isSome_iff_exists] at hl
  obtain ⟨h1, l, h2⟩ := hl
  obtain ⟨h3, pre, _, h4, _⟩ := h.gl i l h2
  rw [h.glob i h3] at hi
  obtain rfl := Option.some.inj hi
  obtain ⟨_, l', ro, h5, _⟩ := h.fz i pre h4
  exact ⟨rfl, h1, by simp [AH.there, h5]⟩
theorem Rel.ptrEq (h : Rel φ G W st fr H) {E : Env} {p q : Option (Nat × Nat)} {a b : AV} (hp : VRel φ G (.ptr p) a) (hq : VRel φ G (.ptr q) b) {r : Bool} (hr : ptrEqV E st.h p q = some r) : ∃ p' q', a = .ptr p' ∧ b = .ptr q' ∧ Ram.ptrEq E H p' q' = some r := by
  cases p with
  | none =>
    simp only [VRel] at hp
    cases q with
    | none => simp only [VRel] at hq; exact ⟨_, _, hp, hq, by simpa [ptrEqV, Ram.ptrEq] using hr⟩
    | some q =>
      obtain ⟨j, o⟩ := q
      simp only [VRel] at hq
      obtain ⟨r', _, hq⟩ := hq
      exact ⟨_, _, hp, hq, by simpa [ptrEqV, Ram.ptrEq] using hr⟩
  | some p =>
    obtain ⟨i, o⟩ := p
    simp only [VRel] at hp
    obtain ⟨r1, h1, hp⟩ := hp
    cases q with
    | none => simp only [VRel] at hq; exact ⟨_, _, hp, hq, by simpa [ptrEqV, Ram.ptrEq] using hr⟩
    | some q =>
      obtain ⟨j, o'⟩ := q
      simp only [VRel] at hq
      obtain ⟨r2, h2, hq⟩ := hq
      refine ⟨_, _, hp, hq, ?_⟩
      simp only [ptrEqV] at hr
      split at hr
      · rename_i hl
        simp only [Bool.and_eq_true] at hl
        obtain ⟨l1, oi, g1⟩ := h.live h1 hl.1
        obtain ⟨l2, oj, g2⟩ := h.live h2 hl.2
        simp only [Ram.ptrEq, l1, l2, Bool.and_self, if_true]
        rw [← hr]
        congr 2
        by_cases e : i = j
        · subst e
          rw [h1] at h2
          obtain rfl := Option.some.inj h2
          simp
        · have hne : r1 ≠ r2 := fun e' => e (by subst e'; exact h.inj i j r1 oi oj g1 g2 h1 h2)
          rw [beq_eq_false_iff_ne.2 e, beq_eq_false_iff_ne.2 hne]
      · split at hr
        · rename_i hl
          simp only [Bool.and_eq_true] at hl
          obtain ⟨⟨l1, l2⟩, l3, l4⟩ := hl
          obtain ⟨rfl, s1, t1⟩ := h.there h1 l1
          obtain ⟨rfl, s2, t2⟩ := h.there h2 l2
          simp only [beq_iff_eq] at l3 l4
          subst l3; subst l4
          simp only [Ram.ptrEq]
          split
          · rw [← hr]; simp
          · rw [if_pos (by simp only [s1, s2, t1, t2]; rfl)]; exact hr
        · cases hr
theorem Rel.eq (h : Rel φ G W st fr H) {E : Env} {cst : Bool} {k : EqK} {x y : V} {a b : AV} (hx : VRel φ G x a) (hy : VRel φ G y b) {r : Bool} (hr : eqV E st.h cst k x y = some r) : eqA E H cst k a b = some r := by
  unfold eqV at hr
  split at hr
  · simp only [VRel] at hx hy; subst hx; subst hy; exact hr
  · obtain ⟨p', q', rfl, rfl, h1⟩ := h.ptrEq hx hy hr; exact h1
  · simp only [VRel] at hx hy; subst hx; subst hy; exact hr
  · simp only [VRel] at hx hy; subst hx; obtain ⟨_, rfl, _⟩ := hy; exact hr
  · simp only [VRel] at hx hy; subst hy; obtain ⟨_, rfl, _⟩ := hx; exact hr
  · rename_i t p t' q
    simp only [VRel] at hx hy
    obtain ⟨a1, rfl, hx⟩ := hx
    obtain ⟨b1, rfl, hy⟩ := hy
    by_cases ht : t = t'
    · rw [if_pos ht] at hr
      split at hr
      · rename_i hc
        obtain ⟨p', q', rfl, rfl, h1⟩ := h.ptrEq hx hy hr
        simp only [eqA]
        rw [if_pos ht, if_pos hc]; exact h1
      · cases hr
    · rw [if_neg ht] at hr
      have : ∀ {p : Option (Nat × Nat)} {a : AV}, VRel φ G (.ptr p) a → ∃ p', a = .ptr p' := fun {p a} h => by
        cases p with
        | none => simp only [VRel] at h; exact ⟨_, h⟩
        | some p => obtain ⟨i, o⟩ := p; simp only [VRel] at h; obtain ⟨_, _, h⟩ := h; exact ⟨_, h⟩
      obtain ⟨p', rfl⟩ := this hx
      obtain ⟨q', rfl⟩ := this hy
      simp only [eqA]
      rw [if_neg ht]; exact hr
  · simp only [VRel] at hx hy
    obtain ⟨_, rfl, hx⟩ := hx
    obtain ⟨_, rfl, hy⟩ := hy
    exact flatEq_rel hx hy hr
  · rename_i m _ _ _
    simp only [VRel] at hx; obtain ⟨_, _, _, rfl⟩ := hx
    cases m with
    | none => simp only [VRel] at hy; obtain ⟨_, _, _, rfl⟩ := hy; exact hr
    | some m => obtain ⟨i, o⟩ := m; simp only [VRel] at hy; obtain ⟨_, _, rfl⟩ := hy; exact hr
  · rename_i m _ _ _ _ _ _ _
    simp only [VRel] at hy; obtain ⟨_, _, _, rfl⟩ := hy
    cases m with
    | none => simp only [VRel] at hx; obtain ⟨_, _, _, rfl⟩ := hx; exact hr
    | some m => obtain ⟨i, o⟩ := m; simp only [VRel] at hx; obtain ⟨_, _, rfl⟩ := hx; exact hr
  · rename_i m
    simp only [VRel] at hx; subst hx
    cases m with
    | none => simp only [VRel] at hy; subst hy; exact hr
    | some m => simp only [VRel] at hy; obtain ⟨_, _, rfl⟩ := hy; exact hr
  · rename_i m _
    simp only [VRel] at hy; subst hy
    cases m with
    | none => simp only [VRel] at hx; subst hx; exact hr
    | some m => simp only [VRel] at hx; obtain ⟨_, _, rfl⟩ := hx; exact hr
  · simp only [VRel] at hx hy; subst hx; subst hy; exact hr
  · simp only [VRel] at hx hy; subst hx; obtain ⟨_, rfl, _⟩ := hy; exact hr
  · simp only [VRel] at hx hy; subst hy; obtain ⟨_, rfl, _⟩ := hx; exact hr
  · cases hr
theorem mapGet_rel {l : List (List UInt8 × V)} {l' : List (List UInt8 × AV)} (h : MapV φ G l l') (s : List UInt8) : (mapGetV l s = none ∧ mapGet l' s = none) ∨ ∃ v a, mapGetV l s = some v ∧ mapGet l' s = some a ∧ VRel φ G v a := by
  induction h with
  | nil => exact .inl ⟨rfl, rfl⟩
  | cons hv _ ih =>
    rename_i k _ _ _ _ _
    by_cases e : k = s
    · subst e; exact .inr ⟨_, _, by simp [mapGetV], by simp [mapGet], hv⟩
    · have e' : (k == s) = false := by simpa using e
      simp only [mapGetV, mapGet, List.find?_cons, e'] at ih ⊢
      exact ih
theorem read_rel (h : Rel φ G W st fr H) {E : Env} {op : AOp} (hp : op.isRead = true) {v : V} (hv : readV E st.f st.h op = some v) : ∃ a, readA E fr H op = some a ∧ VRel φ G v a := by
  cases op <;> first | (cases hp; done) | skip
  case load n ag x =>
    simp only [readV, Option.bind_eq_some_iff] at hv
    obtain ⟨p, h1, h2⟩ := hv
    obtain ⟨a, h3, h4⟩ := h.ev h1
    obtain ⟨b, h5, h6⟩ := h.load h4 h2
    exact ⟨b, by simp [readA, h3, h5], h6⟩
  case eq neg k x y =>
    simp only [readV, Option.bind_eq_some_iff, Option.map_eq_some_iff] at hv
    obtain ⟨u, h1, w, h2, r, h3, rfl⟩ := hv
    obtain ⟨a, k1, k2⟩ := h.ev h1
    obtain ⟨b, k3, k4⟩ := h.ev h2
    exact ⟨.bool (if neg = true then !r else r), by simp [readA, k1, k3, h.eq k2 k4 h3], by simp only [VRel]⟩
  case lookup d ok m k =>
    simp only [readV, Option.bind_eq_some_iff] at hv
    obtain ⟨d', h0, u, h1, w, h2, h3⟩ := hv
    obtain ⟨a, k1, k2⟩ := h.ev h1
    obtain ⟨b, k3, k4⟩ := h.ev h2
    have hd : VRel φ G d' d := ofAV_rel h0
    have tup : ∀ {v : V} {a : AV} (b : Bool), VRel φ G v a → VRel φ G (.tup [v, .bool b]) (.tup [a, .bool b]) := fun b h => by
      simp only [VRel, VRels]; exact ⟨_, rfl, _, _, rfl, h, _, _, rfl, rfl, rfl⟩
    have pick : ∀ {v : V} {a : AV} (b : Bool), VRel φ G v a → VRel φ G (if ok = true then .tup [v, .bool b] else v) (if ok = true then .tup [a, .bool b] else a) := fun b h => by
      split
      · exact tup b h
      · exact h
    unfold lookupV at h3
    split at h3
    · simp only [VRel] at k2 k4
      subst k2; subst k4
      obtain rfl := Option.some.inj h3
      refine ⟨_, ?_, pick false hd⟩
      simp only [readA, k1, k3, Option.bind_some]
    · rename_i i s
      split at h3
      · rename_i l hg
        simp only [VRel] at k2 k4
        subst k4
        obtain ⟨r, e1, rfl⟩ := k2
        obtain ⟨_, r', e2, _, _, l', e3, e4⟩ := h.objs i _ hg
        rw [e1] at e2
        obtain rfl := Option.some.inj e2
        obtain rfl := Option.some.inj h3
        rcases mapGet_rel e4 s with ⟨g1, g2⟩ | ⟨x, y, g1, g2, g3⟩
        · rw [g1]
          refine ⟨_, ?_, pick false hd⟩
          simp only [readA, k1, k3, Option.bind_some, e3, g2]
        · rw [g1]
          refine ⟨_, ?_, pick true g3⟩
          simp only [readA, k1, k3, Option.bind_some, e3, g2]
      · cases h3
    · cases h3

/-! ### a slot is set -/
theorem at_uniq {R : Rt} {x y : AV} (h4 : At fr H φ R x) (h7 : At fr H φ R y) : x = y := by
  cases R with
  | slot n => simp only [At] at h4 h7; rw [h4] at h7; exact Option.some.inj h7
  | part n j =>
    obtain ⟨l, e1, e2⟩ := h4
    obtain ⟨l', e3, e4⟩ := h7
    obtain rfl := e1.uniq e3
    rw [e2] at e4; exact Option.some.inj e4
  | cell i off =>
    obtain ⟨r, cs, ro, e1, e2, e3⟩ := h4
    obtain ⟨r', cs', ro', e4, e5, e6⟩ := h7
    rw [e1] at e4
    obtain rfl := Option.some.inj e4
    rw [e2] at e5
    simp only [Option.some.injEq, AObj.cells.injEq] at e5
    obtain ⟨rfl, rfl⟩ := e5
    rw [e3] at e6; exact Option.some.inj e6
theorem vget_set {f : VFr} {d n : Nat} {v : V} : VFr.get (VFr.set f d v) n = if d = n then some v else VFr.get f n := rfl
theorem get_set' {f : Fr} {d n : Nat} {v : AV} : Fr.get (Fr.set f d v) n = if d = n then some v else Fr.get f n := rfl
theorem mem_del {w : Rts} {d n : Nat} {t : Tag} : (n, t) ∈ w.del d ↔ (n, t) ∈ w ∧ n ≠ d := by simp [Rts.del]
theorem Rel.put (h : Rel φ G W st fr H) {d : Nat} {v : V} {a : AV} (hv : VRel φ G v a) (w' : Rts) (org : Rt → Option Rt)
    (ha : ∀ R, Has ⟨VFr.set st.f d v, w', st.h⟩ R → ∃ x, At (Fr.set fr d a) H φ R x ∧ match org R with
      | none => (∀ R0 x0 r, Has st R0 → At fr H φ R0 x0 → headId x = some r → headId x0 ≠ some r) ∧ Can G H W x
      | some R0 => Has st R0 ∧ ∃ x0, At fr H φ R0 x0 ∧ headId x = headId x0 ∧ (Can G H W x0 → Can G H W x))
    (hb : ∀ R R', Has ⟨VFr.set st.f d v, w', st.h⟩ R → Has ⟨VFr.set st.f d v, w', st.h⟩ R' → org R = org R' → R = R')
    (hc : ∀ n i off, (n, Tag.cell i off) ∈ w' → ownAt st.h i off = true → ∃ x, Fr.get (Fr.set fr d a) n = some x ∧ At fr H φ (.cell i off) x) :
    Rel φ G W ⟨VFr.set st.f d v, w', st.h⟩ (Fr.set fr d a) H where
  slots := fun n u hu => by
    rw [vget_set] at hu
    rw [get_set']
    split at hu
    · rename_i e; obtain rfl := Option.some.inj hu; rw [if_pos e]; exact ⟨a, rfl, hv⟩
    · rename_i e; rw [if_neg e]; exact h.slots n u hu
  objs := h.objs
  inj := h.inj
  dom := h.dom
  glob := h.glob
  n100 := h.n100
  fz := h.fz
  win := h.win
  gl := h.gl
  rt := fun R hR => by
    obtain ⟨x, h1, h2⟩ := ha R hR
    refine ⟨x, h1, ?_⟩
    split at h2
    · exact h2.2
    · rename_i R0 _
      obtain ⟨h3, x0, h4, _, h6⟩ := h2
      obtain ⟨y, h7, h8⟩ := h.rt R0 h3
      have : x0 = y := by
        cases R0 with
        | slot n => simp only [At] at h4 h7; rw [h4] at h7; exact Option.some.inj h7
        | part n j =>
          obtain ⟨l, e1, e2⟩ := h4
          obtain ⟨l', e3, e4⟩ := h7
          obtain rfl := e1.uniq e3
          rw [e2] at e4; exact Option.some.inj e4
        | cell i off =>
          obtain ⟨r, cs, ro, e1, e2, e3⟩ := h4
          obtain ⟨r', cs', ro', e4, e5, e6⟩ := h7
          rw [e1] at e4
          obtain rfl := Option.some.inj e4
          rw [e2] at e5
          simp only [Option.some.injEq, AObj.cells.injEq] at e5
          obtain ⟨rfl, rfl⟩ := e5
          rw [e3] at e6; exact Option.some.inj e6
      subst this
      exact h6 h8
  rtx := fun R R' x x' r hR hR' hx hx' hr hr' => by
    have uniq : ∀ {R : Rt} {x y : AV}, At (Fr.set fr d a) H φ R x → At (Fr.set fr d a) H φ R y → x = y := fun {R x y} h4 h7 => by
      cases R with
      | slot n => simp only [At] at h4 h7; rw [h4] at h7; exact Option.some.inj h7
      | part n j =>
        obtain ⟨l, e1, e2⟩ := h4
        obtain ⟨l', e3, e4⟩ := h7
        obtain rfl := e1.uniq e3
        rw [e2] at e4; exact Option.some.inj e4
      | cell i off =>
        obtain ⟨r, cs, ro, e1, e2, e3⟩ := h4
        obtain ⟨r', cs', ro', e4, e5, e6⟩ := h7
        rw [e1] at e4
        obtain rfl := Option.some.inj e4
        rw [e2] at e5
        simp only [Option.some.injEq, AObj.cells.injEq] at e5
        obtain ⟨rfl, rfl⟩ := e5
        rw [e3] at e6; exact Option.some.inj e6
    obtain ⟨y, h1, h2⟩ := ha R hR
    obtain ⟨y', h1', h2'⟩ := ha R' hR'
    obtain rfl := uniq hx h1
    obtain rfl := uniq hx' h1'
    cases ho : org R with
    | none =>
      rw [ho] at h2
      cases ho' : org R' with
      | none => exact hb R R' hR hR' (ho.trans ho'.symm)
      | some R0' =>
        rw [ho'] at h2'
        obtain ⟨g1', x0', g2', g3', _⟩ := h2'
        exact absurd (by rw [← g3']; exact hr') (h2.1 R0' x0' r g1' g2' hr)
    | some R0 =>
      rw [ho] at h2
      obtain ⟨g1, x0, g2, g3, _⟩ := h2
      cases ho' : org R' with
      | none =>
        rw [ho'] at h2'
        exact absurd (by rw [← g3]; exact hr) (h2'.1 R0 x0 r g1 g2 hr')
      | some R0' =>
        rw [ho'] at h2'
        obtain ⟨g1', x0', g2', g3', _⟩ := h2'
        have := h.rtx R0 R0' x0 x0' r g1 g1' g2 g2' (by rw [← g3]; exact hr) (by rw [← g3']; exact hr')
        subst this
        exact hb R R' hR hR' (ho.trans ho'.symm)
  alias := fun n i off hm ho => by
    obtain ⟨x, h1, h2⟩ := hc n i off hm ho
    exact ⟨x, h1, h2⟩
theorem at_set {d : Nat} {a x : AV} {R : Rt} (h : At fr H φ R x) (hn : R.off d) : At (Fr.set fr d a) H φ R x := by
  cases R with
  | slot n => simp only [At] at h ⊢; rw [get_set', if_neg (fun e => hn e.symm)]; exact h
  | part n j =>
    obtain ⟨l, h1, h2⟩ := h
    exact ⟨l, by rw [get_set', if_neg (fun e => hn e.symm)]; exact h1, h2⟩
  | cell i off => exact h
theorem Rel.put_del (h : Rel φ G W st fr H) {d : Nat} {v : V} {a : AV} (hv : VRel φ G v a) : Rel φ G W ⟨VFr.set st.f d v, st.w.del d, st.h⟩ (Fr.set fr d a) H := by
  refine h.put hv _ some (fun R hR => ?_) (fun R R' _ _ h1 => Option.some.inj h1) fun n i off hm ho => ?_
  · have : Has st R ∧ R.off d := by
      cases R with
      | slot n => exact mem_del.1 hR
      | part n j => exact mem_del.1 hR
      | cell i off => exact ⟨hR, trivial⟩
    obtain ⟨x, h1, h2⟩ := h.rt R this.1
    exact ⟨x, at_set h1 this.2, this.1, x, h1, rfl, fun h => h⟩
  · obtain ⟨h1, h2⟩ := mem_del.1 hm
    obtain ⟨x, h3, h4⟩ := h.alias n i off h1 ho
    exact ⟨x, by rw [get_set', if_neg (fun e => h2 e.symm)]; exact h3, h4⟩
theorem Rel.put_own (h : Rel φ G W st fr H) {d : Nat} {v : V} {a : AV} (hv : VRel φ G v a) {w' : Rts} (hw : ∀ n t, (n, t) ∈ w' → (n, t) ∈ st.w) (R0 : Option Rt)
    (hr : match R0 with | none => (∀ R0 x0 r, Has st R0 → At fr H φ R0 x0 → headId a = some r → headId x0 ≠ some r) ∧ Can G H W a | some R0 => Has st R0 ∧ (∀ st' : VS, st'.w = (d, .own) :: w'.del d → st'.h = st.h → ¬ (Has st' R0 ∧ R0.off d)) ∧ ∃ x0, At fr H φ R0 x0 ∧ headId a = headId x0 ∧ (Can G H W x0 → Can G H W a)) :
    Rel φ G W ⟨VFr.set st.f d v, (d, .own) :: w'.del d, st.h⟩ (Fr.set fr d a) H := by
  have split : ∀ R, Has ⟨VFr.set st.f d v, (d, .own) :: w'.del d, st.h⟩ R → R = .slot d ∨ (Has st R ∧ R.off d) := fun R hR => by
    cases R with
    | slot n =>
      simp only [Has, List.mem_cons, Prod.mk.injEq, and_true] at hR
      rcases hR with rfl | hR
      · exact .inl rfl
      · obtain ⟨h1, h2⟩ := mem_del.1 hR; exact .inr ⟨hw _ _ h1, h2⟩
    | part n j =>
      simp only [Has, List.mem_cons, Prod.mk.injEq, reduceCtorEq, and_false, false_or] at hR
      obtain ⟨h1, h2⟩ := mem_del.1 hR; exact .inr ⟨hw _ _ h1, h2⟩
    | cell i off => exact .inr ⟨hR, trivial⟩
  let org : Rt → Option Rt := fun R => match R with | .slot n => if n = d then R0 else some (.slot n) | R => some R
  have horg : ∀ R, R.off d → org R = some R := fun R hR => by
    cases R with
    | slot n => simp only [org]; rw [if_neg hR]
    | part n j => rfl
    | cell i off => rfl
  have hd : org (.slot d) = R0 := by simp [org]
  refine h.put hv _ org (fun R hR => ?_) (fun R R' hR hR' h12 => ?_) fun n i off hm ho => ?_
  · rcases split R hR with rfl | ⟨h1, h2⟩
    · refine ⟨a, by simp only [At]; rw [get_set', if_pos rfl], ?_⟩
      rw [hd]
      cases R0 with
      | none => exact hr
      | some R0 => exact ⟨hr.1, hr.2.2⟩
    · obtain ⟨x, h3, h4⟩ := h.rt R h1
      refine ⟨x, at_set h3 h2, ?_⟩
      rw [horg R h2]
      exact ⟨h1, x, h3, rfl, fun h => h⟩
  · rcases split R hR with rfl | ⟨h3, h4⟩
    · rcases split R' hR' with rfl | ⟨h3', h4'⟩
      · rfl
      · exfalso
        rw [hd, horg R' h4'] at h12
        subst h12
        exact hr.2.1 ⟨VFr.set st.f d v, (d, .own) :: w'.del d, st.h⟩ rfl rfl ⟨hR', h4'⟩
    · rcases split R' hR' with rfl | ⟨h3', h4'⟩
      · exfalso
        rw [hd, horg R h4] at h12
        subst h12
        exact hr.2.1 ⟨VFr.set st.f d v, (d, .own) :: w'.del d, st.h⟩ rfl rfl ⟨hR, h4⟩
      · rw [horg R h4, horg R' h4'] at h12
        exact Option.some.inj h12
  · simp only [List.mem_cons, Prod.mk.injEq, reduceCtorEq, and_false, false_or] at hm
    obtain ⟨h1, h2⟩ := mem_del.1 hm
    obtain ⟨x, h3, h4⟩ := h.alias n i off (hw _ _ h1) ho
    exact ⟨x, by rw [get_set', if_neg (fun e => h2 e.symm)]; exact h3, h4⟩
end
end Go.Proofs.YtbpgbhmibmcbnaaGreatDoor.Val

/-! Pure and reading operations with their rights; new blocks. -/
namespace Go.Proofs.YtbpgbhmibmcbnaaGreatDoor.Val
open Go Go.Proofs.YtbpgbhmibmcbnaaGreatDoor.Ram
section
variable {φ : Bk} {G : Fz} {W : Nat → Prop} {st : VS} {fr : Fr} {H : AH}

theorem VRel.nilc {x : Opd} {v : V} {a : AV} (hx : isNilC x = true) (hv : evV st.f x = some v) (ha : x.ev fr = some a) : ∃ s c, a = .sl none s 0 c := by
  cases x with
  | c y =>
    cases y with
    | sl p sz n c =>
      cases p with
      | none =>
        simp only [evV] at hv
        cases n with
        | zero => simp only [Opd.ev, Option.some.injEq] at ha; exact ⟨sz, c, ha.symm⟩
        | succ n => simp only [ofAV] at hv; cases hv
      | some q => cases hx
    | _ => cases hx
  | _ => cases hx
theorem mem_move {w : Rts} {n d m : Nat} {t : Tag} (hne : n ≠ d) : (m, t) ∈ w.move n d ↔ ((m, t) ∈ w ∧ m ≠ d ∧ m ≠ n) ∨ (m = d ∧ (n, t) ∈ w) := by
  simp only [Rts.move, if_neg hne, List.mem_map, List.mem_filter, bne_iff_ne, Prod.exists]
  constructor
  · rintro ⟨k, t', ⟨h1, h2⟩, h3⟩
    split at h3
    · rename_i e; subst e
      obtain ⟨rfl, rfl⟩ := Prod.mk.inj h3
      exact .inr ⟨rfl, h1⟩
    · rename_i e
      obtain ⟨rfl, rfl⟩ := Prod.mk.inj h3
      exact .inl ⟨h1, h2, e⟩
  · rintro (⟨h1, h2, h3⟩ | ⟨rfl, h1⟩)
    · exact ⟨m, t, ⟨h1, h2⟩, by rw [if_neg h3]⟩
    · exact ⟨n, t, ⟨h1, hne⟩, by rw [if_pos rfl]⟩
theorem Rel.put_move (h : Rel φ G W st fr H) {n d : Nat} {v : V} {a : AV} (_hn : VFr.get st.f n = some v) (ha : Fr.get fr n = some a) (hv : VRel φ G v a) : Rel φ G W ⟨VFr.set st.f d v, st.w.move n d, st.h⟩ (Fr.set fr d a) H := by
  by_cases hne : n = d
  · subst hne
    have hmv : st.w.move n n = st.w := by simp [Rts.move]
    rw [hmv]
    have same : ∀ R x, At fr H φ R x → At (Fr.set fr n a) H φ R x := fun R x hx => by
      cases R with
      | slot m =>
        simp only [At] at hx ⊢
        rw [get_set']
        split
        · rename_i e; subst e; rw [← ha]; exact hx
        · exact hx
      | part m j =>
        obtain ⟨l, h1, h2⟩ := hx
        refine ⟨l, ?_, h2⟩
        rw [get_set']
        split
        · rename_i e; subst e; rw [← ha]; exact h1
        · exact h1
      | cell i off => exact hx
    refine h.put hv _ some (fun R hR => ?_) (fun R R' _ _ h1 => Option.some.inj h1) fun m i off hm ho => ?_
    · have hR' : Has st R := by cases R <;> exact hR
      obtain ⟨x, h1, h2⟩ := h.rt R hR'
      exact ⟨x, same R x h1, hR', x, h1, rfl, fun h => h⟩
    · obtain ⟨x, h3, h4⟩ := h.alias m i off hm ho
      refine ⟨x, ?_, h4⟩
      rw [get_set']
      split
      · rename_i e; subst e; rw [← ha]; exact h3
      · exact h3
  let org : Rt → Option Rt := fun R => match R with | .slot m => if m = d then some (.slot n) else some (.slot m) | .part m j => if m = d then some (.part n j) else some (.part m j) | R => some R
  have at0 : ∀ R R0, org R = some R0 → ∀ x, At fr H φ R0 x → R.off n → At (Fr.set fr d a) H φ R x := fun R R0 ho x hx hR => by
    cases R with
    | slot m =>
      simp only [org] at ho
      split at ho
      · rename_i e; subst e
        obtain rfl := Option.some.inj ho
        simp only [At] at hx ⊢
        rw [get_set', if_pos rfl, ← ha]; exact hx
      · rename_i e
        obtain rfl := Option.some.inj ho
        simp only [At] at hx ⊢
        rw [get_set', if_neg (fun e' => e e'.symm)]; exact hx
    | part m j =>
      simp only [org] at ho
      split at ho
      · rename_i e; subst e
        obtain rfl := Option.some.inj ho
        obtain ⟨l, h1, h2⟩ := hx
        exact ⟨l, by rw [get_set', if_pos rfl, ← ha]; exact h1, h2⟩
      · rename_i e
        obtain rfl := Option.some.inj ho
        obtain ⟨l, h1, h2⟩ := hx
        exact ⟨l, by rw [get_set', if_neg (fun e' => e e'.symm)]; exact h1, h2⟩
    | cell i off => simp only [org, Option.some.injEq] at ho; subst ho; exact hx
  have has0 : ∀ R, Has ⟨VFr.set st.f d v, st.w.move n d, st.h⟩ R → ∃ R0, org R = some R0 ∧ Has st R0 ∧ R.off n := fun R hR => by
    cases R with
    | slot m =>
      rcases (mem_move hne).1 hR with ⟨h1, h2, h3⟩ | ⟨rfl, h1⟩
      · exact ⟨.slot m, by simp only [org]; rw [if_neg h2], h1, h3⟩
      · exact ⟨.slot n, by simp [org], h1, fun e => hne e.symm⟩
    | part m j =>
      rcases (mem_move hne).1 hR with ⟨h1, h2, h3⟩ | ⟨rfl, h1⟩
      · exact ⟨.part m j, by simp only [org]; rw [if_neg h2], h1, h3⟩
      · exact ⟨.part n j, by simp [org], h1, fun e => hne e.symm⟩
    | cell i off => exact ⟨.cell i off, rfl, hR, trivial⟩
  refine h.put hv _ org (fun R hR => ?_) (fun R R' hR hR' h12 => ?_) fun m i off hm ho => ?_
  · obtain ⟨R0, h1, h2, h3⟩ := has0 R hR
    obtain ⟨x, h4, h5⟩ := h.rt R0 h2
    refine ⟨x, at0 R R0 h1 x h4 h3, ?_⟩
    rw [h1]
    exact ⟨h2, x, h4, rfl, fun h => h⟩
  · obtain ⟨R0, h1, _, h3⟩ := has0 R hR
    obtain ⟨_, e2, _, h4⟩ := has0 R' hR'
    have h2 : org R' = some R0 := h12.symm.trans h1
    cases R <;> cases R' <;> simp only [org] at h1 h2
    · rename_i m m'
      split at h1 <;> split at h2
      · rename_i e e'; rw [e, e']
      · obtain rfl := Option.some.inj h1; simp only [Option.some.injEq, Rt.slot.injEq] at h2; exact absurd h2 h4
      · obtain rfl := Option.some.inj h2; simp only [Option.some.injEq, Rt.slot.injEq] at h1; exact absurd h1 h3
      · rw [Option.some.inj h1, Option.some.inj h2]
    · split at h1 <;> split at h2 <;> (rw [← Option.some.inj h1] at h2; cases h2)
    · split at h1 <;> (rw [← Option.some.inj h1] at h2; cases h2)
    · split at h1 <;> split at h2 <;> (rw [← Option.some.inj h1] at h2; cases h2)
    · rename_i m j m' j'
      split at h1 <;> split at h2
      · rename_i e e'; obtain rfl := Option.some.inj h1; simp only [Option.some.injEq, Rt.part.injEq] at h2; rw [e, e', h2.2]
      · obtain rfl := Option.some.inj h1; simp only [Option.some.injEq, Rt.part.injEq] at h2; exact absurd h2.1 h4
      · obtain rfl := Option.some.inj h2; simp only [Option.some.injEq, Rt.part.injEq] at h1; exact absurd h1.1 h3
      · rw [Option.some.inj h1, Option.some.inj h2]
    · split at h1 <;> (rw [← Option.some.inj h1] at h2; cases h2)
    · split at h2 <;> (rw [← Option.some.inj h1] at h2; cases h2)
    · split at h2 <;> (rw [← Option.some.inj h1] at h2; cases h2)
    · rw [Option.some.inj h1, Option.some.inj h2]
  · rcases (mem_move hne).1 hm with ⟨h1, h2, _⟩ | ⟨rfl, h1⟩
    · obtain ⟨x, h3, h4⟩ := h.alias m i off h1 ho
      exact ⟨x, by rw [get_set', if_neg (fun e => h2 e.symm)]; exact h3, h4⟩
    · obtain ⟨x, h3, h4⟩ := h.alias n i off h1 ho
      exact ⟨x, by rw [get_set', if_pos rfl, ← ha]; exact h3, h4⟩
theorem mem_ne {w : Rts} {p q : Nat × Tag} : q ∈ w.filter (fun x => x != p) ↔ q ∈ w ∧ q ≠ p := by simp
def sameObj : VObj → VObj → Prop
  | .cells l _, .cells l' _ => l = l'
  | .map l, .map l' => l = l'
  | _, _ => False
theorem Rel.gain (h : Rel φ G W st fr H) {st' : VS} (hf : st'.f = st.f) (hn : st'.h.next = st.h.next) (hgl : st'.h.gl = st.h.gl) (ho : ∀ i o, st'.h.get i = some o → ∃ o', st.h.get i = some o' ∧ sameObj o o')
    (hR : ∀ R, Has st' R → Has st R ∨ ∃ s c, At fr H φ R (.sl none s 0 c)) (ha : ∀ n i off, (n, Tag.cell i off) ∈ st'.w → ownAt st'.h i off = true → (n, Tag.cell i off) ∈ st.w ∧ ownAt st.h i off = true) : Rel φ G W st' fr H where
  slots := by rw [hf]; exact h.slots
  objs := fun i o hi => by
    obtain ⟨o', h1, h2⟩ := ho i o hi
    obtain ⟨h3, r, h4, h5, h6, h7⟩ := h.objs i o' h1
    refine ⟨by rw [hn]; exact h3, r, h4, h5, h6, ?_⟩
    cases o <;> cases o' <;> first | exact h2.elim | (simp only [sameObj] at h2; subst h2; exact h7)
  inj := fun i j r oi oj hi hj => by
    obtain ⟨o', h1, _⟩ := ho i oi hi
    obtain ⟨o'', h2, _⟩ := ho j oj hj
    exact h.inj i j r o' o'' h1 h2
  dom := by rw [hn]; exact h.dom
  glob := h.glob
  n100 := by rw [hn]; exact h.n100
  fz := h.fz
  win := h.win
  rt := fun R hr => by
    rcases hR R hr with h1 | ⟨s, c, h1⟩
    · exact h.rt R h1
    · exact ⟨_, h1, .inl ⟨s, c, rfl⟩⟩
  rtx := fun R R' x x' r h1 h1' h2 h2' h3 h3' => by
    rcases hR R h1 with k | ⟨s, c, k⟩
    · rcases hR R' h1' with k' | ⟨s', c', k'⟩
      · exact h.rtx R R' x x' r k k' h2 h2' h3 h3'
      · rw [at_uniq h2' k'] at h3'; cases h3'
    · rw [at_uniq h2 k] at h3; cases h3
  gl := by rw [hgl]; exact h.gl
  alias := fun n i off hm hw => by
    obtain ⟨h1, h2⟩ := ha n i off hm hw
    exact h.alias n i off h1 h2
theorem fill_free : ∀ {qs : List (Nat × Nat × AV)} {z s : List AV} {j : Nat}, fillA z qs = some s → (∀ q ∈ qs, j < q.1 ∨ q.1 + q.2.1 ≤ j) → s[j]? = z[j]?
  | [], _, _, _, h, _ => by simp only [fillA, Option.some.injEq] at h; rw [h]
  | (a, b, x) :: qs, z, s, j, h, hq => by
    simp only [fillA] at h
    split at h
    · rename_i hc
      obtain ⟨c1, c2, _⟩ := hc
      rw [fill_free h fun q hm => hq q (List.mem_cons_of_mem _ hm)]
      have := hq _ List.mem_cons_self
      simp only at this
      rcases this with h1 | h1
      · rw [List.append_assoc, List.getElem?_append_left (by rw [List.length_take]; omega), List.getElem?_take, if_pos h1]
      · rw [List.getElem?_append_right (by rw [List.length_append, List.length_take]; omega), List.length_append, List.length_take, List.getElem?_drop]
        congr 1; omega
    · cases h
theorem evParts_dim {fr : Fr} : ∀ {l : List (Nat × Nat × Opd)} {qs : List (Nat × Nat × AV)}, evParts fr l = some qs → ∀ q ∈ qs, ∃ p ∈ l, p.1 = q.1 ∧ p.2.1 = q.2.1
  | [], _, h, q, hq => by simp only [evParts, Option.some.injEq] at h; subst h; cases hq
  | (a, b, x) :: l, qs, h, q, hq => by
    simp only [evParts, Option.bind_eq_some_iff, Option.map_eq_some_iff] at h
    obtain ⟨v, _, rs, h2, rfl⟩ := h
    rcases List.mem_cons.1 hq with rfl | hq
    · exact ⟨_, List.mem_cons_self, rfl, rfl⟩
    · obtain ⟨p, h3, h4⟩ := evParts_dim h2 q hq
      exact ⟨p, List.mem_cons_of_mem _ h3, h4⟩
theorem mem_nilsFrom : ∀ {l : List AV} {k j : Nat}, j ∈ nilsFrom k l → k ≤ j ∧ ∃ s c, l[j - k]? = some (.sl none s 0 c)
  | [], _, _, h => by cases h
  | x :: l, k, j, h => by
    have tail : j ∈ nilsFrom (k + 1) l → k ≤ j ∧ ∃ s c, (x :: l)[j - k]? = some (.sl none s 0 c) := fun h => by
      obtain ⟨h1, h2⟩ := mem_nilsFrom h
      refine ⟨by omega, ?_⟩
      rw [show j - k = (j - (k + 1)) + 1 by omega]
      exact h2
    simp only [nilsFrom] at h
    split at h
    · rename_i e
      rcases List.mem_cons.1 h with rfl | h
      · refine ⟨Nat.le_refl _, ?_⟩
        rw [Nat.sub_self]
        unfold isNilA at e
        split at e
        · exact ⟨_, _, rfl⟩
        · cases e
      · exact tail h
    · exact tail h
theorem setS_rel (h : Rel φ G W st fr H) {E : Env} {op : AOp} (hp : op.isPure = true ∨ op.isRead = true) {v : V} {a : AV} (hv : VRel φ G v a)
    (hop : if op.isPure = true then pureV st.f op = some v ∧ pureA fr op = some a else readV E st.f st.h op = some v ∧ readA E fr H op = some a) (dst : Option Nat) :
    Rel φ G W (setS st dst op v) (putD fr dst (some a)) H := by
  cases dst with
  | none => exact h
  | some d =>
    simp only [setS, putD]
    cases op
    case mov x =>
      simp only [AOp.isPure, if_true] at hop
      obtain ⟨h1, h2⟩ := hop
      simp only [pureV, pureA] at h1 h2
      simp only [rtsV, movR]
      cases x with
      | t n => exact h.put_move h1 h2 hv
      | c y =>
        simp only
        split
        · rename_i hc
          obtain ⟨s, c, rfl⟩ := VRel.nilc (st := st) hc h1 h2
          exact h.put_own hv (w' := st.w) (fun _ _ h => h) none ⟨fun _ _ _ _ _ h => (by cases h), .inl ⟨s, c, rfl⟩⟩
        · exact h.put_del hv
      | g n => exact h.put_del hv
      | f n => exact h.put_del hv
    case build zero parts =>
      simp only [AOp.isPure, if_true] at hop
      obtain ⟨_, h2⟩ := hop
      simp only [pureA, Option.bind_eq_some_iff, Option.map_eq_some_iff] at h2
      obtain ⟨qs, k1, cs, k2, rfl⟩ := h2
      simp only [rtsV, bldR]
      have mem : ∀ n t, (n, t) ∈ ((nilsFrom 0 zero).filter (free parts)).map (fun j => (d, Tag.comp j)) ++ st.w.del d → (n, t) ∈ st.w.del d ∨ (n = d ∧ ∃ j, t = .comp j ∧ ∃ s c, cs[j]? = some (.sl none s 0 c)) := fun n t hm => by
        rcases List.mem_append.1 hm with hm | hm
        · right
          obtain ⟨j, h3, h4⟩ := List.mem_map.1 hm
          obtain ⟨h5, h6⟩ := List.mem_filter.1 h3
          obtain ⟨rfl, rfl⟩ := Prod.mk.inj h4
          obtain ⟨_, s, c, h7⟩ := mem_nilsFrom h5
          refine ⟨rfl, j, rfl, s, c, ?_⟩
          rw [fill_free k2 fun q hq => ?_]
          · exact h7
          · obtain ⟨p, g1, g2, g3⟩ := evParts_dim k1 q hq
            have := List.all_eq_true.1 h6 p g1
            simp only [Bool.or_eq_true, decide_eq_true_eq] at this
            rw [← g2, ← g3]; exact this
        · exact .inl hm
      refine (h.put_del (d := d) hv).gain rfl rfl rfl (fun i o hi => ⟨o, hi, by cases o <;> rfl⟩) (fun R hR => ?_) fun n i off hm ho => ?_
      · cases R with
        | slot n =>
          rcases mem n _ hR with h3 | ⟨_, j, h4, _⟩
          · exact .inl h3
          · cases h4
        | part n j =>
          rcases mem n _ hR with h3 | ⟨rfl, j', h4, s, c, h5⟩
          · exact .inl h3
          · cases h4
            exact .inr ⟨s, c, cs, .inr ⟨by rw [get_set', if_pos rfl], s, c, rfl⟩, h5⟩
        | cell i off => exact .inl hR
      · rcases mem n _ hm with h3 | ⟨_, j, h4, _⟩
        · exact ⟨h3, ho⟩
        · cases h4
    case slc sz x lo hi =>
      simp only [AOp.isPure, if_true] at hop
      obtain ⟨h1, h2⟩ := hop
      simp only [rtsV, slcR]
      split
      · rename_i n
        split
        · rename_i hc
          simp only [Bool.and_eq_true, List.contains_iff_mem, bne_iff_ne] at hc
          refine h.put_own hv (w' := st.w.filter fun p => p != (n, .own)) (fun _ _ h => (mem_ne.1 h).1) (some (.slot n)) ⟨hc.1, fun st' hw _ hh => ?_, ?_⟩
          · have := hh.1
            simp only [Has, hw, List.mem_cons, Prod.mk.injEq, and_true] at this
            rcases this with e | this
            · exact hc.2 e
            · exact (mem_ne.1 (mem_del.1 this).1).2 rfl
          · simp only [pureV, pureA, Option.bind_eq_some_iff, evV, Opd.ev, oev, Option.some.injEq] at h1 h2
            obtain ⟨u, k1, l, k2, hi', rfl, k3⟩ := h1
            obtain ⟨x0, k4, k5⟩ := h2
            obtain ⟨x1, k6, k7⟩ := h.slots n u k1
            rw [k4] at k6
            obtain rfl := Option.some.inj k6
            refine ⟨x0, k4, ?_⟩
            obtain ⟨y, k8, k9⟩ := h.rt (.slot n) hc.1
            simp only [At] at k8
            rw [k4] at k8
            obtain rfl := Option.some.inj k8
            rcases k9 with ⟨s, c, rfl⟩ | ⟨r, o, sz', len, c, pre, rfl, hw, hg, hl, hn, hs⟩
            · have : ∃ q, a = .sl none q 0 (some 0) := by
                cases lo with
                | none =>
                  simp only [slcA, bndA, Option.bind_some] at k5
                  split at k5
                  · obtain rfl := Option.some.inj k5; exact ⟨_, rfl⟩
                  · cases k5
                | some z =>
                  simp only [Option.bind_eq_some_iff] at k5
                  obtain ⟨e, _, k5⟩ := k5
                  simp only [slcA, bndA, Option.bind_some, Option.bind_eq_some_iff] at k5
                  obtain ⟨_, _, k5⟩ := k5
                  split at k5
                  · obtain rfl := Option.some.inj k5; exact ⟨_, rfl⟩
                  · cases k5
              obtain ⟨q, rfl⟩ := this
              exact ⟨rfl, fun _ => .inl ⟨_, _, rfl⟩⟩
            · have : ∃ k, k ≤ len ∧ 0 < sz ∧ sz' = sz ∧ a = .sl (some (r, o + k * sz)) sz (len - k) (c.map (· - k)) := by
                cases lo with
                | none =>
                  simp only [slcA, bndA, Option.bind_some] at k5
                  split at k5
                  · rename_i q; obtain rfl := Option.some.inj k5; exact ⟨0, by omega, q.1, q.2.1, by simp⟩
                  · cases k5
                | some z =>
                  simp only [Option.bind_eq_some_iff] at k5
                  obtain ⟨e, _, k5⟩ := k5
                  simp only [slcA, bndA, Option.bind_some, Option.bind_eq_some_iff] at k5
                  obtain ⟨k, _, k5⟩ := k5
                  split at k5
                  · rename_i q; obtain rfl := Option.some.inj k5; exact ⟨k, q.2.2.1, q.1, q.2.1, rfl⟩
                  · cases k5
              obtain ⟨k, q1, q2, rfl, rfl⟩ := this
              refine ⟨rfl, fun _ => .inr ⟨r, o + k * sz', sz', len - k, _, pre, rfl, hw, hg, ?_, fun hcn => ?_, fun d' hd => ?_⟩⟩
              · rw [Nat.sub_mul]
                have := Nat.mul_le_mul_right sz' q1
                omega
              · cases c with
                | none => exact hn rfl
                | some c => cases hcn
              · cases c with
                | none => cases hd
                | some c =>
                  simp only [Option.map_some, Option.some.injEq] at hd
                  obtain ⟨g1, l2, g2, g3, g4⟩ := hs c rfl
                  subst hd
                  refine ⟨by omega, l2, g2, g3, ?_⟩
                  rw [Nat.sub_mul]
                  have := Nat.mul_le_mul_right sz' (Nat.le_trans q1 g1)
                  omega
        · exact h.put_del hv
      · exact h.put_del hv
    case extract x j =>
      simp only [AOp.isPure, if_true] at hop
      obtain ⟨h1, h2⟩ := hop
      simp only [rtsV, extR]
      split
      · rename_i n
        split
        · rename_i hc
          simp only [Bool.and_eq_true, List.contains_iff_mem, bne_iff_ne] at hc
          refine h.put_own hv (w' := st.w.filter fun p => p != (n, .comp j)) (fun _ _ h => (mem_ne.1 h).1) (some (.part n j)) ⟨hc.1, fun st' hw _ hh => ?_, ?_⟩
          · have := hh.1
            simp only [Has, hw, List.mem_cons, Prod.mk.injEq, reduceCtorEq, and_false, false_or] at this
            exact (mem_ne.1 (mem_del.1 this).1).2 rfl
          · obtain ⟨x0, k1, k2⟩ := h.rt (.part n j) hc.1
            obtain ⟨l, k3 | ⟨k3, _⟩, k4⟩ := k1
            rotate_left
            · simp only [pureA, Opd.ev, k3] at h2; cases h2
            simp only [pureA, Opd.ev, k3] at h2
            rw [k4] at h2
            obtain rfl := Option.some.inj h2
            exact ⟨x0, ⟨l, .inl k3, k4⟩, rfl, fun h => h⟩
        · exact h.put_del hv
      · exact h.put_del hv
    case load n ag x =>
      simp only [AOp.isPure, Bool.false_eq_true, if_false] at hop
      obtain ⟨h1, h2⟩ := hop
      simp only [rtsV, loadR]
      split
      · rename_i i off hx
        split
        · rename_i ho
          refine h.put hv _ some (fun R hR => ?_) (fun R R' _ _ h1 => Option.some.inj h1) fun m i' off' hm ho' => ?_
          · have : Has st R ∧ R.off d := by
              cases R with
              | slot n =>
                simp only [Has, List.mem_cons, Prod.mk.injEq, reduceCtorEq, and_false, false_or] at hR
                exact mem_del.1 hR
              | part n j =>
                simp only [Has, List.mem_cons, Prod.mk.injEq, reduceCtorEq, and_false, false_or] at hR
                exact mem_del.1 hR
              | cell i off => exact ⟨hR, trivial⟩
            obtain ⟨x, h1, h2⟩ := h.rt R this.1
            exact ⟨x, at_set h1 this.2, this.1, x, h1, rfl, fun h => h⟩
          · simp only [List.mem_cons, Prod.mk.injEq, Tag.cell.injEq] at hm
            rcases hm with ⟨rfl, rfl, rfl⟩ | hm
            · obtain ⟨y, k1, k2⟩ := h.rt (.cell i' off') ho'
              have k3 := k1
              obtain ⟨r, cs, ro, e1, e2, e3⟩ := k1
              obtain ⟨p, g1, g2⟩ := h.ev hx
              simp only [VRel] at g2
              obtain ⟨r', g3, rfl⟩ := g2
              rw [e1] at g3
              obtain rfl := Option.some.inj g3
              simp only [readA, g1, Option.bind_some, loadA, e2, Bool.false_eq_true, if_false] at h2
              refine ⟨a, by rw [get_set', if_pos rfl], r, cs, ro, e1, e2, h2⟩
            · obtain ⟨h5, h6⟩ := mem_del.1 hm
              obtain ⟨x, h3, h4⟩ := h.alias m i' off' h5 ho'
              exact ⟨x, by rw [get_set', if_neg (fun e => h6 e.symm)]; exact h3, h4⟩
        · exact h.put_del hv
      · exact h.put_del hv
    all_goals exact h.put_del hv
end
end Go.Proofs.YtbpgbhmibmcbnaaGreatDoor.Val

/-! Memory that changes: rights given up; new blocks; stores; appending. -/
namespace Go.Proofs.YtbpgbhmibmcbnaaGreatDoor.Val
open Go Go.Proofs.YtbpgbhmibmcbnaaGreatDoor.Ram
section
variable {φ : Bk} {G : Fz} {W : Nat → Prop} {st : VS} {fr : Fr} {H : AH}

theorem Rel.cellW (h : Rel φ G W st fr H) {i off : Nat} (ho : ownAt st.h i off = true) : ∃ l own r cs, st.h.get i = some (.cells l own) ∧ off ∈ own ∧ φ i = some r ∧ W r ∧ G r = none ∧ H.get r = some (.cells cs false) ∧ VRels φ G l cs := by
  unfold ownAt at ho
  split at ho
  · rename_i l own hg
    obtain ⟨_, r, h1, h2, h3, cs, h4, h5⟩ := h.objs i _ hg
    exact ⟨l, own, r, cs, hg, by simpa using ho, h1, h2, h3, h4, h5⟩
  · cases ho
theorem Can.id {a : AV} (h : Can G H W a) {r : Nat} (hr : headId a = some r) : W r ∧ ∃ pre, G r = some pre := by
  rcases h with ⟨s, c, rfl⟩ | ⟨r', o, sz, len, c, pre, rfl, hw, hg, _⟩
  · cases hr
  · obtain rfl := Option.some.inj hr; exact ⟨hw, pre, hg⟩
theorem Rel.heap (h : Rel φ G W st fr H) {H' : AH} {G' : Fz} {W' : Nat → Prop} (hG : FzLe G G') (hW : ∀ r, W r → W' r) (hn : H.next ≤ H'.next) (hk : ∀ r, W r → H'.get r = H.get r ∧ H'.tip r = H.tip r ∧ G' r = G r)
    (hfz : ∀ r pre, G' r = some pre → r < H'.next ∧ ∃ l ro, H'.get r = some (.cells l ro) ∧ pre <+: l) (hwin : ∀ r, W' r → r < H'.next) : Rel φ G' W' st fr H' := by
  have hat : ∀ R x, Has st R → (At fr H' φ R x ↔ At fr H φ R x) := fun R x hR => by
    cases R with
    | slot n => exact Iff.rfl
    | part n j => exact Iff.rfl
    | cell i off =>
      obtain ⟨l, own, r, cs, h1, h2, h3, h4, h5, h6, h7⟩ := h.cellW hR
      constructor
      · rintro ⟨r', cs', ro, e1, e2, e3⟩
        rw [h3] at e1; obtain rfl := Option.some.inj e1
        exact ⟨_, cs', ro, h3, by rw [← (hk _ h4).1]; exact e2, e3⟩
      · rintro ⟨r', cs', ro, e1, e2, e3⟩
        rw [h3] at e1; obtain rfl := Option.some.inj e1
        exact ⟨_, cs', ro, h3, by rw [(hk _ h4).1]; exact e2, e3⟩
  have hcan : ∀ a, Can G H W a → Can G' H' W' a := fun a ha => by
    rcases ha with ⟨s, c, rfl⟩ | ⟨r, o, sz, len, c, pre, rfl, h1, h2, h3, h4, h5⟩
    · exact .inl ⟨s, c, rfl⟩
    · obtain ⟨k1, k2, k3⟩ := hk r h1
      refine .inr ⟨r, o, sz, len, c, pre, rfl, hW r h1, by rw [k3]; exact h2, h3, fun e => ?_, fun d e => ?_⟩
      · obtain ⟨q1, q2⟩ := h4 e; exact ⟨k2.trans q1, k1.trans q2⟩
      · obtain ⟨q1, l, q2, q3, q4⟩ := h5 d e; exact ⟨q1, l, k1.trans q2, q3, q4⟩
  refine ⟨fun n v hv => ?_, fun i o ho => ?_, h.inj, h.dom, h.glob, ⟨h.n100.1, Nat.le_trans h.n100.2 hn⟩, hfz, hwin, fun R hR => ?_, fun R R' a a' r hR hR' ha ha' hr hr' => ?_, gl_mono (BkLe.refl _) hG h.gl, fun n i off hm ho => ?_⟩
  · obtain ⟨a, h1, h2⟩ := h.slots n v hv
    exact ⟨a, h1, h2.mono (BkLe.refl _) hG⟩
  · obtain ⟨h1, r, h2, h3, h4, h5⟩ := h.objs i o ho
    obtain ⟨k1, _, k3⟩ := hk r h3
    refine ⟨h1, r, h2, hW r h3, by rw [k3]; exact h4, ?_⟩
    cases o with
    | cells l own => obtain ⟨cs, h6, h7⟩ := h5; exact ⟨cs, k1.trans h6, h7.mono (BkLe.refl _) hG⟩
    | map l =>
      obtain ⟨l', h6, h7⟩ := h5
      exact ⟨l', k1.trans h6, h7.mono (BkLe.refl _) hG⟩
  · obtain ⟨a, h1, h2⟩ := h.rt R hR
    exact ⟨a, (hat R a hR).2 h1, hcan a h2⟩
  · exact h.rtx R R' a a' r hR hR' ((hat R a hR).1 ha) ((hat R' a' hR').1 ha') hr hr'
  · obtain ⟨a, h1, h2⟩ := h.alias n i off hm ho
    exact ⟨a, h1, (hat (.cell i off) a ho).2 h2⟩
theorem drop_get {S : VH} {i off j : Nat} : ∀ o, (dropOwn S i off).get j = some o → ∃ o', S.get j = some o' ∧ (∀ l own, o = .cells l own → ∃ own', o' = .cells l own' ∧ ∀ k, k ∈ own → k ∈ own' ∧ ((j = i ∧ k = off) → False)) ∧ (∀ l, o = .map l → o' = .map l) := fun o ho => by
  unfold dropOwn at ho
  split at ho
  · rename_i l own hg
    simp only [VH.set] at ho
    split at ho
    · rename_i e; subst e
      obtain rfl := Option.some.inj ho
      refine ⟨_, hg, fun l' own' e => ?_, fun l' e => by cases e⟩
      cases e
      refine ⟨own, rfl, fun k hk => ?_⟩
      simp only [List.mem_filter, bne_iff_ne] at hk
      exact ⟨hk.1, fun e => hk.2 e.2⟩
    · rename_i e
      refine ⟨o, ho, fun l' own' e' => ⟨own', e', fun k hk => ⟨hk, fun e2 => e e2.1⟩⟩, fun l' e' => e'⟩
  · rename_i hg
    refine ⟨o, ho, fun l' own' e' => ⟨own', e', fun k hk => ⟨hk, fun e2 => ?_⟩⟩, fun l' e' => e'⟩
    obtain ⟨rfl, _⟩ := e2
    subst e'
    exact hg l' own' ho
theorem drop_next {S : VH} {i off : Nat} : (dropOwn S i off).next = S.next := by
  unfold dropOwn
  split <;> rfl
theorem drop_gl {S : VH} {i off : Nat} : (dropOwn S i off).gl = S.gl := by
  unfold dropOwn
  split <;> rfl
theorem Rel.fewer (h : Rel φ G W st fr H) (st' : VS) (hf : st'.f = st.f) (hw : ∀ n t, (n, t) ∈ st'.w → (n, t) ∈ st.w) (hh : st'.h = st.h ∨ ∃ i off, st'.h = dropOwn st.h i off) (W' : Nat → Prop) (hW : ∀ r, W' r → W r)
    (hW2 : ∀ r, W r → ¬ W' r → (∃ pre, G r = some pre) ∧ ∀ R a, Has st' R → At fr H φ R a → headId a ≠ some r) : Rel φ G W' st' fr H := by
  have hown : ∀ i off, ownAt st'.h i off = true → ownAt st.h i off = true := fun i off ho => by
    rcases hh with e | ⟨i', off', e⟩
    · rw [← e]; exact ho
    · rw [e] at ho
      unfold ownAt at ho
      split at ho
      · rename_i l own hg
        obtain ⟨o', h1, h2, _⟩ := drop_get _ hg
        obtain ⟨own', rfl, h3⟩ := h2 l own rfl
        unfold ownAt
        rw [h1]
        simp only [List.contains_iff_mem] at ho ⊢
        exact (h3 off ho).1
      · cases ho
  have hhas : ∀ R, Has st' R → Has st R := fun R hR => by
    cases R with
    | slot n => exact hw _ _ hR
    | part n j => exact hw _ _ hR
    | cell i off => exact hown i off hR
  have hget : ∀ i o, st'.h.get i = some o → ∃ o', st.h.get i = some o' ∧ (∀ r, ObjV φ G H r o' → ObjV φ G H r o) := fun i o ho => by
    rcases hh with e | ⟨i', off', e⟩
    · rw [e] at ho; exact ⟨o, ho, fun _ h => h⟩
    · rw [e] at ho
      obtain ⟨o', h1, h2, h3⟩ := drop_get _ ho
      refine ⟨o', h1, fun r hr => ?_⟩
      cases o with
      | cells l own => obtain ⟨own', rfl, _⟩ := h2 l own rfl; exact hr
      | map l => obtain rfl := h3 l rfl; exact hr
  have hnext : st'.h.next = st.h.next := by
    rcases hh with e | ⟨i', off', e⟩
    · rw [e]
    · rw [e, drop_next]
  have hgl : st'.h.gl = st.h.gl := by
    rcases hh with e | ⟨i', off', e⟩
    · rw [e]
    · rw [e, drop_gl]
  refine ⟨fun n v hv => h.slots n v (by rw [← hf]; exact hv), fun i o ho => ?_, fun i j r oi oj hi hj => ?_, fun i r hi => by rw [hnext]; exact h.dom i r hi, h.glob, by rw [hnext]; exact h.n100, h.fz, fun r hr => h.win r (hW r hr), fun R hR => ?_, fun R R' a a' r hR hR' => h.rtx R R' a a' r (hhas R hR) (hhas R' hR'), by rw [hgl]; exact h.gl, fun n i off hm ho => h.alias n i off (hw _ _ hm) (hown i off ho)⟩
  · obtain ⟨o', h1, h2⟩ := hget i o ho
    obtain ⟨h3, r, h4, h5, h6, h7⟩ := h.objs i o' h1
    refine ⟨by rw [hnext]; exact h3, r, h4, ?_, h6, h2 r h7⟩
    refine Classical.byContradiction fun hn => ?_
    obtain ⟨pre, hp⟩ := (hW2 r h5 hn).1
    rw [h6] at hp; cases hp
  · obtain ⟨oi', h1, _⟩ := hget i oi hi
    obtain ⟨oj', h2, _⟩ := hget j oj hj
    exact h.inj i j r oi' oj' h1 h2
  · obtain ⟨a, h1, h2⟩ := h.rt R (hhas R hR)
    refine ⟨a, h1, ?_⟩
    rcases h2 with h2 | ⟨r, o, sz, len, c, pre, e, h3, h4⟩
    · exact .inl h2
    · refine .inr ⟨r, o, sz, len, c, pre, e, ?_, h4⟩
      refine Classical.byContradiction fun hn => ?_
      exact (hW2 r h3 hn).2 R a hR h1 (by rw [e]; rfl)

/-! ### new blocks -/
def Bk.put (φ : Bk) (i r : Nat) : Bk := fun j => if j = i then some r else φ j
def Fz.put (G : Fz) (r : Nat) (pre : List AV) : Fz := fun j => if j = r then some pre else G j
theorem Fz.put_le {r : Nat} {pre : List AV} (h : ∀ p, G r = some p → p <+: pre) : FzLe G (Fz.put G r pre) := fun j p hj => by
  unfold Fz.put
  split
  · rename_i e; subst e; exact ⟨pre, rfl, h p hj⟩
  · exact ⟨p, hj, List.prefix_refl _⟩
theorem Bk.put_le {i r : Nat} (h : φ i = none) : BkLe φ (Bk.put φ i r) := fun j q hj => by
  unfold Bk.put
  split
  · rename_i e; subst e; rw [h] at hj; cases hj
  · exact hj
theorem push_get' (H : AH) (o : AObj) (j : Nat) : (H.push o).get j = if j = H.next then some o else H.get j := rfl
theorem Rel.block (h : Rel φ G W st fr H) {o : VObj} {bo : AObj} (ho : ∀ φ', BkLe φ φ' → match o with | .cells l own => own = [] ∧ ∃ cs, bo = .cells cs false ∧ VRels φ' G l cs | .map l => ∃ l', bo = .map l' false ∧ MapV φ' G l l') :
    Rel (Bk.put φ st.h.next H.next) G (fun r => W r ∨ r = H.next) ⟨st.f, st.w, st.h.push o⟩ fr (H.push bo) ∧ Frm φ G W H (Bk.put φ st.h.next H.next) G (fun r => W r ∨ r = H.next) (H.push bo) := by
  have hφ : φ st.h.next = none := by
    cases e : φ st.h.next with
    | none => rfl
    | some r => have := h.dom _ _ e; omega
  have hle := Bk.put_le (r := H.next) hφ
  have hGn : G H.next = none := by
    cases e : G H.next with
    | none => rfl
    | some pre => have := (h.fz _ _ e).1; omega
  have hWn : ¬ W H.next := fun hw => by have := h.win _ hw; omega
  have h1 : Rel φ G (fun r => W r ∨ r = H.next) st fr (H.push bo) := h.heap (FzLe.refl _) (fun r hr => .inl hr) (by simp [AH.push]) (fun r hr => ⟨by rw [push_get', if_neg (by have := h.win r hr; omega)], rfl, rfl⟩)
    (fun r pre hp => by
      obtain ⟨k1, k2⟩ := h.fz r pre hp
      exact ⟨by simp only [AH.push]; omega, by rw [push_get', if_neg (by omega)]; exact k2⟩)
    (fun r hr => by rcases hr with hr | rfl; have := h.win r hr; simp only [AH.push]; omega; simp [AH.push])
  have hold : ∀ i o', (st.h.push o).get i = some o' → i ≠ st.h.next → st.h.get i = some o' := fun i o' h2 h3 => by simpa [VH.push, h3] using h2
  refine ⟨⟨fun n v hv => ?_, fun i o' hi => ?_, fun i j r oi oj hi hj hri hrj => ?_, fun i r hi => ?_, fun g hg => ?_, ⟨by simp only [VH.push]; have := h.n100.1; omega, h1.n100.2⟩, h1.fz, h1.win, fun R hR => ?_, fun R R' a a' r hR hR' ha ha' => ?_, gl_mono hle (FzLe.refl _) h.gl, fun n i off hm ho1 => ?_⟩, ⟨by simp [AH.push], hle, FzLe.refl _, fun r hr hw => ⟨by rw [push_get', if_neg (by omega)], rfl, rfl⟩, fun r hr => hr.imp id fun e => by omega⟩⟩
  · obtain ⟨a, h2, h3⟩ := h1.slots n v hv
    exact ⟨a, h2, h3.mono hle (FzLe.refl _)⟩
  · by_cases e : i = st.h.next
    · subst e
      simp only [VH.push, if_true, Option.some.injEq] at hi
      subst hi
      refine ⟨by simp [VH.push], H.next, by simp [Bk.put], .inr rfl, hGn, ?_⟩
      have := ho _ hle
      cases o with
      | cells l own => obtain ⟨_, cs, rfl, h2⟩ := this; exact ⟨cs, by rw [push_get', if_pos rfl], h2⟩
      | map l => obtain ⟨l', rfl, h2⟩ := this; exact ⟨l', by rw [push_get', if_pos rfl], h2⟩
    · obtain ⟨h2, r, h3, h4, h5, h6⟩ := h1.objs i o' (hold i o' hi e)
      refine ⟨by simp only [VH.push]; omega, r, hle _ _ h3, h4, h5, ?_⟩
      cases o' with
      | cells l own => obtain ⟨cs, h7, h8⟩ := h6; exact ⟨cs, h7, h8.mono hle (FzLe.refl _)⟩
      | map l =>
        obtain ⟨l', h7, h8⟩ := h6
        exact ⟨l', h7, h8.mono hle (FzLe.refl _)⟩
  · have old : ∀ k ok, (st.h.push o).get k = some ok → Bk.put φ st.h.next H.next k = some r → k ≠ st.h.next → W r := fun k ok h2 h3 h4 => by
      obtain ⟨_, r', h5, h6, _⟩ := h.objs k ok (hold k ok h2 h4)
      simp only [Bk.put, if_neg h4] at h3
      rw [h3] at h5; obtain rfl := Option.some.inj h5; exact h6
    by_cases e : i = st.h.next
    · by_cases e' : j = st.h.next
      · rw [e, e']
      · have := old j oj hj hrj e'
        subst e
        simp only [Bk.put, if_true, Option.some.injEq] at hri
        subst hri; exact absurd this hWn
    · by_cases e' : j = st.h.next
      · have := old i oi hi hri e
        subst e'
        simp only [Bk.put, if_true, Option.some.injEq] at hrj
        subst hrj; exact absurd this hWn
      · simp only [Bk.put, if_neg e, if_neg e'] at hri hrj
        exact h.inj i j r oi oj (hold i oi hi e) (hold j oj hj e') hri hrj
  · simp only [Bk.put] at hi
    simp only [VH.push]
    split at hi
    · omega
    · have := h.dom i r hi; omega
  · simp only [Bk.put]
    rw [if_neg (by have := h.n100.1; omega)]
    exact h.glob g hg
  all_goals
    have hown : ∀ i off, ownAt (st.h.push o) i off = true → ownAt st.h i off = true := fun i off ho' => by
      unfold ownAt at ho' ⊢
      by_cases e : i = st.h.next
      · subst e
        simp only [VH.push, if_true] at ho'
        cases o with
        | cells l own => obtain ⟨rfl, _⟩ := ho _ hle; cases ho'
        | map l => cases ho'
      · simpa [VH.push, e] using ho'
    have hhas : ∀ R, Has ⟨st.f, st.w, st.h.push o⟩ R → Has st R := fun R hR => by
      cases R with
      | slot n => exact hR
      | part n j => exact hR
      | cell i off => exact hown i off hR
    have hat : ∀ R a, Has st R → (At fr (H.push bo) (Bk.put φ st.h.next H.next) R a ↔ At fr (H.push bo) φ R a) := fun R a hR => by
      cases R with
      | slot n => exact Iff.rfl
      | part n j => exact Iff.rfl
      | cell i off =>
        obtain ⟨l, own, r, cs, _, _, h3, _⟩ := h.cellW hR
        constructor
        · rintro ⟨r', cs', ro, e1, e2⟩
          rw [hle _ _ h3] at e1; obtain rfl := Option.some.inj e1
          exact ⟨_, cs', ro, h3, e2⟩
        · rintro ⟨r', cs', ro, e1, e2⟩
          exact ⟨r', cs', ro, hle _ _ e1, e2⟩
  · obtain ⟨a, h2, h3⟩ := h1.rt R (hhas R hR)
    exact ⟨a, (hat R a (hhas R hR)).2 h2, h3⟩
  · exact h1.rtx R R' a a' r (hhas R hR) (hhas R' hR') ((hat R a (hhas R hR)).1 ha) ((hat R' a' (hhas R' hR')).1 ha')
  · obtain ⟨a, h2, h3⟩ := h1.alias n i off hm (hown i off ho1)
    exact ⟨a, h2, (hat (.cell i off) a (hown i off ho1)).2 h3⟩
end
end Go.Proofs.YtbpgbhmibmcbnaaGreatDoor.Val

/-! Stores; lists made; appending. -/
namespace Go.Proofs.YtbpgbhmibmcbnaaGreatDoor.Val
open Go Go.Proofs.YtbpgbhmibmcbnaaGreatDoor.Ram
section
variable {φ : Bk} {G : Fz} {W : Nat → Prop} {st : VS} {fr : Fr} {H : AH}

theorem Rel.frozen (h : Rel φ G W st fr H) {H' : AH} {r : Nat} {pre l : List AV} {ro : Bool} (hw : ¬ W r) (hr : r < H'.next) (hn : H.next ≤ H'.next) (hG : ∀ p, G r = some p → p <+: pre) (hk : ∀ q, q < H.next → q ≠ r → H'.get q = H.get q ∧ (W q → H'.tip q = H.tip q))
    (hg : H'.get r = some (.cells l ro)) (hp : pre <+: l) : Rel φ (Fz.put G r pre) (fun q => W q ∨ q = r) st fr H' := by
  refine h.heap (Fz.put_le hG) (fun q hq => .inl hq) hn (fun q hq => ?_) (fun q p hqp => ?_) (fun q hq => ?_)
  · have hne : q ≠ r := fun e => hw (by rw [← e]; exact hq)
    have hlt := h.win q hq
    exact ⟨(hk q hlt hne).1, (hk q hlt hne).2 hq, by simp [Fz.put, hne]⟩
  · unfold Fz.put at hqp
    split at hqp
    · rename_i e; subst e; obtain rfl := Option.some.inj hqp; exact ⟨hr, l, ro, hg, hp⟩
    · rename_i e
      obtain ⟨k1, k2⟩ := h.fz q p hqp
      exact ⟨by omega, by rw [(hk q k1 e).1]; exact k2⟩
  · rcases hq with hq | rfl
    · have := h.win q hq; omega
    · exact hr
theorem RowsRel.of_rowsOf {sz : Nat} : ∀ {n : Nat} {l : List V} {cs : List AV}, VRels φ G l cs → l.length = n * sz → RowsRel φ G sz (rowsOf sz n l) cs
  | 0, _, _, _, _ => by simp [rowsOf, RowsRel]
  | n + 1, l, cs, h, hl => by
    rw [Nat.succ_mul] at hl
    simp only [rowsOf, RowsRel]
    exact ⟨by simp; omega, h.take sz, RowsRel.of_rowsOf (h.drop sz) (by simp; omega)⟩
theorem rowsOf_take {sz : Nat} : ∀ {n : Nat} {l : List V}, rowsOf sz n (l.take (n * sz)) = rowsOf sz n l
  | 0, _ => rfl
  | n + 1, l => by
    simp only [rowsOf]
    rw [List.take_take, Nat.min_eq_left (by rw [Nat.succ_mul]; omega), List.drop_take, show (n + 1) * sz - sz = n * sz by rw [Nat.succ_mul]; omega, rowsOf_take]
theorem rowsOf_len {sz : Nat} : ∀ {n : Nat} {l : List V}, (rowsOf sz n l).length = n
  | 0, _ => rfl
  | n + 1, l => by simp [rowsOf, rowsOf_len]
theorem Rel.newList (h : Rel φ G W st fr H) {d sz : Nat} {rows : List (List V)} {cs : List AV} {cap : Nat} {pre : List AV} (hr : RowsRel φ G sz rows pre) (hl : pre.length = rows.length * sz) (hp : pre <+: cs) (hc : rows.length ≤ cap) (hcap : cap * sz ≤ cs.length) :
    Rel φ (Fz.put G H.next pre) (fun q => W q ∨ q = H.next) ⟨VFr.set st.f d (.lst sz rows), (d, .own) :: st.w.del d, st.h⟩ (Fr.set fr d (.sl (some (H.next, 0)) sz rows.length (some cap))) (H.push (.cells cs false)) ∧ Frm φ G W H φ (Fz.put G H.next pre) (fun q => W q ∨ q = H.next) (H.push (.cells cs false)) := by
  have hWn : ¬ W H.next := fun hw => by have := h.win _ hw; omega
  have hGn : G H.next = none := by
    cases e : G H.next with
    | none => rfl
    | some pre => have := (h.fz _ _ e).1; omega
  have hle : FzLe G (Fz.put G H.next pre) := Fz.put_le fun p e => by rw [hGn] at e; cases e
  have hg : (H.push (.cells cs false)).get H.next = some (.cells cs false) := by rw [push_get', if_pos rfl]
  have h1 := h.frozen (H' := H.push (.cells cs false)) hWn (by simp [AH.push]) (by simp [AH.push]) (fun p e => by rw [hGn] at e; cases e) (fun q hq hne => ⟨by rw [push_get', if_neg hne], fun _ => rfl⟩) hg hp
  refine ⟨?_, by simp [AH.push], BkLe.refl _, hle, fun r hr hw => ⟨by rw [push_get', if_neg (by omega)], rfl, by simp only [Fz.put]; rw [if_neg (by omega)]⟩, fun r hr => hr.imp id fun e => by omega⟩
  refine h1.put_own (v := .lst sz rows) ?_ (w' := st.w) (fun _ _ h => h) none ⟨fun R0 x0 q hR hx e e2 => ?_, ?_⟩
  · simp only [VRel]
    exact .inr ⟨H.next, 0, some cap, pre, rfl, by simp [Fz.put], by omega, by rw [List.drop_zero]; exact hr.mono (BkLe.refl _) hle (List.prefix_refl _) (by omega)⟩
  · obtain ⟨y, k1, k2⟩ := h.rt R0 hR
    obtain ⟨y', k3, k4⟩ := h1.rt R0 hR
    obtain rfl := at_uniq hx k3
    obtain rfl := Option.some.inj e
    -- the right's object is an older one
    have hsame : x0 = y := by
      cases R0 with
      | slot n => exact at_uniq (R := .slot n) (H := H) (φ := φ) hx k1
      | part n j => exact at_uniq (R := .part n j) (H := H) (φ := φ) hx k1
      | cell i off =>
        obtain ⟨l, own, r, cs', _, _, q3, q4, _, q6, _⟩ := h.cellW hR
        obtain ⟨r', cs2, ro, e1, e2, e3⟩ := k3
        rw [q3] at e1; obtain rfl := Option.some.inj e1
        have hlt := h.win _ q4
        rw [push_get', if_neg (by omega)] at e2
        exact at_uniq (R := .cell i off) (fr := fr) (H := H) (φ := φ) ⟨_, cs2, ro, q3, e2, e3⟩ k1
    subst hsame
    exact hWn (k2.id e2).1
  · exact .inr ⟨H.next, 0, sz, rows.length, some cap, pre, rfl, .inr rfl, by simp [Fz.put], by omega, fun e => (by cases e), fun c e => by obtain rfl := Option.some.inj e; exact ⟨hc, cs, hg, hp, by omega⟩⟩
theorem put_rel {l news : List V} {cs ns : List AV} {off : Nat} (h : VRels φ G l cs) (hn : VRels φ G news ns) : VRels φ G (putV l off news) (putCells cs off ns) := by
  unfold putV putCells
  rw [hn.length]
  exact ((h.take _).append hn).append (h.drop _)
end
end Go.Proofs.YtbpgbhmibmcbnaaGreatDoor.Val

/-! Calls: what a call's machine sees, and what its caller has behind it. -/
namespace Go.Proofs.YtbpgbhmibmcbnaaGreatDoor.Val
open Go Go.Proofs.YtbpgbhmibmcbnaaGreatDoor.Ram

theorem vget_zip : ∀ (l : List V) (k n : Nat), VFr.get ((l.zipIdx k).map fun p => (p.2, p.1)) (k + n) = l[n]?
  | [], _, _ => rfl
  | x :: l, k, 0 => by simp [List.zipIdx_cons, VFr.get]
  | x :: l, k, n + 1 => by
    simp only [List.zipIdx_cons, List.map_cons, VFr.get]
    rw [if_neg (by omega), show k + (n + 1) = (k + 1) + n by omega, vget_zip l (k + 1) n]
    simp
theorem vget_frV (l : List V) (n : Nat) : VFr.get (frV l) n = l[n]? := by
  have := vget_zip l 0 n
  simpa [frV] using this
theorem get_zip' : ∀ (l : List AV) (k n : Nat), Fr.get ((l.zipIdx k).map fun p => (p.2, p.1)) (k + n) = l[n]?
  | [], _, _ => rfl
  | x :: l, k, 0 => by simp [List.zipIdx_cons, Fr.get]
  | x :: l, k, n + 1 => by
    simp only [List.zipIdx_cons, List.map_cons, Fr.get]
    rw [if_neg (by omega), show k + (n + 1) = (k + 1) + n by omega, get_zip' l (k + 1) n]
    simp
theorem get_frOf' (l : List AV) (n : Nat) : Fr.get (frOf l) n = l[n]? := by
  have := get_zip' l 0 n
  simpa [frOf] using this
def VOSound (O : VOracle) (A : Oracle) : Prop := ∀ f vs rs S v rs' S', O f vs rs S = some (v, rs', S') → ∀ φ G W H as', Rel φ G W ⟨frV vs, rs.map fun k => (k, .own), S⟩ (frOf as') H → as'.length = vs.length →
  ∃ a H' φ' G' W', A f as' H = some (a, H') ∧ Rel φ' G' W' ⟨[(0, v)], gives 0 v rs', S'⟩ [(0, a)] H' ∧ Frm φ G W H φ' G' W' H'
section
variable {φ : Bk} {G : Fz} {W : Nat → Prop} {st : VS} {fr : Fr} {H : AH}

def stays (st : VS) (g : Option (Nat × Nat)) : Rt → Prop
  | .slot n => (n, Tag.own) ∈ gone st.w g
  | .part n j => (n, Tag.comp j) ∈ gone st.w g
  | .cell _ _ => False
theorem stays_has {g : Option (Nat × Nat)} {R : Rt} (h : stays st g R) : Has st R := by
  have sub : ∀ p, p ∈ gone st.w g → p ∈ st.w := fun p hp => by
    cases g with
    | none => exact hp
    | some q => exact (mem_ne.1 hp).1
  cases R with
  | slot n => exact sub _ h
  | part n j => exact sub _ h
  | cell i off => exact h.elim
theorem Rel.callee (h : Rel φ G W st fr H) {args : List Opd} {l : Option Nat} {vs : List V} {as' caps' : List AV} {caps : List V} (_hv : evsV st.f args = some vs) (ha : Ram.evs fr args = some as') (hr : VRels φ G (vs ++ caps) (as' ++ caps')) (hc : caps = [] ∨ l = none) :
    Rel φ G (fun r => W r ∧ ¬ ∃ R x, stays st (goes st.w l args) R ∧ At fr H φ R x ∧ headId x = some r) ⟨frV (vs ++ caps), (fstL (goes st.w l args)).map fun k => (k, .own), st.h⟩ (frOf (as' ++ caps')) H := by
  -- the one right that goes along
  have going : ∀ k n, goes st.w l args = some (k, n) → (n, Tag.own) ∈ st.w ∧ ∃ x, Fr.get fr n = some x ∧ (as' ++ caps')[k]? = some x := fun k n hg => by
    unfold goes at hg
    simp only [Option.bind_eq_some_iff] at hg
    obtain ⟨k', rfl, n', ⟨o, h1, h2⟩, h3⟩ := hg
    split at h3
    · rename_i hw
      obtain ⟨rfl, rfl⟩ := Prod.mk.inj (Option.some.inj h3)
      refine ⟨by simpa using hw, ?_⟩
      cases o <;> simp only [tOf, reduceCtorEq, Option.some.injEq] at h2
      rename_i n0
      subst h2
      have key : ∀ (args : List Opd) (as' : List AV) (k : Nat), Ram.evs fr args = some as' → args[k]? = some (.t n0) → ∃ x, Fr.get fr n0 = some x ∧ as'[k]? = some x := by
        intro args
        induction args with
        | nil => intro as' k _ h; simp at h
        | cons o args ih =>
          intro as' k ha h
          simp only [Ram.evs, Option.bind_eq_some_iff, Option.map_eq_some_iff] at ha
          obtain ⟨x, h4, xs, h5, rfl⟩ := ha
          cases k with
          | zero => simp at h; subst h; exact ⟨x, h4, rfl⟩
          | succ k => simp at h; obtain ⟨y, h6, h7⟩ := ih xs k h5 h; exact ⟨y, h6, by simpa using h7⟩
      obtain ⟨x, h6, h7⟩ := key args as' k' ha h1
      refine ⟨x, h6, ?_⟩
      rw [List.getElem?_append_left (List.getElem?_eq_some_iff.1 h7).1]
      exact h7
    · cases h3
  have hhas : ∀ R, Has ⟨frV (vs ++ caps), (fstL (goes st.w l args)).map fun k => (k, .own), st.h⟩ R → (∃ k n, goes st.w l args = some (k, n) ∧ R = .slot k) ∨ ∃ i off, R = .cell i off ∧ Has st R := fun R hR => by
    cases R with
    | slot m =>
      simp only [Has, List.mem_map, Prod.mk.injEq, and_true] at hR
      obtain ⟨k, hk, rfl⟩ := hR
      cases e : goes st.w l args with
      | none => rw [e] at hk; cases hk
      | some q => obtain ⟨k', n⟩ := q; rw [e] at hk; simp only [fstL, List.mem_singleton] at hk; subst hk; exact .inl ⟨k, n, rfl, rfl⟩
    | part m j => simp [Has] at hR
    | cell i off => exact .inr ⟨i, off, rfl, hR⟩
  have hstay : ∀ k n, goes st.w l args = some (k, n) → ¬ stays st (goes st.w l args) (.slot n) := fun k n e hs => by
    rw [e] at hs
    exact (mem_ne.1 hs).2 rfl
  have hWc : ∀ R x r, Has st R → ¬ stays st (goes st.w l args) R → At fr H φ R x → headId x = some r → (W r ∧ ¬ ∃ R x, stays st (goes st.w l args) R ∧ At fr H φ R x ∧ headId x = some r) := fun R x r hR hs hx hr => by
    obtain ⟨y, h1, h2⟩ := h.rt R hR
    obtain rfl := at_uniq hx h1
    refine ⟨(h2.id hr).1, ?_⟩
    rintro ⟨R', x', h3, h4, h5⟩
    exact hs (by rw [h.rtx R R' x x' r hR (stays_has h3) hx h4 hr h5]; exact h3)
  have hcan : ∀ R x, Has st R → ¬ stays st (goes st.w l args) R → At fr H φ R x → Can G H W x → Can G H (fun r => W r ∧ ¬ ∃ R x, stays st (goes st.w l args) R ∧ At fr H φ R x ∧ headId x = some r) x := fun R x hR hs hx hcx => by
    rcases hcx with hcx | ⟨r, o, sz, len, c, pre, rfl, h1, h2⟩
    · exact .inl hcx
    · exact .inr ⟨r, o, sz, len, c, pre, rfl, hWc R _ r hR hs hx rfl, h2⟩
  refine ⟨fun n v hn => ?_, fun i o ho => ?_, h.inj, h.dom, h.glob, h.n100, h.fz, fun r hr => h.win r hr.1, fun R hR => ?_, fun R R' a a' r hR hR' hx hx' hr1 hr2 => ?_, h.gl, fun n i off hm _ => ?_⟩
  · simp only at hn
    rw [vget_frV] at hn
    obtain ⟨a, h1, h2⟩ := hr.get hn
    exact ⟨a, by rw [get_frOf']; exact h1, h2⟩
  · obtain ⟨h1, r, h2, h3, h4, h5⟩ := h.objs i o ho
    refine ⟨h1, r, h2, ⟨h3, ?_⟩, h4, h5⟩
    rintro ⟨R, x, h6, h7, h8⟩
    obtain ⟨y, h9, h10⟩ := h.rt R (stays_has h6)
    obtain rfl := at_uniq h7 h9
    obtain ⟨_, pre, hp⟩ := h10.id h8
    rw [h4] at hp; cases hp
  · rcases hhas R hR with ⟨k, n, e, rfl⟩ | ⟨i, off, rfl, hc'⟩
    · obtain ⟨h1, x, h2, h3⟩ := going k n e
      obtain ⟨y, h4, h5⟩ := h.rt (.slot n) h1
      have : x = y := by simp only [At] at h4; rw [h2] at h4; exact Option.some.inj h4
      subst this
      exact ⟨x, by simp only [At]; rw [get_frOf']; exact h3, hcan (.slot n) x h1 (hstay k n e) h2 h5⟩
    · obtain ⟨y, h4, h5⟩ := h.rt (.cell i off) hc'
      exact ⟨y, h4, hcan (.cell i off) y hc' id h4 h5⟩
  · rcases hhas R hR with ⟨k, n, e, rfl⟩ | ⟨i, off, rfl, hc'⟩
    · rcases hhas R' hR' with ⟨k', n', e', rfl⟩ | ⟨i', off', rfl, hc''⟩
      · rw [e] at e'; obtain ⟨rfl, rfl⟩ := Prod.mk.inj (Option.some.inj e'); rfl
      · exfalso
        obtain ⟨h1, x, h2, h3⟩ := going k n e
        simp only [At] at hx
        rw [get_frOf', h3] at hx
        obtain rfl := Option.some.inj hx
        cases h.rtx (.slot n) (.cell i' off') x a' r h1 hc'' h2 hx' hr1 hr2
    · rcases hhas R' hR' with ⟨k', n', e', rfl⟩ | ⟨i', off', rfl, hc''⟩
      · exfalso
        obtain ⟨h1, x, h2, h3⟩ := going k' n' e'
        simp only [At] at hx'
        rw [get_frOf', h3] at hx'
        obtain rfl := Option.some.inj hx'
        cases h.rtx (.cell i off) (.slot n') a x r hc' h1 hx h2 hr1 hr2
      · exact h.rtx _ _ a a' r hc' hc'' hx hx' hr1 hr2
  · simp at hm
theorem mem_gives {d m : Nat} {v : V} {rs : List Nat} {t : Tag} (h : (m, t) ∈ gives d v rs) : m = d ∧ ((t = .own ∧ (0, Tag.own) ∈ gives 0 v rs) ∨ ∃ j, t = .comp j ∧ (0, Tag.comp j) ∈ gives 0 v rs) := by
  unfold gives at h ⊢
  split at h
  · simp only [List.mem_map, Prod.mk.injEq] at h
    obtain ⟨j, h1, rfl, rfl⟩ := h
    exact ⟨rfl, .inr ⟨j, rfl, List.mem_map.2 ⟨j, h1, rfl⟩⟩⟩
  · split at h
    · rename_i hc
      simp only [List.mem_singleton, Prod.mk.injEq] at h
      obtain ⟨rfl, rfl⟩ := h
      exact ⟨rfl, .inl ⟨rfl, by rw [if_pos hc]; simp⟩⟩
    · cases h
  · cases h
theorem Rel.back (h : Rel φ G W st fr H) {g : Option (Nat × Nat)} {φ' : Bk} {G' : Fz} {W' : Nat → Prop} {H' : AH} {v : V} {a : AV} {rs : List Nat} {S' : VH}
    (hres : Rel φ' G' W' ⟨[(0, v)], gives 0 v rs, S'⟩ [(0, a)] H') (hf : Frm φ G (fun r => W r ∧ ¬ ∃ R x, stays st g R ∧ At fr H φ R x ∧ headId x = some r) H φ' G' W' H') (d : Option Nat) :
    ∃ W2, Rel φ' G' W2 (match d with | some d => ⟨VFr.set st.f d v, gives d v rs ++ (gone st.w.noCell g).del d, S'⟩ | none => ⟨st.f, gone st.w.noCell g, S'⟩) (putD fr d (some a)) H' ∧ Frm φ G W H φ' G' W2 H' := by
  have ha : VRel φ' G' v a := by
    obtain ⟨b, h1, h2⟩ := hres.slots 0 v rfl
    obtain rfl : a = b := by simpa [Fr.get] using h1
    exact h2
  let Ws : Nat → Prop := fun r => W r ∧ ∃ R x, stays st g R ∧ At fr H φ R x ∧ headId x = some r
  have hsplit : ∀ r, W' r → ¬ Ws r := fun r h1 h2 => by
    rcases hf.win r h1 with h3 | h3
    · exact h3.2 h2.2
    · have := h.win r h2.1; omega
  have hout : ∀ r, Ws r → H'.get r = H.get r ∧ H'.tip r = H.tip r ∧ G' r = G r := fun r hr => hf.out r (h.win r hr.1) fun h1 => h1.2 hr.2
  have hfrm : Frm φ G W H φ' G' (fun r => W' r ∨ Ws r) H' := ⟨hf.next, hf.phi, hf.fz, fun r hr hw => hf.out r hr fun h1 => hw h1.1, fun r hr => by
    rcases hr with hr | hr
    · exact (hf.win r hr).imp (fun h => h.1) id
    · exact .inl hr.1⟩
  have gsub : ∀ p, p ∈ gone st.w.noCell g → p ∈ gone st.w g ∧ ∀ i off, p.2 ≠ .cell i off := fun p hp => by
    have nc : ∀ p, p ∈ st.w.noCell → p ∈ st.w ∧ ∀ i off, p.2 ≠ .cell i off := fun p hp => by
      simp only [Rts.noCell, List.mem_filter] at hp
      refine ⟨hp.1, fun i off e => ?_⟩
      rw [e] at hp; cases hp.2
    cases g with
    | none => exact nc p hp
    | some q =>
      obtain ⟨h1, h2⟩ := mem_ne.1 hp
      exact ⟨mem_ne.2 ⟨(nc p h1).1, h2⟩, (nc p h1).2⟩
  -- a staying right
  have stay : ∀ R, stays st g R → ∃ x, At fr H φ R x ∧ Can G' H' (fun r => W' r ∨ Ws r) x ∧ ∀ r, headId x = some r → Ws r := fun R hR => by
    obtain ⟨x, h1, h2⟩ := h.rt R (stays_has hR)
    refine ⟨x, h1, ?_, fun r hr => ⟨(h2.id hr).1, R, x, hR, h1, hr⟩⟩
    rcases h2 with h2 | ⟨r, o, sz, len, c, pre, rfl, k1, k2, k3, k4, k5⟩
    · exact .inl h2
    · have hws : Ws r := ⟨k1, R, _, hR, h1, rfl⟩
      obtain ⟨q1, q2, q3⟩ := hout r hws
      refine .inr ⟨r, o, sz, len, c, pre, rfl, .inr hws, by rw [q3]; exact k2, k3, fun e => ?_, fun d e => ?_⟩
      · obtain ⟨z1, z2⟩ := k4 e; exact ⟨q2.trans z1, q1.trans z2⟩
      · obtain ⟨z1, l, z2, z3, z4⟩ := k5 d e; exact ⟨z1, l, q1.trans z2, z3, z4⟩
  have hat0 : ∀ R x, stays st g R → At fr H φ R x → ∀ fr2 φ2 H2, (∀ n, (∃ j, R = .part n j) ∨ R = .slot n → Fr.get fr2 n = Fr.get fr n) → At fr2 H2 φ2 R x := fun R x hR hx fr2 φ2 H2 hfr => by
    cases R with
    | slot n => simp only [At] at hx ⊢; rw [hfr n (.inr rfl)]; exact hx
    | part n j => obtain ⟨l, h1, h2⟩ := hx; exact ⟨l, by rw [hfr n (.inl ⟨j, rfl⟩)]; exact h1, h2⟩
    | cell i off => exact hR.elim
  have hcanW : ∀ x, Can G' H' W' x → Can G' H' (fun r => W' r ∨ Ws r) x := fun x hx => by
    rcases hx with hx | ⟨r, o, sz, len, c, pre, rfl, k1, k2⟩
    · exact .inl hx
    · exact .inr ⟨r, o, sz, len, c, pre, rfl, .inl k1, k2⟩
  refine ⟨fun r => W' r ∨ Ws r, ?_, hfrm⟩
  -- the rights behind the call: those of the answer, those that stay
  have main : ∀ (f2 : VFr) (w2 : Rts) (fr2 : Fr) (dd : Option Nat), (∀ n u, VFr.get f2 n = some u → ∃ b, Fr.get fr2 n = some b ∧ VRel φ' G' u b) →
      (∀ n t, (n, t) ∈ w2 → (dd = some n ∧ (n, t) ∈ gives n v rs) ∨ ((n, t) ∈ gone st.w.noCell g ∧ dd ≠ some n)) →
      (∀ d, dd = some d → Fr.get fr2 d = some a) → (∀ n, dd ≠ some n → Fr.get fr2 n = Fr.get fr n) → Rel φ' G' (fun r => W' r ∨ Ws r) ⟨f2, w2, S'⟩ fr2 H' := fun f2 w2 fr2 dd hsl hw2 hd hnd => by
    -- where a right comes from
    have src : ∀ R, Has ⟨f2, w2, S'⟩ R → (∃ R0, Has ⟨[(0, v)], gives 0 v rs, S'⟩ R0 ∧ (∀ x, At [(0, a)] H' φ' R0 x ↔ At fr2 H' φ' R x) ∧ (∀ R', Has ⟨f2, w2, S'⟩ R' → (∀ x, At [(0, a)] H' φ' R0 x ↔ At fr2 H' φ' R' x) → (match R0, R' with | .slot _, .slot m => dd = some m | .part _ j, .part m j' => dd = some m ∧ j = j' | .cell i o, .cell i' o' => i = i' ∧ o = o' | _, _ => False) → R = R') ∧ (match R0, R with | .slot _, .slot m => dd = some m | .part _ j, .part m j' => dd = some m ∧ j = j' | .cell i o, .cell i' o' => i = i' ∧ o = o' | _, _ => False)) ∨ (stays st g R ∧ ∀ x, At fr H φ R x → At fr2 H' φ' R x) := fun R hR => by
      cases R with
      | slot m =>
        rcases hw2 m .own hR with ⟨h1, h2⟩ | ⟨h1, h2⟩
        · left
          obtain ⟨_, h3 | ⟨j, h3, _⟩⟩ := mem_gives h2
          · refine ⟨.slot 0, h3.2, fun x => ?_, fun R' _ _ hm => ?_, h1⟩
            · simp only [At]; rw [hd m h1]; simp [Fr.get]
            · cases R' with
              | slot m' => simp only at hm; rw [h1] at hm; rw [Option.some.inj hm]
              | part m' j' => exact hm.elim
              | cell i' o' => exact hm.elim
          · cases h3
        · right
          refine ⟨(gsub _ h1).1, fun x hx => ?_⟩
          simp only [At] at hx ⊢; rw [hnd m h2]; exact hx
      | part m j =>
        rcases hw2 m (.comp j) hR with ⟨h1, h2⟩ | ⟨h1, h2⟩
        · left
          obtain ⟨_, h3 | ⟨j', h3, h4⟩⟩ := mem_gives h2
          · cases h3.1
          · cases h3
            refine ⟨.part 0 j, h4, fun x => ?_, fun R' _ _ hm => ?_, h1, rfl⟩
            · simp only [At]; rw [hd m h1]; simp [Fr.get]
            · cases R' with
              | slot m' => exact hm.elim
              | part m' j' => simp only at hm; rw [h1] at hm; obtain ⟨e, rfl⟩ := hm; rw [Option.some.inj e]
              | cell i' o' => exact hm.elim
        · right
          refine ⟨(gsub _ h1).1, fun x hx => ?_⟩
          obtain ⟨l, h3, h4⟩ := hx
          exact ⟨l, by rw [hnd m h2]; exact h3, h4⟩
      | cell i off =>
        left
        refine ⟨.cell i off, hR, fun x => Iff.rfl, fun R' _ _ hm => ?_, rfl, rfl⟩
        cases R' with
        | slot m' => exact hm.elim
        | part m' j' => exact hm.elim
        | cell i' o' => simp only at hm; obtain ⟨rfl, rfl⟩ := hm; rfl
    refine ⟨hsl, fun i o ho => ?_, hres.inj, hres.dom, hres.glob, hres.n100, hres.fz, fun r hr => ?_, fun R hR => ?_, fun R R' x x' r hR hR' hx hx' hr hr' => ?_, hres.gl, fun n i off hm _ => ?_⟩
    · obtain ⟨h1, r, h2, h3, h4⟩ := hres.objs i o ho
      exact ⟨h1, r, h2, .inl h3, h4⟩
    · rcases hr with hr | hr
      · exact hres.win r hr
      · exact Nat.lt_of_lt_of_le (h.win r hr.1) hf.next
    · rcases src R hR with ⟨R0, h1, h2, _, _⟩ | ⟨h1, h2⟩
      · obtain ⟨x, h3, h4⟩ := hres.rt R0 h1
        exact ⟨x, (h2 x).1 h3, hcanW x h4⟩
      · obtain ⟨x, h3, h4, _⟩ := stay R h1
        exact ⟨x, h2 x h3, h4⟩
    · rcases src R hR with ⟨R0, h1, h2, h3, h4⟩ | ⟨h1, h2⟩
      · have hx0 := (h2 x).2 hx
        obtain ⟨y, g1, g2⟩ := hres.rt R0 h1
        obtain rfl := at_uniq hx0 g1
        rcases src R' hR' with ⟨R0', h1', h2', h3', h4'⟩ | ⟨h1', h2'⟩
        · have hx0' := (h2' x').2 hx'
          have e := hres.rtx R0 R0' x x' r h1 h1' hx0 hx0' hr hr'
          subst e
          exact h3 R' hR' h2' h4'
        · exfalso
          obtain ⟨y', g3, _, g4⟩ := stay R' h1'
          obtain rfl := at_uniq hx' (h2' y' g3)
          exact hsplit r (g2.id hr).1 (g4 r hr')
      · obtain ⟨y, g3, _, g4⟩ := stay R h1
        obtain rfl := at_uniq hx (h2 y g3)
        rcases src R' hR' with ⟨R0', h1', h2', h3', h4'⟩ | ⟨h1', h2'⟩
        · exfalso
          have hx0' := (h2' x').2 hx'
          obtain ⟨y', g1, g2⟩ := hres.rt R0' h1'
          obtain rfl := at_uniq hx0' g1
          exact hsplit r (g2.id hr').1 (g4 r hr)
        · obtain ⟨y', g3', _, _⟩ := stay R' h1'
          obtain rfl := at_uniq hx' (h2' y' g3')
          exact h.rtx R R' x x' r (stays_has h1) (stays_has h1') g3 g3' hr hr'
    · exfalso
      rcases hw2 n _ hm with ⟨_, h2⟩ | ⟨h2, _⟩
      · obtain ⟨_, h3 | ⟨j, h3, _⟩⟩ := mem_gives h2
        · cases h3.1
        · cases h3
      · exact (gsub _ h2).2 i off rfl
  cases d with
  | none =>
    exact main st.f _ fr none (fun n u hu => by obtain ⟨b, h1, h2⟩ := h.slots n u hu; exact ⟨b, h1, h2.mono hf.phi hf.fz⟩) (fun n t hm => .inr ⟨hm, fun e => by cases e⟩) (fun d e => by cases e) (fun n _ => rfl)
  | some d =>
    refine main _ _ (Fr.set fr d a) (some d) (fun n u hu => ?_) (fun n t hm => ?_) (fun d' e => ?_) (fun n hn => ?_)
    · rw [vget_set] at hu
      rw [get_set']
      split at hu
      · rename_i e; obtain rfl := Option.some.inj hu; rw [if_pos e]; exact ⟨a, rfl, ha⟩
      · rename_i e; rw [if_neg e]; obtain ⟨b, h1, h2⟩ := h.slots n u hu; exact ⟨b, h1, h2.mono hf.phi hf.fz⟩
    · rcases List.mem_append.1 hm with h1 | h1
      · obtain ⟨rfl, _⟩ := mem_gives h1; exact .inl ⟨rfl, h1⟩
      · obtain ⟨h2, h3⟩ := mem_del.1 h1; exact .inr ⟨h2, fun e => h3 (Option.some.inj e).symm⟩
    · obtain rfl := Option.some.inj e; rw [get_set', if_pos rfl]
    · rw [get_set', if_neg (fun e => hn (by rw [e]))]
end
end Go.Proofs.YtbpgbhmibmcbnaaGreatDoor.Val

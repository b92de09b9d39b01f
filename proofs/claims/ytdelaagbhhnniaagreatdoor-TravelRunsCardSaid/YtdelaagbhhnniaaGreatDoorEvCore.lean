import Derived.Calls
namespace Go.Ev
set_option linter.unusedVariables false

/-- Plain data: no memory of its own is named. -/
inductive D where
  | bool (b : Bool)
  | int (k : IntKind) (n : Int)
  | flt (k : FloatKind) (bits : Nat)
  | str (s : List UInt8)
  | nilp | nilm | nilf | nili | nils
  | sl (xs : List D) (tight : Bool)
  | agg (xs : List D)
  | iface (t : Nat) (x : D)
  deriving Inhabited

/-- What a slot holds. -/
inductive AV where
  | d (x : D)
  | tsl (xs : List D) (tok : Nat)
  | ptr (id gen off : Nat)
  | eptr (x : D) (off : Nat)
  | msl (id gen off len lim sz : Nat)
  | map (id : Nat)
  | fn (f : Nat) (caps : List AV)
  | agg (xs : List AV)
  | tup (xs : List AV)
  | any
  | it (k g : Nat) (id : Option Nat) (since : Nat) (seen : List Nat) (st : Nat)
  deriving Inhabited

abbrev AL (α : Type) := List (Nat × α)
def AL.get {α : Type} : AL α → Nat → Option α
  | [], _ => none
  | (k, v) :: l, n => bif Nat.beq k n then some v else AL.get l n
def AL.del {α : Type} : AL α → Nat → AL α
  | [], _ => []
  | (k, v) :: l, n => bif Nat.beq k n then AL.del l n else (k, v) :: AL.del l n
def AL.set {α : Type} (l : AL α) (n : Nat) (v : α) : AL α := (n, v) :: AL.del l n
def AL.has {α : Type} : AL α → Nat → Bool
  | [], _ => false
  | (k, _) :: l, n => bif Nat.beq k n then true else AL.has l n
/-- The last entry of each key alone. -/
def AL.tidy {α : Type} : AL α → List Nat → AL α
  | [], _ => []
  | (k, v) :: l, seen => bif seen.contains k then AL.tidy l seen else (k, v) :: AL.tidy l (k :: seen)
/-- The keys of the first, with the second one's values. -/
def AL.over {α : Type} : AL α → AL α → AL α
  | [], _ => []
  | (k, _) :: l, m => match m.get k with
    | some v => (k, v) :: AL.over l m
    | none => AL.over l m

/-- A map: keys, values, each with the number of its birth, and the next such number. -/
structure MapD where
  es : List (D × AV × Nat)
  clk : Nat
  deriving Inhabited

inductive Blk where
  | cells (gen : Nat) (cs : List AV)
  | map (m : MapD)
  | obj (kind : Nat) (x : D)
  deriving Inhabited

structure St where
  H : AL Blk
  T : AL Nat
  nx : Nat
  deriving Inhabited

def D.cells : D → List D
  | .agg xs => xs
  | x => [x]
def AV.cells : AV → List AV
  | .d (.agg xs) => xs.map .d
  | .agg xs => xs
  | x => [x]

def AV.plain : AV → Bool
  | .tup _ => false
  | .any => false
  | .it .. => false
  | _ => true

def allD : List AV → Option (List D)
  | [] => some []
  | .d x :: l => (allD l).map (x :: ·)
  | _ :: _ => none

def mkAgg (l : List AV) : AV :=
  match allD l with
  | some xs => .d (.agg xs)
  | none => .agg l

mutual
def toD : AV → Option D
  | .d x => some x
  | .tsl xs _ => some (.sl xs false)
  | .agg l => (toDs l).map .agg
  | _ => none
def toDs : List AV → Option (List D)
  | [] => some []
  | x :: l => match toD x with
    | some y => (toDs l).map (y :: ·)
    | none => none
end

def mapO {α β : Type} (f : α → Option β) : List α → Option (List β)
  | [] => some []
  | x :: l => match f x with
    | some y => (mapO f l).map (y :: ·)
    | none => none

/-- Constants. -/
def ofScalar : Value → Option D
  | .bool b => some (.bool b)
  | .int k n => some (.int k n)
  | .float k b => some (.flt k b)
  | .string s => some (.str s.data.toList)
  | .pointer none => some .nilp
  | .slice none 0 0 => some .nils
  | .map none => some .nilm
  | .nilFunc => some .nilf
  | .nilIface => some .nili
  | _ => none
def ofConst : Value → Option D
  | .agg a => (mapO ofScalar a.toList).map .agg
  | v => ofScalar v

mutual
def D.same : D → D → Bool
  | .bool a, .bool b => a == b
  | .int k n, .int k' m => decide (k = k') && decide (n = m)
  | .flt k n, .flt k' m => decide (k = k') && Nat.beq n m
  | .str a, .str b => a == b
  | .nilp, .nilp => true
  | .nilm, .nilm => true
  | .nilf, .nilf => true
  | .nili, .nili => true
  | .nils, .nils => true
  | .sl xs t, .sl ys t' => t == t' && D.sames xs ys
  | .agg xs, .agg ys => D.sames xs ys
  | .iface t x, .iface t' y => Nat.beq t t' && D.same x y
  | _, _ => false
def D.sames : List D → List D → Bool
  | [], [] => true
  | x :: xs, y :: ys => D.same x y && D.sames xs ys
  | _, _ => false
end

mutual
def AV.same : AV → AV → Bool
  | .d x, .d y => D.same x y
  | .tsl xs a, .tsl ys b => Nat.beq a b && D.sames xs ys
  | .ptr a b c, .ptr a' b' c' => Nat.beq a a' && Nat.beq b b' && Nat.beq c c'
  | .eptr x o, .eptr y o' => Nat.beq o o' && D.same x y
  | .msl a1 a2 a3 a4 a5 a6, .msl b1 b2 b3 b4 b5 b6 => Nat.beq a1 b1 && Nat.beq a2 b2 && Nat.beq a3 b3 && Nat.beq a4 b4 && Nat.beq a5 b5 && Nat.beq a6 b6
  | .map a, .map b => Nat.beq a b
  | .fn f xs, .fn g ys => Nat.beq f g && AV.sames xs ys
  | .agg xs, .agg ys => AV.sames xs ys
  | .tup xs, .tup ys => AV.sames xs ys
  | .any, .any => true
  | _, _ => false
def AV.sames : List AV → List AV → Bool
  | [], [] => true
  | x :: xs, y :: ys => AV.same x y && AV.sames xs ys
  | _, _ => false
end

section types
variable (P : Program)
def szOf (t : Nat) : Nat := match P.info? t with | some i => i.size | none => 0
def bytesOf (t : Nat) : Nat := match P.info? t with | some i => i.bytes | none => 0
def aggO (t : Nat) : Option Bool := match P.underlying t with
  | some (.struct _) => some true
  | some (.array ..) => some true
  | some _ => some false
  | none => none
def fieldOf (s f : Nat) : Option (Nat × Nat) := match P.underlying s with
  | some (.struct fs) => (fs[f]?).map fun x => (x.offset, x.type)
  | _ => none
def elemSl (t : Nat) : Option Nat := match P.underlying t with | some (.slice e) => some e | _ => none
def zeroOf (t : Nat) : Option D := match P.info? t with | some i => i.zero.bind ofConst | none => none
def intT (t : Nat) : Option IntKind := match P.underlying t with | some (.int k) => some k | _ => none
def strT (t : Nat) : Bool := match P.underlying t with | some .string => true | _ => false
end types

inductive Nxt where
  | val (v : AV) (S : St)
  | skip (S : St)
  | call (f : Nat) (args : List AV)
  | panic (v : AV)

def part (P : Program) (t : Nat) (cs : List AV) (off : Nat) : Option AV :=
  match aggO P t with
  | some true => if off + szOf P t ≤ cs.length then some (mkAgg ((cs.drop off).take (szOf P t))) else none
  | some false => cs[off]?
  | none => none
def partD (P : Program) (t : Nat) (cs : List D) (off : Nat) : Option D :=
  match aggO P t with
  | some true => if off + szOf P t ≤ cs.length then some (.agg ((cs.drop off).take (szOf P t))) else none
  | some false => cs[off]?
  | none => none

def setAt {α : Type} (cs : List α) (off : Nat) : List α → List α
  | [] => cs
  | v :: l => setAt (cs.set off v) (off + 1) l

def asNat : D → Option Nat
  | .int _ n => if 0 ≤ n then some n.toNat else none
  | _ => none

/-- Two pieces of data of a type that may be compared: are they the same? -/
def eqvT (P : Program) : Nat → Nat → D → D → Option Bool
  | 0, _, _, _ => none
  | n + 1, t, x, y =>
    match P.underlying t, x, y with
    | some .bool, .bool a, .bool b => some (a == b)
    | some (.int _), .int k a, .int k' b => if k = k' then some (a == b) else none
    | some .string, .str a, .str b => some (a == b)
    | some (.pointer _), .nilp, .nilp => some true
    | some (.map _ _), .nilm, .nilm => some true
    | some (.func _ _ _), .nilf, .nilf => some true
    | some (.slice _), .nils, .nils => some true
    | some (.slice _), .sl (_ :: _) _, .nils => some false
    | some (.slice _), .nils, .sl (_ :: _) _ => some false
    | some (.interface _), .nili, .iface _ _ => some false
    | some (.interface _), .iface _ _, .nili => some false
    | some (.interface _), .iface tx vx, .iface ty vy =>
      if tx = ty then (match P.info? tx with
        | some i => if i.comparable then eqvT P n tx vx vy else none
        | none => none)
      else some false
    | some (.struct fs), .agg xs, .agg ys => if P.stoodInHeld t then none else
      fs.toList.foldr (fun f k => if f.name = "_" then k else
        match partD P f.type xs f.offset, partD P f.type ys f.offset with
        | some a, some b => match eqvT P n f.type a b with
          | some true => k
          | some false => some false
          | none => none
        | _, _ => none) (some true)
    | _, _, _ => none

def AV.eqv (P : Program) (t : Nat) : AV → AV → Option Bool
  | .d x, .d y => match x, y with
    | .agg _, .agg _ => if P.eqGuardType P.depth t then none else eqvT P 20 t x y
    | x, y => eqvT P 20 t x y
  | .msl _ _ _ _ _ _, .d .nils => match P.underlying t with | some (.slice _) => some false | _ => none
  | .tsl (_ :: _) _, .d .nils => match P.underlying t with | some (.slice _) => some false | _ => none
  | .ptr .., .d .nilp => match P.underlying t with | some (.pointer _) => some false | _ => none
  | .eptr .., .d .nilp => match P.underlying t with | some (.pointer _) => some false | _ => none
  | .d .nilp, .ptr .. => match P.underlying t with | some (.pointer _) => some false | _ => none
  | .d .nilp, .eptr .. => match P.underlying t with | some (.pointer _) => some false | _ => none
  | .map _, .d .nilm => match P.underlying t with | some (.map _ _) => some false | _ => none
  | .fn _ _, .d .nilf => match P.underlying t with | some (.func _ _ _) => some false | _ => none
  | _, _ => none

def strLt : List UInt8 → List UInt8 → Bool
  | _, [] => false
  | [], _ :: _ => true
  | a :: x, b :: y => a < b || (a == b && strLt x y)

def intBin (op : BinOp) (k : IntKind) (a b : Int) : Option D :=
  match op with
  | .add => some (.int k (k.wrap (a + b)))
  | .sub => some (.int k (k.wrap (a - b)))
  | .mul => some (.int k (k.wrap (a * b)))
  | .quo => if b = 0 then none else some (.int k (k.wrap (a.tdiv b)))
  | .rem => if b = 0 then none else some (.int k (a.tmod b))
  | .and => some (.int k (k.wrap (BitVec.ofInt k.bits a &&& BitVec.ofInt k.bits b).toNat))
  | .or => some (.int k (k.wrap (BitVec.ofInt k.bits a ||| BitVec.ofInt k.bits b).toNat))
  | .xor => some (.int k (k.wrap (BitVec.ofInt k.bits a ^^^ BitVec.ofInt k.bits b).toNat))
  | .andNot => some (.int k (k.wrap (BitVec.ofInt k.bits a &&& ~~~ BitVec.ofInt k.bits b).toNat))
  | .eql => some (.bool (a == b))
  | .neq => some (.bool (a != b))
  | .lss => some (.bool (decide (a < b)))
  | .leq => some (.bool (decide (a ≤ b)))
  | .gtr => some (.bool (decide (a > b)))
  | .geq => some (.bool (decide (a ≥ b)))
  | _ => none

def strBin (op : BinOp) (a b : List UInt8) : Option D :=
  match op with
  | .add => if a.length + b.length ≤ 4611686018427387904 then some (.str (a ++ b)) else none
  | .eql => some (.bool (a == b))
  | .neq => some (.bool (!(a == b)))
  | .lss => some (.bool (strLt a b))
  | .leq => some (.bool (strLt a b || a == b))
  | .gtr => some (.bool (!(strLt a b || a == b)))
  | .geq => some (.bool (!(strLt a b)))
  | _ => none

def shiftD (op : BinOp) (k : IntKind) (x y : Int) : Option D :=
  if y < 0 then none else
  match op with
  | .shl => some (.int k (k.wrap (x * 2 ^ (min y.toNat k.bits))))
  | .shr => some (.int k (x.fdiv (2 ^ (min y.toNat k.bits))))
  | _ => none

def binD (P : Program) (t : Nat) (op : BinOp) (x y : AV) : Option D :=
  match op, x, y with
  | .shl, .d (.int k a), .d (.int _ b) => shiftD .shl k a b
  | .shr, .d (.int k a), .d (.int _ b) => shiftD .shr k a b
  | op, .d (.int k a), .d (.int k' b) => if k = k' then intBin op k a b else none
  | op, .d (.str a), .d (.str b) => strBin op a b
  | .eql, x, y => (AV.eqv P t x y).map .bool
  | .neq, x, y => (AV.eqv P t x y).map fun b => .bool (!b)
  | _, _, _ => none

def cellsP (v : AV) : Option (List AV) := bif v.plain then some v.cells else none
def cellsD (v : AV) : Option (List D) := match toD v with | some x => some x.cells | none => none

/-- Fill the parts of a struct or an array. -/
def fillD {α : Type} (cellsOf : AV → Option (List α)) (place : Nat → Option (Nat × Nat)) (cells : List α) : List (Nat × AV) → Option (List α)
  | [] => some cells
  | (i, v) :: rest =>
    match place i, cellsOf v with
    | some (off, size), some cs => if cs.length = size ∧ off + cs.length ≤ cells.length then fillD cellsOf place (setAt cells off cs) rest else none
    | _, _ => none

def evals (ρ : Operand → Option AV) (ps : Array (Nat × Operand)) : Option (List (Nat × AV)) :=
  mapO (fun p : Nat × Operand => (ρ p.2).map fun v => (p.1, v)) ps.toList

/-- Elements of a row of flat cells. -/
def chunk {α : Type} (sz : Nat) : Nat → List α → List (List α)
  | 0, _ => []
  | n + 1, l => l.take sz :: chunk sz n (l.drop sz)

def elemD (agg : Bool) (cs : List D) : Option D := if agg then some (.agg cs) else match cs with | [x] => some x | _ => none

def dataOf : AV → Option (List D)
  | .d .nils => some []
  | .d (.sl xs _) => some xs
  | .tsl xs _ => some xs
  | _ => none

/-- All of one size. -/
def sizes (sz : Nat) : List D → Bool
  | [] => true
  | x :: l => Nat.beq x.cells.length sz && sizes sz l

/-- The bound on what an append makes. -/
def bound : Nat := 70368744177664

structure Cfg where
  P : Program
  good : Nat → Bool
  rowT : Nat → Bool
  prim : Nat → List AV → St → Option (AV × St)
  objT : Nat → Option (Nat × D)
  hasPrim : Nat → Bool

/-- A key of which a map may be asked here: numbers, texts, truths, and structs of them. -/
def simpleD : D → Bool
  | .bool _ => true
  | .int _ _ => true
  | .str _ => true
  | _ => false
def simpleT (P : Program) (t : Nat) : Bool := match P.underlying t with
  | some .bool => true
  | some (.int _) => true
  | some .string => true
  | _ => false
def keyOk (P : Program) (t : Nat) (k : D) : Bool := match k with
  | .agg xs => match P.underlying t with
    | some (.struct fs) => xs.all simpleD && fs.all fun f => f.name != "_" && simpleT P f.type && (partD P f.type xs f.offset).isSome
    | _ => false
  | k => simpleD k && simpleT P t

/-- The first entry of a key. -/
def findK (P : Program) (t : Nat) (k : D) : List (D × AV × Nat) → Nat → Option (Option (Nat × AV))
  | [], _ => some none
  | (x, v, _) :: l, i => match eqvT P 20 t k x with
    | some true => if D.same k x then some (some (i, v)) else none
    | some false => findK P t k l (i + 1)
    | none => none

/-- A map's block: what lies in it. -/
def mapOf (S : St) : AV → Option MapD
  | .d .nilm => some { es := [], clk := 0 }
  | .map id => match S.H.get id with
    | some (.map m) => some m
    | _ => none
  | _ => none

section ops
variable (C : Cfg) (f : Nat)

def keyT (t : Nat) : Option (Nat × Nat) := match C.P.underlying t with
  | some (.map k e) => some (k, e)
  | _ => none

def opLookup (t : Nat) (S : St) (m : AV) (k : D) (commaOk : Bool) : Option AV :=
  match keyT C t, mapOf S m with
  | some (kt, et), some M => if keyOk C.P kt k then
      match findK C.P kt k M.es 0 with
      | some (some (_, v)) => some (if commaOk then .tup [v, .d (.bool true)] else v)
      | some none => (zeroOf C.P et).map fun z => if commaOk then .tup [.d z, .d (.bool false)] else .d z
      | none => none
    else none
  | _, _ => none

def opUpdate (t : Nat) (S : St) (m : AV) (k : D) (v : AV) : Option St :=
  match keyT C t, m with
  | some (kt, _), .map id => match S.H.get id with
    | some (.map M) => if keyOk C.P kt k && v.plain then
        match findK C.P kt k M.es 0 with
        | some (some (i, _)) => some { S with H := S.H.set id (.map { M with es := M.es.modify i fun p => (k, v, p.2.2) }) }
        | some none => some { S with H := S.H.set id (.map { es := M.es ++ [(k, v, M.clk)], clk := M.clk + 1 }) }
        | none => none
      else none
    | _ => none
  | _, _ => none

def opEntry (t : Nat) (S : St) (m : AV) (k : D) : Option (AV × St) :=
  match keyT C t, m with
  | some (kt, et), .map id => match S.H.get id with
    | some (.map M) => if keyOk C.P kt k then
        match findK C.P kt k M.es 0 with
        | some (some (i, v)) => match M.es[i]? with
          | some p => some (.tup [v, .d (.int .i64 (p.2.2 : Nat))], S)
          | none => none
        | some none => (zeroOf C.P et).map fun z => (.tup [.d z, .d (.int .i64 (M.clk : Nat))], { S with H := S.H.set id (.map { es := M.es ++ [(k, .d z, M.clk)], clk := M.clk + 1 }) })
        | none => none
      else none
    | _ => none
  | _, _ => none

def findBorn (n : Nat) : List (D × AV × Nat) → Nat → Option Nat
  | [], _ => none
  | (_, _, b) :: l, i => bif Nat.beq b n then some i else findBorn n l (i + 1)

def opEntryStore (S : St) (m : AV) (stamp : D) (v : AV) : Option St :=
  match m, stamp with
  | .map id, .int .i64 n => match S.H.get id with
    | some (.map M) => if 0 ≤ n ∧ v.plain = true then
        match findBorn n.toNat M.es 0 with
        | some i => some { S with H := S.H.set id (.map { M with es := M.es.modify i fun p => (p.1, v, p.2.2) }) }
        | none => none
      else none
    | _ => none
  | _, _ => none

def opDelete (t : Nat) (S : St) (m : AV) (k : D) : Option St :=
  match keyT C t, m with
  | some (kt, _), .map id => match S.H.get id with
    | some (.map M) => if keyOk C.P kt k then
        match findK C.P kt k M.es 0 with
        | some (some (i, _)) => some { S with H := S.H.set id (.map { M with es := M.es.eraseIdx i }) }
        | some none => some S
        | none => none
      else none
    | _ => none
  | _, _ => none

def St.look (S : St) (id gen : Nat) : Option (List AV) :=
  match S.H.get id with
  | some (.cells g cs) => bif Nat.beq g gen then some cs else none
  | _ => none

def opLoad (t : Nat) (S : St) : AV → Option AV
  | .ptr id gen off => match S.look id gen with
    | some cs => part C.P t cs off
    | none => none
  | .eptr x off => (partD C.P t x.cells off).map .d
  | _ => none

def opStore (t : Nat) (S : St) (a v : AV) : Option St :=
  match a with
  | .ptr id gen off =>
    if v.cells.length = szOf C.P t ∧ v.plain = true ∧ (aggO C.P t).isSome = true then
      match S.H.get id with
      | some (.cells g cs) => if g = gen then (if off + v.cells.length ≤ cs.length then some { S with H := S.H.set id (.cells g (setAt cs off v.cells)) } else none) else none
      | _ => none
    else none
  | _ => none

def newBlk (S : St) (b : Blk) : St := { S with H := S.H.set S.nx b, nx := S.nx + 1 }
def opNew (S : St) (cs : List AV) : AV × St := (.ptr S.nx 0 0, newBlk S (.cells 0 cs))

def okSrc (t : Nat) : Bool := match C.P.underlying t with | some (.slice _) => true | some .string => true | _ => false

def zeroOk (e : Nat) : Bool := match C.P.info? e with
  | some i => match i.zero with
    | some z => z.cells.size == i.size
    | none => false
  | none => false

/-- What is put behind: cells, and how many elements. -/
def srcCells (S : St) (sz : Nat) (y : AV) : Option (List AV × Nat) :=
  match y with
  | .msl id g off len _ sz' => match S.look id g with
    | some cs => if sz' = sz ∧ 0 < sz ∧ off + len * sz ≤ cs.length then some ((cs.drop off).take (len * sz), len) else none
    | none => none
  | .d (.str s) => if sz = 1 then some (s.map fun c => .d (.int .u8 c.toNat), s.length) else none
  | y => match dataOf y with
    | some ys => if sizes sz ys then some ((ys.map D.cells).flatten.map .d, ys.length) else none
    | none => none

def growOk (e n : Nat) : Bool := Nat.ble (n * bytesOf C.P e) bound && Nat.blt 0 (bytesOf C.P e) && Nat.ble (bytesOf C.P e) 65536 && zeroOk C e

/-- 'append' onto a row. -/
def appendRow (e : Nat) (S : St) (id g off len lim sz : Nat) (y : AV) : Option (AV × St) :=
  match srcCells S sz y, S.look id g with
  | some (ys, n), some cs =>
    if sz = szOf C.P e ∧ 0 < sz ∧ off + len * sz ≤ cs.length then
      if n = 0 then some (.msl id g off len lim sz, S)
      else if off + len * sz + n * sz ≤ cs.length then some (.msl id g off (len + n) (max lim (len + n)) sz, { S with H := S.H.set id (.cells g (setAt cs (off + len * sz) ys)) })
      else if off = 0 ∧ growOk C e (len + n) = true then some (.msl id (g + 1) 0 (len + n) (len + n) sz, { S with H := S.H.set id (.cells (g + 1) (cs.take (len * sz) ++ ys)) })
      else none
    else none
  | _, _ => none

/-- A first row. -/
def appendFirst (e : Nat) (S : St) (x : AV) (xs : List D) (y : AV) : Option (AV × St) :=
  match srcCells S (szOf C.P e) y with
  | some (ys, n) => if n = 0 then (if (C.P.info? e).isSome = true then some (x, S) else none) else if n ≠ 0 ∧ 0 < szOf C.P e ∧ sizes (szOf C.P e) xs = true ∧ growOk C e (xs.length + n) = true then
      some (.msl S.nx 0 0 (xs.length + n) (xs.length + n) (szOf C.P e), { S with H := S.H.set S.nx (.cells 0 ((xs.map D.cells).flatten.map .d ++ ys)), nx := S.nx + 1 }) else none
  | none => none

def opAppend (e : Nat) (S : St) (x : AV) (ys : List D) : Option (AV × St) :=
  match x with
  | .d .nils =>
    if ys.length = 0 then (if (C.P.info? e).isSome then some (x, S) else none)
    else if ys.length * bytesOf C.P e ≤ bound ∧ 0 < bytesOf C.P e ∧ bytesOf C.P e ≤ 65536 ∧ sizes (szOf C.P e) ys = true ∧ zeroOk C e = true then
      some (.tsl ys S.nx, { S with T := S.T.set S.nx ys.length, nx := S.nx + 1 })
    else none
  | .d (.sl xs tight) =>
    if ys.length = 0 then (if (C.P.info? e).isSome then some (x, S) else none)
    else if (xs.length + ys.length) * bytesOf C.P e ≤ bound ∧ 0 < bytesOf C.P e ∧ bytesOf C.P e ≤ 65536 ∧ sizes (szOf C.P e) ys = true ∧ sizes (szOf C.P e) xs = true ∧ zeroOk C e = true then
      (if tight then some (.tsl (xs ++ ys) S.nx, { S with T := S.T.set S.nx (xs.length + ys.length), nx := S.nx + 1 }) else none)
    else none
  | .tsl xs tok =>
    if ys.length = 0 then (if (C.P.info? e).isSome then some (x, S) else none)
    else if (xs.length + ys.length) * bytesOf C.P e ≤ bound ∧ 0 < bytesOf C.P e ∧ bytesOf C.P e ≤ 65536 ∧ sizes (szOf C.P e) ys = true ∧ sizes (szOf C.P e) xs = true ∧ zeroOk C e = true then
      match S.T.get tok with
      | some en => if en = xs.length ∧ 0 < xs.length then some (.tsl (xs ++ ys) tok, { S with T := S.T.set tok (xs.length + ys.length) }) else none
      | none => none
    else none
  | _ => none

def headSz (sz : Nat) : List D → Bool
  | [] => true
  | x :: _ => Nat.beq x.cells.length sz

def boundO (o : Option D) (z : Nat) : Option Nat := match o with | some x => asNat x | none => some z

def cutSl (t : Nat) (xs : List D) (tight : Bool) (lo hi mx : Option D) : Option D :=
  match elemSl C.P t with
  | some e => if headSz (szOf C.P e) xs && (C.P.underlying e).isSome then
    match boundO hi xs.length, boundO lo 0, mx with
    | some h, some l, none => if l ≤ h && h ≤ xs.length then some (.sl ((xs.take h).drop l) (tight && Nat.beq h xs.length)) else none
    | some h, some l, some m' => match asNat m' with
      | some m => if hi.isSome && l ≤ h && h ≤ m && m ≤ xs.length then some (.sl ((xs.take h).drop l) (Nat.beq h m)) else none
      | none => none
    | _, _, _ => none
    else none
  | none => none

/-- A piece of a row. -/
def cutRow (C : Cfg) (t : Nat) (id g off len lim sz : Nat) (lo hi mx : Option D) : Option AV :=
  match elemSl C.P t with
  | some e => if sz = szOf C.P e ∧ (C.P.underlying e).isSome = true ∧ 0 < sz then
    match boundO hi len, boundO lo 0, mx with
    | some h, some l, none => if l ≤ h ∧ h ≤ lim then (if l = lim then some (.d (.sl [] false)) else some (.msl id g (off + l * sz) (h - l) (lim - l) sz)) else none
    | some h, some l, some m' => match asNat m' with
      | some m => if hi.isSome = true ∧ l ≤ h ∧ h ≤ m ∧ m ≤ lim then (if l = h then some (.d (.sl [] (Nat.beq h m))) else some .any) else none
      | none => none
    | _, _, _ => none
    else none
  | none => none

def opSlice (t : Nat) (x : AV) (lo hi mx : Option D) : Option AV :=
  match x with
  | .d (.str s) =>
    if mx.isSome || !strT C.P t then none else
    match boundO hi s.length, boundO lo 0 with
    | some h, some l => if l ≤ h && h ≤ s.length then some (.d (.str ((s.take h).drop l))) else none
    | _, _ => none
  | .d .nils => (cutSl C t [] true lo hi mx).map .d
  | .d (.sl xs tight) => (cutSl C t xs tight lo hi mx).map .d
  | .tsl xs _ => match lo, hi, mx with
    | none, none, none => (elemSl C.P t).bind fun e => if (C.P.underlying e).isSome then some x else none
    | _, _, _ => (cutSl C t xs false lo hi mx).map .d
  | .msl id g off len lim sz => cutRow C t id g off len lim sz lo hi mx
  | _ => none

def opIndexAddr (t : Nat) (x : AV) (i : AV) : Option AV :=
  match i, elemSl C.P t with
  | .d (.int _ n), some e =>
    if 0 ≤ n && (aggO C.P e).isSome then
      match x with
      | .d (.sl xs _) => match xs[n.toNat]? with
        | some y => if y.cells.length = szOf C.P e then some (.eptr y 0) else none
        | none => none
      | .tsl xs _ => match xs[n.toNat]? with
        | some y => if y.cells.length = szOf C.P e then some (.eptr y 0) else none
        | none => none
      | .msl id gen off len _ sz => if n.toNat < len ∧ sz = szOf C.P e then some (.ptr id gen (off + n.toNat * szOf C.P e)) else none
      | _ => none
    else none
  | _, _ => none

def lenAV : AV → St → Option Nat
  | .d (.str s), _ => some s.length
  | .d .nils, _ => some 0
  | .d (.sl xs _), _ => some xs.length
  | .tsl xs _, _ => some xs.length
  | .msl _ _ _ len _ _, _ => some len
  | .d .nilm, _ => some 0
  | .map id, S => match S.H.get id with
    | some (.map es) => some es.es.length
    | _ => none
  | _, _ => none

def lenTy (t : Nat) (x : AV) : Bool := match C.P.underlying t with
  | some .string => (match x with | .d (.str _) => true | _ => false)
  | some (.slice _) => (match x with | .d .nils => true | .d (.sl _ _) => true | .tsl _ _ => true | .msl _ _ _ _ _ _ => true | _ => false)
  | some (.map _ _) => (match x with | .d .nilm => true | .map _ => true | _ => false)
  | _ => false

def minmax (op : Int → Int → Int) : List AV → Option D
  | [.d (.int k a)] => some (.int k a)
  | .d (.int k a) :: .d (.int k' b) :: l => if k = k' then minmax op (.d (.int k (op a b)) :: l) else none
  | _ => none
  termination_by l => l.length

/-- 'clear' of a row. -/
def clearAV (e : Nat) (S : St) (x : AV) : Option Nxt :=
  match x with
  | .d .nils => some (.val (.tup []) S)
  | .d (.sl [] _) => some (.val (.tup []) S)
  | .msl id g off len _ sz =>
    if len = 0 then some (.val (.tup []) S) else
    match S.look id g, zeroOf C.P e with
    | some cs, some z => if z.cells.length = sz ∧ 0 < sz ∧ off + len * sz ≤ cs.length then
        some (.val (.tup []) { S with H := S.H.set id (.cells g (setAt cs off (((List.replicate len z.cells).flatten).map .d))) }) else none
    | _, _ => none
  | _ => none

/-- 'make' of a row. -/
def opMake (t : Nat) (S : St) (l c : D) : Option (AV × St) :=
  match elemSl C.P t, l, c with
  | some e, .int _ l, .int _ c => match zeroOf C.P e with
    | some z => if 0 ≤ l ∧ l ≤ c ∧ z.cells.length = szOf C.P e ∧ 0 < szOf C.P e ∧ c.toNat * szOf C.P e ≤ 16777216 ∧ (bytesOf C.P e : Int) * c ≤ 281474976710656 ∧ c ≤ 16777216 ∧ C.rowT t = true then
        some (.msl S.nx 0 0 l.toNat c.toNat (szOf C.P e), { S with H := S.H.set S.nx (.cells 0 ((List.replicate c.toNat z.cells).flatten.map .d)), nx := S.nx + 1 })
      else none
    | none => none
  | _, _, _ => none

/-- 'copy' onto a row. -/
def copyAV (e : Nat) (S : St) (x y : AV) : Option Nxt :=
  match x with
  | .msl id g off len _ sz => match S.look id g with
    | some cs => if sz = szOf C.P e ∧ 0 < sz ∧ off + len * sz ≤ cs.length then
        match y with
        | .msl id2 g2 off2 len2 _ sz2 => match S.look id2 g2 with
          | some cs2 => if sz2 = sz ∧ off2 + len2 * sz ≤ cs2.length then
              some (.val (.d (.int .i64 ((min len2 len : Nat) : Int))) { S with H := S.H.set id (.cells g (setAt cs off ((cs2.drop off2).take (min len2 len * sz)))) }) else none
          | none => none
        | y => match srcCells S sz y with
          | some (ys, n) => if n ≤ len then some (.val (.d (.int .i64 (n : Int))) { S with H := S.H.set id (.cells g (setAt cs off ys)) }) else none
          | none => none
      else none
    | none => none
  | _ => none

def builtinAV (b : Builtin) (argTypes : Array Nat) (S : St) (args : List AV) : Option Nxt :=
  match b, args with
  | .len, [x] => match argTypes[0]? with
    | some t => if lenTy C t x then (lenAV x S).map fun (n : Nat) => .val (.d (.int .i64 (n : Int))) S else none
    | none => none
  | .append, [x, y] => match argTypes[0]? with
    | some t => if (match argTypes[1]? with | some u => okSrc C u | none => false) then
      match elemSl C.P t with
      | some e => match x with
        | .msl id g off len lim sz => (appendRow C e S id g off len lim sz y).map fun r => .val r.1 r.2
        | x => bif C.rowT t then (match x with
            | .d .nils => (appendFirst C e S (.d .nils) [] y).map fun r => .val r.1 r.2
            | .d (.sl xs true) => (appendFirst C e S (.d (.sl xs true)) xs y).map fun r => .val r.1 r.2
            | _ => none)
          else match dataOf y with
            | some ys => (opAppend C e S x ys).map fun r => .val r.1 r.2
            | none => match y with
              | .d (.str s) => (opAppend C e S x (s.map fun c => .int .u8 c.toNat)).map fun r => .val r.1 r.2
              | _ => none
      | none => none
      else none
    | none => none
  | .copy, [x, y] => match argTypes[0]? with
    | some t => match elemSl C.P t with
      | some e => copyAV C e S x y
      | none => none
    | none => none
  | .clear, [x] => match argTypes[0]? with
    | some t => match elemSl C.P t with
      | some e => clearAV C e S x
      | none => none
    | none => none
  | .delete, [m, .d k] => match argTypes[0]? with
    | some t => (opDelete C t S m k).map fun S' => .val (.tup []) S'
    | none => none
  | .min, l => (minmax (fun a b => if b < a then b else a) l).map fun x => .val (.d x) S
  | .max, l => (minmax (fun a b => if b > a then b else a) l).map fun x => .val (.d x) S
  | _, _ => none

def bytesOfD : List D → Option (List UInt8)
  | [] => some []
  | .int .u8 n :: l => (bytesOfD l).map (UInt8.ofNat n.toNat :: ·)
  | _ :: _ => none

def byteSl (t : Nat) : Bool := match elemSl C.P t with | some e => (match intT C.P e with | some .u8 => true | _ => false) | none => false

def convAV (src dst : Nat) (x : AV) : Option AV :=
  match x with
  | .d (.int _ n) => if (C.P.underlying src).isSome then (intT C.P dst).map fun k => .d (.int k (k.wrap n)) else none
  | .d (.str _) => if strT C.P dst && (C.P.underlying src).isSome then some x else none
  | .d .nils => if strT C.P dst && byteSl C src then some (.d (.str [])) else none
  | .d (.sl xs _) => if strT C.P dst && byteSl C src then (bytesOfD xs).map fun s => .d (.str s) else none
  | .tsl xs _ => if strT C.P dst && byteSl C src then (bytesOfD xs).map fun s => .d (.str s) else none
  | _ => none

def dOpt (ρ : Operand → Option AV) : Option Operand → Option (Option D)
  | none => some none
  | some o => match ρ o with
    | some (.d x) => some (some x)
    | _ => none

/-- A row of what stands in a list. -/
def opBuildRow (t : Nat) (S : St) (len : Nat) (ps : List (Nat × AV)) : Option Nxt :=
  match elemSl C.P t with
  | some e => match zeroOf C.P e with
    | some z => if z.cells.length = szOf C.P e ∧ 0 < len * szOf C.P e ∧ len * szOf C.P e ≤ 16777216 ∧ (aggO C.P e).isSome = true then
        bif S.H.has S.nx then none else
        (fillD cellsP (fun i => some (i * szOf C.P e, szOf C.P e)) ((List.replicate len z.cells).flatten.map AV.d) ps).map fun cs => .val (.msl S.nx 0 0 len len (szOf C.P e)) (opNew S cs).2
      else none
    | none => none
  | none => none

/-- Does a list become a row? -/
def asRow (t len : Nat) : Bool := C.rowT t && !(Nat.beq len 0)

def oper (ρ : Operand → Option AV) (S : St) (op : Op) : Option Nxt :=
  match op with
  | .move x | .assign x => (ρ x).map fun v => .val v S
  | .pick c a b => match ρ c with
    | some (.d (.bool t)) => (ρ (if t then a else b)).map fun v => .val v S
    | _ => none
  | .alloc t => bif S.H.has S.nx then none else match C.objT t with
    | some (k, x) => some (.val (.ptr S.nx 0 0) (newBlk S (.obj k x)))
    | none => (zeroOf C.P t).map fun z => let r := opNew S (AV.d z).cells; .val r.1 r.2
  | .box t x => match ρ x with
    | some v => if v.plain then (bif S.H.has S.nx then none else let r := opNew S v.cells; some (.val r.1 r.2)) else none
    | none => none
  | .build t parts => match zeroOf C.P t, evals ρ parts with
    | some z, some ps => match P_place t with
      | some pl => (fillD cellsP pl (AV.d z).cells ps).map fun cs => .val (mkAgg cs) S
      | none => none
    | _, _ => none
  | .buildSlice t len parts => bif asRow C t len then (match evals ρ parts with
    | some ps => opBuildRow C t S len ps
    | none => none) else match elemSl C.P t, evals ρ parts with
    | some e, some ps =>
      if len * szOf C.P e ≤ 16777216 then
      match (if len * szOf C.P e = 0 then some [] else match zeroOf C.P e with | some z => if z.cells.length = szOf C.P e then some z.cells else none | none => none) with
      | some z => match fillD cellsD (fun i => some (i * szOf C.P e, szOf C.P e)) ((List.replicate len z).flatten) ps with
        | some cs => match aggO C.P e with
          | some ag => (mapO (elemD ag) (chunk (szOf C.P e) len cs)).map fun xs => .val (.d (.sl xs true)) S
          | none => none
        | none => none
      | none => none
      else none
    | _, _ => none
  | .load t a => match ρ a with
    | some v => (opLoad C t S v).map fun r => .val r S
    | none => none
  | .store t a x => match ρ a, ρ x with
    | some p, some v => (opStore C t S p v).map fun S' => .skip S'
    | _, _ => none
  | .nilCheck x => match ρ x with
    | some (.ptr i g o) => some (.val (.ptr i g o) S)
    | some (.eptr y o) => some (.val (.eptr y o) S)
    | some (.fn g cs) => some (.val (.fn g cs) S)
    | _ => none
  | .binOp op t x y _ => match ρ x, ρ y with
    | some a, some b => (binD C.P t op a b).map fun r => .val (.d r) S
    | _, _ => none
  | .unOp op _ x => match op, ρ x with
    | .not, some (.d (.bool b)) => some (.val (.d (.bool (!b))) S)
    | .neg, some (.d (.int k n)) => some (.val (.d (.int k (k.wrap (0 - n)))) S)
    | _, _ => none
  | .convert src dst x => match ρ x with
    | some v => (convAV C src dst v).map fun r => .val r S
    | none => none
  | .makeFunc fn first caps => match fn, first.toList with
    | .func g, [] => (mapO ρ caps.toList).map fun cs => .val (.fn g cs) S
    | _, _ => none
  | .slice t x lo hi mx => match ρ x with
    | some v =>
      match dOpt ρ lo, dOpt ρ hi, dOpt ρ mx with
      | some l, some h, some m => (opSlice C t v l h m).map fun r => .val r S
      | _, _, _ => none
    | none => none
  | .fieldAddr s x fld => match ρ x, fieldOf C.P s fld with
    | some (.ptr id g off), some (fo, ft) => if szOf C.P ft = 0 then none else some (.val (.ptr id g (off + fo)) S)
    | some (.eptr y off), some (fo, ft) => if szOf C.P ft = 0 then none else some (.val (.eptr y (off + fo)) S)
    | _, _ => none
  | .field t x fld => match ρ x, fieldOf C.P t fld with
    | some (.d (.agg cs)), some (fo, ft) => (partD C.P ft cs fo).map fun v => .val (.d v) S
    | some (.agg cs), some (fo, ft) => (part C.P ft cs fo).map fun v => .val v S
    | _, _ => none
  | .indexAddr t x i => match ρ x, ρ i with
    | some v, some n => (opIndexAddr C t v n).map fun r => .val r S
    | _, _ => none
  | .index t x i => match ρ x, ρ i with
    | some (.d (.str s)), some (.d (.int _ n)) => if 0 ≤ n && strT C.P t then (s[n.toNat]?).map fun c => .val (.d (.int .u8 c.toNat)) S else none
    | _, _ => none
  | .makeMap t r => match keyT C t, (match r with | none => true | some o => (match ρ o with | some (.d (.int _ _)) => true | _ => false)) with
    | some _, true => bif S.H.has S.nx then none else some (.val (.map S.nx) { S with H := S.H.set S.nx (.map { es := [], clk := 0 }), nx := S.nx + 1 })
    | _, _ => none
  | .makeSlice t l c => match ρ l, ρ c with
    | some (.d lv), some (.d cv) => (opMake C t S lv cv).map fun r => .val r.1 r.2
    | _, _ => none
  | .lookup t m k commaOk => match ρ m, ρ k with
    | some mv, some (.d kd) => (opLookup C t S mv kd commaOk).map fun v => .val v S
    | _, _ => none
  | .mapUpdate t m k x | .insert t m k x => match ρ m, ρ k, ρ x with
    | some mv, some (.d kd), some v => (opUpdate C t S mv kd v).map fun S' => .skip S'
    | _, _, _ => none
  | .mapEntry t m k => match ρ m, ρ k with
    | some mv, some (.d kd) => (opEntry C t S mv kd).map fun r => .val r.1 r.2
    | _, _ => none
  | .entryStore _ m st x => match ρ m, ρ st, ρ x with
    | some mv, some (.d sd), some v => (opEntryStore S mv sd v).map fun S' => .skip S'
    | _, _, _ => none
  | .range t x => match keyT C t, ρ x with
    | some _, some (.map id) => match S.H.get id with
      | some (.map M) => bif S.H.has S.nx then none else some (.val (.it S.nx 0 (some id) M.clk [] M.clk) (newBlk S (.obj 3 (.int .i64 0))))
      | _ => none
    | some _, some (.d .nilm) => bif S.H.has S.nx then none else some (.val (.it S.nx 0 none 0 [] 0) (newBlk S (.obj 3 (.int .i64 0))))
    | _, _ => none
  | .entry t => match ρ t with
    | some (.it k g (some id) _ seen st) => match S.H.get id, seen.getLast?, S.H.get k with
      | some (.map M), some n, some (.obj 3 (.int .i64 c)) => if M.clk = st ∧ c = (g : Nat) then (match findBorn n M.es 0 with
          | some i => (M.es[i]?).map fun p => .val (.tup [.d p.1, p.2.1]) S
          | none => none) else none
      | _, _, _ => none
    | _ => none
  | .extract t i => match ρ t with
    | some (.tup vs) => (vs[i]?).map fun v => .val v S
    | _ => none
  | .call c => match c.callee with
    | .builtin b => match mapO ρ c.args.toList with
      | some args => builtinAV C b c.argTypes S args
      | none => none
    | .value g => match ρ g, mapO ρ c.args.toList with
      | some (.fn k caps), some args => some (.call k (args ++ caps))
      | _, _ => none
    | _ => none
  | _ => none
  where
  P_place (t : Nat) : Option (Nat → Option (Nat × Nat)) := match C.P.underlying t with
    | some (.struct fs) => if fs.all fun f => (C.P.underlying f.type).isSome then some fun i => (fs[i]?).map fun x => (x.offset, szOf C.P x.type) else none
    | some (.array _ e) => if (C.P.underlying e).isSome then some fun i => some (i * szOf C.P e, szOf C.P e) else none
    | _ => none
end ops

abbrev Env := AL AV
def Env.put (nt : Nat) (e : Env) (dst : Option Nat) (v : AV) : Option Env := match dst with
  | some t => bif Nat.blt t nt then some ((t, v) :: e) else none
  | none => some e
def evalO (e : Env) : Operand → Option AV
  | .tmp t => e.get t
  | .const v => (ofConst v).map .d
  | .func f => some (.fn f [])
  | .global _ => none

inductive Xit where
  | normal | exit (id : Nat) | ret | panic (v : AV)
  deriving Inhabited

abbrev Hand := Nat → List AV → St → Option (Option AV × AV × St)

def wantedE (ops : Array Oper) (e : Env) (o : Oper) : Option Bool :=
  match o.guard with
  | none => some true
  | some (j, want) => match ops[j]? with
    | some oj => match oj.dst with
      | some t => match e.get t with
        | some (.d (.bool b)) => some (b == want)
        | some (.tup []) => some false
        | _ => none
      | none => none
    | none => none

inductive Stp where
  | go (e : Env) (S : St)
  | stop (v : AV) (S : St)

/-- One operation. -/
def stepE (C : Cfg) (h : Hand) (nt : Nat) (ops : Array Oper) (o : Oper) (e : Env) (S : St) : Option Stp :=
  match wantedE ops e o with
  | some true =>
    match oper C (evalO e) S o.op with
    | some (.val v S') => match e.put nt o.dst v with
      | some e' => some (.go e' S')
      | none => none
    | some (.skip S') => match o.dst with
      | none => some (.go e S')
      | some _ => none
    | some (.call f args) => match h f args S with
      | some (none, v, S') => match e.put nt o.dst v with
        | some e' => some (.go e' S')
        | none => none
      | some (some p, _, S') => some (.stop p S')
      | none => none
    | some (.panic _) => none
    | none => none
  | some false => match o.dst with
    | none => some (.go e S)
    | some t => match e.put nt (some t) (.tup []) with
      | some e' => some (.go e' S)
      | none => none
  | none => none

/-- Operations in order. -/
def evOps (C : Cfg) (h : Hand) (nt : Nat) (ops : Array Oper) : List Oper → Env → St → Option Stp
  | [], e, S => some (.go e S)
  | o :: rest, e, S =>
    match stepE C h nt ops o e S with
    | some (.go e' S') => evOps C h nt ops rest e' S'
    | some (.stop v S') => some (.stop v S')
    | none => none

def toDT : AV → Option AV
  | .tup vs => (toDs vs).map fun xs => .tup (xs.map .d)
  | v => (toD v).map .d

def sameEs : List (D × AV × Nat) → List (D × AV × Nat) → Bool
  | [], [] => true
  | (k, v, n) :: l, (k', v', n') :: l' => Nat.beq n n' && D.same k k' && AV.same v v' && sameEs l l'
  | _, _ => false

/-- The same cells. -/
def sameAt (S S' : St) (id : Nat) : Bool := match S.H.get id, S'.H.get id with
  | some (.cells g cs), some (.cells g' cs') => Nat.beq g g' && AV.sames cs cs'
  | some (.map m), some (.map m') => Nat.beq m.clk m'.clk && sameEs m.es m'.es
  | none, none => true
  | _, _ => false

/-- Which variables an operation looks at. -/
def idsOf (ρ : Operand → Option AV) : Op → Option (List Nat)
  | .load _ a => match ρ a with
    | some (.ptr id _ _) => some [id]
    | some (.eptr _ _) => some []
    | _ => none
  | .lookup _ m _ _ => match ρ m with
    | some (.map id) => some [id]
    | some (.d _) => some []
    | _ => none
  | .call { callee := .builtin .len, args, .. } => match mapO ρ args.toList with
    | some (AV.map id :: []) => some [id]
    | some (AV.d _ :: []) => some []
    | some (AV.tsl _ _ :: []) => some []
    | some (AV.msl _ _ _ _ _ _ :: []) => some []
    | _ => none
  | _ => none

/-- What an operation does to the memory: 0 nothing, whatever lies there; 1 it looks; 2 anything; 3 a new variable. -/
def cls (C : Cfg) : Op → Nat
  | .buildSlice t len _ => bif asRow C t len then 2 else 0
  | .move _ | .assign _ | .pick .. | .build .. | .nilCheck _ | .binOp .. | .unOp .. | .convert .. | .makeFunc .. | .slice .. | .fieldAddr .. | .field .. | .indexAddr .. | .index .. | .extract .. => 0
  | .load .. => 1
  | .lookup .. => 1
  | .call { callee := .builtin .len, .. } => 1
  | .call { callee := .builtin .min, .. } => 0
  | .call { callee := .builtin .max, .. } => 0
  | _ => 2

def isNew (C : Cfg) : Op → Bool
  | .range .. => true
  | .buildSlice t len _ => asRow C t len
  | .alloc _ => true
  | .box _ _ => true
  | _ => false

def quietB (o : Oper) (e' : Env) (args : List AV) : Bool := (toDs args).isSome && (match o.dst with
  | some t => (match e'.get t with
    | some v => (toDT v).isSome
    | none => false)
  | none => false)

def kTail (C : Cfg) (ops : Array Oper) (o : Oper) (e e' : Env) (S : St) : Nat :=
  match wantedE ops e o with
  | some false => 0
  | _ => match oper C (evalO e) S o.op with
    | some (.call _ args) => bif quietB o e' args then 0 else 2
    | _ => 2

def kOf (C : Cfg) (ops : Array Oper) (o : Oper) (e e' : Env) (S : St) : Nat :=
  if cls C o.op ≤ 1 then cls C o.op else
  if isNew C o.op = true then 3 else kTail C ops o e e' S

/-- What one operation did: its kind, what it looked at, the memory ahead of it and behind it. -/
structure Did where
  k : Nat
  ids : List Nat
  S : St
  S' : St

/-- Operations in order, and what each did. -/
def evOpsK (C : Cfg) (h : Hand) (nt : Nat) (ops : Array Oper) : List Oper → Env → St → Option (List Did × Env × St)
  | [], e, S => some ([], e, S)
  | o :: rest, e, S =>
    match stepE C h nt ops o e S with
    | some (.go e' S') => match evOpsK C h nt ops rest e' S' with
      | some (ks, e2, S2) => some ({ k := kOf C ops o e e' S, ids := (idsOf (evalO e) o.op).getD [], S := S, S' := S' } :: ks, e2, S2)
      | none => none
    | _ => none

/-- The kinds: a write that leaves alone what the others look at is of kind 4. -/
def kinds (ks : List Did) : List Nat :=
  let I := (ks.map (·.ids)).flatten
  ks.map fun d => bif Nat.beq d.k 2 then (bif I.all (sameAt d.S d.S') then 4 else 2) else d.k

def okK (x y : Nat) : Bool := Nat.beq x 0 || Nat.beq y 0 || (Nat.beq x 1 && (Nat.beq y 1 || Nat.beq y 3 || Nat.beq y 4)) || (Nat.beq x 4 && Nat.beq y 1)

/-- May the operations come in any order that their edges leave? -/
def pairsOk (ops : Array Oper) (ds : List Did) : Bool :=
  ds.all (fun d => Nat.ble d.k 1) ||
  (let B := Region.before ops
   let ks := kinds ds
   (List.range ops.size).all fun i => (List.range i).all fun k => (B.getD i 0).testBit k || okK (ks.getD k 2) (ks.getD i 2))

-- Values that name no block and no token from n on.
mutual
def AV.under (n : Nat) : AV → Bool
  | .d _ => true
  | .eptr _ _ => true
  | .tsl _ tok => Nat.blt tok n
  | .ptr id _ _ => Nat.blt id n
  | .msl id _ _ _ _ _ => Nat.blt id n
  | .map id => Nat.blt id n
  | .fn _ cs => belows n cs
  | .agg cs => belows n cs
  | .tup cs => belows n cs
  | .any => true
  | .it k _ (some id) _ _ _ => Nat.blt k n && Nat.blt id n
  | .it k _ none _ _ _ => Nat.blt k n
def belows (n : Nat) : List AV → Bool
  | [] => true
  | x :: l => x.under n && belows n l
end

def belowE (n : Nat) : Env → Bool
  | [] => true
  | (_, v) :: l => v.under n && belowE n l
def belowH (n : Nat) : AL Blk → Bool
  | [] => true
  | (_, .cells _ cs) :: l => belows n cs && belowH n l
  | (_, .map es) :: l => (es.es.all fun p => p.2.1.under n) && belowH n l
  | (_, .obj _ _) :: l => belowH n l

/-- A round's end: what the round made is forgotten, if nothing that stays names it. -/
def roundEnd (e0 : Env) (S0 : St) (e : Env) (S : St) : Env × St :=
  let e1 := AL.over e0 e
  let H1 := AL.over S0.H S.H
  if belowE S0.nx e1 && belowH S0.nx H1 then (e1, { H := H1, T := AL.over S0.T S.T, nx := S0.nx }) else (e1, S)

/-- What calls may come to: one of these. -/
abbrev Out := Option AV × AV × St
abbrev HandL := Nat → List AV → St → Option (List Out)
/-- Where there is but one. -/
def det (h : HandL) : Hand := fun f a S => match h f a S with
  | some [r] => some r
  | _ => none
def noHand : Hand := fun _ _ _ => none

def bindL {α β : Type} (f : α → Option (List β)) : List α → Option (List β)
  | [] => some []
  | x :: l => match f x with
    | some r => (match bindL f l with | some s => some (r ++ s) | none => none)
    | none => none

/-- One step of an iterator over a map: whatever entry is left. -/
def nextL (nt : Nat) (o : Oper) (t : Nat) (e : Env) (S : St) : Option (List Stp) :=
  match o.guard, e.get t with
  | none, some (.it k g none since seen st) => match S.H.get k with
    | some (.obj 3 (.int .i64 c)) => if c = (g : Nat) then (e.put nt o.dst (.tup [.d (.bool false)])).map fun e' => [.go e' S] else none
    | _ => none
  | none, some (.it k g (some id) since seen st) => match S.H.get id, S.H.get k with
    | some (.map M), some (.obj 3 (.int .i64 c)) =>
      if c = (g : Nat) ∧ (M.es.all fun p => Nat.blt p.2.2 since) = true ∧ since ≤ st ∧ Nat.blt t nt = true then
        match M.es.filter (fun p => !(seen.contains p.2.2)) with
        | [] => (e.put nt o.dst (.tup [.d (.bool false)])).map fun e' => [.go e' S]
        | left => mapO (fun p => (Env.put nt ((t, .it k (g + 1) (some id) since (seen ++ [p.2.2]) M.clk) :: e) o.dst (.tup [.d (.bool true), .d p.1, p.2.1])).map fun e' =>
            .go e' { S with H := S.H.set k (.obj 3 (.int .i64 ((g + 1 : Nat) : Int))) }) left
      else none
    | _, _ => none
  | _, _ => none

/-- One operation, whatever its calls come to. -/
def stepL (C : Cfg) (h : HandL) (nt : Nat) (ops : Array Oper) (o : Oper) (e : Env) (S : St) : Option (List Stp) :=
  match o.op with
  | .next (.tmp t) false => nextL nt o t e S
  | .call c => match wantedE ops e o with
    | some true => match oper C (evalO e) S o.op with
      | some (.call f args) => match h f args S with
        | some rs => mapO (fun r : Out => match r with
          | (none, v, S') => (e.put nt o.dst v).map fun e' => .go e' S'
          | (some p, _, S') => some (.stop p S')) rs
        | none => none
      | _ => (stepE C noHand nt ops o e S).map ([·])
    | _ => (stepE C noHand nt ops o e S).map ([·])
  | _ => (stepE C noHand nt ops o e S).map ([·])

def evOpsL (C : Cfg) (h : HandL) (nt : Nat) (ops : Array Oper) : List Oper → Env → St → Option (List Stp)
  | [], e, S => some [.go e S]
  | o :: rest, e, S =>
    match stepL C h nt ops o e S with
    | some rs => bindL (fun r => match r with
      | .go e' S' => evOpsL C h nt ops rest e' S'
      | .stop v S' => some [.stop v S']) rs
    | none => none

abbrev Res := Xit × Env × St
def loopN (body : Env → St → Option (List Res)) : Nat → Env → St → Option (List Res)
  | 0, _, _ => none
  | n + 1, e, S => match body e S with
    | some rs => bindL (fun r : Res => match r with
      | (.normal, e', S') => loopN body n (roundEnd e S e' S').1 (roundEnd e S e' S').2
      | (x, e', S') => some [(x, AL.over e e', S')]) rs
    | none => none

def ofStp (e : Env) : Stp → Res
  | .go e' S' => (.normal, e', S')
  | .stop v S' => (.panic v, e, S')

def evC (C : Cfg) (h : HandL) (n nt : Nat) : Code → Env → St → Option (List Res)
  | .skip, e, S => some [(.normal, e, S)]
  | .region _ ops false, e, S => (evOpsL C h nt ops ops.toList e S).map fun rs => rs.map (ofStp e)
  | .region _ ops true, e, S => match evOpsK C (det h) nt ops ops.toList e S with
    | some (ks, e', S') => bif pairsOk ops ks then some [(.normal, e', S')] else none
    | none => none
  | .seq a b, e, S => match evC C h n nt a e S with
    | some rs => bindL (fun r : Res => match r with
      | (.normal, e', S') => evC C h n nt b e' S'
      | r => some [r]) rs
    | none => none
  | .cond c a b, e, S => match evalO e c with
    | some (.d (.bool true)) => evC C h n nt a e S
    | some (.d (.bool false)) => evC C h n nt b e S
    | _ => none
  | .block id a, e, S => (evC C h n nt a e S).map fun rs => rs.map fun r : Res => match r with
    | (.exit j, e', S') => if j = id then (.normal, e', S') else (.exit j, e', S')
    | r => r
  | .loop a, e, S => loopN (evC C h n nt a) n (AL.tidy e []) S
  | .exit id, e, S => some [(.exit id, e, S)]
  | .ret, e, S => some [(.ret, e, S)]
  | _, _, _ => none

def resOf (C : Cfg) (e : Env) (S : St) : ResultVar → Option AV
  | .tmp t => e.get t
  | .cell a t => match e.get a with
    | some v => opLoad C t S v
    | none => none

def resultsE (C : Cfg) (fn : Func) (e : Env) (S : St) : Option AV :=
  match mapO (resOf C e S) fn.results.toList with
  | some [v] => some v
  | some vs => some (.tup vs)
  | none => none

def enterE : Nat → List AV → Env
  | _, [] => []
  | n, v :: l => (n, v) :: enterE (n + 1) l

def outOf (C : Cfg) (fn : Func) : Res → Option Out
  | (.normal, e, S') => (resultsE C fn e S').map fun v => (none, v, S')
  | (.ret, e, S') => (resultsE C fn e S').map fun v => (none, v, S')
  | (.panic v, _, S') => some (some v, .d (.bool false), S')
  | _ => none

def bodyE (C : Cfg) (h : HandL) (n : Nat) (f : Nat) (args : List AV) (S : St) : Option (List Out) :=
  match C.P.funcs[f]? with
  | some fn => match fn.body with
    | some c => bif C.good f && Nat.ble args.length fn.ntmps then match evC C h n fn.ntmps c (enterE 0 args) S with
      | some rs => mapO (outOf C fn) rs
      | none => none
      else none
    | none => none
  | none => none

def pureSt : St := { H := [], T := [], nx := 0 }

/-- Outcomes of plain data. -/
def plainOut : Out → Option (Option AV × AV)
  | (none, v, _) => (toDT v).map fun v' => (none, v')
  | (some p, _, _) => (toD p).map fun x => (some (.d x), .d (.bool false))
def optSame : Option AV → Option AV → Bool
  | none, none => true
  | some x, some y => AV.same x y
  | _, _ => false
def hasOut (l : List (Option AV × AV)) (x : Option AV × AV) : Bool := l.any fun y => optSame x.1 y.1 && AV.same x.2 y.2
/-- Each once. -/
def dedup : List (Option AV × AV) → List (Option AV × AV)
  | [] => []
  | x :: l => bif hasOut l x then dedup l else x :: dedup l

/-- What has been made and isn't named by what stays is forgotten, where the answer is plain. -/
def tidyOut (S : St) : Out → Out
  | (none, v, S') => match toDT v with
    | some v' => bif belowH S.nx (AL.over S.H S'.H) then (none, v', { H := AL.over S.H S'.H, T := AL.over S.T S'.T, nx := S.nx }) else (none, v, S')
    | none => (none, v, S')
  | r => r
def sameBlk : Blk → Blk → Bool
  | .cells g cs, .cells g' cs' => Nat.beq g g' && AV.sames cs cs'
  | .map m, .map m' => Nat.beq m.clk m'.clk && sameEs m.es m'.es
  | .obj k x, .obj k' x' => Nat.beq k k' && D.same x x'
  | _, _ => false
def sameH : AL Blk → AL Blk → Bool
  | [], [] => true
  | (k, b) :: l, (k', b') :: l' => Nat.beq k k' && sameBlk b b' && sameH l l'
  | _, _ => false
def sameT : AL Nat → AL Nat → Bool
  | [], [] => true
  | (k, b) :: l, (k', b') :: l' => Nat.beq k k' && Nat.beq b b' && sameT l l'
  | _, _ => false
def sameOut (x y : Out) : Bool := optSame x.1 y.1 && AV.same x.2.1 y.2.1 && Nat.beq x.2.2.nx y.2.2.nx && sameT x.2.2.T y.2.2.T && sameH x.2.2.H y.2.2.H
def dedupO : List Out → List Out
  | [] => []
  | x :: l => bif l.any (sameOut x) then dedupO l else x :: dedupO l
def gather (S : St) : List Out → List Out
  | [r] => [r]
  | rs => dedupO (rs.map (tidyOut S))

/-- A call. If all that is handed in is plain data, it is made in a memory of its own. -/
def evF (C : Cfg) : Nat → HandL
  | 0, _, _, _ => none
  | n + 1, f, args, S =>
    if C.hasPrim f then (C.prim f args S).map fun r => [(none, r.1, r.2)] else
    match toDs args with
    | some ds => match bodyE C (evF C n) n f (ds.map .d) pureSt with
      | some rs => match mapO plainOut rs with
        | some os => some ((dedup os).map fun o => (o.1, o.2, S))
        | none => match bodyE C (evF C n) n f args S with
          | some rs2 => bif rs2.all (fun r => match r.1 with | none => !((toDT r.2.1).isSome) | some _ => true) then some rs2 else none
          | none => none
      | none => none
    | none => (bodyE C (evF C n) n f args S).map (gather S)

end Go.Ev

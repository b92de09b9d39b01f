import Derived.Calls
import Derived.Orders
import Derived.Laws.World
import Derived.Laws.Cells
import Derived.ChangeKeysEq
import Derived.Laws.StructEq
import Derived.Laws.BytesString
import Derived.Laws.Tables
import Derived.Laws.MakeOwn
namespace Go.Ev
set_option linter.unusedVariables false
noncomputable section
inductive D where
 | bool (b:Bool)
 | int (k:IntKind) (n:Int)
 | flt (k:FloatKind) (bits:Nat)
 | str (s:List UInt8)
 | nilp | nilm | nilf | nili | bJ
 | sl (xs:List D) (tight:Bool)
 | agg (xs:List D)
 | iface (t:Nat) (x:D)
 deriving Inhabited
inductive AV where
 | d (x:D)
 | tsl (xs:List D) (tok:Nat)
 | ptr (id gen off:Nat)
 | eptr (x:D) (off:Nat)
 | msl (id gen off len lim sz:Nat)
 | map (id:Nat)
 | asl (id gen off len sz:Nat)
 | fn (f:Nat) (caps:List AV)
 | agg (xs:List AV)
 | tup (xs:List AV)
 | any
 | it (k g:Nat) (id:Option Nat) (since:Nat) (seen:List Nat) (st:Nat)
 deriving Inhabited
abbrev AL (α:Type):=List (Nat × α)
def AL.get {α:Type} (l:AL α) (n:Nat):Option α :=
 List.rec (motive:=fun _=>Option α) none (fun p _ ih=>Bool.rec (motive:=fun _=>Option α) ih (some p.2) (Nat.beq p.1 n)) l
def AL.del {α:Type} (l:AL α) (n:Nat):AL α :=
 List.rec (motive:=fun _=>AL α) [] (fun p _ ih=>Bool.rec (motive:=fun _=>AL α) (p :: ih) ih (Nat.beq p.1 n)) l
theorem AL.Eo {α:Type} (k:Nat) (v:α) (l:AL α) (n:Nat):AL.get ((k,v) :: l) n=bif Nat.beq k n then some v else AL.get l n:=by
 show Bool.rec (motive:=fun _=>Option α) (AL.get l n) (some v) (Nat.beq k n)=_
 cases Nat.beq k n <;> rfl
theorem AL.Eu {α:Type} (k:Nat) (v:α) (l:AL α) (n:Nat):AL.del ((k,v) :: l) n=bif Nat.beq k n then AL.del l n else (k,v) :: AL.del l n:=by
 show Bool.rec (motive:=fun _=>AL α) ((k,v) :: AL.del l n) (AL.del l n) (Nat.beq k n)=_
 cases Nat.beq k n <;> rfl
def AL.set {α:Type} (l:AL α) (n:Nat) (v:α):AL α:=(n,v) :: AL.del l n
def AL.has {α:Type}:AL α→Nat→Bool
 | [],_=>false
 | (k,_) :: l,n=>bif Nat.beq k n then true else AL.has l n
def AL.over {α:Type}:AL α→AL α→AL α
 | [],_=>[]
 | (k,_) :: l,m=>match m.get k with
  | some v=>(k,v) :: AL.over l m
  | none=>AL.over l m
structure uk where
 es:List (D × AV × Nat)
 clk:Nat
 deriving Inhabited
inductive wD where
 | cells (gen:Nat) (cs:List AV)
 | map (m:uk)
 | obj (kind:Nat) (x:D)
 deriving Inhabited
structure St where
 H:AL wD
 T:AL Nat
 nx:Nat
 deriving Inhabited
def D.cells:D→List D
 | .agg xs=>xs
 | x=>[x]
def AV.cells:AV→List AV
 | .d (.agg xs)=>xs.map .d
 | .agg xs=>xs
 | x=>[x]
def AV.plain:AV→Bool
 | .tup _=>false
 | .any=>false
 | .it ..=>false
 | _=>true
def wH:List AV→Option (List D)
 | []=>some []
 | .d x :: l=>(wH l).map (x :: ·)
 | _ :: _=>none
def jI (l:List AV):AV :=
 match wH l with
 | some xs=>.d (.agg xs)
 | none=>.agg l
mutual
def vH:AV→Option D
 | .d x=>some x
 | .tsl xs _=>some (.sl xs false)
 | .agg l=>(jW l).map .agg
 | _=>none
def jW:List AV→Option (List D)
 | []=>some []
 | x :: l=>match vH x with
  | some y=>(jW l).map (y :: ·)
  | none=>none
end
def iW {α β:Type} (f:α→Option β):List α→Option (List β)
 | []=>some []
 | x :: l=>match f x with
  | some y=>(iW f l).map (y :: ·)
  | none=>none
def ru:Value→Option D
 | .bool b=>some (.bool b)
 | .int k n=>some (.int k n)
 | .float k b=>some (.flt k b)
 | .string s=>some (.str s.data.toList)
 | .pointer none=>some .nilp
 | .slice none 0 0=>some .bJ
 | .map none=>some .nilm
 | .nilFunc=>some .nilf
 | .nilIface=>some .nili
 | _=>none
def ofConst:Value→Option D
 | .agg a=>(iW ru a.toList).map .agg
 | v=>ru v
mutual
def D.same:D→D→Bool
 | .bool a,.bool b=>a == b
 | .int k n,.int k' m=>decide (k=k') && decide (n=m)
 | .flt k n,.flt k' m=>decide (k=k') && Nat.beq n m
 | .str a,.str b=>a == b
 | .nilp,.nilp=>true
 | .nilm,.nilm=>true
 | .nilf,.nilf=>true
 | .nili,.nili=>true
 | .bJ,.bJ=>true
 | .sl xs t,.sl ys t'=>t == t' && D.kX xs ys
 | .agg xs,.agg ys=>D.kX xs ys
 | .iface t x,.iface t' y=>Nat.beq t t' && D.same x y
 | _,_=>false
def D.kX:List D→List D→Bool
 | [],[]=>true
 | x :: xs,y :: ys=>D.same x y && D.kX xs ys
 | _,_=>false
end
mutual
def AV.same:AV→AV→Bool
 | .d x,.d y=>D.same x y
 | .tsl xs a,.tsl ys b=>Nat.beq a b && D.kX xs ys
 | .ptr a b c,.ptr a' b' c'=>Nat.beq a a' && Nat.beq b b' && Nat.beq c c'
 | .eptr x o,.eptr y o'=>Nat.beq o o' && D.same x y
 | .msl a1 a2 a3 a4 a5 a6,.msl b1 b2 b3 b4 b5 b6=>Nat.beq a1 b1 && Nat.beq a2 b2 && Nat.beq a3 b3 && Nat.beq a4 b4 && Nat.beq a5 b5 && Nat.beq a6 b6
 | .map a,.map b=>Nat.beq a b
 | .asl a1 a2 a3 a4 a5,.asl b1 b2 b3 b4 b5=>Nat.beq a1 b1 && Nat.beq a2 b2 && Nat.beq a3 b3 && Nat.beq a4 b4 && Nat.beq a5 b5
 | .fn f xs,.fn g ys=>Nat.beq f g && AV.kX xs ys
 | .agg xs,.agg ys=>AV.kX xs ys
 | .tup xs,.tup ys=>AV.kX xs ys
 | .any,.any=>true
 | .it k g id s l t,.it k' g' id' s' l' t'=>Nat.beq k k' && Nat.beq g g' && id == id' && Nat.beq s s' && l == l' && Nat.beq t t'
 | _,_=>false
def AV.kX:List AV→List AV→Bool
 | [],[]=>true
 | x :: xs,y :: ys=>AV.same x y && AV.kX xs ys
 | _,_=>false
end
section types
variable (P:Program)
def aH (t:Nat):Nat:=match P.info? t with | some i=>i.size | none=>0
def bytesOf (t:Nat):Nat:=match P.info? t with | some i=>i.bytes | none=>0
def gW (t:Nat):Option Bool:=match P.underlying t with
 | some (.struct _)=>some true
 | some (.array ..)=>some true
 | some _=>some false
 | none=>none
def fE (s f:Nat):Option (Nat × Nat):=match P.underlying s with
 | some (.struct fs)=>(fs[f]?).map fun x=>(x.offset,x.type)
 | _=>none
def cu (t:Nat):Option Nat:=match P.underlying t with | some (.slice e)=>some e | _=>none
def zeroOf (t:Nat):Option D:=match P.info? t with | some i=>i.zero.bind ofConst | none=>none
def Bf (t:Nat):Option IntKind:=match P.underlying t with | some (.int k)=>some k | _=>none
def nI (t:Nat):Bool:=match P.underlying t with | some .string=>true | _=>false
end types
inductive DD where
 | val (v:AV) (S:St)
 | skip (S:St)
 | call (f:Nat) (args:List AV)
 | panic (v:AV)
def part (P:Program) (t:Nat) (cs:List AV) (off:Nat):Option AV :=
 match gW P t with
 | some true=>if off + aH P t ≤ cs.length then some (jI ((cs.drop off).take (aH P t))) else none
 | some false=>cs[off]?
 | none=>none
def ik (P:Program) (t:Nat) (cs:List D) (off:Nat):Option D :=
 match gW P t with
 | some true=>if off + aH P t ≤ cs.length then some (.agg ((cs.drop off).take (aH P t))) else none
 | some false=>cs[off]?
 | none=>none
def setAt {α:Type} (cs:List α) (off:Nat):List α→List α
 | []=>cs
 | v :: l=>setAt (cs.set off v) (off + 1) l
def asNat:D→Option Nat
 | .int _ n=>if 0 ≤ n then some n.toNat else none
 | _=>none
def jY (P:Program):Nat→Nat→D→D→Option Bool
 | 0,_,_,_=>none
 | n + 1,t,x,y =>
  match P.underlying t,x,y with
  | some .bool,.bool a,.bool b=>some (a == b)
  | some (.int _),.int k a,.int k' b=>if k=k' then some (a == b) else none
  | some .string,.str a,.str b=>some (a == b)
  | some (.pointer _),.nilp,.nilp=>some true
  | some (.map _ _),.nilm,.nilm=>some true
  | some (.func _ _ _),.nilf,.nilf=>some true
  | some (.slice _),.bJ,.bJ=>some true
  | some (.slice _),.sl (_ :: _) _,.bJ=>some false
  | some (.slice _),.bJ,.sl (_ :: _) _=>some false
  | some (.interface _),.nili,.iface _ _=>some false
  | some (.interface _),.iface _ _,.nili=>some false
  | some (.interface _),.iface tx vx,.iface ty vy =>
   if tx=ty then (match P.info? tx with
    | some i=>if i.comparable then jY P n tx vx vy else none
    | none=>none)
   else some false
  | some (.struct fs),.agg xs,.agg ys=>if P.stoodInHeld t then none else
   fs.toList.foldr (fun f k=>if f.name = "_" then k else
    match ik P f.type xs f.offset,ik P f.type ys f.offset with
    | some a,some b=>match jY P n f.type a b with
     | some true=>k
     | some false=>some false
     | none=>none
    | _,_=>none) (some true)
  | _,_,_=>none
def AV.eqv (P:Program) (t:Nat):AV→AV→Option Bool
 | .d x,.d y=>match x,y with
  | .agg _,.agg _=>if P.eqGuardType P.depth t then none else jY P 20 t x y
  | x,y=>jY P 20 t x y
 | .msl _ _ _ _ _ _,.d .bJ=>match P.underlying t with | some (.slice _)=>some false | _=>none
 | .tsl (_ :: _) _,.d .bJ=>match P.underlying t with | some (.slice _)=>some false | _=>none
 | .ptr ..,.d .nilp=>match P.underlying t with | some (.pointer _)=>some false | _=>none
 | .eptr ..,.d .nilp=>match P.underlying t with | some (.pointer _)=>some false | _=>none
 | .d .nilp,.ptr ..=>match P.underlying t with | some (.pointer _)=>some false | _=>none
 | .d .nilp,.eptr ..=>match P.underlying t with | some (.pointer _)=>some false | _=>none
 | .map _,.d .nilm=>match P.underlying t with | some (.map _ _)=>some false | _=>none
 | .fn _ _,.d .nilf=>match P.underlying t with | some (.func _ _ _)=>some false | _=>none
 | _,_=>none
def strLt:List UInt8→List UInt8→Bool
 | _,[]=>false
 | [],_ :: _=>true
 | a :: x,b :: y=>a < b || (a == b && strLt x y)
def j3 (op:BinOp) (k:IntKind) (a b:Int):Option D :=
 match op with
 | .add=>some (.int k (k.wrap (a + b)))
 | .sub=>some (.int k (k.wrap (a - b)))
 | .mul=>some (.int k (k.wrap (a * b)))
 | .quo=>if b=0 then none else some (.int k (k.wrap (a.tdiv b)))
 | .rem=>if b=0 then none else some (.int k (a.tmod b))
 | .and=>some (.int k (k.wrap (BitVec.ofInt k.bits a &&& BitVec.ofInt k.bits b).toNat))
 | .or=>some (.int k (k.wrap (BitVec.ofInt k.bits a ||| BitVec.ofInt k.bits b).toNat))
 | .xor=>some (.int k (k.wrap (BitVec.ofInt k.bits a ^^^ BitVec.ofInt k.bits b).toNat))
 | .andNot=>some (.int k (k.wrap (BitVec.ofInt k.bits a &&& ~~~ BitVec.ofInt k.bits b).toNat))
 | .eql=>some (.bool (a == b))
 | .neq=>some (.bool (a != b))
 | .lss=>some (.bool (decide (a < b)))
 | .leq=>some (.bool (decide (a ≤ b)))
 | .gtr=>some (.bool (decide (a > b)))
 | .geq=>some (.bool (decide (a ≥ b)))
 | _=>none
def sH (op:BinOp) (a b:List UInt8):Option D :=
 match op with
 | .add=>if a.length + b.length ≤ 4611686018427387904 then some (.str (a ++ b)) else none
 | .eql=>some (.bool (a == b))
 | .neq=>some (.bool (!(a == b)))
 | .lss=>some (.bool (strLt a b))
 | .leq=>some (.bool (strLt a b || a == b))
 | .gtr=>some (.bool (!(strLt a b || a == b)))
 | .geq=>some (.bool (!(strLt a b)))
 | _=>none
def si (op:BinOp) (k:IntKind) (x y:Int):Option D :=
 if y < 0 then none else
 match op with
 | .shl=>some (.int k (k.wrap (x * 2 ^ (min y.toNat k.bits))))
 | .shr=>some (.int k (x.fdiv (2 ^ (min y.toNat k.bits))))
 | _=>none
def gU (P:Program) (t:Nat) (op:BinOp) (x y:AV):Option D :=
 match op,x,y with
 | .shl,.d (.int k a),.d (.int _ b)=>si .shl k a b
 | .shr,.d (.int k a),.d (.int _ b)=>si .shr k a b
 | op,.d (.int k a),.d (.int k' b)=>if k=k' then j3 op k a b else none
 | op,.d (.str a),.d (.str b)=>sH op a b
 | .eql,x,y=>(AV.eqv P t x y).map .bool
 | .neq,x,y=>(AV.eqv P t x y).map fun b=>.bool (!b)
 | _,_,_=>none
def lW (v:AV):Option (List AV):=bif v.plain then some v.cells else none
def cellsD (v:AV):Option (List D):=match vH v with | some x=>some x.cells | none=>none
def j4 {α:Type} (cellsOf:AV→Option (List α)) (place:Nat→Option (Nat × Nat)) (cells:List α):List (Nat × AV)→Option (List α)
 | []=>some cells
 | (i,v) :: rest =>
  match place i,cellsOf v with
  | some (off,size),some cs=>if cs.length=size∧off + cs.length ≤ cells.length then j4 cellsOf place (setAt cells off cs) rest else none
  | _,_=>none
def qO (ρ:Operand→Option AV) (ps:Array (Nat × Operand)):Option (List (Nat × AV)) :=
 iW (fun p:Nat × Operand=>(ρ p.2).map fun v=>(p.1,v)) ps.toList
def chunk {α:Type} (sz:Nat):Nat→List α→List (List α)
 | 0,_=>[]
 | n + 1,l=>l.take sz :: chunk sz n (l.drop sz)
def sQ (agg:Bool) (cs:List D):Option D:=if agg then some (.agg cs) else match cs with | [x]=>some x | _=>none
def mJ:AV→Option (List D)
 | .d .bJ=>some []
 | .d (.sl xs _)=>some xs
 | .tsl xs _=>some xs
 | _=>none
def sizes (sz:Nat):List D→Bool
 | []=>true
 | x :: l=>Nat.beq x.cells.length sz && sizes sz l
def bound:Nat:=70368744177664
structure gK where
 P:Program
 good:Nat→Bool
 rowT:Nat→Bool
 prim:Nat→List AV→St→Option (AV × St)
 objT:Nat→Option (Nat × D)
 hasPrim:Nat→Bool
def ll:D→Bool
 | .bool _=>true
 | .int _ _=>true
 | .str _=>true
 | _=>false
def kD (P:Program) (t:Nat):Bool:=match P.underlying t with
 | some .bool=>true
 | some (.int _)=>true
 | some .string=>true
 | _=>false
def ma (P:Program) (t:Nat) (k:D):Bool:=match k with
 | .agg xs=>match P.underlying t with
  | some (.struct fs)=>xs.all ll && fs.all fun f=>f.name != "_" && kD P f.type && (ik P f.type xs f.offset).isSome
  | _=>false
 | k=>ll k && kD P t
def jV (P:Program) (t:Nat) (k:D):List (D × AV × Nat)→Nat→Option (Option (Nat × AV))
 | [],_=>some none
 | (x,v,_) :: l,i=>match jY P 20 t k x with
  | some true=>if D.same k x then some (some (i,v)) else none
  | some false=>jV P t k l (i + 1)
  | none=>none
def mapOf (S:St):AV→Option uk
 | .d .nilm=>some { es:=[],clk:=0 }
 | .map id=>match S.H.get id with
  | some (.map m)=>some m
  | _=>none
 | _=>none
section ops
variable (C:gK) (f:Nat)
def pV (t:Nat):Option (Nat × Nat):=match C.P.underlying t with
 | some (.map k e)=>some (k,e)
 | _=>none
def oC (t:Nat) (S:St) (m:AV) (k:D) (commaOk:Bool):Option AV :=
 match pV C t,mapOf S m with
 | some (kt,et),some M=>if ma C.P kt k then
   match jV C.P kt k M.es 0 with
   | some (some (_,v))=>some (if commaOk then .tup [v,.d (.bool true)] else v)
   | some none=>(zeroOf C.P et).map fun z=>if commaOk then .tup [.d z,.d (.bool false)] else .d z
   | none=>none
  else none
 | _,_=>none
def oG (t:Nat) (S:St) (m:AV) (k:D) (v:AV):Option St :=
 match pV C t,m with
 | some (kt,_),.map id=>match S.H.get id with
  | some (.map M)=>if ma C.P kt k && v.plain then
    match jV C.P kt k M.es 0 with
    | some (some (i,_))=>some { S with H:=S.H.set id (.map { M with es:=M.es.modify i fun p=>(k,v,p.2.2) }) }
    | some none=>some { S with H:=S.H.set id (.map { es:=M.es ++ [(k,v,M.clk)],clk:=M.clk + 1 }) }
    | none=>none
   else none
  | _=>none
 | _,_=>none
def yB (t:Nat) (S:St) (m:AV) (k:D):Option (AV × St) :=
 match pV C t,m with
 | some (kt,et),.map id=>match S.H.get id with
  | some (.map M)=>if ma C.P kt k then
    match jV C.P kt k M.es 0 with
    | some (some (i,v))=>match M.es[i]? with
     | some p=>some (.tup [v,.d (.int .i64 (p.2.2:Nat))],S)
     | none=>none
    | some none=>(zeroOf C.P et).map fun z=>(.tup [.d z,.d (.int .i64 (M.clk:Nat))],{ S with H:=S.H.set id (.map { es:=M.es ++ [(k,.d z,M.clk)],clk:=M.clk + 1 }) })
    | none=>none
   else none
  | _=>none
 | _,_=>none
def lI (n:Nat):List (D × AV × Nat)→Nat→Option Nat
 | [],_=>none
 | (_,_,b) :: l,i=>bif Nat.beq b n then some i else lI n l (i + 1)
def nV (S:St) (m:AV) (stamp:D) (v:AV):Option St :=
 match m,stamp with
 | .map id,.int .i64 n=>match S.H.get id with
  | some (.map M)=>if 0 ≤ n∧v.plain=true then
    match lI n.toNat M.es 0 with
    | some i=>some { S with H:=S.H.set id (.map { M with es:=M.es.modify i fun p=>(p.1,v,p.2.2) }) }
    | none=>none
   else none
  | _=>none
 | _,_=>none
def vD (t:Nat) (S:St) (m:AV) (k:D):Option St :=
 match pV C t,m with
 | some (kt,_),.map id=>match S.H.get id with
  | some (.map M)=>if ma C.P kt k then
    match jV C.P kt k M.es 0 with
    | some (some (i,_))=>some { S with H:=S.H.set id (.map { M with es:=M.es.eraseIdx i }) }
    | some none=>some S
    | none=>none
   else none
  | _=>none
 | _,_=>none
def St.look (S:St) (id gen:Nat):Option (List AV) :=
 match S.H.get id with
 | some (.cells g cs)=>bif Nat.beq g gen then some cs else none
 | _=>none
def nA (t:Nat) (S:St):AV→Option AV
 | .ptr id gen off=>match S.look id gen with
  | some cs=>part C.P t cs off
  | none=>none
 | .eptr x off=>(ik C.P t x.cells off).map .d
 | _=>none
def uD (t:Nat) (S:St) (a v:AV):Option St :=
 match a with
 | .ptr id gen off =>
  if v.cells.length=aH C.P t∧v.plain=true∧(gW C.P t).isSome=true then
   match S.H.get id with
   | some (.cells g cs)=>if g=gen then (if off + v.cells.length ≤ cs.length then some { S with H:=S.H.set id (.cells g (setAt cs off v.cells)) } else none) else none
   | _=>none
  else none
 | _=>none
def bX (S:St) (b:wD):St:={ S with H:=S.H.set S.nx b,nx:=S.nx + 1 }
def ib (S:St) (cs:List AV):AV × St:=(.ptr S.nx 0 0,bX S (.cells 0 cs))
def iU (t:Nat):Bool:=match C.P.underlying t with | some (.slice _)=>true | some .string=>true | _=>false
def iB (e:Nat):Bool:=match C.P.info? e with
 | some i=>match i.zero with
  | some z=>z.cells.size == i.size
  | none=>false
 | none=>false
def uC:AV→Option (Nat × Nat × Nat × Nat × Nat)
 | .msl id g off len _ sz=>some (id,g,off,len,sz)
 | .asl id g off len sz=>some (id,g,off,len,sz)
 | _=>none
def oF (S:St) (sz:Nat) (y:AV):Option (List AV × Nat) :=
 match uC y with
 | some (id,g,off,len,sz')=>(match S.look id g with
  | some cs=>if sz'=sz∧0 < sz∧off + len * sz ≤ cs.length then some ((cs.drop off).take (len * sz),len) else none
  | none=>none)
 | none=>match y with
 | .d (.str s)=>if sz=1 then some (s.map fun c=>.d (.int .u8 c.toNat),s.length) else none
 | y=>match mJ y with
  | some ys=>if sizes sz ys then some ((ys.map D.cells).flatten.map .d,ys.length) else none
  | none=>none
def yL (e n:Nat):Bool:=Nat.ble (n * bytesOf C.P e) bound && Nat.blt 0 (bytesOf C.P e) && Nat.ble (bytesOf C.P e) 65536 && iB C e
def rZ (e:Nat) (S:St) (id g off len lim sz:Nat) (y:AV):Option (AV × St) :=
 match oF S sz y,S.look id g with
 | some (ys,n),some cs =>
  if sz=aH C.P e∧0 < sz∧off + len * sz ≤ cs.length then
   if n=0 then some (.msl id g off len lim sz,S)
   else if off + len * sz + n * sz ≤ cs.length then some (.msl id g off (len + n) (max lim (len + n)) sz,{ S with H:=S.H.set id (.cells g (setAt cs (off + len * sz) ys)) })
   else if off=0∧yL C e (len + n)=true then some (.msl id (g + 1) 0 (len + n) (len + n) sz,{ S with H:=S.H.set id (.cells (g + 1) (cs.take (len * sz) ++ ys)) })
   else none
  else none
 | _,_=>none
def mi (e:Nat) (S:St) (x:AV) (xs:List D) (y:AV):Option (AV × St) :=
 match oF S (aH C.P e) y with
 | some (ys,n)=>if n=0 then (if (C.P.info? e).isSome=true then some (x,S) else none) else if n ≠ 0∧0 < aH C.P e∧sizes (aH C.P e) xs=true∧yL C e (xs.length + n)=true then
   some (.msl S.nx 0 0 (xs.length + n) (xs.length + n) (aH C.P e),{ S with H:=S.H.set S.nx (.cells 0 ((xs.map D.cells).flatten.map .d ++ ys)),nx:=S.nx + 1 }) else none
 | none=>none
def iF (e:Nat) (S:St) (x:AV) (ys:List D):Option (AV × St) :=
 match x with
 | .d .bJ =>
  if ys.length=0 then (if (C.P.info? e).isSome then some (x,S) else none)
  else if ys.length * bytesOf C.P e ≤ bound∧0 < bytesOf C.P e∧bytesOf C.P e ≤ 65536∧sizes (aH C.P e) ys=true∧iB C e=true then
   some (.tsl ys S.nx,{ S with T:=S.T.set S.nx ys.length,nx:=S.nx + 1 })
  else none
 | .d (.sl xs tight) =>
  if ys.length=0 then (if (C.P.info? e).isSome then some (x,S) else none)
  else if (xs.length + ys.length) * bytesOf C.P e ≤ bound∧0 < bytesOf C.P e∧bytesOf C.P e ≤ 65536∧sizes (aH C.P e) ys=true∧sizes (aH C.P e) xs=true∧iB C e=true then
   (if tight then some (.tsl (xs ++ ys) S.nx,{ S with T:=S.T.set S.nx (xs.length + ys.length),nx:=S.nx + 1 }) else none)
  else none
 | .tsl xs tok =>
  if ys.length=0 then (if (C.P.info? e).isSome then some (x,S) else none)
  else if (xs.length + ys.length) * bytesOf C.P e ≤ bound∧0 < bytesOf C.P e∧bytesOf C.P e ≤ 65536∧sizes (aH C.P e) ys=true∧sizes (aH C.P e) xs=true∧iB C e=true then
   match S.T.get tok with
   | some en=>if en=xs.length∧0 < xs.length then some (.tsl (xs ++ ys) tok,{ S with T:=S.T.set tok (xs.length + ys.length) }) else none
   | none=>none
  else none
 | _=>none
def vR (sz:Nat):List D→Bool
 | []=>true
 | x :: _=>Nat.beq x.cells.length sz
def il (o:Option D) (z:Nat):Option Nat:=match o with | some x=>asNat x | none=>some z
def qZ (t:Nat) (xs:List D) (tight:Bool) (lo hi mx:Option D):Option D :=
 match cu C.P t with
 | some e=>if vR (aH C.P e) xs && (C.P.underlying e).isSome then
  match il hi xs.length,il lo 0,mx with
  | some h,some l,none=>if l ≤ h && h ≤ xs.length then some (.sl ((xs.take h).drop l) (tight && Nat.beq h xs.length)) else none
  | some h,some l,some m'=>match asNat m' with
   | some m=>if hi.isSome && l ≤ h && h ≤ m && m ≤ xs.length then some (.sl ((xs.take h).drop l) (Nat.beq h m)) else none
   | none=>none
  | _,_,_=>none
  else none
 | none=>none
def AB (C:gK) (t:Nat) (id g off len lim sz:Nat) (lo hi mx:Option D):Option AV :=
 match cu C.P t with
 | some e=>if sz=aH C.P e∧(C.P.underlying e).isSome=true∧0 < sz then
  match il hi len,il lo 0,mx with
  | some h,some l,none=>if l ≤ h∧h ≤ lim then (if l=lim then some (.d (.sl [] false)) else some (.msl id g (off + l * sz) (h - l) (lim - l) sz)) else none
  | some h,some l,some m'=>match asNat m' with
   | some m=>if hi.isSome=true∧l ≤ h∧h ≤ m∧m ≤ lim then (if l=h then some (.d (.sl [] (Nat.beq h m))) else some .any) else none
   | none=>none
  | _,_,_=>none
  else none
 | none=>none
def ny (t:Nat) (x:AV) (lo hi mx:Option D):Option AV :=
 match x with
 | .d (.str s) =>
  if mx.isSome || !nI C.P t then none else
  match il hi s.length,il lo 0 with
  | some h,some l=>if l ≤ h && h ≤ s.length then some (.d (.str ((s.take h).drop l))) else none
  | _,_=>none
 | .d .bJ=>(qZ C t [] true lo hi mx).map fun _=>.d .bJ
 | .d (.sl xs tight)=>(qZ C t xs tight lo hi mx).map .d
 | .tsl xs _=>match lo,hi,mx with
  | none,none,none=>(cu C.P t).bind fun e=>if (C.P.underlying e).isSome then some x else none
  | _,_,_=>(qZ C t xs false lo hi mx).map .d
 | .msl id g off len lim sz=>AB C t id g off len lim sz lo hi mx
 | .ptr id g off=>match C.P.underlying t,lo,hi,mx with
  | some (.array n e),none,none,none=>if (C.P.underlying e).isSome=true∧n ≤ 16777216 then some (.asl id g off n (aH C.P e)) else none
  | _,_,_,_=>none
 | .asl id g off len sz=>match cu C.P t,lo,hi,mx with
  | some e,none,some (.int _ 0),some (.int _ 0)=>if (C.P.underlying e).isSome then some (.d (.sl [] true)) else none
  | some e,none,none,none=>if (C.P.underlying e).isSome then some (.asl id g off len sz) else none
  | _,_,_,_=>none
 | _=>none
def jG (t:Nat) (x:AV) (i:AV):Option AV :=
 match i,cu C.P t with
 | .d (.int _ n),some e =>
  if 0 ≤ n && (gW C.P e).isSome then
   match x with
   | .d (.sl xs _)=>match xs[n.toNat]? with
    | some y=>if y.cells.length=aH C.P e then some (.eptr y 0) else none
    | none=>none
   | .tsl xs _=>match xs[n.toNat]? with
    | some y=>if y.cells.length=aH C.P e then some (.eptr y 0) else none
    | none=>none
   | .msl id gen off len _ sz=>if n.toNat < len∧sz=aH C.P e then some (.ptr id gen (off + n.toNat * aH C.P e)) else none
   | .asl id gen off len sz=>if n.toNat < len∧sz=aH C.P e then some (.ptr id gen (off + n.toNat * aH C.P e)) else none
   | _=>none
  else none
 | _,_=>none
def mo:AV→St→Option Nat
 | .d (.str s),_=>some s.length
 | .d .bJ,_=>some 0
 | .d (.sl xs _),_=>some xs.length
 | .tsl xs _,_=>some xs.length
 | .msl _ _ _ len _ _,_=>some len
 | .asl _ _ _ len _,_=>some len
 | .d .nilm,_=>some 0
 | .map id,S=>match S.H.get id with
  | some (.map es)=>some es.es.length
  | _=>none
 | _,_=>none
def p8 (t:Nat) (x:AV):Bool:=match C.P.underlying t with
 | some .string=>(match x with | .d (.str _)=>true | _=>false)
 | some (.slice _)=>(match x with | .d .bJ=>true | .d (.sl _ _)=>true | .tsl _ _=>true | .msl _ _ _ _ _ _=>true | .asl _ _ _ _ _=>true | _=>false)
 | some (.map _ _)=>(match x with | .d .nilm=>true | .map _=>true | _=>false)
 | _=>false
def qE (op:Int→Int→Int):List AV→Option D
 | [.d (.int k a)]=>some (.int k a)
 | .d (.int k a) :: .d (.int k' b) :: l=>if k=k' then qE op (.d (.int k (op a b)) :: l) else none
 | _=>none
 termination_by l=>l.length
def yI (e:Nat) (S:St) (x:AV):Option DD :=
 match x with
 | .d .bJ=>some (.val (.tup []) S)
 | .d (.sl [] _)=>some (.val (.tup []) S)
 | .msl id g off len _ sz =>
  if len=0 then some (.val (.tup []) S) else
  match S.look id g,zeroOf C.P e with
  | some cs,some z=>if z.cells.length=sz∧0 < sz∧off + len * sz ≤ cs.length then
    some (.val (.tup []) { S with H:=S.H.set id (.cells g (setAt cs off (((List.replicate len z.cells).flatten).map .d))) }) else none
  | _,_=>none
 | _=>none
def Ay (t:Nat) (S:St) (l c:D):Option (AV × St) :=
 match cu C.P t,l,c with
 | some e,.int _ l,.int _ c=>match zeroOf C.P e with
  | some z=>if 0 ≤ l∧l ≤ c∧z.cells.length=aH C.P e∧0 < aH C.P e∧c.toNat * aH C.P e ≤ 16777216∧(bytesOf C.P e:Int) * c ≤ 281474976710656∧c ≤ 16777216∧C.rowT t=true then
    some (.msl S.nx 0 0 l.toNat c.toNat (aH C.P e),{ S with H:=S.H.set S.nx (.cells 0 ((List.replicate c.toNat z.cells).flatten.map .d)),nx:=S.nx + 1 })
   else none
  | none=>none
 | _,_,_=>none
def Aj (e:Nat) (S:St) (x y:AV):Option DD :=
 match uC x with
 | some (id,g,off,len,sz)=>(match S.look id g with
  | some cs=>if sz=aH C.P e∧0 < sz∧off + len * sz ≤ cs.length then
    match uC y with
    | some (id2,g2,off2,len2,sz2)=>(match S.look id2 g2 with
     | some cs2=>if sz2=sz∧off2 + len2 * sz ≤ cs2.length then
       some (.val (.d (.int .i64 ((min len2 len:Nat):Int))) { S with H:=S.H.set id (.cells g (setAt cs off ((cs2.drop off2).take (min len2 len * sz)))) }) else none
     | none=>none)
    | none=>match oF S sz y with
     | some (ys,n)=>if n ≤ len then some (.val (.d (.int .i64 (n:Int))) { S with H:=S.H.set id (.cells g (setAt cs off ys)) }) else none
     | none=>none
   else none
  | none=>none)
 | none=>none
def lq (b:Builtin) (argTypes:Array Nat) (S:St) (args:List AV):Option DD :=
 match b,args with
 | .len,[x]=>match argTypes[0]? with
  | some t=>if p8 C t x then (mo x S).map fun (n:Nat)=>.val (.d (.int .i64 (n:Int))) S else none
  | none=>none
 | .append,[x,y]=>match argTypes[0]? with
  | some t=>if (match argTypes[1]? with | some u=>iU C u | none=>false) then
   match cu C.P t with
   | some e=>match x with
    | .msl id g off len lim sz=>(rZ C e S id g off len lim sz y).map fun r=>.val r.1 r.2
    | x=>bif C.rowT t then (match x with
      | .d .bJ=>(mi C e S (.d .bJ) [] y).map fun r=>.val r.1 r.2
      | .d (.sl xs true)=>(mi C e S (.d (.sl xs true)) xs y).map fun r=>.val r.1 r.2
      | _=>none)
     else match mJ y with
      | some ys=>(iF C e S x ys).map fun r=>.val r.1 r.2
      | none=>match y with
       | .d (.str s)=>(iF C e S x (s.map fun c=>.int .u8 c.toNat)).map fun r=>.val r.1 r.2
       | _=>none
   | none=>none
   else none
  | none=>none
 | .copy,[x,y]=>match argTypes[0]? with
  | some t=>match cu C.P t with
   | some e=>Aj C e S x y
   | none=>none
  | none=>none
 | .clear,[x]=>match argTypes[0]? with
  | some t=>match cu C.P t with
   | some e=>yI C e S x
   | none=>none
  | none=>none
 | .delete,[m,.d k]=>match argTypes[0]? with
  | some t=>(vD C t S m k).map fun S'=>.val (.tup []) S'
  | none=>none
 | .min,l=>(qE (fun a b=>if b < a then b else a) l).map fun x=>.val (.d x) S
 | .max,l=>(qE (fun a b=>if b > a then b else a) l).map fun x=>.val (.d x) S
 | _,_=>none
def jR:List D→Option (List UInt8)
 | []=>some []
 | .int .u8 n :: l=>(jR l).map (UInt8.ofNat n.toNat :: ·)
 | _ :: _=>none
def oK (t:Nat):Bool:=match cu C.P t with | some e=>(match Bf C.P e with | some .u8=>true | _=>false) | none=>false
def uR (src dst:Nat) (x:AV):Option AV :=
 match x with
 | .d (.int _ n)=>if (C.P.underlying src).isSome then (Bf C.P dst).map fun k=>.d (.int k (k.wrap n)) else none
 | .d (.str _)=>if nI C.P dst && (C.P.underlying src).isSome then some x else none
 | .d .bJ=>if nI C.P dst && oK C src then some (.d (.str [])) else none
 | .d (.sl xs _)=>if nI C.P dst && oK C src then (jR xs).map fun s=>.d (.str s) else none
 | .tsl xs _=>if nI C.P dst && oK C src then (jR xs).map fun s=>.d (.str s) else none
 | _=>none
def wO (ρ:Operand→Option AV):Option Operand→Option (Option D)
 | none=>some none
 | some o=>match ρ o with
  | some (.d x)=>some (some x)
  | _=>none
def qf (t:Nat) (S:St) (len:Nat) (ps:List (Nat × AV)):Option DD :=
 match cu C.P t with
 | some e=>match zeroOf C.P e with
  | some z=>if z.cells.length=aH C.P e∧0 < len * aH C.P e∧len * aH C.P e ≤ 16777216∧(gW C.P e).isSome=true then
    bif S.H.has S.nx then none else
    (j4 lW (fun i=>some (i * aH C.P e,aH C.P e)) ((List.replicate len z.cells).flatten.map AV.d) ps).map fun cs=>.val (.msl S.nx 0 0 len len (aH C.P e)) (ib S cs).2
   else none
  | none=>none
 | none=>none
def Ea (t len:Nat):Bool:=C.rowT t && !(Nat.beq len 0)
def oper (ρ:Operand→Option AV) (S:St) (op:Op):Option DD :=
 match op with
 | .move x | .assign x=>(ρ x).map fun v=>.val v S
 | .pick c a b=>match ρ c with
  | some (.d (.bool t))=>(ρ (if t then a else b)).map fun v=>.val v S
  | _=>none
 | .alloc t=>bif S.H.has S.nx then none else match C.objT t with
  | some (k,x)=>some (.val (.ptr S.nx 0 0) (bX S (.obj k x)))
  | none=>(zeroOf C.P t).map fun z=>let r:=ib S (AV.d z).cells; .val r.1 r.2
 | .box t x=>match ρ x with
  | some v=>if v.plain then (bif S.H.has S.nx then none else let r:=ib S v.cells; some (.val r.1 r.2)) else none
  | none=>none
 | .build t parts=>match zeroOf C.P t,qO ρ parts with
  | some z,some ps=>match P_place t with
   | some pl=>(j4 lW pl (AV.d z).cells ps).map fun cs=>.val (jI cs) S
   | none=>none
  | _,_=>none
 | .buildSlice t len parts=>bif Ea C t len then (match qO ρ parts with
  | some ps=>qf C t S len ps
  | none=>none) else match cu C.P t,qO ρ parts with
  | some e,some ps =>
   if len * aH C.P e ≤ 16777216 then
   match (if len * aH C.P e=0 then some [] else match zeroOf C.P e with | some z=>if z.cells.length=aH C.P e then some z.cells else none | none=>none) with
   | some z=>match j4 cellsD (fun i=>some (i * aH C.P e,aH C.P e)) ((List.replicate len z).flatten) ps with
    | some cs=>match gW C.P e with
     | some ag=>(iW (sQ ag) (chunk (aH C.P e) len cs)).map fun xs=>.val (.d (.sl xs true)) S
     | none=>none
    | none=>none
   | none=>none
   else none
  | _,_=>none
 | .load t a=>match ρ a with
  | some v=>(nA C t S v).map fun r=>.val r S
  | none=>none
 | .store t a x=>match ρ a,ρ x with
  | some p,some v=>(uD C t S p v).map fun S'=>.skip S'
  | _,_=>none
 | .nilCheck x=>match ρ x with
  | some (.ptr i g o)=>some (.val (.ptr i g o) S)
  | some (.eptr y o)=>some (.val (.eptr y o) S)
  | some (.fn g cs)=>some (.val (.fn g cs) S)
  | _=>none
 | .binOp op t x y _=>match ρ x,ρ y with
  | some a,some b=>(gU C.P t op a b).map fun r=>.val (.d r) S
  | _,_=>none
 | .unOp op _ x=>match op,ρ x with
  | .not,some (.d (.bool b))=>some (.val (.d (.bool (!b))) S)
  | .neg,some (.d (.int k n))=>some (.val (.d (.int k (k.wrap (0 - n)))) S)
  | _,_=>none
 | .convert src dst x=>match ρ x with
  | some v=>(uR C src dst v).map fun r=>.val r S
  | none=>none
 | .makeFunc fn first caps=>match fn,first.toList with
  | .func g,[]=>(iW ρ caps.toList).map fun cs=>.val (.fn g cs) S
  | _,_=>none
 | .slice t x lo hi mx=>match ρ x with
  | some v =>
   match wO ρ lo,wO ρ hi,wO ρ mx with
   | some l,some h,some m=>(ny C t v l h m).map fun r=>.val r S
   | _,_,_=>none
  | none=>none
 | .fieldAddr s x fld=>match ρ x,fE C.P s fld with
  | some (.ptr id g off),some (fo,ft)=>if aH C.P ft=0 then none else some (.val (.ptr id g (off + fo)) S)
  | some (.eptr y off),some (fo,ft)=>if aH C.P ft=0 then none else some (.val (.eptr y (off + fo)) S)
  | _,_=>none
 | .field t x fld=>match ρ x,fE C.P t fld with
  | some (.d (.agg cs)),some (fo,ft)=>(ik C.P ft cs fo).map fun v=>.val (.d v) S
  | some (.agg cs),some (fo,ft)=>(part C.P ft cs fo).map fun v=>.val v S
  | _,_=>none
 | .indexAddr t x i=>match ρ x,ρ i with
  | some v,some n=>(jG C t v n).map fun r=>.val r S
  | _,_=>none
 | .index t x i=>match ρ x,ρ i with
  | some (.d (.str s)),some (.d (.int _ n))=>if 0 ≤ n && nI C.P t then (s[n.toNat]?).map fun c=>.val (.d (.int .u8 c.toNat)) S else none
  | _,_=>none
 | .makeMap t r=>match pV C t,(match r with | none=>true | some o=>(match ρ o with | some (.d (.int _ _))=>true | _=>false)) with
  | some _,true=>bif S.H.has S.nx then none else some (.val (.map S.nx) { S with H:=S.H.set S.nx (.map { es:=[],clk:=0 }),nx:=S.nx + 1 })
  | _,_=>none
 | .makeSlice t l c=>match ρ l,ρ c with
  | some (.d lv),some (.d cv)=>(Ay C t S lv cv).map fun r=>.val r.1 r.2
  | _,_=>none
 | .lookup t m k commaOk=>match ρ m,ρ k with
  | some mv,some (.d kd)=>(oC C t S mv kd commaOk).map fun v=>.val v S
  | _,_=>none
 | .mapUpdate t m k x | .insert t m k x=>match ρ m,ρ k,ρ x with
  | some mv,some (.d kd),some v=>(oG C t S mv kd v).map fun S'=>.skip S'
  | _,_,_=>none
 | .mapEntry t m k=>match ρ m,ρ k with
  | some mv,some (.d kd)=>(yB C t S mv kd).map fun r=>.val r.1 r.2
  | _,_=>none
 | .entryStore _ m st x=>match ρ m,ρ st,ρ x with
  | some mv,some (.d sd),some v=>(nV S mv sd v).map fun S'=>.skip S'
  | _,_,_=>none
 | .range t x=>match pV C t,ρ x with
  | some _,some (.map id)=>match S.H.get id with
   | some (.map M)=>bif S.H.has S.nx then none else some (.val (.it S.nx 0 (some id) M.clk [] M.clk) (bX S (.obj 3 (.int .i64 0))))
   | _=>none
  | some _,some (.d .nilm)=>bif S.H.has S.nx then none else some (.val (.it S.nx 0 none 0 [] 0) (bX S (.obj 3 (.int .i64 0))))
  | _,_=>none
 | .entry t=>match ρ t with
  | some (.it k g (some id) _ seen st)=>match S.H.get id,seen.getLast?,S.H.get k with
   | some (.map M),some n,some (.obj 3 (.int .i64 c))=>if M.clk=st∧c=(g:Nat) then (match lI n M.es 0 with
     | some i=>(M.es[i]?).map fun p=>.val (.tup [.d p.1,p.2.1]) S
     | none=>none) else none
   | _,_,_=>none
  | _=>none
 | .extract t i=>match ρ t with
  | some (.tup vs)=>(vs[i]?).map fun v=>.val v S
  | _=>none
 | .call c=>match c.callee with
  | .builtin b=>match iW ρ c.args.toList with
   | some args=>lq C b c.argTypes S args
   | none=>none
  | .value g=>match ρ g,iW ρ c.args.toList with
   | some (.fn k caps),some args=>some (.call k (args ++ caps))
   | _,_=>none
  | _=>none
 | _=>none
 where
 P_place (t:Nat):Option (Nat→Option (Nat × Nat)):=match C.P.underlying t with
  | some (.struct fs)=>if fs.all fun f=>(C.P.underlying f.type).isSome then some fun i=>(fs[i]?).map fun x=>(x.offset,aH C.P x.type) else none
  | some (.array _ e)=>if (C.P.underlying e).isSome then some fun i=>some (i * aH C.P e,aH C.P e) else none
  | _=>none
end ops
abbrev Env:=AL AV
def Env.put (nt:Nat) (e:Env) (dst:Option Nat) (v:AV):Option Env:=match dst with
 | some t=>bif Nat.blt t nt then some ((t,v) :: e) else none
 | none=>some e
def ic (e:Env):Operand→Option AV
 | .tmp t=>e.get t
 | .const v=>(ofConst v).map .d
 | .func f=>some (.fn f [])
 | .global _=>none
inductive Gm where
 | normal | exit (id:Nat) | ret | panic (v:AV)
 deriving Inhabited
abbrev Hand:=Nat→List AV→St→Option (Option AV × AV × St)
def dZ (ops:Array Oper) (e:Env) (o:Oper):Option Bool :=
 match o.guard with
 | none=>some true
 | some (j,want)=>match ops[j]? with
  | some oj=>match oj.dst with
   | some t=>match e.get t with
    | some (.d (.bool b))=>some (b == want)
    | some (.tup [])=>some false
    | _=>none
   | none=>none
  | none=>none
inductive Stp where
 | go (e:Env) (S:St)
 | stop (v:AV) (S:St)
def vV:AV→Option AV
 | .tup vs=>(jW vs).map fun xs=>.tup (xs.map .d)
 | v=>(vH v).map .d
def Dr:List (D × AV × Nat)→List (D × AV × Nat)→Bool
 | [],[]=>true
 | (k,v,n) :: l,(k',v',n') :: l'=>Nat.beq n n' && D.same k k' && AV.same v v' && Dr l l'
 | _,_=>false
def sameAt (S S':St) (id:Nat):Bool:=match S.H.get id,S'.H.get id with
 | some (.cells g cs),some (.cells g' cs')=>Nat.beq g g' && AV.kX cs cs'
 | some (.map m),some (.map m')=>Nat.beq m.clk m'.clk && Dr m.es m'.es
 | none,none=>true
 | _,_=>false
structure Im where
 k:Nat
 ids:List Nat
 S:St
 S':St
def kinds (ks:List Im):List Nat :=
 let I:=(ks.map (·.ids)).flatten
 ks.map fun d=>bif Nat.beq d.k 2 then (bif I.all (sameAt d.S d.S') then 4 else 2) else d.k
mutual
def AV.under (n:Nat):AV→Bool
 | .d _=>true
 | .eptr _ _=>true
 | .tsl _ tok=>Nat.blt tok n
 | .ptr id _ _=>Nat.blt id n
 | .msl id _ _ _ _ _=>Nat.blt id n
 | .map id=>Nat.blt id n
 | .asl id _ _ _ _=>Nat.blt id n
 | .fn _ cs=>belows n cs
 | .agg cs=>belows n cs
 | .tup cs=>belows n cs
 | .any=>true
 | .it k _ (some id) _ _ _=>Nat.blt k n && Nat.blt id n
 | .it k _ none _ _ _=>Nat.blt k n
def belows (n:Nat):List AV→Bool
 | []=>true
 | x :: l=>x.under n && belows n l
end
def rn (l:AL Nat) (j:Nat):Nat:=match AL.get l j with | some i=>i | none=>j
mutual
def AV.ren (l:AL Nat):AV→AV
 | .d x=>.d x
 | .eptr x o=>.eptr x o
 | .tsl xs tok=>.tsl xs (rn l tok)
 | .ptr id g o=>.ptr (rn l id) g o
 | .msl id g o n m z=>.msl (rn l id) g o n m z
 | .map id=>.map (rn l id)
 | .asl id g o n z=>.asl (rn l id) g o n z
 | .fn f cs=>.fn f (Ep l cs)
 | .agg cs=>.agg (Ep l cs)
 | .tup cs=>.tup (Ep l cs)
 | .any=>.any
 | .it k g (some id) s seen st=>.it (rn l k) g (some (rn l id)) s seen st
 | .it k g none s seen st=>.it (rn l k) g none s seen st
def Ep (l:AL Nat):List AV→List AV
 | []=>[]
 | x :: xs=>x.ren l :: Ep l xs
end
mutual
def AV.ids:AV→List Nat
 | .d _=>[]
 | .eptr _ _=>[]
 | .tsl _ tok=>[tok]
 | .ptr id _ _=>[id]
 | .msl id _ _ _ _ _=>[id]
 | .map id=>[id]
 | .asl id _ _ _ _=>[id]
 | .fn _ cs=>De cs
 | .agg cs=>De cs
 | .tup cs=>De cs
 | .any=>[]
 | .it k _ (some id) _ _ _=>[k,id]
 | .it k _ none _ _ _=>[k]
def De:List AV→List Nat
 | []=>[]
 | x :: xs=>x.ids ++ De xs
end
def wD.ids:wD→List Nat
 | .cells _ cs=>De cs
 | .map m=>(m.es.map fun p=>p.2.1.ids).flatten
 | .obj _ _=>[]
abbrev Out:=Option AV × AV × St
def Dh (nt:Nat) (o:Oper) (t:Nat) (e:Env) (S:St):Option (List Stp) :=
 match o.guard,e.get t with
 | none,some (.it k g none since seen st)=>match S.H.get k with
  | some (.obj 3 (.int .i64 c))=>if c=(g:Nat) then (e.put nt o.dst (.tup [.d (.bool false)])).map fun e'=>[.go e' S] else none
  | _=>none
 | none,some (.it k g (some id) since seen st)=>match S.H.get id,S.H.get k with
  | some (.map M),some (.obj 3 (.int .i64 c)) =>
   if c=(g:Nat)∧(M.es.all fun p=>Nat.blt p.2.2 since)=true∧since ≤ st∧Nat.blt t nt=true then
    match M.es.filter (fun p=>!(seen.contains p.2.2)) with
    | []=>(e.put nt o.dst (.tup [.d (.bool false)])).map fun e'=>[.go e' S]
    | left=>iW (fun p=>(Env.put nt ((t,.it k (g + 1) (some id) since (seen ++ [p.2.2]) M.clk) :: e) o.dst (.tup [.d (.bool true),.d p.1,p.2.1])).map fun e' =>
      .go e' { S with H:=S.H.set k (.obj 3 (.int .i64 ((g + 1:Nat):Int))) }) left
   else none
  | _,_=>none
 | _,_=>none
structure Item where
 listed:Array Bool
 e:Env
 S:St
abbrev qU:=Gm × Env × St
def FL (e:Env):Stp→qU
 | .go e' S'=>(.normal,e',S')
 | .stop v S'=>(.panic v,e,S')
def xH (C:gK) (e:Env) (S:St):ResultVar→Option AV
 | .tmp t=>e.get t
 | .cell a t=>match e.get a with
  | some v=>nA C t S v
  | none=>none
def mQ (C:gK) (fn:Func) (e:Env) (S:St):Option AV :=
 match iW (xH C e S) fn.results.toList with
 | some [v]=>some v
 | some vs=>some (.tup vs)
 | none=>none
def ou:Nat→List AV→Env
 | _,[]=>[]
 | n,v :: l=>(n,v) :: ou (n + 1) l
def ay:St:={ H:=[],T:=[],nx:=0 }
end
end Go.Ev

namespace Go.Ev
noncomputable section
set_option linter.unusedVariables false
set_option linter.unusedSimpArgs false
mutual
theorem D.same_eq:∀ (x y:D),D.same x y=true→x=y
 | .bool a,y,h=>by cases y <;> simp_all [D.same]
 | .int k n,y,h=>by cases y <;> simp_all [D.same]
 | .flt k n,y,h=>by cases y <;> simp_all [D.same]
 | .str a,y,h=>by cases y <;> simp_all [D.same]
 | .nilp,y,h=>by cases y <;> simp_all [D.same]
 | .nilm,y,h=>by cases y <;> simp_all [D.same]
 | .nilf,y,h=>by cases y <;> simp_all [D.same]
 | .nili,y,h=>by cases y <;> simp_all [D.same]
 | .bJ,y,h=>by cases y <;> simp_all [D.same]
 | .sl xs t,y,h=>by
  cases y <;> simp only [D.same,Bool.and_eq_true,beq_iff_eq,Bool.false_eq_true] at h
  rw [h.1,D.jT _ _ h.2]
 | .agg xs,y,h=>by
  cases y <;> simp only [D.same,Bool.false_eq_true] at h
  rw [D.jT _ _ h]
 | .iface t x,y,h=>by
  cases y <;> simp only [D.same,Bool.and_eq_true,Bool.false_eq_true] at h
  rw [Nat.eq_of_beq_eq_true h.1,D.same_eq _ _ h.2]
theorem D.jT:∀ (xs ys:List D),D.kX xs ys=true→xs=ys
 | [],ys,h=>by cases ys <;> simp_all [D.kX]
 | x :: xs,ys,h=>by
  cases ys <;> simp only [D.kX,Bool.and_eq_true,Bool.false_eq_true] at h
  rw [D.same_eq _ _ h.1,D.jT _ _ h.2]
end
mutual
theorem AV.same_eq:∀ (x y:AV),AV.same x y=true→x=y
 | .d x,y,h=>by
  cases y <;> simp only [AV.same,Bool.false_eq_true] at h
  rw [D.same_eq _ _ h]
 | .tsl xs t,y,h=>by
  cases y <;> simp only [AV.same,Bool.and_eq_true,Bool.false_eq_true] at h
  rw [Nat.eq_of_beq_eq_true h.1,D.jT _ _ h.2]
 | .ptr x1 x2 x3,y,h=>by
  cases y <;> simp only [AV.same,Bool.and_eq_true,Bool.false_eq_true] at h
  rw [Nat.eq_of_beq_eq_true h.1.1,Nat.eq_of_beq_eq_true h.1.2,Nat.eq_of_beq_eq_true h.2]
 | .eptr x o,y,h=>by
  cases y <;> simp only [AV.same,Bool.and_eq_true,Bool.false_eq_true] at h
  rw [Nat.eq_of_beq_eq_true h.1,D.same_eq _ _ h.2]
 | .msl x1 x2 x3 x4 x5 x6,y,h=>by
  cases y <;> simp only [AV.same,Bool.and_eq_true,Bool.false_eq_true] at h
  obtain ⟨⟨⟨⟨⟨h1,h2⟩,h3⟩,h4⟩,h5⟩,h6⟩:=h
  rw [Nat.eq_of_beq_eq_true h1,Nat.eq_of_beq_eq_true h2,Nat.eq_of_beq_eq_true h3,Nat.eq_of_beq_eq_true h4,Nat.eq_of_beq_eq_true h5,Nat.eq_of_beq_eq_true h6]
 | .map x,y,h=>by
  cases y <;> simp only [AV.same,Bool.false_eq_true] at h
  rw [Nat.eq_of_beq_eq_true h]
 | .fn f xs,y,h=>by
  cases y <;> simp only [AV.same,Bool.and_eq_true,Bool.false_eq_true] at h
  rw [Nat.eq_of_beq_eq_true h.1,AV.jT _ _ h.2]
 | .agg xs,y,h=>by
  cases y <;> simp only [AV.same,Bool.false_eq_true] at h
  rw [AV.jT _ _ h]
 | .tup xs,y,h=>by
  cases y <;> simp only [AV.same,Bool.false_eq_true] at h
  rw [AV.jT _ _ h]
 | .asl x1 x2 x3 x4 x5,y,h=>by
  cases y <;> simp only [AV.same,Bool.false_eq_true,Bool.and_eq_true] at h
  obtain ⟨⟨⟨⟨h1,h2⟩,h3⟩,h4⟩,h5⟩:=h
  rw [Nat.eq_of_beq_eq_true h1,Nat.eq_of_beq_eq_true h2,Nat.eq_of_beq_eq_true h3,Nat.eq_of_beq_eq_true h4,Nat.eq_of_beq_eq_true h5]
 | .any,y,h=>by
  cases y <;> simp only [AV.same,Bool.false_eq_true] at h
  rfl
 | .it k g id s l t,y,h=>by
  cases y <;> simp only [AV.same,Bool.false_eq_true,Bool.and_eq_true] at h
  obtain ⟨⟨⟨⟨⟨h1,h2⟩,h3⟩,h4⟩,h5⟩,h6⟩:=h
  rw [Nat.eq_of_beq_eq_true h1,Nat.eq_of_beq_eq_true h2,eq_of_beq h3,Nat.eq_of_beq_eq_true h4,eq_of_beq h5,Nat.eq_of_beq_eq_true h6]
theorem AV.jT:∀ (xs ys:List AV),AV.kX xs ys=true→xs=ys
 | [],ys,h=>by cases ys <;> simp_all [AV.kX]
 | x :: xs,ys,h=>by
  cases ys <;> simp only [AV.kX,Bool.and_eq_true,Bool.false_eq_true] at h
  rw [AV.same_eq _ _ h.1,AV.jT _ _ h.2]
end
end
end Go.Ev

namespace Go.Ev
noncomputable section
set_option linter.unusedVariables false
structure Cx where
 bm:Nat→Nat
 fp:Nat→Nat→Prop
 tsz:Nat→Nat
 tot:Nat→Nat
 fr:Nat→Nat→Prop
def D.isAgg:D→Bool
 | .agg _=>true
 | _=>false
def sj:Value→Bool
 | .agg _=>true
 | _=>false
inductive gL (w:World) (fr:Nat→Nat→Prop):D→List Value→Prop
 | bool (b:Bool):gL w fr (.bool b) [.bool b]
 | int (k:IntKind) (n:Int):gL w fr (.int k n) [.int k n]
 | flt (k:FloatKind) (b:Nat):gL w fr (.flt k b) [.float k b]
 | str (s:ByteArray):gL w fr (.str s.data.toList) [.string s]
 | nilp:gL w fr .nilp [.pointer none]
 | nilm:gL w fr .nilm [.map none]
 | nilf:gL w fr .nilf [.nilFunc]
 | nili:gL w fr .nili [.nilIface]
 | bJ:gL w fr .bJ [.slice none 0 0]
 | sl0 (a:Option Addr) (cap:Nat) (tight:Bool) (h:tight=true→cap=0):gL w fr (.sl [] tight) [.slice a 0 cap]
 | sl (xs:List D) (tight:Bool) (b off cap sz:Nat) (vs:Nat→List Value) (hne:xs ≠ []) (hcap:xs.length ≤ cap) (ht:tight=true→cap=xs.length)
   (hsz:∀ (i:Nat) (x:D),xs[i]? = some x→x.cells.length=sz)
   (hlen:∀ (i:Nat),i < xs.length→(vs i).length=sz)
   (hx:∀ (i:Nat) (x:D),xs[i]? = some x→gL w fr x (vs i))
   (hc:∀ (i j:Nat) (v:Value),i < xs.length→(vs i)[j]? = some v→w.cell? ⟨b,off + i * sz + j,none⟩=some v∧¬ fr b (off + i * sz + j)) :
   gL w fr (.sl xs tight) [.slice (some ⟨b,off,none⟩) xs.length cap]
 | agg (xs:List D) (vs:List Value) (hl:vs.length=xs.length) (ho:∀ v ∈ vs,v.oneCell'=true)
   (hn:∀ x ∈ xs,x.isAgg=false)
   (h:∀ (i:Nat) (x:D) (v:Value),xs[i]? = some x→vs[i]? = some v→gL w fr x [v]):gL w fr (.agg xs) vs
 | iface (t:Nat) (x:D) (v:Value) (hs:x.isAgg=sj v) (h:gL w fr x v.cells.toList):gL w fr (.iface t x) [.iface t v]
def bA (w:World) (fr:Nat→Nat→Prop) (x:D) (v:Value):Prop:=gL w fr x v.cells.toList∧x.isAgg=sj v
def rW:D→Nat
 | .int _ n=>n.toNat
 | _=>0
def cur (S:St) (id:Nat):Option Nat :=
 match S.H.get id with
 | some (.cells g _)=>some g
 | some (.map _)=>some 0
 | some (.obj _ x)=>some (rW x)
 | none=>S.T.get id
def isIt (S:St) (k g:Nat):Prop:=S.H.get k=some (.obj 3 (.int .i64 (g:Int)))
def Names (S:St) (id g:Nat):Prop:=id < S.nx∧∀ g',cur S id=some g'→g ≤ g'
inductive aF (cx:Cx) (S:St) (w:World):AV→Value→Prop
 | d (x:D) (v:Value) (h:bA w cx.fr x v):aF cx S w (.d x) v
 | tsl (xs:List D) (tok:Nat) (b off cap:Nat) (hn:Names S tok xs.length)
   (h:bA w cx.fr (.sl xs false) (.slice (some ⟨b,off,none⟩) xs.length cap))
   (hp:cur S tok=some xs.length→b=cx.bm tok∧off=0∧cap=cx.tot tok∧∀ x ∈ xs,x.cells.length=cx.tsz tok) :
   aF cx S w (.tsl xs tok) (.slice (some ⟨b,off,none⟩) xs.length cap)
 | ptr (id g off b:Nat) (hn:Names S id g) (hp:cur S id=some g→b=cx.bm id):aF cx S w (.ptr id g off) (.pointer (some ⟨b,off,none⟩))
 | msl (id g off len lim sz b cap:Nat) (hn:Names S id g) (hl:len ≤ lim) (hcap:lim ≤ cap) (h63:cap ≤ 9223372036854775807) (hp:cur S id=some g→b=cx.bm id∧cx.tsz id ≤ off + cap * sz∧off + cap * sz ≤ cx.tot id) :
   aF cx S w (.msl id g off len lim sz) (.slice (some ⟨b,off,none⟩) len cap)
 | asl (id g off len sz b:Nat) (hn:Names S id g) (h63:len ≤ 9223372036854775807) (hp:cur S id=some g→b=cx.bm id):aF cx S w (.asl id g off len sz) (.slice (some ⟨b,off,none⟩) len len)
 | eptr (x:D) (off b o:Nat) (vs:List Value) (h:gL w cx.fr x vs)
   (hc:∀ (j:Nat) (v:Value),vs[j]? = some v→w.cell? ⟨b,o + j,none⟩=some v∧¬ cx.fr b (o + j)):aF cx S w (.eptr x off) (.pointer (some ⟨b,o + off,none⟩))
 | map (id b:Nat) (hn:Names S id 0) (hp:cur S id=some 0→b=cx.bm id):aF cx S w (.map id) (.map (some b))
 | fn (f:Nat) (cs:List AV) (vs:List Value) (hl:vs.length=cs.length)
   (h:∀ (i:Nat) (x:AV) (v:Value),cs[i]? = some x→vs[i]? = some v→aF cx S w x v):aF cx S w (.fn f cs) (.func (.func f) #[] vs.toArray)
 | agg (xs:List AV) (vs:List Value) (hl:vs.length=xs.length) (ho:∀ v ∈ vs,v.oneCell'=true)
   (h:∀ (i:Nat) (x:AV) (v:Value),xs[i]? = some x→vs[i]? = some v→aF cx S w x v):aF cx S w (.agg xs) (.agg vs.toArray)
 | tup (xs:List AV) (vs:List Value) (hl:vs.length=xs.length)
   (h:∀ (i:Nat) (x:AV) (v:Value),xs[i]? = some x→vs[i]? = some v→aF cx S w x v):aF cx S w (.tup xs) (.tuple vs.toArray)
 | any (v:Value):aF cx S w .any v
 | it0 (k g since st b:Nat) (seen:List Nat) (hn:Names S k g) (hp:isIt S k g→b=cx.bm k∧cx.fp k b∧(∀ i,cur S i ≠ none→cx.fp i b→i=k)∧w.heap[b]? = some (.mapIter none 0 #[] 0)) :
   aF cx S w (.it k g none since seen st) (.pointer (some ⟨b,0,none⟩))
 | it (k g id since st b m:Nat) (seen:List Nat) (hn:Names S k g) (hni:Names S id 0) (hm:cur S id=some 0→m=cx.bm id)
   (hp:isIt S k g→b=cx.bm k∧cx.fp k b∧(∀ i,cur S i ≠ none→cx.fp i b→i=k)∧w.heap[b]? = some (.mapIter (some m) since seen.toArray st)) :
   aF cx S w (.it k g (some id) since seen st) (.pointer (some ⟨b,0,none⟩))
def live (S:St) (id:Nat):Prop:=cur S id ≠ none
structure Ext (cx:Cx) (S:St) (w:World) (cx':Cx) (S':St) (w':World):Prop where
 size:w.heap.size ≤ w'.heap.size
 os:w'.os=w.os
 tape:w'.tape=w.tape
 output:w'.output=w.output
 nx:S.nx ≤ S'.nx
 prot:∀ (b o:Nat) (v:Value),¬ cx.fr b o→w.cell? ⟨b,o,none⟩=some v→w'.cell? ⟨b,o,none⟩=some v∧¬ cx'.fr b o
 other:∀ (b:Nat),b < w.heap.size→(∀ id,live S id→cx.fp id b→id < S.nx∧∃ g,isIt S id g∧isIt S' id g)→w'.heap[b]? = w.heap[b]?∧∀ o,(cx'.fr b o↔cx.fr b o)
 own:∀ (id b:Nat),live S' id→cx'.fp id b→(id < S.nx→live S id∧(cx.fp id b∨w.heap.size ≤ b))∧(S.nx ≤ id→w.heap.size ≤ b)
 back:∀ (id g:Nat),id < S.nx→isIt S' id g→∃ g',isIt S id g'
 keep:∀ (id g b:Nat),id < S.nx→isIt S id g→isIt S' id g→cx.fp id b→cx'.fp id b
 curs:∀ (id g:Nat),id < S.nx→cur S' id=some g→∃ g0,cur S id=some g0∧g0 ≤ g∧(g=g0→cx'.bm id=cx.bm id∧cx'.tsz id=cx.tsz id∧cx'.tot id=cx.tot id)
theorem gL.mono {w w':World} {fr fr':Nat→Nat→Prop} (hp:∀ (b o:Nat) (v:Value),¬ fr b o→w.cell? ⟨b,o,none⟩=some v→w'.cell? ⟨b,o,none⟩=some v∧¬ fr' b o)
  {x:D} {vs:List Value} (h:gL w fr x vs):gL w' fr' x vs:=by
 induction h with
 | bool b=>exact .bool b
 | int k n=>exact .int k n
 | flt k b=>exact .flt k b
 | str s=>exact .str s
 | nilp=>exact .nilp
 | nilm=>exact .nilm
 | nilf=>exact .nilf
 | nili=>exact .nili
 | bJ=>exact .bJ
 | sl0 a cap t h=>exact .sl0 a cap t h
 | sl xs t b off cap sz vs hne hcap ht hsz hlen hx hc ih =>
  exact .sl xs t b off cap sz vs hne hcap ht hsz hlen ih (fun i j v hi hv=>hp _ _ _ (hc i j v hi hv).2 (hc i j v hi hv).1)
 | agg xs vs hl ho hn h ih=>exact .agg xs vs hl ho hn ih
 | iface t x v hs h ih=>exact .iface t x v hs ih
theorem bA.mono {w w':World} {fr fr':Nat→Nat→Prop} (hp:∀ (b o:Nat) (v:Value),¬ fr b o→w.cell? ⟨b,o,none⟩=some v→w'.cell? ⟨b,o,none⟩=some v∧¬ fr' b o)
  {x:D} {v:Value} (h:bA w fr x v):bA w' fr' x v:=⟨h.1.mono hp,h.2⟩
theorem Names.mono {cx cx':Cx} {S S':St} {w w':World} (e:Ext cx S w cx' S' w') {id g:Nat} (h:Names S id g):Names S' id g :=
 ⟨Nat.lt_of_lt_of_le h.1 e.nx,fun g' hg=>by
  obtain ⟨g0,h0,hle,_⟩:=e.curs id g' h.1 hg
  exact Nat.le_trans (h.2 g0 h0) hle⟩
theorem Names.pos {cx cx':Cx} {S S':St} {w w':World} (e:Ext cx S w cx' S' w') {id g:Nat} (h:Names S id g) (hc:cur S' id=some g) :
  cur S id=some g∧cx'.bm id=cx.bm id∧cx'.tsz id=cx.tsz id∧cx'.tot id=cx.tot id:=by
 obtain ⟨g0,h0,hle,hq⟩:=e.curs id g h.1 hc
 have:g=g0:=Nat.le_antisymm (h.2 g0 h0) hle
 subst this
 exact ⟨h0,hq rfl⟩
theorem lV {S:St} {k g:Nat} (h:isIt S k g):cur S k=some g:=by
 unfold cur
 unfold isIt at h
 rw [h]
 simp [rW]
theorem mY {S:St} {k g g':Nat} (h:isIt S k g) (h':cur S k=some g'):g=g':=by
 rw [lV h] at h'; exact Option.some.inj h'
theorem BL {cx cx':Cx} {S S':St} {w w':World} (e:Ext cx S w cx' S' w') {k g b:Nat} {o:Obj} (hn:Names S k g) (hp:isIt S k g→b=cx.bm k∧cx.fp k b∧(∀ i,cur S i ≠ none→cx.fp i b→i=k)∧w.heap[b]? = some o)
  (hk:isIt S' k g):b=cx'.bm k∧cx'.fp k b∧(∀ i,cur S' i ≠ none→cx'.fp i b→i=k)∧w'.heap[b]? = some o:=by
 obtain ⟨g0,h0⟩:=e.back k g hn.1 hk
 obtain ⟨h1,h2,_,_⟩:=hn.pos e (lV hk)
 have hg:g0=g:=mY h0 h1
 subst hg
 obtain ⟨p1,p2,p3,p4⟩:=hp h0
 have hlt:b < w.heap.size:=by
  rcases Nat.lt_or_ge b w.heap.size with q | q
  ·
   exact q
  ·
   rw [Array.getElem?_eq_none q] at p4; cases p4
 refine ⟨by rw [h2]; exact p1,e.keep k g0 b hn.1 h0 hk p2,fun i hi hf=>?_,?_⟩
 ·
  obtain ⟨q1,q2⟩:=e.own i b hi hf
  by_cases hnx:i < S.nx
  ·
   obtain ⟨r1,r2⟩:=q1 hnx
   rcases r2 with r2 | r2
   ·
    exact p3 i r1 r2
   ·
    omega
  ·
   have:=q2 (by omega); omega
 ·
  rw [(e.other b hlt (fun i hl hf=>by
   have:=p3 i hl hf
   subst this
   exact ⟨hn.1,g0,h0,hk⟩)).1]
  exact p4
theorem Et {w:World} {b:Nat} {o:Obj} (h:w.heap[b]? = some o):b < w.heap.size:=by
 rcases Nat.lt_or_ge b w.heap.size with q | q
 ·
  exact q
 ·
  rw [Array.getElem?_eq_none q] at h; cases h
theorem aF.mono {cx cx':Cx} {S S':St} {w w':World} (e:Ext cx S w cx' S' w') {x:AV} {v:Value} (h:aF cx S w x v):aF cx' S' w' x v:=by
 induction h with
 | d x v h=>exact .d x v (h.mono e.prot)
 | tsl xs tok b off cap hn h hp =>
  refine .tsl xs tok b off cap (hn.mono e) (h.mono e.prot) (fun hc=>?_)
  obtain ⟨h0,h1,h2,h3⟩:=hn.pos e hc
  rw [h1,h2,h3]
  exact hp h0
 | ptr id g off b hn hp =>
  refine .ptr id g off b (hn.mono e) (fun hc=>?_)
  obtain ⟨h0,h1,_,_⟩:=hn.pos e hc
  rw [h1]; exact hp h0
 | msl id g off len lim sz b cap hn hl hcap h63 hp =>
  refine .msl id g off len lim sz b cap (hn.mono e) hl hcap h63 (fun hc=>?_)
  obtain ⟨h0,h1,h2,h3⟩:=hn.pos e hc
  rw [h1,h2,h3]; exact hp h0
 | eptr x off b o vs h hc=>exact .eptr x off b o vs (h.mono e.prot) (fun j v hv=>e.prot _ _ _ (hc j v hv).2 (hc j v hv).1)
 | asl id g off len sz b hn h63 hp =>
  refine .asl id g off len sz b (hn.mono e) h63 (fun hc=>?_)
  obtain ⟨h0,h1,_,_⟩:=hn.pos e hc
  rw [h1]; exact hp h0
 | map id b hn hp =>
  refine .map id b (hn.mono e) (fun hc=>?_)
  obtain ⟨h0,h1,_,_⟩:=hn.pos e hc
  rw [h1]; exact hp h0
 | fn f cs vs hl h ih=>exact .fn f cs vs hl ih
 | agg xs vs hl ho h ih=>exact .agg xs vs hl ho ih
 | tup xs vs hl h ih=>exact .tup xs vs hl ih
 | any v=>exact .any v
 | it0 k g since st b seen hn hp=>exact .it0 k g since st b seen (hn.mono e) (BL e hn hp)
 | it k g id since st b m seen hn hni hm hp =>
  refine .it k g id since st b m seen (hn.mono e) (hni.mono e) (fun hc=>?_) (BL e hn hp)
  obtain ⟨h0,h3,_,_⟩:=hni.pos e hc
  rw [h3]; exact hm h0
theorem Ext.refl {cx:Cx} {S:St} (w:World) (wf:∀ id,live S id→id < S.nx):Ext cx S w cx S w where
 size:=Nat.le_refl _
 os:=rfl
 tape:=rfl
 output:=rfl
 nx:=Nat.le_refl _
 prot:=fun _ _ _ h1 h2=>⟨h2,h1⟩
 other:=fun _ _ _=>⟨rfl,fun _=>Iff.rfl⟩
 own:=fun id b h hf=>⟨fun _=>⟨h,.inl hf⟩,fun hge=>absurd (wf id h) (by omega)⟩
 back:=fun id g _ h=>⟨g,h⟩
 keep:=fun _ _ _ _ _ _ h=>h
 curs:=fun id g _ h=>⟨g,h,Nat.le_refl _,fun _=>⟨rfl,rfl,rfl⟩⟩
theorem Ext.trans {cx0 cx1 cx2:Cx} {S0 S1 S2:St} {w0 w1 w2:World} (e1:Ext cx0 S0 w0 cx1 S1 w1) (e2:Ext cx1 S1 w1 cx2 S2 w2):Ext cx0 S0 w0 cx2 S2 w2 where
 size:=Nat.le_trans e1.size e2.size
 os:=e2.os.trans e1.os
 tape:=e2.tape.trans e1.tape
 output:=e2.output.trans e1.output
 nx:=Nat.le_trans e1.nx e2.nx
 prot:=fun b o v h1 h2=>by
  obtain ⟨a,c⟩:=e1.prot b o v h1 h2
  exact e2.prot b o v c a
 other:=fun b hb hn=>by
  have mid:∀ id g,id < S0.nx→isIt S0 id g→isIt S2 id g→isIt S1 id g:=fun id g h h0 h2=>by
   obtain ⟨g1,h1⟩:=e2.back id g (Nat.lt_of_lt_of_le h e1.nx) h2
   obtain ⟨g0',c0,l0,_⟩:=e1.curs id g1 h (lV h1)
   obtain ⟨g1',c1,l1,_⟩:=e2.curs id g (Nat.lt_of_lt_of_le h e1.nx) (lV h2)
   have q0:=mY h0 c0
   have q1:=mY h1 c1
   have:g1=g:=by omega
   subst this; exact h1
  obtain ⟨a1,a2⟩:=e1.other b hb (fun id hl hf=>by
   obtain ⟨hnx,g,h0,h2⟩:=hn id hl hf
   exact ⟨hnx,g,h0,mid id g hnx h0 h2⟩)
  have hn1:∀ id,live S1 id→cx1.fp id b→id < S1.nx∧∃ g,isIt S1 id g∧isIt S2 id g:=fun id hl hf=>by
   obtain ⟨p,q⟩:=e1.own id b hl hf
   by_cases h:id < S0.nx
   ·
    obtain ⟨p1,p2⟩:=p h
    rcases p2 with p2 | p2
    ·
     obtain ⟨_,g,h0,h2⟩:=hn id p1 p2
     exact ⟨Nat.lt_of_lt_of_le h e1.nx,g,mid id g h h0 h2,h2⟩
    ·
     omega
   ·
    have:=q (by omega); omega
  obtain ⟨b1,b2⟩:=e2.other b (Nat.lt_of_lt_of_le hb e1.size) hn1
  exact ⟨b1.trans a1,fun o=>(b2 o).trans (a2 o)⟩
 own:=fun id b hl hf=>by
  obtain ⟨p,q⟩:=e2.own id b hl hf
  have hs:=e1.size
  have hx:=e1.nx
  refine ⟨fun h=>?_,fun h=>?_⟩
  ·
   obtain ⟨p1,p2⟩:=p (by omega)
   rcases p2 with p2 | p2
   ·
    exact (e1.own id b p1 p2).1 h
   ·
    have hlive:live S0 id:=by
     intro hc
     cases hc1:cur S1 id with
     | none=>exact p1 hc1
     | some g =>
      obtain ⟨g0,h0,_⟩:=e1.curs id g h hc1
      rw [h0] at hc; cases hc
    exact ⟨hlive,.inr (by omega)⟩
  ·
   by_cases h2:id < S1.nx
   ·
    obtain ⟨p1,p2⟩:=p h2
    rcases p2 with p2 | p2
    ·
     exact (e1.own id b p1 p2).2 h
    ·
     omega
   ·
    have:=q (by omega); omega
 back:=fun id g hid h2=>by
  obtain ⟨g1,h1⟩:=e2.back id g (Nat.lt_of_lt_of_le hid e1.nx) h2
  exact e1.back id g1 hid h1
 keep:=fun id g b hnx h0 h2 hf=>by
  obtain ⟨g1,h1⟩:=e2.back id g (Nat.lt_of_lt_of_le hnx e1.nx) h2
  obtain ⟨g0',c0,l0,_⟩:=e1.curs id g1 hnx (lV h1)
  obtain ⟨g1',c1,l1,_⟩:=e2.curs id g (Nat.lt_of_lt_of_le hnx e1.nx) (lV h2)
  have q0:=mY h0 c0
  have q1:=mY h1 c1
  have:g1=g:=by omega
  subst this
  exact e2.keep id g1 b (Nat.lt_of_lt_of_le hnx e1.nx) h1 h2 (e1.keep id g1 b hnx h0 h1 hf)
 curs:=fun id g hid hg=>by
  obtain ⟨g1,h1,le1,q1⟩:=e2.curs id g (Nat.lt_of_lt_of_le hid e1.nx) hg
  obtain ⟨g0,h0,le0,q0⟩:=e1.curs id g1 hid h1
  refine ⟨g0,h0,Nat.le_trans le0 le1,fun he=>?_⟩
  have e1':g=g1:=by omega
  have e0':g1=g0:=by omega
  obtain ⟨a1,a2,a3⟩:=q1 e1'
  obtain ⟨b1,b2,b3⟩:=q0 e0'
  exact ⟨a1.trans b1,a2.trans b2,a3.trans b3⟩
structure bL where
 rel:Nat→D→World→Nat→(Nat→Prop)→Prop
 G:World→(Nat→Nat→Prop)→Prop
instance:CoeFun bL (fun _=>Nat→D→World→Nat→(Nat→Prop)→Prop):=⟨bL.rel⟩
structure ObjOk (R:bL):Prop where
 frame:∀ (k:Nat) (x:D) (w w':World) (b:Nat) (F:Nat→Prop),R k x w b F→(∀ c,F c→w'.heap[c]? = w.heap[c]?)→R k x w' b F
 lt:∀ (k:Nat) (x:D) (w:World) (b:Nat) (F:Nat→Prop),R k x w b F→(∀ c,F c→c < w.heap.size)∧F b
 stat:∀ (w w':World) (fr fr':Nat→Nat→Prop),R.G w fr→(∀ (b o:Nat) (v:Value),¬ fr b o→w.cell? ⟨b,o,none⟩=some v→w'.cell? ⟨b,o,none⟩=some v∧¬ fr' b o)→(∀ b,b < w.heap.size→(∀ o,¬ fr b o)→w'.heap[b]? = w.heap[b]?∧∀ o,¬ fr' b o)→R.G w' fr'
 it:∀ (x:D) (w:World) (b:Nat) (F:Nat→Prop),R.rel 3 x w b F↔(b < w.heap.size∧∀ c,F c↔c=b)
structure lZ (R:bL) (C:gK):Prop extends ObjOk R where
 new:∀ (t k:Nat) (x:D),C.objT t=some (k,x)→∃ z,(∀ w,(zeroValue t).run C.P w=.ok z w)∧(∀ w:World,R.rel k x (w.alloc (.cells z.cells t)) w.heap.size (fun c=>c=w.heap.size))∧rW x=0
structure Ap (cx:Cx) (S:St) (w:World) (id:Nat) (cs:List AV):Prop where
 fp:∀ b,cx.fp id b↔b=cx.bm id
 fr:∀ o,cx.fr (cx.bm id) o
 at_:∃ arr el,w.heap[cx.bm id]? = some (.cells arr el (0,0))∧(arr.size=cx.tot id∧cs.length=cx.tsz id∧cs.length ≤ arr.size) ∧
  ∀ (i:Nat) (x:AV),cs[i]? = some x→∃ v,arr[i]? = some v∧aF cx S w x v∧v.oneCell'=true
structure FU (cx:Cx) (S:St) (w:World) (id:Nat) (es:uk):Prop where
 fp:∀ b,cx.fp id b↔b=cx.bm id
 fr:∀ o,cx.fr (cx.bm id) o
 at_:∃ ms clk,w.heap[cx.bm id]? = some (.map ms clk)∧(ms.size=es.es.length∧clk=es.clk∧∀ (i:Nat) (p:D × AV × Nat) (m:MapEntry),es.es[i]? = some p→ms[i]? = some m→m.born=p.2.2) ∧
  ∀ (i:Nat) (p:D × AV × Nat) (m:MapEntry),es.es[i]? = some p→ms[i]? = some m→bA w cx.fr p.1 m.key∧aF cx S w p.2.1 m.val
structure C9 (cx:Cx) (w:World) (id en:Nat):Prop where
 fp:∀ b,cx.fp id b↔b=cx.bm id
 fr:∀ o,en * cx.tsz id ≤ o→cx.fr (cx.bm id) o
 at_:∃ arr el fz,w.heap[cx.bm id]? = some (.cells arr el fz)∧arr.size=cx.tot id * cx.tsz id∧en ≤ cx.tot id∧(fz.1=fz.2∨fz.2 ≤ en * cx.tsz id)
structure aS (R:bL) (cx:Cx) (S:St) (w:World):Prop where
 wf:∀ id,live S id→id < S.nx
 dis:∀ id b,S.H.get id=some b→S.T.get id=none
 cells:∀ id g cs,S.H.get id=some (.cells g cs)→Ap cx S w id cs
 maps:∀ id es,S.H.get id=some (.map es)→FU cx S w id es
 objs:∀ id k x,S.H.get id=some (.obj k x)→R k x w (cx.bm id) (cx.fp id)∧∀ b o,cx.fp id b→cx.fr b o
 toks:∀ id en,S.T.get id=some en→C9 cx w id en
 sep:∀ id id' b,live S id→live S id'→cx.fp id b→cx.fp id' b→id=id'
 lt:∀ b o,cx.fr b o→b < w.heap.size
 stat:R.G w cx.fr
theorem aS.still {R:bL} {cx cx':Cx} {S S':St} {w w':World} (h:aS R cx S w) (e:Ext cx S w cx' S' w') (b:Nat) (hb:b < w.heap.size) (hf:∀ o,¬ cx.fr b o):w'.heap[b]? = w.heap[b]?∧∀ o,¬ cx'.fr b o:=by
 obtain ⟨h1,h2⟩:=e.other b hb (fun id hl hq=>by
  exfalso
  cases hH:S.H.get id with
  | some x =>
   cases x with
   | cells g cs=>have k:=h.cells id g cs hH; exact hf 0 ((k.fp b).1 hq ▸ k.fr 0)
   | map es=>have k:=h.maps id es hH; exact hf 0 ((k.fp b).1 hq ▸ k.fr 0)
   | obj k x=>exact hf 0 ((h.objs id k x hH).2 b 0 hq)
  | none =>
   cases hT:S.T.get id with
   | none=>exact hl (by unfold cur; rw [hH]; exact hT)
   | some en=>have k:=h.toks id en hT; exact hf (en * cx.tsz id) ((k.fp b).1 hq ▸ k.fr _ (Nat.le_refl _)))
 exact ⟨h1,fun o q=>hf o ((h2 o).1 q)⟩
theorem aS.old {R:bL} (hR:ObjOk R) {cx:Cx} {S:St} {w w':World} (h:aS R cx S w) (hs:w.heap.size ≤ w'.heap.size) (hb:∀ b,b < w.heap.size→w'.heap[b]? = w.heap[b]?)
  (e:Ext cx S w cx S w'):aS R cx S w' where
 wf:=h.wf
 dis:=h.dis
 cells:=fun id g cs hg=>by
  obtain ⟨a,b,arr,el,h1,h2,h3⟩:=h.cells id g cs hg
  refine ⟨a,b,arr,el,?_,h2,fun i x hx=>?_⟩
  ·
   rw [hb _ (h.lt _ 0 (b 0))]; exact h1
  ·
   obtain ⟨v,v1,v2,v3⟩:=h3 i x hx
   exact ⟨v,v1,v2.mono e,v3⟩
 maps:=fun id es hg=>by
  obtain ⟨a,b,ms,clk,h1,h2,h3⟩:=h.maps id es hg
  refine ⟨a,b,ms,clk,?_,h2,fun i p m hp hm=>?_⟩
  ·
   rw [hb _ (h.lt _ 0 (b 0))]; exact h1
  ·
   obtain ⟨v1,v2⟩:=h3 i p m hp hm
   exact ⟨v1.mono e.prot,v2.mono e⟩
 objs:=fun id k x hg=>by
  obtain ⟨a,b⟩:=h.objs id k x hg
  exact ⟨hR.frame k x w w' _ _ a (fun c hc=>hb c ((hR.lt k x w _ _ a).1 c hc)),b⟩
 toks:=fun id en hg=>by
  obtain ⟨a,b,arr,el,fz,h1,h2,h3,h4⟩:=h.toks id en hg
  refine ⟨a,b,arr,el,fz,?_,h2,h3,h4⟩
  have hlt:cx.bm id < w.heap.size:=by
   rcases Nat.lt_or_ge (cx.bm id) w.heap.size with q | q
   ·
    exact q
   ·
    rw [Array.getElem?_eq_none q] at h1; cases h1
  rw [hb _ hlt]; exact h1
 sep:=h.sep
 lt:=fun b o hf=>Nat.lt_of_lt_of_le (h.lt b o hf) hs
 stat:=hR.stat _ _ _ _ h.stat e.prot (h.still e)
theorem Ext.old {R:bL} {cx:Cx} {S:St} {w w':World} (h:aS R cx S w) (hs:w.heap.size ≤ w'.heap.size) (hb:∀ b,b < w.heap.size→w'.heap[b]? = w.heap[b]?)
  (h1:w'.os=w.os) (h2:w'.tape=w.tape) (h3:w'.output=w.output):Ext cx S w cx S w' where
 size:=hs
 os:=h1
 tape:=h2
 output:=h3
 nx:=Nat.le_refl _
 prot:=fun b o v hf hc=>by
  refine ⟨?_,hf⟩
  have hlt:b < w.heap.size:=by
   rcases Nat.lt_or_ge b w.heap.size with q | q
   ·
    exact q
   ·
    simp [World.cell?,Array.getElem?_eq_none q] at hc
  simp only [World.cell?] at hc ⊢
  rw [hb b hlt]; exact hc
 other:=fun b hlt _=>⟨hb b hlt,fun _=>Iff.rfl⟩
 own:=fun id b hl hf=>⟨fun _=>⟨hl,.inl hf⟩,fun hge=>absurd (h.wf id hl) (by omega)⟩
 back:=fun id g _ h=>⟨g,h⟩
 keep:=fun _ _ _ _ _ _ h=>h
 curs:=fun id g _ hg=>⟨g,hg,Nat.le_refl _,fun _=>⟨rfl,rfl,rfl⟩⟩
theorem BJ {S:St} {id:Nat} {k:Option wD} (hg:S.H.get id=k) (hk:∀ x,k ≠ some (.obj 3 x)) {P:Prop} {Q:Nat→Prop} (h:P∧∃ g,isIt S id g∧Q g):False:=by
 obtain ⟨_,g,h,_⟩:=h
 unfold isIt at h
 rw [hg] at h
 exact hk _ h
theorem AL.gG {α:Type} (k:Nat) (v:α) (l:AL α) (n:Nat):AL.get ((k,v) :: l) n=if k=n then some v else AL.get l n:=by
 rw [AL.Eo]
 by_cases h:k=n
 ·
  subst h; simp
 ·
  rw [if_neg h]
  have:Nat.beq k n=false:=by
   cases hb:Nat.beq k n
   ·
    rfl
   ·
    exact absurd (Nat.eq_of_beq_eq_true hb) h
  rw [this]; rfl
theorem AL.nL {α:Type} (l:AL α) (k n:Nat):AL.get (AL.del l k) n=if k=n then none else AL.get l n:=by
 induction l with
 | nil=>simp [AL.del,AL.get]
 | cons p l ih =>
  obtain ⟨a,v⟩:=p
  rw [AL.Eu]
  by_cases h:a=k
  ·
   subst h
   simp only [Nat.beq_refl,cond_true]
   rw [ih,AL.gG]
   by_cases h2:a=n <;> simp [h2]
  ·
   have:Nat.beq a k=false:=by
    cases hb:Nat.beq a k
    ·
     rfl
    ·
     exact absurd (Nat.eq_of_beq_eq_true hb) h
   rw [this]
   simp only [cond_false,AL.gG,ih]
   by_cases h2:a=n
   ·
    subst h2; simp [Ne.symm h]
   ·
    simp [h2]
theorem AL.aR {α:Type} (l:AL α) (k:Nat) (v:α) (n:Nat):AL.get (AL.set l k v) n=if k=n then some v else AL.get l n:=by
 simp only [AL.set,AL.gG,AL.nL]
 by_cases h:k=n <;> simp [h]
end
end Go.Ev

namespace Go.Ev
noncomputable section
set_option linter.unusedVariables false
set_option linter.unusedSimpArgs false
def Cx.new (cx:Cx) (n B sz tt:Nat) (F:Nat→Prop):Cx where
 bm:=fun i=>if i=n then B else cx.bm i
 fp:=fun i b=>if i=n then b=B else cx.fp i b
 tsz:=fun i=>if i=n then sz else cx.tsz i
 tot:=fun i=>if i=n then tt else cx.tot i
 fr:=fun b o=>(b=B∧F o)∨cx.fr b o
theorem mq {w:World} {b o:Nat} {v:Value} (h:w.cell? ⟨b,o,none⟩=some v):b < w.heap.size:=by
 rcases Nat.lt_or_ge b w.heap.size with q | q
 ·
  exact q
 ·
  simp [World.cell?,Array.getElem?_eq_none q] at h
theorem heap_alloc_old (w:World) (o:Obj) {b:Nat} (h:b < w.heap.size):(w.alloc o).heap[b]? = w.heap[b]?:=by
 show (w.heap.push o)[b]? = _
 rw [Array.getElem?_push,if_neg (by omega)]
theorem heap_alloc_new (w:World) (o:Obj):(w.alloc o).heap[w.heap.size]? = some o:=by
 show (w.heap.push o)[w.heap.size]? = _
 rw [Array.getElem?_push,if_pos rfl]
theorem size_alloc (w:World) (o:Obj):(w.alloc o).heap.size=w.heap.size + 1:=by
 show (w.heap.push o).size=_
 simp
theorem lM {w w':World} {b o:Nat} {v:Value} (hb:w'.heap[b]? = w.heap[b]?) (h:w.cell? ⟨b,o,none⟩=some v):w'.cell? ⟨b,o,none⟩=some v:=by
 simp only [World.cell?] at h ⊢
 rw [hb]; exact h
theorem cell_of {w:World} {b o:Nat} {arr:Array Value} {el:Nat} {fz:Nat × Nat} (hb:w.heap[b]? = some (.cells arr el fz)):w.cell? ⟨b,o,none⟩=arr[o]?:=by
 simp [World.cell?,hb]
theorem Ext.fresh {R:bL} {cx:Cx} {S S':St} {w:World} (h:aS R cx S w) (o:Obj) (sz tt:Nat) (F:Nat→Prop) (hnx:S'.nx=S.nx + 1)
  (hc:∀ id,id ≠ S.nx→cur S' id=cur S id) (hH:∀ id,id ≠ S.nx→S'.H.get id=S.H.get id):Ext cx S w (cx.new S.nx w.heap.size sz tt F) S' (w.alloc o) where
 size:=by rw [size_alloc]; omega
 os:=rfl
 tape:=rfl
 output:=rfl
 nx:=by omega
 prot:=fun b o' v hf hcl=>by
  have hlt:=mq hcl
  refine ⟨lM (heap_alloc_old w o hlt) hcl,?_⟩
  simp only [Cx.new]
  rintro (⟨h1,_⟩ | h1)
  ·
   omega
  ·
   exact hf h1
 other:=fun b hlt _=>⟨heap_alloc_old w o hlt,fun o'=>by
  simp only [Cx.new]
  constructor
  ·
   rintro (⟨h1,_⟩ | h1)
   ·
    omega
   ·
    exact h1
  ·
   exact .inr⟩
 own:=fun id b hl hf=>by
  simp only [Cx.new] at hf
  by_cases hid:id=S.nx
  ·
   rw [if_pos hid] at hf
   exact ⟨fun hlt=>by omega,fun _=>by omega⟩
  ·
   rw [if_neg hid] at hf
   have hl':live S id:=by unfold live at *; rwa [hc id hid] at hl
   exact ⟨fun _=>⟨hl',.inl hf⟩,fun hge=>by have:=h.wf id hl'; omega⟩
 back:=fun id g hid hg=>⟨g,by unfold isIt at *; rwa [hH id (by omega)] at hg⟩
 keep:=fun id g b hid _ _ hf=>by simpa [Cx.new,show id ≠ S.nx by omega] using hf
 curs:=fun id g hid hg=>by
  rw [hc id (by omega)] at hg
  refine ⟨g,hg,Nat.le_refl _,fun _=>?_⟩
  simp [Cx.new,show id ≠ S.nx by omega]
theorem aS.tN {R:bL} (hR:ObjOk R) {cx:Cx} {S:St} {w:World} (h:aS R cx S w) {id b:Nat} (hl:live S id) (hf:cx.fp id b):b < w.heap.size:=by
 unfold live cur at hl
 cases hH:S.H.get id with
 | some blk =>
  cases blk with
  | cells g cs=>have:=h.cells id g cs hH; rw [this.fp] at hf; subst hf; exact h.lt _ 0 (this.fr 0)
  | map es=>have:=h.maps id es hH; rw [this.fp] at hf; subst hf; exact h.lt _ 0 (this.fr 0)
  | obj k x=>exact (hR.lt k x w _ _ (h.objs id k x hH).1).1 b hf
 | none =>
  cases hT:S.T.get id with
  | some en=>have:=h.toks id en hT; rw [this.fp] at hf; subst hf; exact h.lt _ _ (this.fr _ (Nat.le_refl _))
  | none=>simp [hH,hT] at hl
theorem aS.fresh {R:bL} (hR:ObjOk R) {cx:Cx} {S S':St} {w:World} (h:aS R cx S w) (o:Obj) (sz tt:Nat) (F:Nat→Prop) (hnx:S'.nx=S.nx + 1)
  (hH:∀ id,id ≠ S.nx→S'.H.get id=S.H.get id) (hT:∀ id,id ≠ S.nx→S'.T.get id=S.T.get id)
  (hd:∀ b,S'.H.get S.nx=some b→S'.T.get S.nx=none)
  (h1:∀ g cs,S'.H.get S.nx=some (.cells g cs)→Ap (cx.new S.nx w.heap.size sz tt F) S' (w.alloc o) S.nx cs)
  (h2:∀ es,S'.H.get S.nx=some (.map es)→FU (cx.new S.nx w.heap.size sz tt F) S' (w.alloc o) S.nx es)
  (h3:∀ k x,S'.H.get S.nx=some (.obj k x)→R.rel k x (w.alloc o) ((cx.new S.nx w.heap.size sz tt F).bm S.nx) ((cx.new S.nx w.heap.size sz tt F).fp S.nx)∧∀ b o',(cx.new S.nx w.heap.size sz tt F).fp S.nx b→(cx.new S.nx w.heap.size sz tt F).fr b o')
  (h4:∀ en,S'.T.get S.nx=some en→C9 (cx.new S.nx w.heap.size sz tt F) (w.alloc o) S.nx en):aS R (cx.new S.nx w.heap.size sz tt F) S' (w.alloc o):=by
 have hc:∀ id,id ≠ S.nx→cur S' id=cur S id:=fun id hid=>by unfold cur; rw [hH id hid,hT id hid]
 have e:=Ext.fresh h o sz tt F hnx hc hH
 have hl:∀ id,id ≠ S.nx→live S' id→live S id:=fun id hid hl=>by unfold live at *; rwa [hc id hid] at hl
 refine ⟨fun id hv=>?_,fun id b hb=>?_,fun id g cs hg=>?_,fun id es hg=>?_,fun id k x hg=>?_,fun id en hg=>?_,fun id id' b hv hv' hf hf'=>?_,fun b o' hf=>?_,hR.stat _ _ _ _ h.stat e.prot (h.still e)⟩
 ·
  by_cases hid:id=S.nx
  ·
   omega
  ·
   have:=h.wf id (hl id hid hv); omega
 ·
  by_cases hid:id=S.nx
  ·
   subst hid; exact hd b hb
  ·
   rw [hT id hid]; rw [hH id hid] at hb; exact h.dis id b hb
 ·
  by_cases hid:id=S.nx
  ·
   subst hid; exact h1 g cs hg
  ·
   rw [hH id hid] at hg
   obtain ⟨a,b,arr,el,q1,q2,q3⟩:=h.cells id g cs hg
   refine ⟨fun c=>by simp only [Cx.new,if_neg hid]; exact a c,fun o'=>by simp only [Cx.new,if_neg hid]; exact .inr (b o'),arr,el,?_,by simp only [Cx.new,if_neg hid]; exact q2,fun i x hx=>?_⟩
   ·
    simp only [Cx.new,if_neg hid]
    rw [heap_alloc_old w o (h.lt _ 0 (b 0))]; exact q1
   ·
    obtain ⟨v,v1,v2,v3⟩:=q3 i x hx
    exact ⟨v,v1,v2.mono e,v3⟩
 ·
  by_cases hid:id=S.nx
  ·
   subst hid; exact h2 es hg
  ·
   rw [hH id hid] at hg
   obtain ⟨a,b,ms,clk,q1,q2,q3⟩:=h.maps id es hg
   refine ⟨fun c=>by simp only [Cx.new,if_neg hid]; exact a c,fun o'=>by simp only [Cx.new,if_neg hid]; exact .inr (b o'),ms,clk,?_,q2,fun i p m hp hm=>?_⟩
   ·
    simp only [Cx.new,if_neg hid]
    rw [heap_alloc_old w o (h.lt _ 0 (b 0))]; exact q1
   ·
    obtain ⟨v1,v2⟩:=q3 i p m hp hm
    exact ⟨v1.mono e.prot,v2.mono e⟩
 ·
  by_cases hid:id=S.nx
  ·
   subst hid; exact h3 k x hg
  ·
   rw [hH id hid] at hg
   obtain ⟨a,b⟩:=h.objs id k x hg
   simp only [Cx.new,if_neg hid]
   exact ⟨hR.frame k x w _ _ _ a (fun c hc=>heap_alloc_old w o ((hR.lt k x w _ _ a).1 c hc)),fun c o' hf=>.inr (b c o' hf)⟩
 ·
  by_cases hid:id=S.nx
  ·
   subst hid; exact h4 en hg
  ·
   rw [hT id hid] at hg
   obtain ⟨a,b,arr,el,fz,q1,q2,q3,q4⟩:=h.toks id en hg
   have hlt:cx.bm id < w.heap.size:=h.lt _ _ (b _ (Nat.le_refl _))
   refine ⟨fun c=>by simp only [Cx.new,if_neg hid]; exact a c,fun o' ho=>by simp only [Cx.new,if_neg hid] at ho ⊢; exact .inr (b o' ho),arr,el,fz,?_,?_,?_,?_⟩
   ·
    simp only [Cx.new,if_neg hid]; rw [heap_alloc_old w o hlt]; exact q1
   ·
    simp only [Cx.new,if_neg hid]; exact q2
   ·
    simp only [Cx.new,if_neg hid]; exact q3
   ·
    simp only [Cx.new,if_neg hid]; exact q4
 ·
  simp only [Cx.new] at hf hf'
  by_cases hid:id=S.nx <;> by_cases hid':id'=S.nx
  ·
   omega
  ·
   rw [if_pos hid] at hf; rw [if_neg hid'] at hf'
   have:=h.tN hR (hl id' hid' hv') hf'; omega
  ·
   rw [if_neg hid] at hf; rw [if_pos hid'] at hf'
   have:=h.tN hR (hl id hid hv) hf; omega
  ·
   rw [if_neg hid] at hf; rw [if_neg hid'] at hf'
   exact h.sep id id' b (hl id hid hv) (hl id' hid' hv') hf hf'
 ·
  simp only [Cx.new] at hf
  rw [size_alloc]
  rcases hf with ⟨q,_⟩ | q
  ·
   omega
  ·
   have:=h.lt b o' q; omega
theorem kE {R:bL} {cx:Cx} {S:St} {w:World} (h:aS R cx S w):S.H.get S.nx=none∧S.T.get S.nx=none:=by
 have hn:¬ live S S.nx:=fun hl=>by have:=h.wf _ hl; omega
 unfold live cur at hn
 cases hH:S.H.get S.nx with
 | some b=>cases b <;> simp [hH] at hn
 | none=>simp [hH] at hn; exact ⟨rfl,hn⟩
theorem wZ {R:bL} (hR:ObjOk R) {cx:Cx} {S:St} {w:World} (h:aS R cx S w) (cs:List AV) (vs:List Value) (el:Nat) (hl:vs.length=cs.length)
  (hv:∀ (i:Nat) (x:AV) (v:Value),cs[i]? = some x→vs[i]? = some v→aF cx S w x v∧v.oneCell'=true) :
  ∃ cx',aS R cx' (ib S cs).2 (w.alloc (.cells vs.toArray el))∧Ext cx S w cx' (ib S cs).2 (w.alloc (.cells vs.toArray el)) ∧
   aF cx' (ib S cs).2 (w.alloc (.cells vs.toArray el)) (ib S cs).1 (.pointer (some ⟨w.heap.size,0,none⟩)):=by
 obtain ⟨nH,nT⟩:=kE h
 have hH:∀ id,id ≠ S.nx→(ib S cs).2.H.get id=S.H.get id:=fun id hid=>by simp [ib,bX,AL.aR,Ne.symm hid]
 have hT:∀ id,id ≠ S.nx→(ib S cs).2.T.get id=S.T.get id:=fun id hid=>rfl
 have hc:∀ id,id ≠ S.nx→cur (ib S cs).2 id=cur S id:=fun id hid=>by unfold cur; rw [hH id hid,hT id hid]
 have hnew:(ib S cs).2.H.get S.nx=some (.cells 0 cs):=by simp [ib,bX,AL.aR]
 have e:=Ext.fresh (S':=(ib S cs).2) h (.cells vs.toArray el) cs.length vs.length (fun _=>True) rfl hc hH
 refine ⟨cx.new S.nx w.heap.size cs.length vs.length (fun _=>True),aS.fresh hR h _ cs.length vs.length _ rfl hH hT (fun b _=>nT) (fun g cs' hg=>?_) (fun es hg=>?_) (fun k x hg=>?_) (fun en hg=>?_),e,?_⟩
 ·
  rw [hnew] at hg
  obtain ⟨rfl,rfl⟩:0=g∧cs=cs':=by simpa using hg
  refine ⟨fun c=>by simp [Cx.new],fun o=>by simp [Cx.new],vs.toArray,el,by simp only [Cx.new,if_true]; exact heap_alloc_new w _,by simp [hl,Cx.new],fun i x hx=>?_⟩
  have hi:i < vs.length:=by rw [hl]; exact (List.getElem?_eq_some_iff.1 hx).1
  obtain ⟨a,b⟩:=hv i x vs[i] hx (List.getElem?_eq_getElem hi)
  exact ⟨vs[i],by simp [hi],a.mono e,b⟩
 ·
  rw [hnew] at hg; cases hg
 ·
  rw [hnew] at hg; cases hg
 ·
  have:(ib S cs).2.T.get S.nx=none:=nT
  rw [this] at hg; cases hg
 ·
  exact .ptr S.nx 0 0 w.heap.size ⟨by simp [ib,bX],fun g' _=>Nat.zero_le _⟩ (fun _=>by simp [Cx.new])
theorem qI {R:bL} (hR:ObjOk R) {cx:Cx} {S:St} {w:World} (h:aS R cx S w) (k:Nat) (x:D) (ob:Obj) (hg0:rW x=0) (hr:R.rel k x (w.alloc ob) w.heap.size (fun c=>c=w.heap.size)) :
  ∃ cx',aS R cx' (bX S (.obj k x)) (w.alloc ob)∧Ext cx S w cx' (bX S (.obj k x)) (w.alloc ob) ∧
   aF cx' (bX S (.obj k x)) (w.alloc ob) (.ptr S.nx 0 0) (.pointer (some ⟨w.heap.size,0,none⟩)):=by
 obtain ⟨nH,nT⟩:=kE h
 have hH:∀ id,id ≠ S.nx→(bX S (.obj k x)).H.get id=S.H.get id:=fun id hid=>by simp [bX,AL.aR,Ne.symm hid]
 have hT:∀ id,id ≠ S.nx→(bX S (.obj k x)).T.get id=S.T.get id:=fun id hid=>rfl
 have hc:∀ id,id ≠ S.nx→cur (bX S (.obj k x)) id=cur S id:=fun id hid=>by unfold cur; rw [hH id hid,hT id hid]
 have hnew:(bX S (.obj k x)).H.get S.nx=some (.obj k x):=by simp [bX,AL.aR]
 have e:=Ext.fresh (S':=bX S (.obj k x)) h ob 0 0 (fun _=>True) rfl hc hH
 refine ⟨cx.new S.nx w.heap.size 0 0 (fun _=>True),aS.fresh hR h _ 0 0 _ rfl hH hT (fun b _=>nT) (fun g cs' hg=>?_) (fun es hg=>?_) (fun k' x' hg=>?_) (fun en hg=>?_),e,?_⟩
 ·
  rw [hnew] at hg; cases hg
 ·
  rw [hnew] at hg; cases hg
 ·
  rw [hnew] at hg; cases hg
  refine ⟨?_,fun b o hb=>?_⟩
  ·
   have hf:(cx.new S.nx w.heap.size 0 0 (fun _=>True)).fp S.nx=fun c=>c=w.heap.size:=by funext c; simp [Cx.new]
   have hb:(cx.new S.nx w.heap.size 0 0 (fun _=>True)).bm S.nx=w.heap.size:=by simp [Cx.new]
   rw [hf,hb]; exact hr
  ·
   simp [Cx.new] at hb ⊢; exact .inl hb
 ·
  have:(bX S (.obj k x)).T.get S.nx=none:=nT
  rw [this] at hg; cases hg
 ·
  exact .ptr S.nx 0 0 w.heap.size ⟨by simp [bX],fun g' _=>Nat.zero_le _⟩ (fun _=>by simp [Cx.new])
end
end Go.Ev

namespace Go.Ev
noncomputable section
set_option linter.unusedVariables false
set_option linter.unusedSimpArgs false
theorem iM {P:Program} {t:Nat} {d:TypeDesc} (h:P.underlying t=some d):∃ i,P.info? t=some i:=by
 unfold Program.underlying at h
 split at h
 ·
  rename_i n u q; exact ⟨_,by assumption⟩
 ·
  exact ⟨_,by assumption⟩
 ·
  cases h
theorem kN {P:Program} {t:Nat} {d:TypeDesc} (w:World) (h:P.underlying t=some d):(underlying t).run P w=.ok d w:=by
 simp [underlying,h]
theorem dG {P:Program} {t:Nat} {d:TypeDesc} (w:World) (h:P.underlying t=some d):(sizeOf t).run P w=.ok (aH P t) w:=by
 obtain ⟨i,hi⟩:=iM h
 simp [sizeOf,typeInfo,hi,aH]
theorem nR {P:Program} {t:Nat} {b:Bool} (w:World) (h:gW P t=some b):(isAgg t).run P w=.ok b w:=by
 unfold gW at h
 unfold isAgg
 split at h
 ·
  rename_i hu; simp [kN w hu]; simpa using h
 ·
  rename_i hu; simp [kN w hu]; simpa using h
 ·
  rename_i d h1 h2 hu
  simp only [Option.some.injEq] at h
  subst h
  rw [Sem.run_bind,kN w hu]
  simp only [Result.andThen_ok]
  cases d <;> first | rfl | (exact absurd rfl (h1 _)) | (exact absurd rfl (h2 _ _))
 ·
  cases h
theorem iX {P:Program} {t:Nat} {b:Bool} (h:gW P t=some b):∃ d,P.underlying t=some d:=by
 unfold gW at h
 split at h
 ·
  exact ⟨_,by assumption⟩
 ·
  exact ⟨_,by assumption⟩
 ·
  exact ⟨_,by assumption⟩
 ·
  cases h
theorem ui {P:Program} {t:Nat} (w:World) (h:gW P t=some true) (a:Addr) (vs:List Value) (hl:vs.length=aH P t)
  (hc:∀ j v,vs[j]? = some v→w.cell? (a.add j)=some v):(loadVar t a).run P w=.ok (.agg vs.toArray) w:=by
 obtain ⟨d,hd⟩:=iX h
 have:=run_loadCells_list (P:=P) w a vs hc
 simp only [loadVar,Sem.run_bind,nR w h,Result.andThen_ok,if_true,dG w hd,← hl,this,Sem.run_pure]
theorem uu {P:Program} {t:Nat} (w:World) (h:gW P t=some false) (a:Addr) (v:Value) (hc:w.cell? a=some v):(loadVar t a).run P w=.ok v w:=by
 simp [loadVar,nR w h,hc]
theorem iw (b o n:Nat):(⟨b,o,none⟩:Addr).add n=⟨b,o + n,none⟩:=by
 unfold Addr.add
 split
 ·
  rename_i h; simp [h]
 ·
  rfl
theorem ni {v:Value} (h:v.oneCell'=true):v.cells.toList=[v]:=by
 cases v <;> simp_all [Value.oneCell',Value.cells]
theorem uE {v:Value} (h:v.oneCell'=true):sj v=false:=by
 cases v <;> simp_all [Value.oneCell',sj]
theorem gL.one {w:World} {fr:Nat→Nat→Prop} {x:D} {v:Value} (h:gL w fr x [v]) (hx:x.isAgg=false):v.oneCell'=true:=by
 cases h <;> first | rfl | (simp [D.isAgg] at hx)
theorem bA.of_cell {w:World} {fr:Nat→Nat→Prop} {x:D} {v:Value} (h:gL w fr x [v]) (hx:x.isAgg=false):bA w fr x v:=by
 have:=h.one hx
 exact ⟨by rw [ni this]; exact h,by rw [uE this]; exact hx⟩
theorem BV {l:List AV} {xs:List D} (h:wH l=some xs):l=xs.map .d:=by
 induction l generalizing xs with
 | nil=>simp [wH] at h; subst h; rfl
 | cons x l ih =>
  cases x <;> simp [wH] at h
  obtain ⟨ys,hy,rfl⟩:=h
  simp [ih hy]
theorem aF.jI {cx:Cx} {S:St} {w:World} {l:List AV} {vs:List Value} (hl:vs.length=l.length) (ho:∀ v ∈ vs,v.oneCell'=true)
  (h:∀ (i:Nat) (x:AV) (v:Value),l[i]? = some x→vs[i]? = some v→aF cx S w x v):aF cx S w (jI l) (.agg vs.toArray):=by
 unfold Ev.jI
 split
 ·
  rename_i xs hx
  have hm:=BV hx
  subst hm
  have key:∀ (i:Nat) (x:D) (v:Value),xs[i]? = some x→vs[i]? = some v→bA w cx.fr x v:=by
   intro i x v hi hv
   have:=h i (.d x) v (by simp [hi]) hv
   cases this with
   | d _ _ h=>exact h
  refine .d _ _ ⟨.agg xs vs (by simpa using hl) ho (fun x hx=>?_) (fun i x v hi hv=>?_),rfl⟩
  ·
   obtain ⟨i,hi⟩:=List.mem_iff_getElem?.1 hx
   have hlt:i < vs.length:=by rw [hl]; simpa using (List.getElem?_eq_some_iff.1 hi).1
   have:=(key i x vs[i] hi (List.getElem?_eq_getElem hlt)).2
   rw [this]; exact uE (ho _ (List.getElem_mem hlt))
  ·
   have:=(key i x v hi hv).1
   rwa [ni (ho v (List.mem_of_getElem? hv))] at this
 ·
  exact .agg l vs hl ho h
theorem aF.cells {cx:Cx} {S:St} {w:World} {x:AV} {v:Value} (h:aF cx S w x v) (ht:∀ l,x ≠ .tup l) (hany:x ≠ .any) :
  v.cells.toList.length=x.cells.length∧(∀ u ∈ v.cells.toList,u.oneCell'=true) ∧
  ∀ (i:Nat) (y:AV) (u:Value),x.cells[i]? = some y→v.cells.toList[i]? = some u→aF cx S w y u:=by
 have one:∀ {y:AV} {u:Value},aF cx S w y u→u.oneCell'=true→y.cells=[y]→u.cells.toList.length=y.cells.length∧(∀ z ∈ u.cells.toList,z.oneCell'=true) ∧
   ∀ (i:Nat) (z:AV) (t:Value),y.cells[i]? = some z→u.cells.toList[i]? = some t→aF cx S w z t:=by
  intro y u hy ho hc
  rw [ni ho,hc]
  refine ⟨rfl,by simp [ho],fun i z t hz ht=>?_⟩
  cases i <;> simp_all
 have h0:=h
 cases h with
 | d x v h =>
  obtain ⟨h1,h2⟩:=h
  by_cases hx:x.isAgg=true
  ·
   cases x <;> simp [D.isAgg] at hx
   rename_i xs
   generalize hq:v.cells.toList=vs at h1
   cases h1 with
   | agg _ _ hl ho hn h =>
    simp only [AV.cells]
    refine ⟨by simp [hl],ho,fun i y u hy hu=>?_⟩
    simp only [List.getElem?_map,Option.map_eq_some_iff] at hy
    obtain ⟨z,hz,rfl⟩:=hy
    exact .d z u (bA.of_cell (h i z u hz hu) (hn z (List.mem_of_getElem? hz)))
  ·
   have hx':x.isAgg=false:=by simpa using hx
   have hva:sj v=false:=by rw [← h2]; exact hx'
   have hc:v.cells.toList=[v]:=by cases v <;> simp_all [sj,Value.cells]
   have hv:v.oneCell'=true:=gL.one (by rw [← hc]; exact h1) hx'
   refine one h0 hv ?_
   cases x <;> simp_all [AV.cells,D.isAgg]
 | tsl xs tok b off cap hn h hp=>exact one h0 rfl rfl
 | ptr id g off b hn hp=>exact one h0 rfl rfl
 | msl id g off len lim sz b cap hn hl hcap h63 hp=>exact one h0 rfl rfl
 | asl id g off len sz b hn h63 hp=>exact one h0 rfl rfl
 | eptr x off b o vs h hc=>exact one h0 rfl rfl
 | map id b hn hp=>exact one h0 rfl rfl
 | fn f cs vs hl h=>exact one h0 rfl rfl
 | agg xs vs hl ho h=>exact ⟨by simp [Value.cells,AV.cells,hl],by simpa [Value.cells] using ho,fun i y u hy hu=>h i y u (by simpa [AV.cells] using hy) (by simpa [Value.cells] using hu)⟩
 | tup xs vs hl h=>exact absurd rfl (ht xs)
 | any v=>exact absurd rfl hany
 | it0=>exact one h0 rfl rfl
 | it=>exact one h0 rfl rfl
theorem vE {P:Program} {cx:Cx} {S:St} {w:World} {t:Nat} {cs:List AV} {off:Nat} {r:AV} (h:part P t cs off=some r) (b base:Nat)
  (hc:∀ (i:Nat) (x:AV),cs[i]? = some x→∃ v,w.cell? ⟨b,base + i,none⟩=some v∧aF cx S w x v∧v.oneCell'=true) :
  ∃ u,(loadVar t ⟨b,base + off,none⟩).run P w=.ok u w∧aF cx S w r u:=by
 unfold part at h
 split at h
 ·
  rename_i ha
  split at h
  ·
   rename_i hle
   simp only [Option.some.injEq] at h
   subst h
   have hex:∀ j,j < aH P t→∃ v,w.cell? ⟨b,base + off + j,none⟩=some v∧(∀ x,cs[off + j]? = some x→aF cx S w x v)∧v.oneCell'=true:=by
    intro j hj
    have hlt:off + j < cs.length:=by omega
    obtain ⟨v,h1,h2,h3⟩:=hc (off + j) cs[off + j] (List.getElem?_eq_getElem hlt)
    refine ⟨v,by rw [Nat.add_assoc]; exact h1,fun x hx=>?_,h3⟩
    rw [List.getElem?_eq_getElem hlt] at hx
    cases hx; exact h2
   let f:Nat→Value:=fun j=>(w.cell? ⟨b,base + off + j,none⟩).getD undef
   have hf:∀ j,j < aH P t→w.cell? ⟨b,base + off + j,none⟩=some (f j):=fun j hj=>by
    obtain ⟨v,h1,_⟩:=hex j hj
    simp [f,h1]
   refine ⟨.agg ((List.range (aH P t)).map f).toArray,ui w ha _ _ (by simp) (fun j v hv=>?_),aF.jI (by simp; omega) (fun v hv=>?_) (fun i x v hx hv=>?_)⟩
   ·
    simp only [List.getElem?_map,Option.map_eq_some_iff] at hv
    obtain ⟨k,hk,rfl⟩:=hv
    have hjk:j < aH P t∧k=j:=by
     have:=List.getElem?_eq_some_iff.1 hk
     obtain ⟨q1,q2⟩:=this
     simp at q1 q2
     exact ⟨q1,q2.symm⟩
    rw [iw,hjk.2]
    exact hf j hjk.1
   ·
    simp only [List.mem_map,List.mem_range] at hv
    obtain ⟨j,hj,rfl⟩:=hv
    obtain ⟨v,h1,_,h3⟩:=hex j hj
    have:=hf j hj
    rw [h1] at this
    cases this; exact h3
   ·
    have hi:i < aH P t:=by
     have:=(List.getElem?_eq_some_iff.1 hv).1
     simpa using this
    have hv':v=f i:=by
     simp [List.getElem?_map,List.getElem?_range hi] at hv
     exact hv.symm
    subst hv'
    obtain ⟨v,h1,h2,h3⟩:=hex i hi
    have h4:=hf i hi
    rw [h1] at h4
    cases h4
    refine h2 x ?_
    simp only [List.getElem?_take,List.getElem?_drop] at hx
    rw [if_pos hi] at hx
    exact hx
  ·
   cases h
 ·
  rename_i ha
  obtain ⟨v,h1,h2,h3⟩:=hc off r h
  exact ⟨v,uu w ha _ v h1,h2⟩
 ·
  cases h
theorem uU {P:Program} {t:Nat} {cs:List D} {off:Nat} {r:D} (h:ik P t cs off=some r):part P t (cs.map .d) off=some (.d r):=by
 unfold ik at h
 unfold part
 split at h
 ·
  split at h
  ·
   rename_i ha hle
   simp only [Option.some.injEq] at h
   subst h
   rw [if_pos (by simpa using hle)]
   have:∀ l:List D,wH (l.map AV.d)=some l:=by
    intro l; induction l with
    | nil=>rfl
    | cons x l ih=>simp [wH,ih]
   simp only [jI,← List.map_drop,← List.map_take,this]
  ·
   cases h
 ·
  simp [h]
 ·
  cases h
theorem gL.cells {w:World} {fr:Nat→Nat→Prop} {x:D} {vs:List Value} (h:gL w fr x vs) :
  vs.length=x.cells.length∧(∀ v ∈ vs,v.oneCell'=true)∧∀ (i:Nat) (y:D) (v:Value),x.cells[i]? = some y→vs[i]? = some v→bA w fr y v:=by
 have one:∀ {x:D} {v:Value},gL w fr x [v]→x.isAgg=false→x.cells=[x]→[v].length=x.cells.length∧(∀ u ∈ [v],u.oneCell'=true) ∧
   ∀ (i:Nat) (y:D) (u:Value),x.cells[i]? = some y→[v][i]? = some u→bA w fr y u:=by
  intro x v h hx hc
  rw [hc]
  refine ⟨rfl,by simpa using h.one hx,fun i y u hy hu=>?_⟩
  cases i <;> simp_all
  exact bA.of_cell h hx
 have h0:=h
 cases h
 case agg xs hn hl ho h=>exact ⟨hl,ho,fun i y v hy hv=>bA.of_cell (h i y v hy hv) (hn y (List.mem_of_getElem? hy))⟩
 all_goals exact one h0 rfl rfl
theorem A7 {S:St} {id g:Nat} {cs:List AV} (h:S.look id g=some cs):S.H.get id=some (.cells g cs)∧cur S id=some g:=by
 unfold St.look at h
 split at h
 ·
  rename_i g' cs' hg
  cases hb:Nat.beq g' g with
  | true =>
   rw [hb] at h
   have:=Nat.eq_of_beq_eq_true hb
   subst this
   simp at h; subst h
   exact ⟨hg,by simp [cur,hg]⟩
  | false=>rw [hb] at h; cases h
 ·
  cases h
theorem nC {P:Program} {t b o:Nat} {w:World}:(Instr.loadAt t (.pointer (some ⟨b,o,none⟩))).run P w=(loadVar t ⟨b,o,none⟩).run P w:=by
 simp [Instr.loadAt,Instr.sureAddr]
theorem uI {R:bL} {C:gK} {cx:Cx} {S:St} {w:World} (h:aS R cx S w) {t:Nat} {x r:AV} {v:Value} (hl:nA C t S x=some r) (hx:aF cx S w x v) :
  ∃ u,(Instr.loadAt t v).run C.P w=.ok u w∧aF cx S w r u:=by
 unfold nA at hl
 cases x <;> simp only at hl <;> try (cases hl; done)
 case ptr id g off =>
  cases hk:S.look id g with
  | none=>rw [hk] at hl; cases hl
  | some cs =>
   rw [hk] at hl
   obtain ⟨h1,h2⟩:=A7 hk
   cases hx with
   | ptr _ _ _ b hn hp =>
    have hb:=hp h2
    subst hb
    obtain ⟨_,_,arr,el,a1,a2,a3⟩:=h.cells id g cs h1
    rw [nC]
    have:=vE (w:=w) (cx:=cx) (S:=S) hl (cx.bm id) 0 (fun i x hx=>by
     obtain ⟨u,u1,u2,u3⟩:=a3 i x hx
     exact ⟨u,by rw [cell_of a1,Nat.zero_add]; exact u1,u2,u3⟩)
    simpa using this
 case eptr y off =>
  cases hx with
  | eptr _ _ b o vs hc hm =>
   simp only [Option.map_eq_some_iff] at hl
   obtain ⟨z,hz,rfl⟩:=hl
   rw [nC]
   obtain ⟨c1,c2,c3⟩:=hc.cells
   refine vE (uU hz) b o (fun i x hx=>?_)
   simp only [List.getElem?_map,Option.map_eq_some_iff] at hx
   obtain ⟨q,hq,rfl⟩:=hx
   have hi:i < vs.length:=by rw [c1]; exact (List.getElem?_eq_some_iff.1 hq).1
   have hv:=List.getElem?_eq_getElem hi
   exact ⟨vs[i],(hm i _ hv).1,.d q _ (c3 i q _ hq hv),c2 _ (List.getElem_mem hi)⟩
end
end Go.Ev

namespace Go.Ev
noncomputable section
set_option linter.unusedVariables false
set_option linter.unusedSimpArgs false
theorem mf {R:bL} (hR:ObjOk R) {cx:Cx} {S:St} {w w':World} (h:aS R cx S w) {id g:Nat} {cs cs':List AV} (hg:S.H.get id=some (.cells g cs))
  (hs:w'.heap.size=w.heap.size) (ho:∀ b,b ≠ cx.bm id→w'.heap[b]? = w.heap[b]?) (h1:w'.os=w.os) (h2:w'.tape=w.tape) (h3:w'.output=w.output)
  {arr':Array Value} {el:Nat} (hb:w'.heap[cx.bm id]? = some (.cells arr' el (0,0))) (hl:cs'.length=cs.length) (hl2:arr'.size=cx.tot id)
  (hv:∀ (i:Nat) (x:AV),cs'[i]? = some x→∃ v,arr'[i]? = some v∧aF cx S w x v∧v.oneCell'=true) :
  aS R cx { S with H:=S.H.set id (.cells g cs') } w'∧Ext cx S w cx { S with H:=S.H.set id (.cells g cs') } w':=by
 obtain ⟨c1,c2,arr,el0,c3,c4,c5⟩:=h.cells id g cs hg
 have hlive:live S id:=by simp [live,cur,hg]
 have hcur:∀ i,cur { S with H:=S.H.set id (.cells g cs') } i=cur S i:=fun i=>by
  unfold cur
  simp only [AL.aR]
  by_cases hi:id=i
  ·
   subst hi; simp [hg]
  ·
   simp [hi]
 have e:Ext cx S w cx { S with H:=S.H.set id (.cells g cs') } w':=by
  refine ⟨by omega,h1,h2,h3,Nat.le_refl _,fun b o v hf hc=>?_,fun b hlt hn=>?_,fun i b hl hf=>?_,fun i gi _ hi=>⟨gi,by
   unfold isIt at *
   simp only [AL.aR] at hi
   split at hi
   ·
    cases hi
   ·
    exact hi⟩,fun _ _ _ _ _ _ hf=>hf,fun i g' hi hg'=>?_⟩
  ·
   have hne:b ≠ cx.bm id:=fun q=>hf (by rw [q]; exact c2 o)
   exact ⟨lM (ho b hne) hc,hf⟩
  ·
   have hne:b ≠ cx.bm id:=fun q=>BJ hg (by simp) (hn id hlive ((c1 b).2 q))
   exact ⟨ho b hne,fun _=>Iff.rfl⟩
  ·
   have hl':live S i:=by unfold live at *; rwa [hcur i] at hl
   exact ⟨fun _=>⟨hl',.inl hf⟩,fun hge=>absurd (h.wf i hl') (by show ¬ i < S.nx; omega)⟩
  ·
   rw [hcur i] at hg'
   exact ⟨g',hg',Nat.le_refl _,fun _=>⟨rfl,rfl,rfl⟩⟩
 have hl':∀ i,live { S with H:=S.H.set id (.cells g cs') } i→live S i:=fun i hl=>by unfold live at *; rwa [hcur i] at hl
 have hne:∀ i,live S i→i ≠ id→∀ b,cx.fp i b→b ≠ cx.bm id:=fun i hi hne b hf hq=>hne (h.sep i id b hi hlive hf ((c1 b).2 hq))
 refine ⟨⟨fun i hi=>h.wf i (hl' i hi),fun i b hi=>?_,fun i g' cs1 hi=>?_,fun i es hi=>?_,fun i k x hi=>?_,fun i en hi=>?_,fun i i' b a1 a2 f1 f2=>h.sep i i' b (hl' i a1) (hl' i' a2) f1 f2,fun b o hf=>by rw [hs]; exact h.lt b o hf,hR.stat _ _ _ _ h.stat e.prot (h.still e)⟩,e⟩
 ·
  simp only [AL.aR] at hi
  by_cases q:id=i
  ·
   subst q; exact h.dis id _ hg
  ·
   rw [if_neg q] at hi; exact h.dis i b hi
 ·
  simp only [AL.aR] at hi
  by_cases q:id=i
  ·
   subst q
   simp only [if_true,Option.some.injEq,wD.cells.injEq] at hi
   obtain ⟨_,rfl⟩:=hi
   exact ⟨c1,c2,arr',el,hb,⟨hl2,by rw [hl]; exact c4.2.1,by rw [hl,hl2,← c4.1]; exact c4.2.2⟩,fun i x hx=>by
    obtain ⟨v,v1,v2,v3⟩:=hv i x hx
    exact ⟨v,v1,v2.mono e,v3⟩⟩
  ·
   rw [if_neg q] at hi
   obtain ⟨d1,d2,arr2,el2,d3,d4,d5⟩:=h.cells i g' cs1 hi
   refine ⟨d1,d2,arr2,el2,?_,d4,fun j x hx=>by
    obtain ⟨v,v1,v2,v3⟩:=d5 j x hx
    exact ⟨v,v1,v2.mono e,v3⟩⟩
   rw [ho _ (hne i (by simp [live,cur,hi]) (Ne.symm q) _ ((d1 _).2 rfl))]; exact d3
 ·
  simp only [AL.aR] at hi
  by_cases q:id=i
  ·
   subst q; simp at hi
  ·
   rw [if_neg q] at hi
   obtain ⟨d1,d2,ms,clk,d3,d4,d5⟩:=h.maps i es hi
   refine ⟨d1,d2,ms,clk,?_,d4,fun j p m hp hm=>by
    obtain ⟨v1,v2⟩:=d5 j p m hp hm
    exact ⟨v1.mono e.prot,v2.mono e⟩⟩
   rw [ho _ (hne i (by simp [live,cur,hi]) (Ne.symm q) _ ((d1 _).2 rfl))]; exact d3
 ·
  simp only [AL.aR] at hi
  by_cases q:id=i
  ·
   subst q; simp at hi
  ·
   rw [if_neg q] at hi
   obtain ⟨d1,d2⟩:=h.objs i k x hi
   exact ⟨hR.frame k x w w' _ _ d1 (fun c hc=>ho c (hne i (by simp [live,cur,hi]) (Ne.symm q) c hc)),d2⟩
 ·
  obtain ⟨d1,d2,arr2,el2,fz,d3,d4,d5,d6⟩:=h.toks i en hi
  have q:i ≠ id:=fun q=>by subst q; have:=h.dis i _ hg; rw [this] at hi; cases hi
  have hli:live S i:=by
   unfold live cur
   cases hH:S.H.get i with
   | some b=>have:=h.dis i b hH; rw [this] at hi; cases hi
   | none=>simp [hi]
  refine ⟨d1,d2,arr2,el2,fz,?_,d4,d5,d6⟩
  rw [ho _ (hne i hli q _ ((d1 _).2 rfl))]; exact d3
theorem dU {α:Type} (l:List α):∀ (vs:List α) (off:Nat),(setAt l off vs).length=l.length:=by
 intro vs
 induction vs generalizing l with
 | nil=>intro off; rfl
 | cons v vs ih=>intro off; simp [setAt,ih]
theorem fe {α:Type}:∀ (vs:List α) (l:List α) (off i:Nat),off + vs.length ≤ l.length →
  (setAt l off vs)[i]? = if off ≤ i∧i < off + vs.length then vs[i - off]? else l[i]?:=by
 intro vs
 induction vs with
 | nil=>intro l off i h; simp [setAt]; intro h1 h2; omega
 | cons v vs ih =>
  intro l off i h
  simp only [List.length_cons] at h
  rw [setAt,ih (l.set off v) (off + 1) i (by simp; omega)]
  by_cases h1:i=off
  ·
   subst h1
   rw [if_neg (by omega),if_pos (by simp),List.getElem?_set_self (by omega)]
   simp
  ·
   by_cases h2:off + 1 ≤ i∧i < off + 1 + vs.length
   ·
    rw [if_pos h2,if_pos (by simp; omega)]
    rw [show i - off=(i - (off + 1)) + 1 by omega]
    simp
   ·
    rw [if_neg h2,if_neg (by simp; omega),List.getElem?_set_ne (Ne.symm h1)]
theorem gZ {P:Program}:∀ (vs:List Value) (w:World) (b o i:Nat) (arr:Array Value) (el:Nat) (fz:Nat × Nat),w.heap[b]? = some (.cells arr el fz) →
  (∀ v ∈ vs,v.oneCell'=true)→o + i + vs.length ≤ arr.size→(fz.1=fz.2∨fz.2 ≤ o + i) →
  ∃ w',(storeCells ⟨b,o,none⟩ vs i).run P w=.ok () w'∧w'.heap.size=w.heap.size∧(∀ c,c ≠ b→w'.heap[c]? = w.heap[c]?)∧w'.os=w.os∧w'.tape=w.tape∧w'.output=w.output∧w'.drawn=w.drawn ∧
   w'.heap[b]? = some (.cells (setAt arr.toList (o + i) vs).toArray el fz)
 | [],w,b,o,i,arr,el,fz,hb,_,_,_=>⟨w,rfl,rfl,fun _ _=>rfl,rfl,rfl,rfl,rfl,by simpa [setAt] using hb⟩
 | v :: vs,w,b,o,i,arr,el,fz,hb,ho,hle,hfz=>by
  simp only [List.length_cons] at hle
  have hv:v.oneCell'=true:=ho v (by simp)
  have hcell:w.cell? ⟨b,o + i,none⟩=some arr[o + i]:=by rw [cell_of hb]; simp [show o + i < arr.size by omega]
  have hfrz:w.frozen? ⟨b,o + i,none⟩=false:=by
   simp only [World.frozen?,hb]
   rcases hfz with q | q
   ·
    simp; intro h1; omega
   ·
    simp; intro h1; omega
  have hset:(w.setCell ⟨b,o + i,none⟩ v).heap[b]? = some (.cells (arr.setIfInBounds (o + i) v) el fz):=by
   simp only [World.setCell,Array.getElem?_modify,if_true,hb,Option.map_some]
   simp
  obtain ⟨w',r1,r2,r3,r4,r5,r6,r7,r8⟩:=gZ (P:=P) vs (w.setCell ⟨b,o + i,none⟩ v) b o (i + 1) (arr.setIfInBounds (o + i) v) el fz hset (fun u hu=>ho u (by simp [hu])) (by simp; omega) (by rcases hfz with q | q <;> first | exact .inl q | (right; omega))
  refine ⟨w',?_,?_,fun c hc=>?_,by rw [r4]; rfl,by rw [r5]; rfl,by rw [r6]; rfl,by rw [r7]; rfl,?_⟩
  ·
   rw [storeCells,Sem.run_bind,iw,run_store P w _ v _ hv,hcell]
   simp only [hfrz,Bool.false_eq_true,if_false,Result.andThen_ok]
   exact r1
  ·
   rw [r2]; simp [World.setCell]
  ·
   rw [r3 c hc]
   simp only [World.setCell,Array.getElem?_modify]
   rw [if_neg (by simpa using Ne.symm hc)]
  ·
   rw [r8]
   congr 2
   rw [setAt]
   simp [Nat.add_assoc]
theorem y9 {R:bL} (hR:ObjOk R) {C:gK} {cx:Cx} {S S':St} {w:World} (h:aS R cx S w) {t:Nat} {x y:AV} {v u:Value}
  (hl:uD C t S x y=some S') (hx:aF cx S w x v) (hy:aF cx S w y u) :
  ∃ w',(Instr.storeAt t v u).run C.P w=.ok () w'∧aS R cx S' w'∧Ext cx S w cx S' w':=by
 unfold uD at hl
 cases x <;> simp only at hl <;> try (cases hl; done)
 case ptr id g off =>
  split at hl
  ·
   rename_i hsz
   obtain ⟨hsz,hpl,hag⟩:=hsz
   have hnt:(∀ l,y ≠ .tup l)∧y ≠ .any:=⟨fun l q=>(by subst q; simp [AV.plain] at hpl),fun q=>by subst q; simp [AV.plain] at hpl⟩
   obtain ⟨ag,hag⟩:=Option.isSome_iff_exists.1 hag
   cases hk:S.H.get id with
   | none=>rw [hk] at hl; cases hl
   | some blk =>
    rw [hk] at hl
    cases blk <;> simp only at hl <;> try (cases hl; done)
    rename_i g' cs
    split at hl
    ·
     rename_i hg
     subst hg
     split at hl
     ·
      rename_i hle
      simp only [Option.some.injEq] at hl
      subst hl
      cases hx with
      | ptr _ _ _ b hn hp =>
       have hb:=hp (by simp [cur,hk])
       subst hb
       obtain ⟨c1,c2,arr,el,c3,c4,c5⟩:=h.cells id g' cs hk
       obtain ⟨k1,k2,k3⟩:=hy.cells hnt.1 hnt.2
       obtain ⟨w',r1,r2,r3,r4,r5,r6,r7,r8⟩:=gZ (P:=C.P) u.cells.toList w (cx.bm id) off 0 arr el (0,0) c3 k2 (by have:=c4.2.2; omega) (.inl rfl)
       obtain ⟨d,hd⟩:=iX hag
       have hw:=mf hR (w':=w') (cs':=setAt cs off y.cells) (arr':=(setAt arr.toList (off + 0) u.cells.toList).toArray) (el:=el) h hk r2 r3 r4 r5 r6 r8 (by simp [dU]) (by simp [dU]; exact c4.1) (fun i x hx=>by
        rw [fe _ _ _ _ (by omega)] at hx
        simp only [List.getElem?_toArray,Nat.add_zero]
        rw [fe _ _ _ _ (by have:=c4.2.2; simp; simp at k1; omega)]
        by_cases hi:off ≤ i∧i < off + y.cells.length
        ·
         rw [if_pos hi] at hx
         rw [if_pos (by rw [k1]; exact hi)]
         have hlt:i - off < u.cells.toList.length:=by rw [k1]; omega
         have hu:=List.getElem?_eq_getElem hlt
         exact ⟨_,hu,k3 (i - off) x _ hx hu,k2 _ (List.getElem_mem hlt)⟩
        ·
         rw [if_neg hi] at hx
         rw [if_neg (by rw [k1]; exact hi)]
         obtain ⟨z,z1,z2,z3⟩:=c5 i x hx
         exact ⟨z,by simpa using z1,z2,z3⟩)
       refine ⟨w',?_,hw.1,hw.2⟩
       have hsz':u.cells.size=aH C.P t:=by rw [← hsz,← k1]; simp
       simp only [Instr.storeAt,Instr.sureAddr,Sem.run_bind,Sem.run_pure,Result.andThen_ok,storeVar,dG w hd,hsz',ne_eq,not_true_eq_false,if_false]
       exact r1
     ·
      cases hl
    ·
     cases hl
  ·
   cases hl
end
end Go.Ev

namespace Go.Ev
noncomputable section
set_option linter.unusedVariables false
set_option linter.unusedSimpArgs false
theorem bA.val {w:World} {fr:Nat→Nat→Prop} {x:D} {v:Value} (h:bA w fr x v) (hx:x.isAgg=false):gL w fr x [v]:=by
 obtain ⟨h1,h2⟩:=h
 have hva:sj v=false:=by rw [← h2]; exact hx
 have hc:v.cells.toList=[v]:=by cases v <;> simp_all [sj,Value.cells]
 rw [hc] at h1; exact h1
theorem aF.dd {cx:Cx} {S:St} {w:World} {x:D} {v:Value} (h:aF cx S w (.d x) v):bA w cx.fr x v:=by cases h; assumption
theorem aF.int {cx:Cx} {S:St} {w:World} {k:IntKind} {n:Int} {v:Value} (h:aF cx S w (.d (.int k n)) v):v=.int k n:=by
 have:=h.dd.val rfl; cases this; rfl
theorem aF.bool {cx:Cx} {S:St} {w:World} {b:Bool} {v:Value} (h:aF cx S w (.d (.bool b)) v):v=.bool b:=by
 have:=h.dd.val rfl; cases this; rfl
theorem aF.str {cx:Cx} {S:St} {w:World} {s:List UInt8} {v:Value} (h:aF cx S w (.d (.str s)) v):∃ b:ByteArray,v=.string b∧b.data.toList=s:=by
 have:=h.dd.val rfl; cases this; exact ⟨_,rfl,rfl⟩
theorem aF.of_int {cx:Cx} {S:St} {w:World} (k:IntKind) (n:Int):aF cx S w (.d (.int k n)) (.int k n):=.d _ _ (bA.of_cell (.int k n) rfl)
theorem aF.of_bool {cx:Cx} {S:St} {w:World} (b:Bool):aF cx S w (.d (.bool b)) (.bool b):=.d _ _ (bA.of_cell (.bool b) rfl)
theorem aF.EZ {cx:Cx} {S:St} {w:World} (b:ByteArray):aF cx S w (.d (.str b.data.toList)) (.string b):=.d _ _ (bA.of_cell (.str b) rfl)
theorem aF.uy {cx:Cx} {S:St} {w:World} (b:ByteArray) (s:List UInt8) (h:b.data.toList=s):aF cx S w (.d (.str s)) (.string b):=by subst h; exact .EZ b
theorem yn {P:Program} {cx:Cx} {S:St} {w:World} {op:BinOp} {k:IntKind} {a b:Int} {r:D} (h:j3 op k a b=some r) (t:Nat) (hs:op ≠ .shl∧op ≠ .shr) :
  ∃ u,(binOp op t (.int k a) (.int k b)).run P w=.ok u w∧aF cx S w (.d r) u:=by
 cases op <;> simp only [j3,Option.some.injEq,reduceCtorEq] at h
 case quo =>
  split at h
  ·
   cases h
  ·
   rename_i hb
   simp only [Option.some.injEq] at h; subst h
   exact ⟨_,by simp [binOp,Op.intDiv,hb],.of_int _ _⟩
 case rem =>
  split at h
  ·
   cases h
  ·
   rename_i hb
   simp only [Option.some.injEq] at h; subst h
   exact ⟨_,by simp [binOp,Op.intDiv,hb],.of_int _ _⟩
 all_goals subst h
 case add=>exact ⟨_,by simp [binOp,Op.intArith],.of_int _ _⟩
 case sub=>exact ⟨_,by simp [binOp,Op.intArith],.of_int _ _⟩
 case mul=>exact ⟨_,by simp [binOp,Op.intArith],.of_int _ _⟩
 case and=>exact ⟨_,by simp [binOp,Op.intBits],.of_int _ _⟩
 case or=>exact ⟨_,by simp [binOp,Op.intBits],.of_int _ _⟩
 case xor=>exact ⟨_,by simp [binOp,Op.intBits],.of_int _ _⟩
 case andNot=>exact ⟨_,by simp [binOp,Op.intBits],.of_int _ _⟩
 case eql=>exact ⟨_,by simp [binOp,Op.intCmp],.of_bool _⟩
 case neq=>exact ⟨_,by simp [binOp,Op.intCmp],.of_bool _⟩
 case lss=>exact ⟨_,by simp [binOp,Op.intCmp],.of_bool _⟩
 case leq=>exact ⟨_,by simp [binOp,Op.intCmp],.of_bool _⟩
 case gtr=>exact ⟨_,by simp [binOp,Op.intCmp],.of_bool _⟩
 case geq=>exact ⟨_,by simp [binOp,Op.intCmp],.of_bool _⟩
theorem toList_data (s:ByteArray):s.toList=s.data.toList:=by
 have loop:∀ (n i:Nat) (r:List UInt8),s.size - i=n→ByteArray.toList.loop s i r=r.reverse ++ s.data.toList.drop i:=by
  intro n
  induction n with
  | zero =>
   intro i r h
   unfold ByteArray.toList.loop
   rw [if_neg (by omega)]
   have:s.data.toList.length ≤ i:=by
    have:s.data.toList.length=s.size:=Array.length_toList
    omega
   simp [List.drop_eq_nil_of_le this]
  | succ n ih =>
   intro i r h
   unfold ByteArray.toList.loop
   rw [if_pos (by omega),ih (i + 1) _ (by omega)]
   have hlt:i < s.data.toList.length:=by
    have:s.data.toList.length=s.size:=Array.length_toList
    omega
   rw [List.drop_eq_getElem_cons hlt]
   have hi:i < s.data.size:=by simpa using hlt
   have:s.get! i=s.data.toList[i]:=by
    simp only [ByteArray.get!,getElem!_pos s.data i hi,Array.getElem_toList]
   simp [this]
 unfold ByteArray.toList
 rw [loop s.size 0 [] (by omega)]
 simp
theorem rC (a b:List UInt8):strLt a b=Op.bytesLess a b:=by
 induction a generalizing b with
 | nil=>cases b <;> simp [strLt,Op.bytesLess]
 | cons x a ih=>cases b <;> simp [strLt,Op.bytesLess,ih]
theorem yh {P:Program} {cx:Cx} {S:St} {w:World} {op:BinOp} {a b:ByteArray} {r:D} (h:sH op a.data.toList b.data.toList=some r) (t:Nat) :
  ∃ u,(binOp op t (.string a) (.string b)).run P w=.ok u w∧aF cx S w (.d r) u:=by
 cases op <;> simp only [sH,Option.some.injEq,reduceCtorEq] at h
 case add =>
  split at h
  ·
   rename_i hle
   simp only [Option.some.injEq] at h; subst h
   have h1:a.data.toList.length=a.size:=Array.length_toList
   have h2:b.data.toList.length=b.size:=Array.length_toList
   refine ⟨.string (a ++ b),?_,.uy _ _ (by simp)⟩
   have:¬ ((a.size:Int) + b.size > IntKind.i64.max):=by
    have:IntKind.i64.max=9223372036854775807:=by decide
    rw [this]; omega
   simp only [binOp,Op.stringOp]
   rw [if_neg (by simpa using this)]; rfl
  ·
   cases h
 all_goals subst h
 case eql=>exact ⟨_,by simp only [binOp,Op.stringOp,toList_data,Sem.run_pure],.of_bool _⟩
 case neq=>exact ⟨_,by simp only [binOp,Op.stringOp,toList_data,Sem.run_pure],.of_bool _⟩
 case lss=>exact ⟨_,by simp only [binOp,Op.stringOp,toList_data,← rC,Sem.run_pure],.of_bool _⟩
 case leq=>exact ⟨_,by simp only [binOp,Op.stringOp,toList_data,← rC,Sem.run_pure],.of_bool _⟩
 case gtr=>exact ⟨_,by simp only [binOp,Op.stringOp,toList_data,← rC,Sem.run_pure],.of_bool _⟩
 case geq=>exact ⟨_,by simp only [binOp,Op.stringOp,toList_data,← rC,Sem.run_pure],.of_bool _⟩
theorem q8 {P:Program} {cx:Cx} {S:St} {w:World} {op:BinOp} {k k':IntKind} {a b:Int} {r:D} (h:si op k a b=some r) (t:Nat) (ho:op=.shl∨op=.shr) :
  ∃ u,(binOp op t (.int k a) (.int k' b)).run P w=.ok u w∧aF cx S w (.d r) u:=by
 unfold si at h
 split at h
 ·
  cases h
 ·
  rename_i hb
  rcases ho with rfl | rfl
  ·
   simp only [Option.some.injEq] at h; subst h
   exact ⟨_,by simp [binOp,Op.shift,hb],.of_int _ _⟩
  ·
   simp only [Option.some.injEq] at h; subst h
   exact ⟨_,by simp [binOp,Op.shift,hb],.of_int _ _⟩
end
end Go.Ev

namespace Go.Ev
noncomputable section
set_option linter.unusedVariables false
set_option linter.unusedSimpArgs false
theorem tL {P:Program} {cx:Cx} {S:St} {w:World} {t:Nat} {cs:List AV} {off:Nat} {r:AV} (h:Ev.part P t cs off=some r) (vs:List Value) (hl:vs.length=cs.length)
  (ho:∀ v ∈ vs,v.oneCell'=true) (hc:∀ (i:Nat) (x:AV) (v:Value),cs[i]? = some x→vs[i]? = some v→aF cx S w x v) :
  ∃ u,(Go.part t vs.toArray off).run P w=.ok u w∧aF cx S w r u:=by
 unfold Ev.part at h
 split at h
 ·
  rename_i ha
  split at h
  ·
   rename_i hle
   simp only [Option.some.injEq] at h
   subst h
   obtain ⟨d,hd⟩:=iX ha
   refine ⟨.agg ((vs.drop off).take (aH P t)).toArray,?_,aF.jI (by simp; omega) (fun v hv=>ho v (List.mem_of_mem_drop (List.mem_of_mem_take hv))) (fun i x v hx hv=>?_)⟩
   ·
    simp only [Go.part,Sem.run_bind,nR w ha,Result.andThen_ok,if_true,dG w hd,Sem.run_pure]
    congr 2
    simp [List.extract_toArray,List.extract_eq_take_drop]
   ·
    by_cases hi:i < aH P t
    ·
     simp only [List.getElem?_take,List.getElem?_drop] at hx hv
     rw [if_pos hi] at hx hv
     exact hc _ x v hx hv
    ·
     simp only [List.getElem?_take] at hx
     rw [if_neg hi] at hx; cases hx
  ·
   cases h
 ·
  rename_i ha
  have hlt:off < vs.length:=by rw [hl]; exact (List.getElem?_eq_some_iff.1 h).1
  refine ⟨vs[off],?_,hc off r _ h (List.getElem?_eq_getElem hlt)⟩
  simp [Go.part,nR w ha,hlt]
 ·
  cases h
theorem bA.wP {w:World} {fr:Nat→Nat→Prop} {xs:List D} {v:Value} (h:bA w fr (.agg xs) v) :
  ∃ vs,v=.agg ⟨vs⟩∧vs.length=xs.length∧(∀ u ∈ vs,u.oneCell'=true)∧∀ (i:Nat) (x:D) (u:Value),xs[i]? = some x→vs[i]? = some u→bA w fr x u:=by
 obtain ⟨h1,h2⟩:=h
 cases v <;> simp [D.isAgg,sj] at h2
 rename_i arr
 obtain ⟨vs⟩:=arr
 obtain ⟨c1,c2,c3⟩:=h1.cells
 exact ⟨vs,rfl,c1,c2,c3⟩
theorem mr {P:Program} {fr:Nat→Nat→Prop} {w:World} {t:Nat} {cs:List D} {off:Nat} {r:D} (h:ik P t cs off=some r) (vs:List Value) (hl:vs.length=cs.length)
  (ho:∀ v ∈ vs,v.oneCell'=true) (hc:∀ (i:Nat) (x:D) (v:Value),cs[i]? = some x→vs[i]? = some v→bA w fr x v) :
  ∃ u,(Go.part t vs.toArray off).run P w=.ok u w∧bA w fr r u:=by
 have:=tL (cx:=⟨fun _=>0,fun _ _=>False,fun _=>0,fun _=>0,fr⟩) (S:=ay) (w:=w) (uU h) vs (by simp [hl]) ho (fun i x v hx hv=>by
  simp only [List.getElem?_map,Option.map_eq_some_iff] at hx
  obtain ⟨y,hy,rfl⟩:=hx
  exact .d y v (hc i y v hy hv))
 obtain ⟨u,h1,h2⟩:=this
 exact ⟨u,h1,h2.dd⟩
theorem aL {P:Program} {t:Nat} {d:TypeDesc} (w:World) (h:P.underlying t=some d):(underlying t).run P w=.ok d w:=by simp [underlying,h]
theorem zB (a b:ByteArray):(a == b)=(a.data.toList == b.data.toList):=by
 rw [beq_toListBytes,toList_data,toList_data]
theorem nK {P:Program} {fr:Nat→Nat→Prop} {w:World}:∀ (n t:Nat) (x y:D) (b:Bool) (vx vy:Value),jY P n t x y=some b→bA w fr x vx→bA w fr y vy →
  ∀ d,n ≤ d→(Op.equalIn d t vx vy).run P w=.ok b w:=by
 intro n
 induction n with
 | zero=>intro t x y b vx vy h; simp [jY] at h
 | succ n ih =>
  intro t x y b vx vy h hx hy d hd
  obtain ⟨d,rfl⟩:∃ m,d=m + 1:=⟨d - 1,by omega⟩
  have hd':n ≤ d:=by omega
  unfold jY at h
  split at h
  ·
   rename_i a c hu
   have h1:=hx.val rfl; have h2:=hy.val rfl
   cases h1; cases h2
   simp only [Option.some.injEq] at h; subst h
   exact run_equalIn_bool' w d t _ _ hu
  ·
   rename_i k0 k a k' c hu
   have h1:=hx.val rfl; have h2:=hy.val rfl
   cases h1; cases h2
   split at h
   ·
    rename_i hk
    subst hk
    simp only [Option.some.injEq] at h; subst h
    exact run_equalIn_int w d t k k0 a c hu
   ·
    cases h
  ·
   rename_i a c hu
   have h1:=hx.val rfl; have h2:=hy.val rfl
   cases h1; cases h2
   simp only [Option.some.injEq] at h; subst h
   rw [run_equalIn_string w d t _ _ hu,toList_data,toList_data]
  ·
   rename_i e hu
   have h1:=hx.val rfl; have h2:=hy.val rfl
   cases h1; cases h2
   simp only [Option.some.injEq] at h; subst h
   simp [Op.equalIn,aL w hu]
  ·
   rename_i e1 e2 hu
   have h1:=hx.val rfl; have h2:=hy.val rfl
   cases h1; cases h2
   simp only [Option.some.injEq] at h; subst h
   simp [Op.equalIn,aL w hu]
  ·
   rename_i e1 e2 e3 hu
   have h1:=hx.val rfl; have h2:=hy.val rfl
   cases h1; cases h2
   simp only [Option.some.injEq] at h; subst h
   simp [Op.equalIn,aL w hu]
  ·
   rename_i e1 hu
   have h1:=hx.val rfl; have h2:=hy.val rfl
   cases h1; cases h2
   simp only [Option.some.injEq] at h; subst h
   simp [Op.equalIn,aL w hu]
  ·
   rename_i e1 y1 ys1 ti hu
   have h1:=hx.val rfl; have h2:=hy.val rfl
   cases h1; cases h2
   simp only [Option.some.injEq] at h; subst h
   simp [Op.equalIn,aL w hu]
  ·
   rename_i e1 y1 ys1 ti hu
   have h1:=hx.val rfl; have h2:=hy.val rfl
   cases h1; cases h2
   simp only [Option.some.injEq] at h; subst h
   simp [Op.equalIn,aL w hu]
  ·
   rename_i ms t2 y2 hu
   have h1:=hx.val rfl; have h2:=hy.val rfl
   cases h1; cases h2
   simp only [Option.some.injEq] at h; subst h
   simp [Op.equalIn,aL w hu]
  ·
   rename_i ms t2 y2 hu
   have h1:=hx.val rfl; have h2:=hy.val rfl
   cases h1; cases h2
   simp only [Option.some.injEq] at h; subst h
   simp [Op.equalIn,aL w hu]
  ·
   rename_i ms tx vx' ty vy' hu
   have h1:=hx.val rfl; have h2:=hy.val rfl
   cases h1 with
   | iface _ _ v1 s1 c1 =>
   cases h2 with
   | iface _ _ v2 s2 c2 =>
   split at h
   ·
    rename_i ht
    subst ht
    split at h
    ·
     rename_i i hi
     split at h
     ·
      rename_i hcomp
      have:=ih tx vx' vy' b v1 v2 h ⟨c1,s1⟩ ⟨c2,s2⟩ d hd'
      simp [Op.equalIn,aL w hu,typeInfo,hi,hcomp,this]
     ·
      cases h
    ·
     cases h
   ·
    rename_i ht
    simp only [Option.some.injEq] at h; subst h
    simp [Op.equalIn,aL w hu,ht]
  ·
   rename_i fs xs ys hu
   split at h
   ·
    cases h
   ·
    rename_i hst
    obtain ⟨vs,rfl,l1,o1,c1⟩:=hx.wP
    obtain ⟨us,rfl,l2,o2,c2⟩:=hy.wP
    have hf:P.fieldsOf t=fs:=by simp [Program.fieldsOf,hu]
    rw [run_equalIn_struct w d t _ _ (by rw [hf]; exact hu) (by simpa using hst),hf]
    generalize fs.toList=l at h
    clear hf hu hx hy
    induction l with
    | nil=>simp at h; subst h; simp [Op.eqFields]
    | cons f l ihl =>
     simp only [List.foldr_cons] at h
     simp only [Op.eqFields]
     by_cases hn:f.name = "_"
     ·
      rw [if_pos hn] at h
      rw [if_neg (by simpa using hn)]
      exact ihl h
     ·
      rw [if_neg hn] at h
      rw [if_pos hn]
      split at h
      ·
       rename_i a c ha hc
       obtain ⟨u1,e1,r1⟩:=mr (w:=w) (fr:=fr) ha vs l1 o1 c1
       obtain ⟨u2,e2,r2⟩:=mr (w:=w) (fr:=fr) hc us l2 o2 c2
       simp only [Sem.run_bind,e1,e2,Result.andThen_ok]
       split at h
       ·
        rename_i hq
        rw [ih _ _ _ _ _ _ hq r1 r2 d hd']
        simpa using ihl h
       ·
        rename_i hq
        simp only [Option.some.injEq] at h; subst h
        rw [ih _ _ _ _ _ _ hq r1 r2 d hd']
        simp
       ·
        cases h
      ·
       cases h
  ·
   cases h
end
end Go.Ev

namespace Go.Ev
noncomputable section
set_option linter.unusedVariables false
set_option linter.unusedSimpArgs false
def mg:Value→Value→Bool
 | .int _ _,.int _ _=>false
 | .float _ _,.float _ _=>false
 | .complex _ _ _,.complex _ _ _=>false
 | .string _,.string _=>false
 | _,_=>true
theorem binOp_eql {t:Nat} {x y:Value} (h:mg x y=true):binOp .eql t x y=(do pure (.bool (← Op.equal t x y))):=by
 cases x <;> cases y <;> first | rfl | (simp [mg] at h)
theorem binOp_neq {t:Nat} {x y:Value} (h:mg x y=true):binOp .neq t x y=(do pure (.bool (!(← Op.equal t x y)))):=by
 cases x <;> cases y <;> first | rfl | (simp [mg] at h)
def qz:Value→Value→Bool
 | .nilIface,.nilIface=>false
 | .agg _,.agg _=>false
 | _,_=>true
theorem fH {P:Program} {w:World} {op:BinOp} {t:Nat} {ox oy:Operand} {x y:Value} (h:qz x y=true):(eqGuard op t ox oy x y).run P w=.ok () w:=by
 have key:∀ (c:Bool) (s:Sem Unit),s.run P w=.ok () w→(if c=true then pure () else s:Sem Unit).run P w=.ok () w:=by
  intro c s hs; cases c
  ·
   simpa using hs
  ·
   rfl
 exact key _ _ (by cases x <;> cases y <;> first | rfl | (simp [qz] at h))
theorem CL {P:Program} {w:World} {op:BinOp} {t:Nat} {ox oy:Operand} {x y:Array Value} (h:P.eqGuardType P.depth t=false):(eqGuard op t ox oy (.agg x) (.agg y)).run P w=.ok () w :=
 run_eqGuard_agg w op t ox oy x y h
theorem tJ (x:D):(∃ l,x=.agg l)∨x.isAgg=false:=by
 cases x <;> first | exact .inr rfl | exact .inl ⟨_,rfl⟩
def E9:D→D→Bool
 | .bool _,.bool _=>true
 | .int _ _,.int _ _=>true
 | .str _,.str _=>true
 | .nilp,.nilp=>true
 | .nilm,.nilm=>true
 | .nilf,.nilf=>true
 | .nili,.iface _ _=>true
 | .iface _ _,.nili=>true
 | .iface _ _,.iface _ _=>true
 | .agg _,.agg _=>true
 | .bJ,.bJ=>true
 | .bJ,.sl _ _=>true
 | .sl _ _,.bJ=>true
 | _,_=>false
theorem Cm {P:Program} {n t:Nat} {x y:D} {b:Bool} (h:jY P n t x y=some b):E9 x y=true:=by
 cases n with
 | zero=>simp [jY] at h
 | succ n=>unfold jY at h; split at h <;> first | rfl | (cases h; done)
theorem Ac {P:Program} {w:World} (d:Nat) {t e:Nat} (hu:P.underlying t=some (.pointer e)) (a:Addr) :
  (Op.equalIn (d + 1) t (.pointer (some a)) (.pointer none)).run P w=.ok false w∧(Op.equalIn (d + 1) t (.pointer none) (.pointer (some a))).run P w=.ok false w:=by
 constructor <;> simp [Op.equalIn,aL w hu]
theorem CR {P:Program} {w:World} (d:Nat) {t k e:Nat} (hu:P.underlying t=some (.map k e)) (a:Nat) :
  (Op.equalIn (d + 1) t (.map (some a)) (.map none)).run P w=.ok false w:=by simp [Op.equalIn,aL w hu]
theorem Em {P:Program} {w:World} (d:Nat) {t:Nat} {a b:Array Nat} {c:Bool} (hu:P.underlying t=some (.func a b c)) (f:Fn) (x y:Array Value) :
  (Op.equalIn (d + 1) t (.func f x y) .nilFunc).run P w=.ok false w:=by simp [Op.equalIn,aL w hu]
theorem BN {P:Program} {w:World} (d:Nat) {t e:Nat} (hu:P.underlying t=some (.slice e)) (a:Addr) (n m:Nat) :
  (Op.equalIn (d + 1) t (.slice (some a) n m) (.slice none 0 0)).run P w=.ok false w:=by simp [Op.equalIn,aL w hu]
theorem xe {P:Program} {cx:Cx} {S:St} {w:World} {t:Nat} {x y:AV} {b:Bool} {vx vy:Value} (h:AV.eqv P t x y=some b) (hx:aF cx S w x vx) (hy:aF cx S w y vy)
  (hn:¬ (∃ k n k' n',x=.d (.int k n)∧y=.d (.int k' n'))) (hs:¬ (∃ s s',x=.d (.str s)∧y=.d (.str s'))) :
  mg vx vy=true∧(∀ (op:BinOp) ox oy,(eqGuard op t ox oy vx vy).run P w=.ok () w)∧(Op.equal t vx vy).run P w=.ok b w:=by
 have ptr:∀ {a:Option Addr} {e:Nat},P.underlying t=some (.pointer e)→a.isSome=true→b=false →
   (mg (.pointer a) (.pointer none)=true∧(∀ (op:BinOp) ox oy,(eqGuard op t ox oy (.pointer a) (.pointer none)).run P w=.ok () w)∧(Op.equal t (.pointer a) (.pointer none)).run P w=.ok b w) ∧
   (mg (.pointer none) (.pointer a)=true∧(∀ (op:BinOp) ox oy,(eqGuard op t ox oy (.pointer none) (.pointer a)).run P w=.ok () w)∧(Op.equal t (.pointer none) (.pointer a)).run P w=.ok b w):=by
  intro a e hu ha hb
  subst hb
  obtain ⟨ad,rfl⟩:=Option.isSome_iff_exists.1 ha
  exact ⟨⟨rfl,fun _ _ _=>fH rfl,(Ac 9999 hu ad).1⟩,⟨rfl,fun _ _ _=>fH rfl,(Ac 9999 hu ad).2⟩⟩
 unfold AV.eqv at h
 split at h
 ·
  rename_i x y
  have hdx:=hx.dd; have hdy:=hy.dd
  split at h
  ·
   rename_i lx ly
   split at h
   ·
    cases h
   ·
    rename_i hg
    have:=nK 20 t _ _ b vx vy h hdx hdy 10000 (by omega)
    obtain ⟨vs,rfl,_⟩:=hdx.wP
    obtain ⟨us,rfl,_⟩:=hdy.wP
    exact ⟨rfl,fun _ _ _=>CL (by simpa using hg),this⟩
  ·
   rename_i hna
   have hrun:=nK 20 t x y b vx vy h hdx hdy 10000 (by omega)
   have hp:=Cm h
   have both:mg vx vy=true∧qz vx vy=true:=by
    rcases tJ x with ⟨l,rfl⟩ | hxa
    ·
     cases y <;> first | (exact absurd rfl (hna _ _ rfl)) | (cases hp; done)
    ·
     rcases tJ y with ⟨l,rfl⟩ | hya
     ·
      cases x <;> first | (simp [D.isAgg] at hxa; done) | (cases hp; done)
     ·
      have h1:=hdx.val hxa; have h2:=hdy.val hya
      clear hrun h hx hy hna
      cases h1 <;> cases h2 <;> first | exact ⟨rfl,rfl⟩ | (exact absurd ⟨_,_,_,_,rfl,rfl⟩ hn) | (exact absurd ⟨_,_,rfl,rfl⟩ hs) | (cases hp; done) | (simp [D.isAgg] at hxa; done)
   exact ⟨both.1,fun _ _ _=>fH both.2,hrun⟩
 ·
  split at h
  ·
   rename_i e hu
   cases hx
   have:=hy.dd.val rfl; cases this
   simp only [Option.some.injEq] at h; subst h
   exact ⟨rfl,fun _ _ _=>fH rfl,BN 9999 hu _ _ _⟩
  ·
   cases h
 ·
  split at h
  ·
   rename_i e hu
   cases hx
   have:=hy.dd.val rfl; cases this
   simp only [Option.some.injEq] at h; subst h
   exact ⟨rfl,fun _ _ _=>fH rfl,BN 9999 hu _ _ _⟩
  ·
   cases h
 ·
  split at h
  ·
   rename_i e hu
   cases hx with
   | ptr _ _ _ _ hn hp =>
    have:=hy.dd.val rfl; cases this
    exact (ptr hu rfl (by simpa using h.symm)).1
  ·
   cases h
 ·
  split at h
  ·
   rename_i e hu
   cases hx
   have:=hy.dd.val rfl; cases this
   exact (ptr hu rfl (by simpa using h.symm)).1
  ·
   cases h
 ·
  split at h
  ·
   rename_i e hu
   cases hy
   have:=hx.dd.val rfl; cases this
   exact (ptr hu rfl (by simpa using h.symm)).2
  ·
   cases h
 ·
  split at h
  ·
   rename_i e hu
   cases hy
   have:=hx.dd.val rfl; cases this
   exact (ptr hu rfl (by simpa using h.symm)).2
  ·
   cases h
 ·
  split at h
  ·
   rename_i e1 e2 hu
   cases hx
   have:=hy.dd.val rfl; cases this
   simp only [Option.some.injEq] at h; subst h
   exact ⟨rfl,fun _ _ _=>fH rfl,CR 9999 hu _⟩
  ·
   cases h
 ·
  split at h
  ·
   rename_i e1 e2 e3 hu
   cases hx
   have:=hy.dd.val rfl; cases this
   simp only [Option.some.injEq] at h; subst h
   exact ⟨rfl,fun _ _ _=>fH rfl,Em 9999 hu _ _ _⟩
  ·
   cases h
 ·
  cases h
theorem Bj {P:Program} {cx:Cx} {S:St} {w:World} {t:Nat} {op:BinOp} {x y:AV} {r:D} {vx vy:Value} (h:gU P t op x y=some r) (hx:aF cx S w x vx) (hy:aF cx S w y vy) (ox oy:Operand) :
  ∃ u,(do eqGuard op t ox oy vx vy; binOp op t vx vy).run P w=.ok u w∧aF cx S w (.d r) u:=by
 have num:∀ {k n k' n'},vx=.int k n→vy=.int k' n'→(eqGuard op t ox oy vx vy).run P w=.ok () w:=fun h1 h2=>by subst h1; subst h2; exact fH rfl
 unfold gU at h
 split at h
 ·
  have h1:=hx.int; have h2:=hy.int; subst h1; subst h2
  obtain ⟨u,h3,h4⟩:=q8 (P:=P) (cx:=cx) (S:=S) (w:=w) h t (.inl rfl)
  exact ⟨u,by rw [Sem.run_bind,num rfl rfl]; exact h3,h4⟩
 ·
  have h1:=hx.int; have h2:=hy.int; subst h1; subst h2
  obtain ⟨u,h3,h4⟩:=q8 (P:=P) (cx:=cx) (S:=S) (w:=w) h t (.inr rfl)
  exact ⟨u,by rw [Sem.run_bind,num rfl rfl]; exact h3,h4⟩
 ·
  rename_i k a k' b hs1 hs2
  have h1:=hx.int; have h2:=hy.int; subst h1; subst h2
  split at h
  ·
   rename_i hk
   subst hk
   obtain ⟨u,h3,h4⟩:=yn (P:=P) (cx:=cx) (S:=S) (w:=w) h t ⟨fun q=>hs1 q,fun q=>hs2 q⟩
   exact ⟨u,by rw [Sem.run_bind,num rfl rfl]; exact h3,h4⟩
  ·
   cases h
 ·
  obtain ⟨s1,rfl,rfl⟩:=hx.str
  obtain ⟨s2,rfl,rfl⟩:=hy.str
  obtain ⟨u,h3,h4⟩:=yh (P:=P) (cx:=cx) (S:=S) (w:=w) h t
  exact ⟨u,by rw [Sem.run_bind,fH rfl]; exact h3,h4⟩
 ·
  rename_i hni hns
  simp only [Option.map_eq_some_iff] at h
  obtain ⟨b,hb,rfl⟩:=h
  obtain ⟨h1,h2,h3⟩:=xe hb hx hy (fun ⟨k,n,k',n',q1,q2⟩=>by subst q1; subst q2; exact hni _ _ _ _ rfl rfl) (fun ⟨s,s',q1,q2⟩=>by subst q1; subst q2; exact hns _ _ rfl rfl)
  exact ⟨.bool b,by rw [Sem.run_bind,h2,binOp_eql h1]; simp [h3],.of_bool b⟩
 ·
  rename_i hni hns
  simp only [Option.map_eq_some_iff] at h
  obtain ⟨b,hb,rfl⟩:=h
  obtain ⟨h1,h2,h3⟩:=xe hb hx hy (fun ⟨k,n,k',n',q1,q2⟩=>by subst q1; subst q2; exact hni _ _ _ _ rfl rfl) (fun ⟨s,s',q1,q2⟩=>by subst q1; subst q2; exact hns _ _ rfl rfl)
  exact ⟨.bool (!b),by rw [Sem.run_bind,h2,binOp_neq h1]; simp [h3],.of_bool _⟩
 ·
  cases h
end
end Go.Ev

namespace Go.Ev
noncomputable section
set_option linter.unusedVariables false
set_option linter.unusedSimpArgs false
theorem bP {P:Program} {t e:Nat} (h:cu P t=some e):P.underlying t=some (.slice e):=by
 unfold cu at h
 split at h
 ·
  simp only [Option.some.injEq] at h; subst h; assumption
 ·
  cases h
theorem xI {P:Program} {t:Nat} {k:IntKind} (h:Bf P t=some k):P.underlying t=some (.int k):=by
 unfold Bf at h
 split at h
 ·
  simp only [Option.some.injEq] at h; subst h; assumption
 ·
  cases h
theorem pO {P:Program} {t:Nat} (h:nI P t=true):P.underlying t=some .string:=by
 unfold nI at h
 split at h
 ·
  assumption
 ·
  cases h
theorem qK {P:Program} {s f fo ft:Nat} (h:fE P s f=some (fo,ft)):∃ fs:Array Field,∃ x:Field,P.underlying s=some (.struct fs)∧fs[f]? = some x∧x.offset=fo∧x.type=ft:=by
 unfold fE at h
 split at h
 ·
  rename_i fs hu
  simp only [Option.map_eq_some_iff,Prod.mk.injEq] at h
  obtain ⟨x,h1,h2,h3⟩:=h
  exact ⟨fs,x,hu,h1,h2,h3⟩
 ·
  cases h
theorem Dy {P:Program} {t:Nat} (h:aH P t ≠ 0) (w:World):(sizeOf t).run P w=.ok (aH P t) w:=by
 unfold aH at *
 split at h
 ·
  rename_i i hi; simp [sizeOf,typeInfo,hi]
 ·
  exact absurd rfl h
theorem nY {C:gK} {cx:Cx} {S:St} {w:World} {s fld fo ft:Nat} {x:AV} {v:Value} (hf:fE C.P s fld=some (fo,ft)) (hz:aH C.P ft ≠ 0)
  (hx:aF cx S w x v):(∀ id g off,x=.ptr id g off→∃ u,(Instr.fieldAt s v fld).run C.P w=.ok u w∧aF cx S w (.ptr id g (off + fo)) u) ∧
   (∀ y off,x=.eptr y off→∃ u,(Instr.fieldAt s v fld).run C.P w=.ok u w∧aF cx S w (.eptr y (off + fo)) u):=by
 obtain ⟨fs,f,hu,h1,h2,h3⟩:=qK hf
 have run:∀ b o,(Instr.fieldAt s (.pointer (some ⟨b,o,none⟩)) fld).run C.P w=.ok (.pointer (some ⟨b,o + fo,none⟩)) w:=by
  intro b o
  simp only [Instr.fieldAt,Sem.run_bind,aL w hu,Result.andThen_ok,h1,Instr.sureAddr,Sem.run_pure,fieldPlace,h3,Dy hz w,hz,if_false,h2,iw]
 constructor
 ·
  intro id g off hq
  subst hq
  cases hx with
  | ptr _ _ _ b hn hp=>exact ⟨_,run b off,.ptr id g (off + fo) b hn hp⟩
 ·
  intro y off hq
  subst hq
  cases hx with
  | eptr _ _ b o vs hc hm=>exact ⟨_,run b (o + off),by rw [Nat.add_assoc]; exact .eptr y (off + fo) b o vs hc hm⟩
theorem sN {C:gK} {cx:Cx} {S:St} {w:World} {s fld fo ft:Nat} {r:AV} {v:Value} (hf:fE C.P s fld=some (fo,ft)) :
  (∀ cs,aF cx S w (.agg cs) v→Ev.part C.P ft cs fo=some r→∃ u,(Instr.field s v fld).run C.P w=.ok u w∧aF cx S w r u) ∧
  (∀ cs y,aF cx S w (.d (.agg cs)) v→ik C.P ft cs fo=some y→∃ u,(Instr.field s v fld).run C.P w=.ok u w∧aF cx S w (.d y) u):=by
 obtain ⟨fs,f,hu,h1,h2,h3⟩:=qK hf
 have run:∀ (vs:List Value) u,(Go.part ft vs.toArray fo).run C.P w=.ok u w→(Instr.field s (.agg vs.toArray) fld).run C.P w=.ok u w:=by
  intro vs u hq
  simp only [Instr.field,Sem.run_bind,aL w hu,Result.andThen_ok,h1,asAgg,Sem.run_pure,h3,h2]
  exact hq
 constructor
 ·
  intro cs hx hp
  cases hx with
  | agg _ vs hl ho h =>
   obtain ⟨u,a1,a2⟩:=tL hp vs hl ho h
   exact ⟨u,run vs u a1,a2⟩
 ·
  intro cs y hx hp
  obtain ⟨vs,rfl,hl,ho,h⟩:=hx.dd.wP
  obtain ⟨u,a1,a2⟩:=mr hp vs hl ho h
  exact ⟨u,run vs u a1,.d y u a2⟩
theorem x8 {w:World} {fr:Nat→Nat→Prop} {xs:List D} {tight:Bool} {v:Value} (h:bA w fr (.sl xs tight) v) :
  ∃ a cap,v=.slice a xs.length cap∧xs.length ≤ cap∧(tight=true→cap=xs.length)∧(xs ≠ []→∃ b off sz,∃ vs:Nat→List Value,a=some ⟨b,off,none⟩ ∧
   (∀ (i:Nat) (x:D),xs[i]? = some x→x.cells.length=sz)∧(∀ i,i < xs.length→(vs i).length=sz)∧(∀ (i:Nat) (x:D),xs[i]? = some x→gL w fr x (vs i)) ∧
   ∀ (i j:Nat) (u:Value),i < xs.length→(vs i)[j]? = some u→w.cell? ⟨b,off + i * sz + j,none⟩=some u∧¬ fr b (off + i * sz + j)):=by
 have h1:=h.val rfl
 cases h1 with
 | sl0 a cap _ ht=>exact ⟨a,cap,rfl,Nat.zero_le _,fun q=>by simp [ht q],fun q=>absurd rfl q⟩
 | sl _ _ b off cap sz vs hne hcap ht hsz hlen hx hc=>exact ⟨_,cap,rfl,hcap,ht,fun _=>⟨b,off,sz,vs,rfl,hsz,hlen,hx,hc⟩⟩
theorem GN {w:World} {fr:Nat→Nat→Prop} {xs:List D} {tight:Bool} {a:Option Addr} {cap:Nat} (hcap:xs.length ≤ cap) (ht:tight=true→cap=xs.length)
  (h:xs ≠ []→∃ b off sz,∃ vs:Nat→List Value,a=some ⟨b,off,none⟩ ∧
   (∀ (i:Nat) (x:D),xs[i]? = some x→x.cells.length=sz)∧(∀ i,i < xs.length→(vs i).length=sz)∧(∀ (i:Nat) (x:D),xs[i]? = some x→gL w fr x (vs i)) ∧
   ∀ (i j:Nat) (u:Value),i < xs.length→(vs i)[j]? = some u→w.cell? ⟨b,off + i * sz + j,none⟩=some u∧¬ fr b (off + i * sz + j)):bA w fr (.sl xs tight) (.slice a xs.length cap):=by
 refine bA.of_cell ?_ rfl
 by_cases hx:xs=[]
 ·
  subst hx; exact .sl0 a cap tight (fun q=>by simpa using ht q)
 ·
  obtain ⟨b,off,sz,vs,rfl,h1,h2,h3,h4⟩:=h hx
  exact .sl xs tight b off cap sz vs hx hcap ht h1 h2 h3 h4
theorem zR {w:World} {fr:Nat→Nat→Prop} {v:Value} (h:bA w fr .bJ v):v=.slice none 0 0:=by
 have:=h.val rfl; cases this; rfl
theorem vQ {w:World} {fr:Nat→Nat→Prop} {v:Value} (h:bA w fr .bJ v):bA w fr (.sl [] true) v:=by
 have:=zR h; subst this
 exact bA.of_cell (.sl0 none 0 true (fun _=>rfl)) rfl
theorem yg {cx:Cx} {S:St} {w:World} {x:AV} {xs:List D} {v:Value} (h:mJ x=some xs) (hx:aF cx S w x v):∃ tight,bA w cx.fr (.sl xs tight) v:=by
 unfold mJ at h
 split at h
 ·
  simp only [Option.some.injEq] at h; subst h; exact ⟨_,vQ hx.dd⟩
 ·
  simp only [Option.some.injEq] at h; subst h; exact ⟨_,hx.dd⟩
 ·
  simp only [Option.some.injEq] at h; subst h
  cases hx with
  | tsl _ _ b off cap hn h hp=>exact ⟨false,h⟩
 ·
  cases h
theorem vS {C:gK} {cx:Cx} {S:St} {w:World} {t e:Nat} {xs:List D} {tight:Bool} {v:Value} {k:IntKind} {n:Int} {y:D} (hx:bA w cx.fr (.sl xs tight) v)
  (he:cu C.P t=some e) (hag:(gW C.P e).isSome=true) (hn:0 ≤ n) (hy:xs[n.toNat]? = some y) (hsz:y.cells.length=aH C.P e) :
  ∃ u,(Instr.indexAt t v (.int k n)).run C.P w=.ok u w∧aF cx S w (.eptr y 0) u:=by
 obtain ⟨a,cap,rfl,hcap,ht,hm⟩:=x8 hx
 have hlt:n.toNat < xs.length:=(List.getElem?_eq_some_iff.1 hy).1
 obtain ⟨b,off,sz,vs,rfl,h1,h2,h3,h4⟩:=hm (by intro q; subst q; simp at hlt)
 have hs:sz=aH C.P e:=by rw [← hsz]; exact (h1 _ _ hy).symm
 obtain ⟨ag,hag⟩:=Option.isSome_iff_exists.1 hag
 obtain ⟨d,hd⟩:=iX hag
 refine ⟨.pointer (some ⟨b,off + n.toNat * sz + 0,none⟩),?_,.eptr y 0 b (off + n.toNat * sz) (vs n.toNat) (h3 _ _ hy) (fun j u hu=>h4 _ j u hlt hu)⟩
 have hlt':n < (xs.length:Int):=by omega
 have hu:=bP he
 simp only [Instr.indexAt,asIntOf,Sem.run_bind,Sem.run_pure,Result.andThen_ok,aL w hu]
 rw [if_pos ⟨hn,hlt'⟩]
 simp only [Sem.run_bind,dG w hd,Result.andThen_ok,Sem.run_pure,iw,Nat.add_zero,hs]
theorem uo {C:gK} {cx:Cx} {S:St} {w:World} {t:Nat} {x i r:AV} {v u:Value} (h:jG C t x i=some r) (hx:aF cx S w x v) (hi:aF cx S w i u) :
  ∃ z,(Instr.indexAt t v u).run C.P w=.ok z w∧aF cx S w r z:=by
 unfold jG at h
 split at h
 ·
  rename_i k n e he
  have:=hi.int; subst this
  split at h
  ·
   rename_i hc
   simp only [Bool.and_eq_true,decide_eq_true_eq] at hc
   obtain ⟨hn,hag⟩:=hc
   split at h
   ·
    split at h
    ·
     rename_i xs tight y hy
     split at h
     ·
      rename_i hsz
      simp only [Option.some.injEq] at h; subst h
      exact vS hx.dd he hag hn hy hsz
     ·
      cases h
    ·
     cases h
   ·
    split at h
    ·
     rename_i xs tok y hy
     split at h
     ·
      rename_i hsz
      simp only [Option.some.injEq] at h; subst h
      cases hx with
      | tsl _ _ b off cap hnn hd hp=>exact vS hd he hag hn hy hsz
     ·
      cases h
    ·
     cases h
   ·
    split at h
    ·
     rename_i id gen off len lim sz hlt
     obtain ⟨hlt,rfl⟩:=hlt
     simp only [Option.some.injEq] at h; subst h
     cases hx with
     | msl _ _ _ _ _ _ b cap hnn hll hcap h63 hp =>
      obtain ⟨ag,hag⟩:=Option.isSome_iff_exists.1 hag
      obtain ⟨d,hd⟩:=iX hag
      refine ⟨.pointer (some ⟨b,off + n.toNat * aH C.P e,none⟩),?_,.ptr id gen _ b hnn (fun q=>(hp q).1)⟩
      have hlt':n < (len:Int):=by omega
      have hu:=bP he
      simp only [Instr.indexAt,asIntOf,Sem.run_bind,Sem.run_pure,Result.andThen_ok,aL w hu]
      rw [if_pos ⟨hn,hlt'⟩]
      simp only [Sem.run_bind,dG w hd,Result.andThen_ok,Sem.run_pure,iw]
    ·
     cases h
   ·
    split at h
    ·
     rename_i id gen off len sz hlt
     obtain ⟨hlt,rfl⟩:=hlt
     simp only [Option.some.injEq] at h; subst h
     cases hx with
     | asl _ _ _ _ _ b hnn h63 hp =>
      obtain ⟨ag,hag⟩:=Option.isSome_iff_exists.1 hag
      obtain ⟨d,hd⟩:=iX hag
      refine ⟨.pointer (some ⟨b,off + n.toNat * aH C.P e,none⟩),?_,.ptr id gen _ b hnn (fun q=>hp q)⟩
      have hlt':n < (len:Int):=by omega
      have hu:=bP he
      simp only [Instr.indexAt,asIntOf,Sem.run_bind,Sem.run_pure,Result.andThen_ok,aL w hu]
      rw [if_pos ⟨hn,hlt'⟩]
      simp only [Sem.run_bind,dG w hd,Result.andThen_ok,Sem.run_pure,iw]
    ·
     cases h
   ·
    cases h
  ·
   cases h
 ·
  cases h
theorem zm {P:Program} {cx:Cx} {S:St} {w:World} {t:Nat} {s:List UInt8} {k:IntKind} {n:Int} {c:UInt8} {v:Value} (hx:aF cx S w (.d (.str s)) v) (hn:0 ≤ n) (ht:nI P t=true)
  (hc:s[n.toNat]? = some c):(Instr.index t v (.int k n)).run P w=.ok (.int .u8 c.toNat) w:=by
 obtain ⟨b,rfl,rfl⟩:=hx.str
 have hb:b[n.toNat]? = some c:=by
  have hlt:n.toNat < b.data.toList.length:=(List.getElem?_eq_some_iff.1 hc).1
  have hlen:b.data.toList.length=b.size:=Array.length_toList
  have hlt':n.toNat < b.size:=by omega
  rw [getElem?_pos b n.toNat hlt']
  rw [List.getElem?_eq_getElem hlt] at hc
  have h2:b[n.toNat]=b.data.toList[n.toNat]:=by simp [ByteArray.getElem_eq_getElem_data]
  rw [h2]; exact hc
 simp only [Instr.index,asIntOf,Sem.run_bind,Sem.run_pure,Result.andThen_ok,aL w (pO ht)]
 rw [if_pos hn,hb]
 rfl
end
end Go.Ev

namespace Go.Ev
noncomputable section
set_option linter.unusedVariables false
set_option linter.unusedSimpArgs false
theorem kC {cx:Cx} {S:St} {w:World} {x:D} {n:Nat} {v:Value} (h:asNat x=some n) (hx:bA w cx.fr x v):∃ k,v=.int k n:=by
 unfold asNat at h
 split at h
 ·
  split at h
  ·
   rename_i k m hm
   simp only [Option.some.injEq] at h; subst h
   have:=hx.val rfl; cases this
   exact ⟨k,by rw [Int.toNat_of_nonneg hm]⟩
  ·
   cases h
 ·
  cases h
def jS (cx:Cx) (w:World):Option D→Option Value→Prop
 | none,none=>True
 | some x,some v=>bA w cx.fr x v
 | _,_=>False
theorem jg {P:Program} {w:World} {k:IntKind} {n y:Nat} {code:BoundsCode} (h:n ≤ y):(Instr.sliceBound (.int k n) y code).run P w=.ok n w:=by
 simp only [Instr.sliceBound,asIntOf,Sem.run_bind,Sem.run_pure,Result.andThen_ok]
 rw [if_pos ⟨by omega,by omega⟩]
 simp
theorem jd {P:Program} {cx:Cx} {w:World} {isS:Bool} {len cap h l:Nat} {lo hi:Option D} {vl vh:Option Value} (h1:il hi len=some h) (h2:il lo 0=some l) (rl:jS cx w lo vl) (rh:jS cx w hi vh)
  (hle:l ≤ h) (hc:h ≤ cap):(Instr.sliceBounds isS len cap vl vh none).run P w=.ok (l,h,cap) w:=by
 cases hi with
 | none =>
  cases vh with
  | some v=>exact rh.elim
  | none =>
   simp only [il,Option.some.injEq] at h1; subst h1
   cases lo with
   | none =>
    cases vl with
    | some v=>exact rl.elim
    | none=>simp only [il,Option.some.injEq] at h2; subst h2; rfl
   | some x =>
    cases vl with
    | none=>exact rl.elim
    | some v =>
     obtain ⟨k,rfl⟩:=kC (cx:=cx) (S:=ay) h2 rl
     simp only [Instr.sliceBounds,Sem.run_bind,Sem.run_pure,Result.andThen_ok,jg hle]
 | some xh =>
  cases vh with
  | none=>exact rh.elim
  | some vh =>
   obtain ⟨kh,rfl⟩:=kC (cx:=cx) (S:=ay) h1 rh
   cases lo with
   | none =>
    cases vl with
    | some v=>exact rl.elim
    | none=>simp only [il,Option.some.injEq] at h2; subst h2; simp only [Instr.sliceBounds,Sem.run_bind,Sem.run_pure,Result.andThen_ok,jg hc]
   | some x =>
    cases vl with
    | none=>exact rl.elim
    | some v =>
     obtain ⟨k,rfl⟩:=kC (cx:=cx) (S:=ay) h2 rl
     simp only [Instr.sliceBounds,Sem.run_bind,Sem.run_pure,Result.andThen_ok,jg hle,jg hc]
theorem pY {P:Program} {cx:Cx} {w:World} {isS:Bool} {len cap h l m:Nat} {lo hi:Option D} {x3:D} {v3:Value} {vl vh:Option Value} (h1:il hi len=some h) (h2:il lo 0=some l) (h3:asNat x3=some m)
  (rl:jS cx w lo vl) (rh:jS cx w hi vh) (r3:bA w cx.fr x3 v3) (hs:hi.isSome=true) (hle:l ≤ h) (hc:h ≤ m) (hm:m ≤ cap):(Instr.sliceBounds isS len cap vl vh (some v3)).run P w=.ok (l,h,m) w:=by
 obtain ⟨xh,rfl⟩:=Option.isSome_iff_exists.1 hs
 obtain ⟨k3,rfl⟩:=kC (cx:=cx) (S:=ay) h3 r3
 cases vh with
 | none=>exact rh.elim
 | some vh =>
  obtain ⟨kh,rfl⟩:=kC (cx:=cx) (S:=ay) h1 rh
  cases lo with
  | none =>
   cases vl with
   | some v=>exact rl.elim
   | none=>simp only [il,Option.some.injEq] at h2; subst h2; simp only [Instr.sliceBounds,Sem.run_bind,Sem.run_pure,Result.andThen_ok,jg hc,jg hm]
  | some x =>
   cases vl with
   | none=>exact rl.elim
   | some v =>
    obtain ⟨k,rfl⟩:=kC (cx:=cx) (S:=ay) h2 rl
    simp only [Instr.sliceBounds,Sem.run_bind,Sem.run_pure,Result.andThen_ok,jg hle,jg hc,jg hm]
theorem sZ {cx:Cx} {w:World} {xs:List D} {tight tight':Bool} {a:Option Addr} {cap l h m sz:Nat} (hd:bA w cx.fr (.sl xs tight) (.slice a xs.length cap)) (hsz:vR sz xs=true)
  (hle:l ≤ h) (hh:h ≤ xs.length) (hm:h ≤ m) (hmc:m ≤ cap) (ht:tight'=true→m=h) :
  bA w cx.fr (.sl ((xs.take h).drop l) tight') (.slice (if m=l then a else a.map (·.add (l * sz))) (h - l) (m - l)):=by
 obtain ⟨a',cap',hv,hcap,ht',hx⟩:=x8 hd
 simp only [Value.slice.injEq,true_and] at hv
 obtain ⟨rfl,rfl⟩:=hv
 have hlen:((xs.take h).drop l).length=h - l:=by simp; omega
 rw [← hlen]
 refine GN (by omega) (fun q=>by have:=ht q; omega) (fun hne=>?_)
 have hlt:l < h:=by
  rcases Nat.lt_or_ge l h with q | q
  ·
   exact q
  ·
   exfalso; apply hne; apply List.eq_nil_of_length_eq_zero; omega
 obtain ⟨b,off,sz',vs,rfl,h1,h2,h3,h4⟩:=hx (by intro q; subst q; simp at hh; omega)
 have hs:sz'=sz:=by
  cases xs with
  | nil=>simp at hh; omega
  | cons x xs =>
   have:=h1 0 x rfl
   simp only [vR] at hsz
   rw [← this]; exact Nat.eq_of_beq_eq_true hsz
 subst hs
 rw [if_neg (by omega)]
 have hg:∀ (i:Nat),i < h - l→((xs.take h).drop l)[i]? = xs[l + i]?:=fun i hi=>by
  rw [List.getElem?_drop,List.getElem?_take,if_pos (by omega)]
 refine ⟨b,off + l * sz',sz',fun i=>vs (l + i),by simp [iw],fun i x hi=>?_,fun i hi=>?_,fun i x hi=>?_,fun i j u hi hu=>?_⟩
 ·
  have hlt:=(List.getElem?_eq_some_iff.1 hi).1
  rw [hlen] at hlt
  rw [hg i hlt] at hi
  exact h1 _ _ hi
 ·
  exact h2 _ (by omega)
 ·
  have hlt:=(List.getElem?_eq_some_iff.1 hi).1
  rw [hlen] at hlt
  rw [hg i hlt] at hi
  exact h3 _ _ hi
 ·
  have:=h4 (l + i) j u (by omega) hu
  rw [Nat.add_mul,← Nat.add_assoc] at this
  exact this
theorem jE {P:Program} {w:World} {t e:Nat} (hu:P.underlying t=some (.slice e)) (x:Value) (lo hi mx:Option Value) :
  (Instr.sliceAt t x lo hi mx).run P w=(Instr.slice t x lo hi mx).run P w:=by
 simp [Instr.sliceAt,aL w hu]
theorem yO {P:Program} {w:World} {t:Nat} (hu:P.underlying t=some .string) (x:Value) (lo hi mx:Option Value) :
  (Instr.sliceAt t x lo hi mx).run P w=(Instr.slice t x lo hi mx).run P w:=by
 simp [Instr.sliceAt,aL w hu]
theorem oz {C:gK} {cx:Cx} {w:World} {t:Nat} {xs:List D} {tight:Bool} {lo hi mx:Option D} {r:D} {v:Value} {vl vh vm:Option Value} (h:qZ C t xs tight lo hi mx=some r)
  (hx:bA w cx.fr (.sl xs tight) v) (rl:jS cx w lo vl) (rh:jS cx w hi vh) (rm:jS cx w mx vm) :
  ∃ u,(Instr.sliceAt t v vl vh vm).run C.P w=.ok u w∧bA w cx.fr r u:=by
 obtain ⟨a,cap,rfl,hcap,ht,_⟩:=x8 hx
 unfold qZ at h
 split at h
 ·
  rename_i e he
  have hu:=bP he
  rw [jE hu]
  split at h
  ·
   rename_i hc
   simp only [Bool.and_eq_true] at hc
   obtain ⟨hsz,hd⟩:=hc
   obtain ⟨d,hd⟩:=Option.isSome_iff_exists.1 hd
   split at h
   ·
    rename_i hh l h1 h2
    cases vm with
    | some _=>exact rm.elim
    | none =>
    split at h
    ·
     rename_i hq
     simp only [Bool.and_eq_true,decide_eq_true_eq] at hq
     simp only [Option.some.injEq] at h; subst h
     refine ⟨_,?_,sZ (m:=cap) hx hsz hq.1 hq.2 (by omega) (Nat.le_refl _) (fun q=>?_)⟩
     ·
      simp only [Instr.slice,Sem.run_bind,aL w hu,Result.andThen_ok,jd (P:=C.P) (isS:=true) (len:=xs.length) (cap:=cap) h1 h2 rl rh hq.1 (by omega),dG w hd,Sem.run_pure]
     ·
      simp only [Bool.and_eq_true] at q
      have:=Nat.eq_of_beq_eq_true q.2
      have:=ht q.1
      omega
    ·
     cases h
   ·
    rename_i hh l m' h1 h2
    cases vm with
    | none=>exact rm.elim
    | some vm =>
    split at h
    ·
     rename_i m h3
     split at h
     ·
      rename_i hq
      simp only [Bool.and_eq_true,decide_eq_true_eq] at hq
      obtain ⟨⟨⟨q1,q2⟩,q3⟩,q4⟩:=hq
      simp only [Option.some.injEq] at h; subst h
      refine ⟨_,?_,sZ (m:=m) hx hsz q2 (by omega) q3 (by omega) (fun q=>(Nat.eq_of_beq_eq_true q).symm)⟩
      simp only [Instr.slice,Sem.run_bind,aL w hu,Result.andThen_ok,pY (P:=C.P) (isS:=true) (len:=xs.length) (cap:=cap) h1 h2 h3 rl rh rm q1 q2 q3 (by omega),dG w hd,Sem.run_pure]
     ·
      cases h
    ·
     cases h
   ·
    cases h
  ·
   cases h
 ·
  cases h
theorem yR {C:gK} {cx:Cx} {S:St} {w:World} {t id g off len lim sz:Nat} {r:AV} {lo hi mx:Option D} {v:Value} {vl vh vm:Option Value} (h:AB C t id g off len lim sz lo hi mx=some r)
  (hx:aF cx S w (.msl id g off len lim sz) v) (rl:jS cx w lo vl) (rh:jS cx w hi vh) (rm:jS cx w mx vm) :
  ∃ u,(Instr.sliceAt t v vl vh vm).run C.P w=.ok u w∧aF cx S w r u:=by
 cases hx with
 | msl _ _ _ _ _ _ b cap hn hl hcap h63 hp =>
 unfold AB at h
 split at h
 ·
  rename_i e he
  have hu:=bP he
  rw [jE hu]
  split at h
  ·
   rename_i hc
   obtain ⟨rfl,hd,hpos⟩:=hc
   obtain ⟨d,hd⟩:=Option.isSome_iff_exists.1 hd
   split at h
   ·
    rename_i hh l h1 h2
    cases vm with
    | some _=>exact rm.elim
    | none =>
    split at h
    ·
     rename_i hq
     have hrun:(Instr.slice t (.slice (some ⟨b,off,none⟩) len cap) vl vh none).run C.P w=.ok (.slice (if cap=l then some ⟨b,off,none⟩ else some ⟨b,off + l * aH C.P e,none⟩) (hh - l) (cap - l)) w:=by
      simp only [Instr.slice,Sem.run_bind,aL w hu,Result.andThen_ok,jd (P:=C.P) (isS:=true) (len:=len) (cap:=cap) h1 h2 rl rh hq.1 (by omega),dG w hd,Sem.run_pure,Option.map_some,iw]
     refine ⟨_,hrun,?_⟩
     split at h
     ·
      rename_i hlh
      have hz:hh - l=0:=by omega
      simp only [Option.some.injEq] at h; subst h
      rw [hz]
      exact .d _ _ (bA.of_cell (.sl0 _ _ false (fun q=>by cases q)) rfl)
     ·
      rename_i hlh
      simp only [Option.some.injEq] at h; subst h
      rw [if_neg (by omega)]
      refine .msl id g _ _ _ _ b _ hn (by omega) (by omega) (by omega) (fun hc=>?_)
      obtain ⟨p1,p2,p3⟩:=hp hc
      have hm:off + l * aH C.P e + (cap - l) * aH C.P e=off + cap * aH C.P e:=by
       rw [Nat.add_assoc,← Nat.add_mul]; congr 2; omega
      rw [hm]
      exact ⟨p1,p2,p3⟩
    ·
     cases h
   ·
    rename_i hh l m' h1 h2
    cases vm with
    | none=>exact rm.elim
    | some vm =>
    split at h
    ·
     rename_i m h3
     split at h
     ·
      rename_i hq
      obtain ⟨q1,q2,q3,q4⟩:=hq
      have hrun:(Instr.slice t (.slice (some ⟨b,off,none⟩) len cap) vl vh (some vm)).run C.P w=.ok (.slice (if m=l then some ⟨b,off,none⟩ else some ⟨b,off + l * aH C.P e,none⟩) (hh - l) (m - l)) w:=by
       simp only [Instr.slice,Sem.run_bind,aL w hu,Result.andThen_ok,pY (P:=C.P) (isS:=true) (len:=len) (cap:=cap) h1 h2 h3 rl rh rm q1 q2 q3 (by omega),dG w hd,Sem.run_pure,Option.map_some,iw]
      refine ⟨_,hrun,?_⟩
      split at h
      ·
       rename_i hlh
       subst hlh
       simp only [Option.some.injEq] at h; subst h
       rw [Nat.sub_self]
       exact .d _ _ (bA.of_cell (.sl0 _ _ _ (fun q=>by have:=Nat.eq_of_beq_eq_true q; omega)) rfl)
      ·
       simp only [Option.some.injEq] at h; subst h
       exact .any _
     ·
      cases h
    ·
     cases h
   ·
    cases h
  ·
   cases h
 ·
  cases h
theorem zW {C:gK} {cx:Cx} {S:St} {w:World} {t:Nat} {x r:AV} {lo hi mx:Option D} {v:Value} {vl vh vm:Option Value} (h:ny C t x lo hi mx=some r)
  (hx:aF cx S w x v) (rl:jS cx w lo vl) (rh:jS cx w hi vh) (rm:jS cx w mx vm) :
  ∃ u,(Instr.sliceAt t v vl vh vm).run C.P w=.ok u w∧aF cx S w r u:=by
 unfold ny at h
 split at h
 ·
  rename_i s
  obtain ⟨b,rfl,rfl⟩:=hx.str
  have hlen:b.data.toList.length=b.size:=Array.length_toList
  split at h
  ·
   cases h
  ·
   rename_i hc
   simp only [Bool.or_eq_true,not_or,Bool.not_eq_true,Option.isSome_eq_false_iff,Option.isNone_iff_eq_none,Bool.not_eq_false'] at hc
   obtain ⟨rfl,hst⟩:=hc
   cases vm with
   | some _=>exact rm.elim
   | none =>
   have hu:=pO hst
   split at h
   ·
    rename_i hh l h1 h2
    split at h
    ·
     rename_i hq
     simp only [Bool.and_eq_true,decide_eq_true_eq] at hq
     simp only [Option.some.injEq] at h; subst h
     rw [hlen] at h1
     refine ⟨.string (b.extract l hh),?_,.uy _ _ ?_⟩
     ·
      rw [yO hu]
      simp only [Instr.slice,Sem.run_bind,aL w hu,Result.andThen_ok,Option.isSome_none,Bool.false_eq_true,if_false]
      rw [jd (P:=C.P) (isS:=false) (len:=b.size) (cap:=b.size) h1 h2 rl rh hq.1 (by omega)]
      rfl
     ·
      simp [ByteArray.data_extract,List.extract_eq_take_drop,List.drop_take]
    ·
     cases h
   ·
    cases h
 ·
  simp only [Option.map_eq_some_iff] at h
  obtain ⟨y,hy,rfl⟩:=h
  obtain ⟨u,h1,h2⟩:=oz hy (vQ hx.dd) rl rh rm
  have hv:=zR hx.dd
  subst hv
  refine ⟨u,h1,.d _ u ?_⟩
  have hy':∃ ys tt,y=.sl ys tt∧(ys=[]∧tt=true):=by
   unfold qZ at hy
   split at hy
   ·
    split at hy
    ·
     split at hy
     ·
      split at hy
      ·
       rename_i hq; simp only [Option.some.injEq] at hy; subst hy; simp at hq; exact ⟨_,_,rfl,by simp,by simp [hq.2]⟩
      ·
       cases hy
     ·
      split at hy
      ·
       split at hy
       ·
        rename_i hq; simp only [Option.some.injEq] at hy; subst hy; simp at hq; exact ⟨_,_,rfl,by simp,by simp; omega⟩
       ·
        cases hy
      ·
       cases hy
     ·
      cases hy
    ·
     cases hy
   ·
    cases hy
  obtain ⟨ys,tt,rfl,rfl,rfl⟩:=hy'
  obtain ⟨a,cap,rfl,hcap,ht,_⟩:=x8 h2
  have hc0:cap=0:=ht rfl
  subst hc0
  have ha:a=none:=by
   have hu:∃ e,C.P.underlying t=some (.slice e):=by
    unfold qZ at hy
    split at hy
    ·
     rename_i e he; exact ⟨e,bP he⟩
    ·
     cases hy
   obtain ⟨e,hu⟩:=hu
   rw [jE hu] at h1
   simp only [Instr.slice,Sem.run_bind,aL w hu,Result.andThen_ok] at h1
   cases hb:(Instr.sliceBounds true 0 0 vl vh vm).run C.P w with
   | halt q w'=>rw [hb] at h1; cases h1
   | ok p w' =>
    rw [hb] at h1
    simp only [Result.andThen_ok] at h1
    cases hz:(Go.sizeOf e).run C.P w' with
    | halt q w''=>rw [hz] at h1; cases h1
    | ok z w'' =>
     rw [hz] at h1
     simp only [Result.andThen_ok,Sem.run_pure,Option.map_none,ite_self,Result.ok.injEq,Value.slice.injEq] at h1
     exact h1.1.1.symm
  subst ha
  exact bA.of_cell .bJ rfl
 ·
  simp only [Option.map_eq_some_iff] at h
  obtain ⟨y,hy,rfl⟩:=h
  obtain ⟨u,h1,h2⟩:=oz hy hx.dd rl rh rm
  exact ⟨u,h1,.d y u h2⟩
 ·
  rename_i xs tok
  split at h
  ·
   simp only [Option.bind_eq_some_iff] at h
   obtain ⟨e,he,h⟩:=h
   split at h
   ·
    rename_i hd
    simp only [Option.some.injEq] at h; subst h
    cases vl with | some _=>exact rl.elim | none =>
    cases vh with | some _=>exact rh.elim | none =>
    cases vm with | some _=>exact rm.elim | none =>
    obtain ⟨d,hd⟩:=Option.isSome_iff_exists.1 hd
    refine ⟨v,?_,hx⟩
    cases hx with
    | tsl _ _ b off cap hn hdd hp =>
     have hu:=bP he
     obtain ⟨a,cap',hv,hcap,_⟩:=x8 hdd
     simp only [Value.slice.injEq] at hv
     rw [jE hu]
     simp only [Instr.slice,Sem.run_bind,aL w hu,Result.andThen_ok,jd (P:=C.P) (cx:=cx) (w:=w) (isS:=true) (len:=xs.length) (cap:=cap) (lo:=none) (hi:=none) (vl:=none) (vh:=none) (h:=xs.length) (l:=0) rfl rfl trivial trivial (by omega) (by omega),dG w hd,Sem.run_pure,Nat.zero_mul,Nat.sub_zero,Option.map_some,iw,Nat.add_zero]
     split <;> rfl
   ·
    cases h
  ·
   simp only [Option.map_eq_some_iff] at h
   obtain ⟨y,hy,rfl⟩:=h
   cases hx with
   | tsl _ _ b off cap hn hdd hp =>
    obtain ⟨u,h1,h2⟩:=oz hy hdd rl rh rm
    exact ⟨u,h1,.d y u h2⟩
 ·
  exact yR h hx rl rh rm
 ·
  rename_i id g off
  split at h
  ·
   rename_i n e hu
   split at h
   ·
    rename_i hc
    simp only [Option.some.injEq] at h; subst h
    cases vl with | some _=>exact rl.elim | none =>
    cases vh with | some _=>exact rh.elim | none =>
    cases vm with | some _=>exact rm.elim | none =>
    obtain ⟨d,hd⟩:=Option.isSome_iff_exists.1 hc.1
    cases hx with
    | ptr _ _ _ b hn hp =>
    refine ⟨.slice (some ⟨b,off,none⟩) n n,?_,.asl id g off n _ b hn (by have:=hc.2; omega) hp⟩
    simp only [Instr.sliceAt,Sem.run_bind,aL w hu,Result.andThen_ok,Instr.sureAddr,Sem.run_pure,jd (P:=C.P) (cx:=cx) (w:=w) (isS:=false) (len:=n) (cap:=n) (lo:=none) (hi:=none) (vl:=none) (vh:=none) (h:=n) (l:=0) rfl rfl trivial trivial (by omega) (by omega),dG w hd,Nat.zero_mul,Nat.sub_zero,Option.map_some,iw,Nat.add_zero]
    split <;> rfl
   ·
    cases h
  ·
   cases h
 ·
  rename_i id g off len sz
  split at h
  ·
   rename_i e k1 k2 he
   split at h
   ·
    rename_i hd
    simp only [Option.some.injEq] at h; subst h
    cases vl with | some _=>exact rl.elim | none =>
    cases vh with | none=>exact rh.elim | some vh =>
    cases vm with | none=>exact rm.elim | some vm =>
    have a1:=bA.val rh rfl; cases a1
    have a2:=bA.val rm rfl; cases a2
    obtain ⟨d,hd⟩:=Option.isSome_iff_exists.1 hd
    have hu:=bP he
    cases hx with
    | asl _ _ _ _ _ b hn h63 hp =>
    refine ⟨.slice (some ⟨b,off,none⟩) 0 0,?_,.d _ _ (bA.of_cell (.sl0 _ 0 true (fun _=>rfl)) rfl)⟩
    rw [jE hu]
    simp [Instr.slice,Instr.sliceBounds,Instr.sliceBound,asIntOf,aL w hu,dG w hd]
   ·
    cases h
  ·
   rename_i e he
   split at h
   ·
    rename_i hd
    simp only [Option.some.injEq] at h; subst h
    cases vl with | some _=>exact rl.elim | none =>
    cases vh with | some _=>exact rh.elim | none =>
    cases vm with | some _=>exact rm.elim | none =>
    obtain ⟨d,hd⟩:=Option.isSome_iff_exists.1 hd
    have hu:=bP he
    refine ⟨v,?_,hx⟩
    cases hx with
    | asl _ _ _ _ _ b hn h63 hp =>
    rw [jE hu]
    simp only [Instr.slice,Sem.run_bind,aL w hu,Result.andThen_ok,jd (P:=C.P) (cx:=cx) (w:=w) (isS:=true) (len:=len) (cap:=len) (lo:=none) (hi:=none) (vl:=none) (vh:=none) (h:=len) (l:=0) rfl rfl trivial trivial (by omega) (by omega),dG w hd,Sem.run_pure,Nat.zero_mul,Nat.sub_zero,Option.map_some,iw,Nat.add_zero]
    split <;> rfl
   ·
    cases h
  ·
   cases h
 ·
  cases h
end
end Go.Ev

namespace Go.Ev
noncomputable section
set_option linter.unusedVariables false
set_option linter.unusedSimpArgs false
theorem mR {α β:Type} {f:α→Option β}:∀ {l:List α} {r:List β},iW f l=some r→r.length=l.length∧∀ (i:Nat) (x:α) (y:β),l[i]? = some x→r[i]? = some y→f x=some y
 | [],r,h=>by simp [iW] at h; subst h; simp
 | a :: l,r,h=>by
  simp only [iW] at h
  cases hf:f a with
  | none=>rw [hf] at h; cases h
  | some b =>
   rw [hf] at h
   simp only [Option.map_eq_some_iff] at h
   obtain ⟨r',h1,rfl⟩:=h
   obtain ⟨h2,h3⟩:=mR h1
   refine ⟨by simp [h2],fun i x y hx hy=>?_⟩
   cases i with
   | zero=>simp at hx hy; subst hx; subst hy; exact hf
   | succ i=>simp at hx hy; exact h3 i x y hx hy
theorem pq {v:Value} {x:D} (h:ru v=some x) (w:World) (fr:Nat→Nat→Prop):gL w fr x [v]∧x.isAgg=false:=by
 unfold ru at h
 split at h <;> simp only [Option.some.injEq,reduceCtorEq] at h <;> subst h
 ·
  exact ⟨.bool _,rfl⟩
 ·
  exact ⟨.int _ _,rfl⟩
 ·
  exact ⟨.flt _ _,rfl⟩
 ·
  exact ⟨.str _,rfl⟩
 ·
  exact ⟨.nilp,rfl⟩
 ·
  exact ⟨.bJ,rfl⟩
 ·
  exact ⟨.nilm,rfl⟩
 ·
  exact ⟨.nilf,rfl⟩
 ·
  exact ⟨.nili,rfl⟩
theorem mH {v:Value} {x:D} (h:ofConst v=some x) (w:World) (fr:Nat→Nat→Prop):bA w fr x v:=by
 unfold ofConst at h
 split at h
 ·
  rename_i a
  simp only [Option.map_eq_some_iff] at h
  obtain ⟨xs,h1,rfl⟩:=h
  obtain ⟨h2,h3⟩:=mR h1
  have key:∀ (i:Nat) (x:D) (v:Value),xs[i]? = some x→a.toList[i]? = some v→gL w fr x [v]∧x.isAgg=false:=fun i x v hx hv=>pq (h3 i v x hv hx) w fr
  refine ⟨.agg xs a.toList h2.symm (fun v hv=>?_) (fun x hx=>?_) (fun i x v hx hv=>(key i x v hx hv).1),rfl⟩
  ·
   obtain ⟨i,hi⟩:=List.mem_iff_getElem?.1 hv
   have hlt:i < xs.length:=by rw [h2]; exact (List.getElem?_eq_some_iff.1 hi).1
   obtain ⟨q1,q2⟩:=key i xs[i] v (List.getElem?_eq_getElem hlt) hi
   exact q1.one q2
  ·
   obtain ⟨i,hi⟩:=List.mem_iff_getElem?.1 hx
   have hlt:i < a.toList.length:=by rw [← h2]; exact (List.getElem?_eq_some_iff.1 hi).1
   exact (key i x a.toList[i] hi (List.getElem?_eq_getElem hlt)).2
 ·
  obtain ⟨q1,q2⟩:=pq h w fr
  exact bA.of_cell q1 q2
theorem jC {P:Program} {t:Nat} {x:D} (h:zeroOf P t=some x) (w:World) (fr:Nat→Nat→Prop):∃ z,(zeroValue t).run P w=.ok z w∧bA w fr x z:=by
 unfold zeroOf at h
 split at h
 ·
  rename_i i hi
  simp only [Option.bind_eq_some_iff] at h
  obtain ⟨z,hz,h⟩:=h
  exact ⟨z,by simp [zeroValue,typeInfo,hi,hz],mH h w fr⟩
 ·
  cases h
theorem vW {xs:List D} {s:List UInt8} (h:jR xs=some s):∃ ns:List Int,xs=ns.map (.int .u8)∧s=ns.map fun n=>UInt8.ofNat n.toNat:=by
 induction xs generalizing s with
 | nil=>simp [jR] at h; subst h; exact ⟨[],rfl,rfl⟩
 | cons x xs ih =>
  unfold jR at h
  split at h
  ·
   rename_i e; simp at e
  ·
   rename_i n l e
   simp only [List.cons.injEq] at e
   obtain ⟨rfl,rfl⟩:=e
   simp only [Option.map_eq_some_iff] at h
   obtain ⟨s',h1,rfl⟩:=h
   obtain ⟨ns,h2,h3⟩:=ih h1
   exact ⟨n :: ns,by simp [h2],by simp [h3]⟩
  ·
   cases h
theorem foldl_push (ns:List Int):∀ (b:ByteArray),(ns.foldl (fun r n=>r.push (UInt8.ofNat n.toNat)) b).data.toList=b.data.toList ++ ns.map fun n=>UInt8.ofNat n.toNat:=by
 induction ns with
 | nil=>intro b; simp
 | cons n ns ih =>
  intro b
  simp only [List.foldl_cons,List.map_cons]
  rw [ih]
  simp [ByteArray.push]
theorem zX {C:gK} {t:Nat} (h:oK C t=true):∃ e,C.P.underlying t=some (.slice e)∧C.P.underlying e=some (.int .u8):=by
 unfold oK at h
 split at h
 ·
  rename_i e he
  split at h
  ·
   rename_i hk; exact ⟨e,bP he,xI hk⟩
  ·
   cases h
 ·
  cases h
theorem oW {C:gK} {cx:Cx} {S:St} {w:World} {src dst:Nat} {xs:List D} {tight:Bool} {s:List UInt8} {v:Value} (hx:bA w cx.fr (.sl xs tight) v) (hst:nI C.P dst=true)
  (hb:oK C src=true) (h:jR xs=some s):∃ u,(convert src dst v).run C.P w=.ok u w∧aF cx S w (.d (.str s)) u:=by
 obtain ⟨e,hs,he⟩:=zX hb
 have hd:=pO hst
 obtain ⟨ns,rfl,rfl⟩:=vW h
 obtain ⟨a,cap,rfl,hcap,_,hm⟩:=x8 hx
 rw [run_convert_bytes_string w src dst e a _ _ hs he hd]
 by_cases hne:ns=[]
 ·
  subst hne
  refine ⟨.string .empty,?_,.uy _ _ rfl⟩
  cases a with
  | none=>simp [Conv.bytesToString]
  | some ad =>
   have:=run_bytesToString (P:=C.P) w ad 0 cap [] (by simp [loadCells,loadCellsFrom])
   simpa using this
 ·
  obtain ⟨b,off,sz,vs,rfl,h1,h2,h3,h4⟩:=hm (by simpa using hne)
  have hsz:sz=1:=by
   cases ns with
   | nil=>exact absurd rfl hne
   | cons n ns=>have:=h1 0 (.int .u8 n) (by simp); simp [D.cells] at this; omega
  subst hsz
  have hl:(loadCells ⟨b,off,none⟩ (ns.map (Value.int .u8)).length).run C.P w=.ok (ns.map (Value.int .u8)).toArray w:=by
   refine run_loadCells_list w _ _ (fun j v hv=>?_)
   simp only [List.getElem?_map,Option.map_eq_some_iff] at hv
   obtain ⟨n,hn,rfl⟩:=hv
   have hj:j < ns.length:=(List.getElem?_eq_some_iff.1 hn).1
   have hc:=h3 j (.int .u8 n) (by simp [hn])
   generalize hq:vs j=q at hc
   cases hc with
   | int =>
    have:=(h4 j 0 (.int .u8 n) (by simpa using hj) (by rw [hq]; rfl)).1
    rw [iw]
    simpa using this
  refine ⟨_,run_bytesToString (P:=C.P) w _ _ cap ns (by simpa using hl),.uy _ _ ?_⟩
  rw [foldl_push]
  show [] ++ _=_
  rfl
theorem Az {C:gK} {cx:Cx} {S:St} {w:World} {src dst:Nat} {x r:AV} {v:Value} (h:uR C src dst x=some r) (hx:aF cx S w x v) :
  ∃ u,(convert src dst v).run C.P w=.ok u w∧aF cx S w r u:=by
 unfold uR at h
 split at h
 ·
  rename_i k n
  have:=hx.int; subst this
  split at h
  ·
   rename_i hs
   obtain ⟨d,hs⟩:=Option.isSome_iff_exists.1 hs
   simp only [Option.map_eq_some_iff] at h
   obtain ⟨k',hk,rfl⟩:=h
   exact ⟨_,by simp only [convert,Sem.run_bind,aL w hs,aL w (xI hk),Result.andThen_ok]; rfl,.of_int _ _⟩
  ·
   cases h
 ·
  rename_i s
  split at h
  ·
   rename_i hs
   simp only [Bool.and_eq_true] at hs
   obtain ⟨d,hs2⟩:=Option.isSome_iff_exists.1 hs.2
   simp only [Option.some.injEq] at h; subst h
   obtain ⟨b,rfl,rfl⟩:=hx.str
   refine ⟨.string b,?_,hx⟩
   simp only [convert,Sem.run_bind,aL w hs2,aL w (pO hs.1),Result.andThen_ok]
   cases d <;> rfl
  ·
   cases h
 ·
  split at h
  ·
   rename_i hs
   simp only [Bool.and_eq_true] at hs
   simp only [Option.some.injEq] at h; subst h
   exact oW (vQ hx.dd) hs.1 hs.2 rfl
  ·
   cases h
 ·
  split at h
  ·
   rename_i hs
   simp only [Bool.and_eq_true] at hs
   simp only [Option.map_eq_some_iff] at h
   obtain ⟨s,h1,rfl⟩:=h
   exact oW hx.dd hs.1 hs.2 h1
  ·
   cases h
 ·
  split at h
  ·
   rename_i hs
   simp only [Bool.and_eq_true] at hs
   simp only [Option.map_eq_some_iff] at h
   obtain ⟨s,h1,rfl⟩:=h
   cases hx with
   | tsl _ _ b off cap hn hd hp=>exact oW hd hs.1 hs.2 h1
  ·
   cases h
 ·
  cases h
theorem Cg {R:bL} {C:gK} {cx:Cx} {S:St} {w:World} (hS:aS R cx S w) {t:Nat} {x:AV} {n:Nat} {v:Value} {ty:Nat} (ht:p8 C t x=true) (h:mo x S=some n) (hx:aF cx S w x v) :
  (Builtin.len_ #[t] ty #[v]).run C.P w=.ok (.int .i64 n) w:=by
 unfold p8 at ht
 split at ht
 ·
  rename_i hu
  split at ht
  ·
   rename_i s
   obtain ⟨b,rfl,rfl⟩:=hx.str
   have hlen:b.data.toList.length=b.size:=Array.length_toList
   simp only [mo,Option.some.injEq] at h
   subst h
   rw [hlen]
   simp [Builtin.len_,aL w hu,goInt]
  ·
   cases ht
 ·
  rename_i e hu
  split at ht
  ·
   have:=zR hx.dd; subst this
   simp only [mo,Option.some.injEq] at h; subst h
   simp [Builtin.len_,aL w hu,goInt]
  ·
   obtain ⟨a,cap,rfl,_⟩:=x8 hx.dd
   simp only [mo,Option.some.injEq] at h; subst h
   simp [Builtin.len_,aL w hu,goInt]
  ·
   cases hx
   simp only [mo,Option.some.injEq] at h; subst h
   simp [Builtin.len_,aL w hu,goInt]
  ·
   cases hx
   simp only [mo,Option.some.injEq] at h; subst h
   simp [Builtin.len_,aL w hu,goInt]
  ·
   cases hx
   simp only [mo,Option.some.injEq] at h; subst h
   simp [Builtin.len_,aL w hu,goInt]
  ·
   cases ht
 ·
  rename_i k e hu
  split at ht
  ·
   have:=hx.dd.val rfl; cases this
   simp only [mo,Option.some.injEq] at h; subst h
   simp [Builtin.len_,aL w hu,goInt]
  ·
   simp only [mo] at h
   split at h
   ·
    rename_i es hg
    simp only [Option.some.injEq] at h; subst h
    cases hx with
    | map _ b hn hp =>
     have hb:=hp (by simp [cur,hg])
     subst hb
     obtain ⟨_,_,ms,clk,a1,a2,_⟩:=hS.maps _ es hg
     simp [Builtin.len_,aL w hu,goInt,getObj,Sem.run,a1,a2.1]
   ·
    cases h
  ·
   cases ht
 ·
  cases ht
theorem qY {P:Program} {cx:Cx} {S:St} {w:World} {f:Int→Int→Int} {g:Value→Value→Sem Value} (hg:∀ k a b,(g (.int k a) (.int k b)).run P w=.ok (.int k (f a b)) w) :
  ∀ (n:Nat) (l:List AV) (r:D) (vs:List Value),l.length=n→qE f l=some r→vs.length=l.length→(∀ (i:Nat) (x:AV) (v:Value),l[i]? = some x→vs[i]? = some v→aF cx S w x v) →
  ∃ v rest k z,vs=v :: rest∧r=.int k z∧(rest.foldlM g v).run P w=.ok (.int k z) w:=by
 intro n
 induction n with
 | zero =>
  intro l r vs hl h
  cases l with
  | nil=>unfold qE at h; cases h
  | cons=>simp at hl
 | succ n ih =>
  intro l r vs hl h hv hr
  unfold qE at h
  split at h
  ·
   rename_i k a
   simp only [Option.some.injEq] at h; subst h
   match vs,hv with
   | [v],_ =>
    have:=(hr 0 _ v rfl rfl).int; subst this
    exact ⟨_,[],k,a,rfl,rfl,rfl⟩
  ·
   rename_i k a k' b l'
   split at h
   ·
    rename_i hk
    subst hk
    match vs,hv with
    | v1 :: v2 :: rest,hv =>
     have e1:=(hr 0 _ v1 rfl rfl).int; subst e1
     have e2:=(hr 1 _ v2 rfl rfl).int; subst e2
     obtain ⟨v,rest',k2,z,h1,h2,h3⟩:=ih (.d (.int k (f a b)) :: l') r (.int k (f a b) :: rest) (by simpa using hl) h (by simpa using hv) (fun i x u hx hu=>by
      cases i with
      | zero=>simp at hx hu; subst hx; subst hu; exact .of_int _ _
      | succ i=>exact hr (i + 2) x u (by simpa using hx) (by simpa using hu))
     simp only [List.cons.injEq] at h1
     obtain ⟨rfl,rfl⟩:=h1
     refine ⟨_,_,k2,z,rfl,h2,?_⟩
     simp only [List.foldlM_cons,Sem.run_bind,hg,Result.andThen_ok]
     exact h3
   ·
    cases h
  ·
   cases h
end
end Go.Ev

namespace Go.Ev
noncomputable section
set_option linter.unusedVariables false
set_option linter.unusedSimpArgs false
theorem zK (off:Nat):∀ (vs:List Value) (k:Nat) (arr:Array Value),((vs.zipIdx k).foldl (fun cs (c,j)=>cs.setIfInBounds (off + j) c) arr).toList=setAt arr.toList (off + k) vs:=by
 intro vs
 induction vs with
 | nil=>intro k arr; rfl
 | cons v vs ih =>
  intro k arr
  simp only [List.zipIdx_cons,List.foldl_cons]
  rw [ih,setAt]
  simp [Nat.add_assoc]
def Pw {α:Type} (Rl:α→Value→Prop) (cs:List α) (vs:List Value):Prop :=
 vs.length=cs.length∧(∀ v ∈ vs,v.oneCell'=true)∧∀ (i:Nat) (x:α) (v:Value),cs[i]? = some x→vs[i]? = some v→Rl x v
theorem Pw.setAt {α:Type} {Rl:α→Value→Prop} {cs ds:List α} {vs us:List Value} (h:Pw Rl cs vs) (k:Pw Rl ds us) (off:Nat) (hle:off + ds.length ≤ cs.length):Pw Rl (setAt cs off ds) (Ev.setAt vs off us):=by
 obtain ⟨h1,h2,h3⟩:=h
 obtain ⟨k1,k2,k3⟩:=k
 have hle':off + us.length ≤ vs.length:=by omega
 refine ⟨by simp [dU,h1],fun v hv=>?_,fun i x v hx hv=>?_⟩
 ·
  obtain ⟨i,hi⟩:=List.mem_iff_getElem?.1 hv
  rw [fe _ _ _ _ hle'] at hi
  split at hi
  ·
   exact k2 v (List.mem_of_getElem? hi)
  ·
   exact h2 v (List.mem_of_getElem? hi)
 ·
  rw [fe _ _ _ _ hle] at hx
  rw [fe _ _ _ _ hle',k1] at hv
  by_cases hc:off ≤ i∧i < off + ds.length
  ·
   rw [if_pos hc] at hx hv; exact k3 _ x v hx hv
  ·
   rw [if_neg hc] at hx hv; exact h3 i x v hx hv
theorem qp {α:Type} {Rl:α→Value→Prop} {cellsOf:AV→Option (List α)} {pl:Nat→Option (Nat × Nat)}:∀ (ps:List (Nat × AV)) (us:List (Nat × Value)) (cs cs':List α) (arr:Array Value),
  j4 cellsOf pl cs ps=some cs'→us.length=ps.length →
  (∀ (i:Nat) (p:Nat × AV) (u:Nat × Value),ps[i]? = some p→us[i]? = some u→p.1=u.1∧∀ ds,cellsOf p.2=some ds→Pw Rl ds u.2.cells.toList)→Pw Rl cs arr.toList →
  ∃ arr',Instr.fill pl arr us=some arr'∧Pw Rl cs' arr'.toList:=by
 intro ps
 induction ps with
 | nil =>
  intro us cs cs' arr h hl hr hp
  cases us with
  | nil=>simp [j4] at h; subst h; exact ⟨arr,rfl,hp⟩
  | cons=>simp at hl
 | cons p ps ih =>
  intro us cs cs' arr h hl hr hp
  cases us with
  | nil=>simp at hl
  | cons u us =>
   obtain ⟨i,v⟩:=p
   obtain ⟨i',x⟩:=u
   obtain ⟨e1,e2⟩:=hr 0 (i,v) (i',x) rfl rfl
   simp only at e1
   subst e1
   simp only [j4] at h
   split at h
   ·
    rename_i off size ds hpl hds
    split at h
    ·
     rename_i hc
     have hq:=e2 ds hds
     have hx:x.cells.size=ds.length:=by rw [← hq.1]; simp
     have hs:arr.size=cs.length:=by rw [← hp.1]; simp
     have hp':Pw Rl (Ev.setAt cs off ds) (x.cells.zipIdx.foldl (fun cs (c,j)=>cs.setIfInBounds (off + j) c) arr).toList:=by
      rw [← Array.foldl_toList,Array.toList_zipIdx,zK]
      exact hp.setAt hq off hc.2
     obtain ⟨arr',h1,h2⟩:=ih us _ cs' _ h (by simpa using hl) (fun j p u hj hu=>hr (j + 1) p u (by simpa using hj) (by simpa using hu)) hp'
     refine ⟨arr',?_,h2⟩
     simp only [Instr.fill,hpl]
     rw [if_neg (by simp; omega)]
     exact h1
    ·
     cases h
   ·
    cases h
theorem jq {cx:Cx} {S:St} {w:World} {x:AV} {v:Value} (h:aF cx S w x v) (hp:x.plain=true):Pw (aF cx S w) x.cells v.cells.toList:=by
 have:=h.cells (fun l q=>by subst q; simp [AV.plain] at hp) (fun q=>by subst q; simp [AV.plain] at hp)
 exact ⟨this.1,this.2.1,this.2.2⟩
theorem Dv:(∀ (n:Nat) (x:AV) (y:D) (cx:Cx) (S:St) (w:World) (v:Value),SizeOf.sizeOf x ≤ n→vH x=some y→aF cx S w x v→bA w cx.fr y v):=by
 intro n
 induction n with
 | zero=>intro x y cx S w v hs; cases x <;> simp at hs
 | succ n ih =>
  intro x y cx S w v hs h hx
  cases x with
  | d z=>simp [vH] at h; subst h; exact hx.dd
  | tsl xs tok=>simp [vH] at h; subst h; cases hx; assumption
  | agg l =>
   simp only [vH,Option.map_eq_some_iff] at h
   obtain ⟨ys,hy,rfl⟩:=h
   cases hx with
   | agg _ vs hl ho hr =>
    have key:∀ (l:List AV) (ys:List D),jW l=some ys→ys.length=l.length∧∀ (i:Nat) (x:AV) (y:D),l[i]? = some x→ys[i]? = some y→vH x=some y:=by
     intro l
     induction l with
     | nil=>intro ys h; simp [jW] at h; subst h; simp
     | cons a l ihl =>
      intro ys h
      simp only [jW] at h
      split at h
      ·
       rename_i b hb
       simp only [Option.map_eq_some_iff] at h
       obtain ⟨zs,h1,rfl⟩:=h
       obtain ⟨h2,h3⟩:=ihl zs h1
       refine ⟨by simp [h2],fun i x y hx hy=>?_⟩
       cases i with
       | zero=>simp at hx hy; subst hx; subst hy; exact hb
       | succ i=>simp at hx hy; exact h3 i x y hx hy
      ·
       cases h
    obtain ⟨k1,k2⟩:=key l ys hy
    have hd:∀ (i:Nat) (y:D) (v:Value),ys[i]? = some y→vs[i]? = some v→bA w cx.fr y v:=by
     intro i y v hy hv
     have hlt:i < l.length:=by rw [← k1]; exact (List.getElem?_eq_some_iff.1 hy).1
     have hx:=List.getElem?_eq_getElem hlt
     refine ih l[i] y cx S w v ?_ (k2 i _ y hx hy) (hr i _ v hx hv)
     have:=List.sizeOf_lt_of_mem (List.getElem_mem hlt)
     simp at hs; omega
    refine ⟨.agg ys vs (by omega) ho (fun x hx=>?_) (fun i x v hx hv=>?_),rfl⟩
    ·
     obtain ⟨i,hi⟩:=List.mem_iff_getElem?.1 hx
     have hlt:i < vs.length:=by rw [hl,← k1]; exact (List.getElem?_eq_some_iff.1 hi).1
     have:=(hd i x _ hi (List.getElem?_eq_getElem hlt)).2
     rw [this]; exact uE (ho _ (List.getElem_mem hlt))
    ·
     have:=(hd i x v hx hv).1
     rwa [ni (ho v (List.mem_of_getElem? hv))] at this
  | _=>simp [vH] at h
theorem kz {x:AV} {y:D} {cx:Cx} {S:St} {w:World} {v:Value} (h:vH x=some y) (hx:aF cx S w x v):bA w cx.fr y v:=Dv _ x y cx S w v (Nat.le_refl _) h hx
theorem rR:∀ {l:List AV} {ys:List D},jW l=some ys→ys.length=l.length∧∀ (i:Nat) (x:AV) (y:D),l[i]? = some x→ys[i]? = some y→vH x=some y:=by
 intro l
 induction l with
 | nil=>intro ys h; simp [jW] at h; subst h; simp
 | cons a l ihl =>
  intro ys h
  simp only [jW] at h
  split at h
  ·
   rename_i b hb
   simp only [Option.map_eq_some_iff] at h
   obtain ⟨zs,h1,rfl⟩:=h
   obtain ⟨h2,h3⟩:=ihl h1
   refine ⟨by simp [h2],fun i x y hx hy=>?_⟩
   cases i with
   | zero=>simp at hx hy; subst hx; subst hy; exact hb
   | succ i=>simp at hx hy; exact h3 i x y hx hy
  ·
   cases h
theorem bA.xS {w:World} {fr:Nat→Nat→Prop} {x:D} {v:Value} (h:bA w fr x v):Pw (bA w fr) x.cells v.cells.toList:=by
 obtain ⟨h1,h2,h3⟩:=h.1.cells
 exact ⟨h1,h2,h3⟩
def tQ (cx:Cx) (S:St) (w:World) (ρ:Operand→Option AV) (σ:Operand→Value):Prop:=∀ x y,ρ x=some y→aF cx S w y (σ x)
theorem oH {cx:Cx} {S:St} {w:World} {ρ:Operand→Option AV} {σ:Operand→Value} (hρ:tQ cx S w ρ σ) {parts:Array (Nat × Operand)} {ps:List (Nat × AV)} (h:qO ρ parts=some ps) :
  (parts.map fun (i,x)=>(i,σ x)).toList.length=ps.length∧∀ (i:Nat) (p:Nat × AV) (u:Nat × Value),ps[i]? = some p→(parts.map fun (i,x)=>(i,σ x)).toList[i]? = some u→p.1=u.1∧aF cx S w p.2 u.2:=by
 obtain ⟨h1,h2⟩:=mR h
 refine ⟨by simp [h1],fun i p u hp hu=>?_⟩
 simp only [Array.toList_map,List.getElem?_map,Option.map_eq_some_iff] at hu
 obtain ⟨q,hq,rfl⟩:=hu
 have:=h2 i q p hq hp
 simp only [Option.map_eq_some_iff] at this
 obtain ⟨v,hv,rfl⟩:=this
 exact ⟨rfl,hρ _ _ hv⟩
theorem zn {P:Program} (fs:List Field) (h:∀ f ∈ fs,(P.underlying f.type).isSome=true):fs.mapM (fun f=>(P.info? f.type).map fun i=>(f.offset,i.size))=some (fs.map fun f=>(f.offset,aH P f.type)):=by
 induction fs with
 | nil=>rfl
 | cons f fs ih =>
  obtain ⟨d,hd⟩:=Option.isSome_iff_exists.1 (h f (by simp))
  obtain ⟨i,hi⟩:=iM hd
  simp [List.mapM_cons,hi,ih (fun g hg=>h g (by simp [hg])),aH]
theorem zS {C:gK} {cx:Cx} {S:St} {w:World} {ρ:Operand→Option AV} {σ:Operand→Value} (hρ:tQ cx S w ρ σ) {t:Nat} {parts:Array (Nat × Operand)} {ps:List (Nat × AV)} {z:D} {pl:Nat→Option (Nat × Nat)} {cs:List AV}
  (hz:zeroOf C.P t=some z) (hps:qO ρ parts=some ps) (hpl:oper.P_place C t=some pl) (hf:j4 lW pl (AV.d z).cells ps=some cs) :
  ∃ u,(Instr.build t (parts.map fun (i,x)=>(i,σ x))).run C.P w=.ok u w∧aF cx S w (jI cs) u:=by
 obtain ⟨e1,e2⟩:=oH hρ hps
 unfold zeroOf at hz
 split at hz
 ·
  rename_i it hi
  simp only [Option.bind_eq_some_iff] at hz
  obtain ⟨zv,hz1,hz2⟩:=hz
  have hzr:aF cx S w (.d z) zv:=.d _ _ (mH hz2 w cx.fr)
  obtain ⟨arr',f1,f2⟩:=qp (Rl:=aF cx S w) ps (parts.map fun (i,x)=>(i,σ x)).toList (AV.d z).cells cs zv.cells hf e1 (fun i p u hp hu=>⟨(e2 i p u hp hu).1,fun ds hds=>by
   unfold lW at hds
   cases hpn:p.2.plain with
   | true=>rw [hpn] at hds; simp at hds; subst hds; exact jq (e2 i p u hp hu).2 hpn
   | false=>rw [hpn] at hds; simp at hds⟩) (jq hzr rfl)
  have hb:C.P.built t (parts.map fun (i,x)=>(i,σ x)).toList=some arr':=by
   unfold Program.built
   unfold oper.P_place at hpl
   split at hpl
   ·
    rename_i fs hu
    split at hpl
    ·
     rename_i hall
     simp only [Option.some.injEq] at hpl
     subst hpl
     rw [hi,hu]
     simp only [hz1]
     rw [zn fs.toList (fun f hf=>by
      have:=Array.all_eq_true_iff_forall_mem.1 hall f (by simpa using hf)
      exact this)]
     simp only
     rw [← f1]
     congr 1
     funext i
     simp
    ·
     cases hpl
   ·
    rename_i n e hu
    split at hpl
    ·
     rename_i hd
     simp only [Option.some.injEq] at hpl
     subst hpl
     obtain ⟨d,hd⟩:=Option.isSome_iff_exists.1 hd
     obtain ⟨ie,hie⟩:=iM hd
     rw [hi,hu]
     simp only [hz1,hie]
     rw [← f1]
     simp [aH,hie]
    ·
     cases hpl
   ·
    cases hpl
  refine ⟨.agg arr',run_build w t _ arr' hb,?_⟩
  have:=aF.jI f2.1 f2.2.1 f2.2.2
  simpa using this
 ·
  cases hz
end
end Go.Ev

namespace Go.Ev
noncomputable section
set_option linter.unusedVariables false
set_option linter.unusedSimpArgs false
theorem Pw.append {α:Type} {Rl:α→Value→Prop} {cs ds:List α} {vs us:List Value} (h:Pw Rl cs vs) (k:Pw Rl ds us):Pw Rl (cs ++ ds) (vs ++ us):=by
 obtain ⟨h1,h2,h3⟩:=h
 obtain ⟨k1,k2,k3⟩:=k
 refine ⟨by simp [h1,k1],fun v hv=>(List.mem_append.1 hv).elim (h2 v) (k2 v),fun i x v hx hv=>?_⟩
 rw [List.getElem?_append] at hx hv
 by_cases hi:i < cs.length
 ·
  rw [if_pos hi] at hx; rw [if_pos (by omega)] at hv; exact h3 i x v hx hv
 ·
  rw [if_neg hi] at hx; rw [if_neg (by omega),h1] at hv; exact k3 _ x v hx hv
theorem Pw.nil {α:Type} {Rl:α→Value→Prop}:Pw Rl ([]:List α) []:=⟨rfl,by simp,by simp⟩
theorem Pw.Ic {α:Type} {Rl:α→Value→Prop} {cs:List α} {vs:List Value} (h:Pw Rl cs vs) (a n:Nat):Pw Rl ((cs.drop a).take n) ((vs.drop a).take n):=by
 obtain ⟨h1,h2,h3⟩:=h
 refine ⟨by simp [h1],fun v hv=>h2 v (List.mem_of_mem_drop (List.mem_of_mem_take hv)),fun i x v hx hv=>?_⟩
 by_cases hi:i < n
 ·
  rw [List.getElem?_take,if_pos hi,List.getElem?_drop] at hx hv
  exact h3 _ x v hx hv
 ·
  rw [List.getElem?_take,if_neg hi] at hx; cases hx
theorem Pw.flat {α:Type} {Rl:α→Value→Prop} {z:List α} {zv:List Value} (h:Pw Rl z zv):∀ n,Pw Rl (List.replicate n z).flatten (List.replicate n zv).flatten
 | 0=>Pw.nil
 | n + 1=>by simp only [List.replicate_succ,List.flatten_cons]; exact h.append (Pw.flat h n)
theorem qi (Z:Array Value) (n:Nat) (h:0 < Z.size):((Array.range (n * Z.size)).map (Z[· % Z.size]!)).toList=(List.replicate n Z.toList).flatten:=by
 rw [Array.toList_map,Array.toList_range]
 induction n with
 | zero=>simp
 | succ n ih =>
  rw [List.replicate_succ',List.flatten_append,← ih,Nat.succ_mul,List.range_add,List.map_append]
  congr 1
  simp only [List.flatten_cons,List.flatten_nil,List.append_nil,List.map_map]
  apply List.ext_getElem?
  intro i
  by_cases hi:i < Z.size
  ·
   have:(n * Z.size + i) % Z.size=i:=by
    rw [Nat.mul_comm,Nat.mul_add_mod,Nat.mod_eq_of_lt hi]
   simp [hi,this]
  ·
   simp [hi]
theorem qQ {α:Type} (sz:Nat):∀ (n:Nat) (l:List α),(chunk sz n l).length=n
 | 0,l=>rfl
 | n + 1,l=>by simp [chunk,qQ sz n]
theorem sw {α:Type} (sz:Nat):∀ (n:Nat) (l:List α) (i:Nat),i < n→(chunk sz n l)[i]? = some ((l.drop (i * sz)).take sz)
 | 0,l,i,h=>by omega
 | n + 1,l,0,h=>by simp [chunk]
 | n + 1,l,i + 1,h=>by
  simp only [chunk,List.getElem?_cons_succ]
  rw [sw sz n (l.drop sz) i (by omega),List.drop_drop,Nat.succ_mul,Nat.add_comm]
theorem xz {w:World} {fr:Nat→Nat→Prop} {ag:Bool} {c:List D} {vs:List Value} {x:D} (h:sQ ag c=some x) (hp:Pw (bA w fr) c vs):gL w fr x vs∧x.cells.length=c.length:=by
 obtain ⟨h1,h2,h3⟩:=hp
 have hd:∀ (i:Nat) (x:D) (v:Value),c[i]? = some x→vs[i]? = some v→x.isAgg=false∧gL w fr x [v]:=fun i x v hx hv=>by
  have hr:=h3 i x v hx hv
  have ho:=h2 v (List.mem_of_getElem? hv)
  refine ⟨by rw [hr.2]; exact uE ho,?_⟩
  have:=hr.1
  rwa [ni ho] at this
 unfold sQ at h
 cases ag with
 | true =>
  simp at h; subst h
  refine ⟨.agg c vs h1 h2 (fun x hx=>?_) (fun i x v hx hv=>(hd i x v hx hv).2),rfl⟩
  obtain ⟨i,hi⟩:=List.mem_iff_getElem?.1 hx
  have hlt:i < vs.length:=by rw [h1]; exact (List.getElem?_eq_some_iff.1 hi).1
  exact (hd i x _ hi (List.getElem?_eq_getElem hlt)).1
 | false =>
  match c,h with
  | [y],h =>
   simp at h; subst h
   match vs,h1 with
   | [v],_ =>
    obtain ⟨q1,q2⟩:=hd 0 y v rfl rfl
    exact ⟨q2,by cases y <;> first | rfl | simp [D.isAgg] at q1⟩
theorem Hr {w:World} {fr:Nat→Nat→Prop} {ag tight:Bool} {sz len cap b:Nat} {cs:List D} {vs:List Value} {arr:Array Value} {el:Nat} {xs:List D} (h:iW (sQ ag) (chunk sz len cs)=some xs)
  (hp:Pw (bA w fr) cs vs) (hl:cs.length=len * sz) (hb:∀ (i:Nat) (v:Value),vs[i]? = some v→w.cell? ⟨b,i,none⟩=some v∧¬ fr b i) (hc:len ≤ cap) (ht:tight=true→cap=len) :
  bA w fr (.sl xs tight) (.slice (some ⟨b,0,none⟩) len cap):=by
 obtain ⟨h1,h2⟩:=mR h
 rw [qQ] at h1
 subst h1
 refine GN hc ht (fun hne=>⟨b,0,sz,fun i=>(vs.drop (i * sz)).take sz,rfl,fun i x hx=>?_,fun i hi=>?_,fun i x hx=>?_,fun i j u hi hu=>?_⟩)
 ·
  have hi:=(List.getElem?_eq_some_iff.1 hx).1
  have:=(xz (h2 i _ x (sw sz _ cs i hi) hx) (hp.Ic (i * sz) sz)).2
  rw [this]
  have hle:(i + 1) * sz ≤ xs.length * sz:=Nat.mul_le_mul_right sz hi
  rw [Nat.succ_mul] at hle
  simp; omega
 ·
  have hle:(i + 1) * sz ≤ xs.length * sz:=Nat.mul_le_mul_right sz hi
  rw [Nat.succ_mul] at hle
  simp [hp.1]; omega
 ·
  have hi:=(List.getElem?_eq_some_iff.1 hx).1
  exact (xz (h2 i _ x (sw sz _ cs i hi) hx) (hp.Ic (i * sz) sz)).1
 ·
  rw [Nat.zero_add]
  by_cases hj:j < sz
  ·
   rw [List.getElem?_take,if_pos hj,List.getElem?_drop] at hu
   exact hb _ u hu
  ·
   rw [List.getElem?_take,if_neg hj] at hu; cases hu
theorem nN {α:Type} {cellsOf:AV→Option (List α)} {pl:Nat→Option (Nat × Nat)}:∀ (ps:List (Nat × AV)) (cs cs':List α),j4 cellsOf pl cs ps=some cs'→cs'.length=cs.length
 | [],cs,cs',h=>by simp [j4] at h; subst h; rfl
 | (i,v) :: ps,cs,cs',h=>by
  simp only [j4] at h
  split at h
  ·
   split at h
   ·
    rw [nN ps _ _ h,dU]
   ·
    cases h
  ·
   cases h
theorem rV {R:bL} (hR:ObjOk R) {C:gK} {cx:Cx} {S:St} {w:World} (hS:aS R cx S w) {ρ:Operand→Option AV} {σ:Operand→Value} (hρ:tQ cx S w ρ σ) {t e len:Nat} {parts:Array (Nat × Operand)}
  {ps:List (Nat × AV)} {z:List D} {cs xs:List D} {ag:Bool} (he:cu C.P t=some e) (hps:qO ρ parts=some ps) (hsm:len * aH C.P e ≤ 16777216)
  (hz:(if len * aH C.P e=0 then some [] else match zeroOf C.P e with | some z=>if z.cells.length=aH C.P e then some z.cells else none | none=>none)=some z)
  (hf:j4 cellsD (fun i=>some (i * aH C.P e,aH C.P e)) (List.replicate len z).flatten ps=some cs) (hag:gW C.P e=some ag) (hx:iW (sQ ag) (chunk (aH C.P e) len cs)=some xs) :
  ∃ u w',(Instr.buildSlice t len (parts.map fun (i,x)=>(i,σ x))).run C.P w=.ok u w'∧aS R cx S w'∧Ext cx S w cx S w'∧aF cx S w' (.d (.sl xs true)) u:=by
 obtain ⟨e1,e2⟩:=oH hρ hps
 have hu:=bP he
 obtain ⟨d,hd⟩:=iX hag
 obtain ⟨ie,hie⟩:=iM hd
 have hse:aH C.P e=ie.size:=by simp [aH,hie]
 obtain ⟨Z,hZ,hPz,hlz⟩:∃ Z:Array Value,((len * ie.size=0∧Z = #[])∨(len * ie.size ≠ 0∧∃ zv,(zeroValue e).run C.P w=.ok zv w∧Z=zv.cells)) ∧
   Pw (bA w cx.fr) (List.replicate len z).flatten ((Array.range (len * ie.size)).map (Z[· % Z.size]!)).toList∧(List.replicate len z).flatten.length=len * ie.size:=by
  by_cases h0:len * aH C.P e=0
  ·
   rw [if_pos h0] at hz
   simp only [Option.some.injEq] at hz
   subst hz
   rw [hse] at h0
   refine ⟨#[],.inl ⟨h0,rfl⟩,?_,by simp [h0]⟩
   rw [h0]
   simp
   exact Pw.nil
  ·
   rw [if_neg h0] at hz
   split at hz
   ·
    rename_i z0 hz0
    split at hz
    ·
     rename_i hl0
     simp only [Option.some.injEq] at hz
     subst hz
     obtain ⟨zv,r1,r2⟩:=jC hz0 w cx.fr
     have hpw:=r2.xS
     have hsz:zv.cells.size=ie.size:=by rw [← hse,← hl0,← hpw.1]; simp
     refine ⟨zv.cells,?_,?_,?_⟩
     ·
      exact .inr ⟨by rw [← hse]; exact h0,zv,r1,rfl⟩
     ·
      rw [← hsz,qi _ _ (by rw [hsz]; rw [hse] at h0; exact Nat.pos_of_ne_zero (fun q=>h0 (by rw [q,Nat.mul_zero])))]
      exact hpw.flat len
     ·
      simp [hl0,hse]
    ·
     cases hz
   ·
    cases hz
 obtain ⟨arr',f1,f2⟩:=qp (Rl:=bA w cx.fr) ps (parts.map fun (i,x)=>(i,σ x)).toList _ cs _ hf e1 (fun i p u hp hu=>⟨(e2 i p u hp hu).1,fun ds hds=>by
  unfold cellsD at hds
  split at hds
  ·
   rename_i y hy
   simp only [Option.some.injEq] at hds
   subst hds
   exact (kz hy (e2 i p u hp hu).2).xS
  ·
   cases hds⟩) hPz
 have hold:∀ b,b < w.heap.size→(w.alloc (.cells arr' e)).heap[b]? = w.heap[b]?:=fun b hb=>heap_alloc_old w _ hb
 have ext:Ext cx S w cx S (w.alloc (.cells arr' e)):=Ext.old hS (by rw [size_alloc]; omega) hold rfl rfl rfl
 refine ⟨.slice (some ⟨w.heap.size,0,none⟩) len len,w.alloc (.cells arr' e),?_,aS.old hR hS (by rw [size_alloc]; omega) hold ext,ext,?_⟩
 ·
  have hsm':¬ len * ie.size > 2 ^ 24:=by rw [← hse]; have:(2:Nat) ^ 24=16777216:=(by decide); omega
  rw [hse] at f1
  rcases hZ with ⟨h0,rfl⟩ | ⟨h0,zv,r1,rfl⟩
  ·
   simp only [Instr.buildSlice,Sem.run_bind,aL w hu,Result.andThen_ok,dG w hd,hse]
   rw [if_neg hsm',if_pos h0]
   simp only [Sem.run_bind,Sem.run_pure,Result.andThen_ok]
   rw [f1]
   simp only [newRow,Sem.run_bind,Sem.run_pure,run_newObj,Result.andThen_ok]
   rfl
  ·
   simp only [Instr.buildSlice,Sem.run_bind,aL w hu,Result.andThen_ok,dG w hd,hse]
   rw [if_neg hsm',if_neg h0]
   simp only [Sem.run_bind,Sem.run_pure,Result.andThen_ok,r1]
   rw [f1]
   simp only [newRow,Sem.run_bind,Sem.run_pure,run_newObj,Result.andThen_ok]
   rfl
 ·
  refine .d _ _ (Hr (vs:=arr'.toList) (arr:=arr') (el:=e) hx ⟨f2.1,f2.2.1,fun i x v hx hv=>(f2.2.2 i x v hx hv).mono ext.prot⟩ (by rw [nN _ _ _ hf,hlz,hse]) (fun i v hv=>⟨?_,fun hf=>?_⟩) (Nat.le_refl _) (fun _=>rfl))
  ·
   rw [cell_of (heap_alloc_new w _)]; simpa using hv
  ·
   have:=hS.lt _ _ hf; omega
end
end Go.Ev

namespace Go.Ev
noncomputable section
set_option linter.unusedVariables false
set_option linter.unusedSimpArgs false
theorem yU {R:bL} {cx:Cx} {S:St} {w:World} (h:aS R cx S w) {id en:Nat} (ht:S.T.get id=some en):cur S id=some en∧S.H.get id=none:=by
 unfold cur
 cases hH:S.H.get id with
 | some b=>have:=h.dis id b hH; rw [this] at ht; cases ht
 | none=>exact ⟨ht,rfl⟩
theorem wT {R:bL} (hR:ObjOk R) {cx cx':Cx} {S:St} {w w':World} (h:aS R cx S w) {tok en en':Nat} (ht:S.T.get tok=some en) (hlt:en < en')
  (hs:w.heap.size ≤ w'.heap.size) (h1:w'.os=w.os) (h2:w'.tape=w.tape) (h3:w'.output=w.output)
  (hoth:∀ b,b < w.heap.size→b ≠ cx.bm tok→w'.heap[b]? = w.heap[b]?)
  (hcell:∀ (b o:Nat) (v:Value),¬ cx.fr b o→w.cell? ⟨b,o,none⟩=some v→w'.cell? ⟨b,o,none⟩=some v)
  (hbm:∀ i,i ≠ tok→cx'.bm i=cx.bm i) (hfp:∀ i,i ≠ tok→∀ b,(cx'.fp i b↔cx.fp i b)) (htsz:∀ i,i ≠ tok→cx'.tsz i=cx.tsz i) (htot:∀ i,i ≠ tok→cx'.tot i=cx.tot i)
  (hfpt:∀ b,cx'.fp tok b→b=cx.bm tok∨(w.heap.size ≤ b∧b < w'.heap.size))
  (hfr1:∀ b o,¬ cx.fr b o→b < w.heap.size→¬ cx'.fr b o) (hfr2:∀ b o,b ≠ cx.bm tok→cx.fr b o→cx'.fr b o) (hfr3:∀ b o,cx'.fr b o→b < w'.heap.size)
  (hnew:C9 cx' w' tok en'):aS R cx' { S with T:=S.T.set tok en' } w'∧Ext cx S w cx' { S with T:=S.T.set tok en' } w':=by
 obtain ⟨hc,hH⟩:=yU h ht
 obtain ⟨t1,t2,tarr,tel,tfz,t3,t4,t5,t6⟩:=h.toks tok en ht
 have hlive:live S tok:=by simp [live,hc]
 have hcur:∀ i,i ≠ tok→cur { S with T:=S.T.set tok en' } i=cur S i:=fun i hi=>by
  unfold cur; simp only [AL.aR,if_neg (Ne.symm hi)]
 have hcurt:cur { S with T:=S.T.set tok en' } tok=some en':=by unfold cur; simp [hH,AL.aR]
 have hl':∀ i,live { S with T:=S.T.set tok en' } i→live S i:=fun i hl=>by
  by_cases hi:i=tok
  ·
   subst hi; exact hlive
  ·
   unfold live at *; rwa [hcur i hi] at hl
 have e:Ext cx S w cx' { S with T:=S.T.set tok en' } w':=by
  refine ⟨hs,h1,h2,h3,Nat.le_refl _,fun b o v hf hcl=>⟨hcell b o v hf hcl,hfr1 b o hf (mq hcl)⟩,fun b hb hn=>?_,fun i b hl hf=>?_,fun i gi _ hi=>⟨gi,hi⟩,fun i gi b _ h0 _ hf=>(hfp i (fun q=>by subst q; unfold isIt at h0; rw [hH] at h0; cases h0) b).2 hf,fun i g hi hg=>?_⟩
  ·
   have hne:b ≠ cx.bm tok:=fun q=>BJ hH (by simp) (hn tok hlive ((t1 b).2 q))
   exact ⟨hoth b hb hne,fun o=>⟨fun q=>Classical.byContradiction fun q'=>hfr1 b o q' hb q,hfr2 b o hne⟩⟩
  ·
   refine ⟨fun _=>⟨hl' i hl,?_⟩,fun hge=>absurd (h.wf i (hl' i hl)) (by show ¬ i < S.nx; omega)⟩
   by_cases hi:i=tok
   ·
    subst hi
    rcases hfpt b hf with q | q
    ·
     exact .inl ((t1 b).2 q)
    ·
     exact .inr q.1
   ·
    exact .inl ((hfp i hi b).1 hf)
  ·
   by_cases hi':i=tok
   ·
    subst hi'
    rw [hcurt] at hg
    simp only [Option.some.injEq] at hg
    exact ⟨en,hc,by omega,fun q=>by omega⟩
   ·
    rw [hcur i hi'] at hg
    exact ⟨g,hg,Nat.le_refl _,fun _=>⟨hbm i hi',htsz i hi',htot i hi'⟩⟩
 have hne:∀ i,live S i→i ≠ tok→∀ b,cx.fp i b→b ≠ cx.bm tok:=fun i hi hne b hf hq=>hne (h.sep i tok b hi hlive hf ((t1 b).2 hq))
 refine ⟨⟨fun i hi=>h.wf i (hl' i hi),fun i b hi=>?_,fun i g cs hi=>?_,fun i es hi=>?_,fun i k x hi=>?_,fun i n hi=>?_,fun i i' b a1 a2 f1 f2=>?_,hfr3,hR.stat _ _ _ _ h.stat e.prot (h.still e)⟩,e⟩
 ·
  have q:i ≠ tok:=fun q=>by subst q; rw [hH] at hi; cases hi
  rw [AL.aR,if_neg (Ne.symm q)]; exact h.dis i b hi
 ·
  have q:i ≠ tok:=fun q=>by subst q; rw [hH] at hi; cases hi
  obtain ⟨d1,d2,arr2,el2,d3,d4,d5⟩:=h.cells i g cs hi
  have hb:=hne i (by simp [live,cur,hi]) q _ ((d1 _).2 rfl)
  refine ⟨fun b=>by rw [hfp i q,hbm i q]; exact d1 b,fun o=>by rw [hbm i q]; exact hfr2 _ _ hb (d2 o),arr2,el2,?_,by rw [htsz i q,htot i q]; exact d4,fun j x hx=>by
   obtain ⟨v,v1,v2,v3⟩:=d5 j x hx
   exact ⟨v,v1,v2.mono e,v3⟩⟩
  rw [hbm i q,hoth _ (h.lt _ 0 (d2 0)) hb]; exact d3
 ·
  have q:i ≠ tok:=fun q=>by subst q; rw [hH] at hi; cases hi
  obtain ⟨d1,d2,ms,clk,d3,d4,d5⟩:=h.maps i es hi
  have hb:=hne i (by simp [live,cur,hi]) q _ ((d1 _).2 rfl)
  refine ⟨fun b=>by rw [hfp i q,hbm i q]; exact d1 b,fun o=>by rw [hbm i q]; exact hfr2 _ _ hb (d2 o),ms,clk,?_,d4,fun j p m hp hm=>by
   obtain ⟨v1,v2⟩:=d5 j p m hp hm
   exact ⟨v1.mono e.prot,v2.mono e⟩⟩
  rw [hbm i q,hoth _ (h.lt _ 0 (d2 0)) hb]; exact d3
 ·
  have q:i ≠ tok:=fun q=>by subst q; rw [hH] at hi; cases hi
  obtain ⟨d1,d2⟩:=h.objs i k x hi
  have hf:cx'.fp i=cx.fp i:=funext fun b=>propext (hfp i q b)
  rw [hbm i q,hf]
  have hb:=hne i (by simp [live,cur,hi]) q
  exact ⟨hR.frame k x w w' _ _ d1 (fun c hc=>hoth c ((hR.lt k x w _ _ d1).1 c hc) (hb c hc)),fun b o hbf=>hfr2 b o (hb b hbf) (d2 b o hbf)⟩
 ·
  simp only [AL.aR] at hi
  by_cases q:tok=i
  ·
   subst q
   rw [if_pos rfl] at hi
   simp only [Option.some.injEq] at hi; subst hi
   exact hnew
  ·
   rw [if_neg q] at hi
   obtain ⟨hci,hHi⟩:=yU h hi
   obtain ⟨d1,d2,arr2,el2,fz,d3,d4,d5,d6⟩:=h.toks i n hi
   have hb:=hne i (by simp [live,hci]) (Ne.symm q) _ ((d1 _).2 rfl)
   have hlt:cx.bm i < w.heap.size:=h.lt _ _ (d2 _ (Nat.le_refl _))
   refine ⟨fun b=>by rw [hfp i (Ne.symm q),hbm i (Ne.symm q)]; exact d1 b,fun o ho=>?_,arr2,el2,fz,?_,?_,?_,?_⟩
   ·
    rw [htsz i (Ne.symm q)] at ho; rw [hbm i (Ne.symm q)]; exact hfr2 _ _ hb (d2 o ho)
   ·
    rw [hbm i (Ne.symm q),hoth _ hlt hb]; exact d3
   ·
    rw [htsz i (Ne.symm q),htot i (Ne.symm q)]; exact d4
   ·
    rw [htot i (Ne.symm q)]; exact d5
   ·
    rw [htsz i (Ne.symm q)]; exact d6
 ·
  by_cases q:i=tok <;> by_cases q':i'=tok
  ·
   omega
  ·
   exfalso
   subst q
   have f2':=(hfp i' q' b).1 f2
   have hb:=hne i' (hl' i' a2) q' b f2'
   rcases hfpt b f1 with z | z
   ·
    exact hb z
   ·
    have:=h.tN hR (hl' i' a2) f2'; omega
  ·
   exfalso
   subst q'
   have f1':=(hfp i q b).1 f1
   have hb:=hne i (hl' i a1) q b f1'
   rcases hfpt b f2 with z | z
   ·
    exact hb z
   ·
    have:=h.tN hR (hl' i a1) f1'; omega
  ·
   exact h.sep i i' b (hl' i a1) (hl' i' a2) ((hfp i q b).1 f1) ((hfp i' q' b).1 f2)
structure Flat (w:World) (fr:Nat→Nat→Prop) (sz:Nat) (xs:List D) (fl:List Value):Prop where
 len:fl.length=xs.length * sz
 one:∀ v ∈ fl,v.oneCell'=true
 szs:∀ x ∈ xs,x.cells.length=sz
 rel:∀ (i:Nat) (x:D),xs[i]? = some x→gL w fr x ((fl.drop (i * sz)).take sz)
theorem Flat.mono {w w':World} {fr fr':Nat→Nat→Prop} {sz:Nat} {xs:List D} {fl:List Value} (hp:∀ (b o:Nat) (v:Value),¬ fr b o→w.cell? ⟨b,o,none⟩=some v→w'.cell? ⟨b,o,none⟩=some v∧¬ fr' b o)
  (h:Flat w fr sz xs fl):Flat w' fr' sz xs fl:=⟨h.len,h.one,h.szs,fun i x hx=>(h.rel i x hx).mono hp⟩
theorem Flat.append {w:World} {fr:Nat→Nat→Prop} {sz:Nat} {xs ys:List D} {fl gl:List Value} (h:Flat w fr sz xs fl) (k:Flat w fr sz ys gl):Flat w fr sz (xs ++ ys) (fl ++ gl):=by
 refine ⟨by simp [h.len,k.len,Nat.add_mul],fun v hv=>(List.mem_append.1 hv).elim (h.one v) (k.one v),fun x hx=>(List.mem_append.1 hx).elim (h.szs x) (k.szs x),fun i x hx=>?_⟩
 rw [List.getElem?_append] at hx
 by_cases hi:i < xs.length
 ·
  rw [if_pos hi] at hx
  have:=h.rel i x hx
  have hle:(i + 1) * sz ≤ xs.length * sz:=Nat.mul_le_mul_right sz hi
  rw [Nat.succ_mul] at hle
  have hl:=h.len
  rw [List.drop_append_of_le_length (by omega),List.take_append_of_le_length (by simp; omega)]
  exact this
 ·
  rw [if_neg hi] at hx
  have:=k.rel _ x hx
  have hge:xs.length * sz ≤ i * sz:=Nat.mul_le_mul_right sz (by omega)
  have hl:=h.len
  rw [List.drop_append,List.drop_eq_nil_of_le (by omega),List.nil_append]
  rw [show i * sz - fl.length=(i - xs.length) * sz by rw [hl,Nat.sub_mul]]
  exact this
theorem Flat.slice {w:World} {fr:Nat→Nat→Prop} {sz b cap:Nat} {xs:List D} {fl:List Value} (h:Flat w fr sz xs fl) (hc:∀ (i:Nat) (v:Value),fl[i]? = some v→w.cell? ⟨b,i,none⟩=some v∧¬ fr b i) (hcap:xs.length ≤ cap) :
  bA w fr (.sl xs false) (.slice (some ⟨b,0,none⟩) xs.length cap):=by
 refine GN hcap (fun q=>by cases q) (fun hne=>⟨b,0,sz,fun i=>(fl.drop (i * sz)).take sz,rfl,fun i x hx=>h.szs x (List.mem_of_getElem? hx),fun i hi=>?_,fun i x hx=>h.rel i x hx,fun i j u hi hu=>?_⟩)
 ·
  have hle:(i + 1) * sz ≤ xs.length * sz:=Nat.mul_le_mul_right sz hi
  rw [Nat.succ_mul] at hle
  have hl:=h.len
  simp; omega
 ·
  rw [Nat.zero_add]
  by_cases hj:j < sz
  ·
   rw [List.getElem?_take,if_pos hj,List.getElem?_drop] at hu
   exact hc _ u hu
  ·
   rw [List.getElem?_take,if_neg hj] at hu; cases hu
theorem nk {sz:Nat}:∀ {xs:List D},sizes sz xs=true→∀ x ∈ xs,x.cells.length=sz
 | [],_,x,hx=>by simp at hx
 | y :: ys,h,x,hx=>by
  simp only [sizes,Bool.and_eq_true] at h
  rcases List.mem_cons.1 hx with rfl | hx
  ·
   exact Nat.eq_of_beq_eq_true h.1
  ·
   exact nk h.2 x hx
theorem iV {P:Program} {w:World} {fr:Nat→Nat→Prop} {xs:List D} {tight:Bool} {v:Value} {sz:Nat} (h:bA w fr (.sl xs tight) v) (hs:sizes sz xs=true) :
  ∃ fl,(Builtin.firstCells sz xs.length v).run P w=.ok fl.toArray w∧Flat w fr sz xs fl ∧
   ∀ b off len cap,v=.slice (some ⟨b,off,none⟩) len cap→∀ (j:Nat) (u:Value),fl[j]? = some u→w.cell? ⟨b,off + j,none⟩=some u:=by
 obtain ⟨a,cap,rfl,hcap,_,hm⟩:=x8 h
 by_cases hne:xs=[]
 ·
  subst hne
  refine ⟨[],?_,⟨by simp,by simp,by simp,by simp⟩,by simp⟩
  cases a <;> simp [Builtin.firstCells,loadCells,loadCellsFrom]
 ·
  obtain ⟨b,off,sz',vs,rfl,h1,h2,h3,h4⟩:=hm hne
  have hsz:sz'=sz:=by
   cases xs with
   | nil=>exact absurd rfl hne
   | cons x xs=>have q:=h1 0 x rfl; have:=nk hs x (by simp); omega
  subst hsz
  have key:∀ (n:Nat),n ≤ xs.length→∃ fl:List Value,fl.length=n * sz'∧(∀ j v,fl[j]? = some v→w.cell? ⟨b,off + j,none⟩=some v)∧(∀ i,i < n→(fl.drop (i * sz')).take sz'=vs i):=by
   intro n
   induction n with
   | zero=>intro _; exact ⟨[],by simp,by simp,by omega⟩
   | succ n ih =>
    intro hn
    obtain ⟨fl,a1,a2,a3⟩:=ih (by omega)
    have hl:=h2 n (by omega)
    refine ⟨fl ++ vs n,by simp [a1,hl,Nat.succ_mul],fun j v hj=>?_,fun i hi=>?_⟩
    ·
     rw [List.getElem?_append] at hj
     by_cases hlt:j < fl.length
     ·
      rw [if_pos hlt] at hj; exact a2 j v hj
     ·
      rw [if_neg hlt] at hj
      have:=(h4 n _ v (by omega) hj).1
      rw [a1] at this
      rw [show off + j=off + n * sz' + (j - n * sz') by omega]
      exact this
    ·
     by_cases hi':i < n
     ·
      rw [← a3 i hi']
      have hle:(i + 1) * sz' ≤ n * sz':=Nat.mul_le_mul_right sz' hi'
      rw [Nat.succ_mul] at hle
      rw [List.drop_append_of_le_length (by omega),List.take_append_of_le_length (by simp; omega)]
     ·
      have:i=n:=by omega
      subst this
      rw [← a1,List.drop_append_of_le_length (by omega),List.drop_length,List.nil_append,← hl,List.take_length]
  obtain ⟨fl,a1,a2,a3⟩:=key xs.length (Nat.le_refl _)
  refine ⟨fl,?_,⟨a1,fun v hv=>?_,nk hs,fun i x hx=>?_⟩,fun b' off' len' cap' hv=>by simp only [Value.slice.injEq,Option.some.injEq,Addr.mk.injEq] at hv; obtain ⟨⟨q1,q2,_⟩,_,_⟩:=hv; subst q1; subst q2; exact a2⟩
  ·
   have:=run_loadCells_list (P:=P) w ⟨b,off,none⟩ fl (fun j v hj=>by rw [iw]; exact a2 j v hj)
   simp only [Builtin.firstCells,← a1]
   exact this
  ·
   obtain ⟨j,hj⟩:=List.mem_iff_getElem?.1 hv
   have hlt:j < xs.length * sz':=by rw [← a1]; exact (List.getElem?_eq_some_iff.1 hj).1
   have hpos:0 < sz':=Nat.pos_of_ne_zero (fun q=>by subst q; simp at hlt)
   have hq:j / sz' < xs.length:=Nat.div_lt_of_lt_mul (by rw [Nat.mul_comm]; exact hlt)
   have hx:=List.getElem?_eq_getElem hq
   refine (h3 _ _ hx).cells.2.1 v ?_
   rw [← a3 _ hq]
   refine List.mem_of_getElem? (i:=j % sz') ?_
   rw [List.getElem?_take,if_pos (Nat.mod_lt _ hpos),List.getElem?_drop]
   rw [Nat.div_add_mod' j sz']
   exact hj
  ·
   rw [a3 i (List.getElem?_eq_some_iff.1 hx).1]; exact h3 i x hx
theorem wR {P:Program} {w:World} {fr:Nat→Nat→Prop} (b:ByteArray):∃ fl,(Builtin.firstCells 1 b.size (.string b)).run P w=.ok fl.toArray w ∧
  Flat w fr 1 (b.data.toList.map fun c=>.int .u8 c.toNat) fl:=by
 refine ⟨b.data.toList.map fun c=>.int .u8 c.toNat,?_,by simp,by simp [Value.oneCell'],by simp [D.cells],fun i x hx=>?_⟩
 ·
  simp only [Builtin.firstCells,Sem.run_pure]
  congr 1
  have:b.extract 0 b.size=b:=by
   apply ByteArray.ext
   rw [ByteArray.data_extract]
   show b.data.extract 0 b.data.size=b.data
   simp
  rw [this]
  apply Array.ext'
  rw [Array.toList_map]
 ·
  simp only [List.getElem?_map,Option.map_eq_some_iff] at hx
  obtain ⟨c,hc,rfl⟩:=hx
  have hi:=(List.getElem?_eq_some_iff.1 hc).1
  have:((b.data.toList.map fun c=>Value.int .u8 c.toNat).drop (i * 1)).take 1=[.int .u8 c.toNat]:=by
   rw [Nat.mul_one,List.drop_eq_getElem_cons (by simpa using hi)]
   have:=(List.getElem?_eq_some_iff.1 hc).2
   simp at this ⊢
   exact this ▸ rfl
  rw [this]
  exact .int _ _
end
end Go.Ev

namespace Go.Ev
noncomputable section
set_option linter.unusedVariables false
set_option linter.unusedSimpArgs false
theorem xk (need:Nat):∀ (r c:Nat),c < need + (need + 768) / 4→Builtin.growBy need r c ≤ need + (need + 768) / 4
 | 0,c,h=>by simp [Builtin.growBy]; omega
 | r + 1,c,h=>by
  simp only [Builtin.growBy]
  split
  ·
   omega
  ·
   rename_i hc
   by_cases h2:c + (c + 768) / 4 < need + (need + 768) / 4
   ·
    exact xk need r _ h2
   ·
    omega
theorem AY {need cap:Nat} (h:cap < need):Builtin.nextslicecap need cap ≤ 2 * need + 192:=by
 unfold Builtin.nextslicecap
 split
 ·
  omega
 ·
  split
  ·
   omega
  ·
   have:=xk need 4 cap (by omega)
   omega
theorem vM {C:gK} {t2:Nat} (h:iU C t2=true):(∃ e,C.P.underlying t2=some (.slice e))∨C.P.underlying t2=some .string:=by
 unfold iU at h
 split at h
 ·
  exact .inl ⟨_,by assumption⟩
 ·
  exact .inr (by assumption)
 ·
  cases h
section
variable {C:gK} {w:World} {t t2 e ty:Nat} {ie:TypeInfo} {base:Option Addr} {sLen sCap n:Nat} {u:Value}
theorem run_append_fits (hu:C.P.underlying t=some (.slice e)) (hi:C.P.info? e=some ie) (h2:iU C t2=true) (hn:(Builtin.lenOf u).run C.P w=.ok n w) (hle:sLen + n ≤ sCap)
  {new:Array Value} (hnew:(Builtin.firstCells ie.size n u).run C.P w=.ok new w) :
  (Builtin.append_ #[t,t2] ty #[.slice base sLen sCap,u]).run C.P w=match base with
   | some a=>((storeCells (a.add (sLen * ie.size)) new.toList).run C.P w).andThen fun _ w'=>.ok (.slice base (sLen + n) sCap) w'
   | none=>.ok (.slice base (sLen + n) sCap) w:=by
 have hs:(Go.sizeOf e).run C.P w=.ok ie.size w:=by simp [Go.sizeOf,typeInfo,hi]
 rcases vM h2 with ⟨e2,h2⟩ | h2 <;>
 ·
  simp only [Builtin.append_,List.getElem?_toArray,List.getElem?_cons_zero,List.getElem?_cons_succ,Sem.run_bind,aL w hu,aL w h2,Result.andThen_ok,hs,Sem.run_pure,Bool.false_eq_true,if_false,hn,if_pos hle,Bool.not_false,if_true,hnew]
  cases base with
  | none=>simp
  | some a=>simp only [Sem.run_bind,Sem.run_pure]
theorem iE (hu:C.P.underlying t=some (.slice e)) (hi:C.P.info? e=some ie) (h2:iU C t2=true) (hn:(Builtin.lenOf u).run C.P w=.ok n w) (hgt:¬ sLen + n ≤ sCap)
  (hb0:0 < ie.bytes) (hb1:ie.bytes ≤ 65536) (hb2:(sLen + n) * ie.bytes ≤ bound) {z:Value} (hz0:ie.zero=some z)
  {old new:Array Value} (hold:(Builtin.firstCells ie.size sLen (.slice base sLen sCap)).run C.P w.drew=.ok old w.drew) (hnew:(Builtin.firstCells ie.size n u).run C.P w.drew=.ok new w.drew) :
  ∃ nc,sLen + n ≤ nc∧nc ≤ 9223372036854775807∧(Builtin.append_ #[t,t2] ty #[.slice base sLen sCap,u]).run C.P w =
   .ok (.slice (some ⟨w.heap.size,0,none⟩) (sLen + n) nc) (w.drew.alloc (.cells (old ++ new ++ Builtin.zeroCells z.cells (nc - (sLen + n))) e)):=by
 have hs:(Go.sizeOf e).run C.P w=.ok ie.size w:=by simp [Go.sizeOf,typeInfo,hi]
 have ht:∀ w,(typeInfo e).run C.P w=.ok ie w:=fun w=>by simp [typeInfo,hi]
 have hcap:¬ Builtin.nextslicecap (sLen + n) sCap * ie.bytes > 2 ^ 48:=by
  have h1:=AY (need:=sLen + n) (cap:=sCap) (by omega)
  have h2:Builtin.nextslicecap (sLen + n) sCap * ie.bytes ≤ (2 * (sLen + n) + 192) * ie.bytes:=Nat.mul_le_mul_right _ h1
  have h3:(2 * (sLen + n) + 192) * ie.bytes=2 * ((sLen + n) * ie.bytes) + 192 * ie.bytes:=by rw [Nat.add_mul,Nat.mul_assoc]
  have h4:(2:Nat) ^ 48=281474976710656:=by decide
  unfold bound at hb2
  omega
 have hzv:∀ w,(zeroValue e).run C.P w=.ok z w:=fun w=>by simp [zeroValue,typeInfo,hi,hz0]
 refine ⟨sLen + n + w.tape w.drawn (.appendCap (sLen + n) sCap e) % (2 ^ 63 - (sLen + n)),by omega,by
  have h1:sLen + n ≤ (sLen + n) * ie.bytes:=Nat.le_mul_of_pos_right _ hb0
  have h2:(2:Nat) ^ 63=9223372036854775808:=by decide
  unfold bound at hb2
  have h3:=Nat.mod_lt (w.tape w.drawn (.appendCap (sLen + n) sCap e)) (show 0 < 2 ^ 63 - (sLen + n) by omega)
  omega,?_⟩
 have hzb:¬ (((sLen + n:Nat):Int) > IntKind.i64.max∧(False∨ie.bytes=0)):=fun q=>by
  rcases q.2 with q | q
  ·
   exact q
  ·
   omega
 have hd:({ w with drawn:=w.drawn + 1 }:World)=w.drew:=rfl
 rcases vM h2 with ⟨e2,h2⟩ | h2 <;>
 ·
  simp only [Builtin.append_,List.getElem?_toArray,List.getElem?_cons_zero,List.getElem?_cons_succ,Sem.run_bind,aL w hu,aL w h2,Result.andThen_ok,hs,Sem.run_pure,Bool.false_eq_true,if_false,hn,if_neg hgt,ht]
  rw [if_neg hzb]
  simp only [Result.andThen_ok,Sem.run_bind,Sem.run_pure,ht]
  rw [if_neg hcap]
  simp only [Result.andThen_ok,Sem.run_bind,Sem.run_pure,run_choose,Question.forced,Bool.false_eq_true,if_false,Question.cut,ht,run_askRoom]
  rw [hd,hold]
  simp only [Result.andThen_ok,Bool.not_false,if_true]
  rw [hnew]
  simp only [Result.andThen_ok,hzv,newRow,Sem.run_bind,Sem.run_pure,run_newObj]
  rfl
end
end
end Go.Ev

namespace Go.Ev
noncomputable section
set_option linter.unusedVariables false
set_option linter.unusedSimpArgs false
theorem nQ {R:bL} (hR:ObjOk R) {cx:Cx} {S:St} {w:World} (h:aS R cx S w):aS R cx S w.drew∧Ext cx S w cx S w.drew :=
 have e:Ext cx S w cx S w.drew:=Ext.old h (Nat.le_refl _) (fun _ _=>rfl) rfl rfl rfl
 ⟨aS.old hR h (Nat.le_refl _) (fun _ _=>rfl) e,e⟩
theorem iZ (z:Array Value) (n:Nat):(Builtin.zeroCells z n).size=n * z.size:=by simp [Builtin.zeroCells]
theorem l8 {C:gK} {e:Nat} (h:iB C e=true):∃ i z,C.P.info? e=some i∧i.zero=some z∧z.cells.size=i.size:=by
 unfold iB at h
 split at h
 ·
  rename_i i hi
  split at h
  ·
   rename_i z hz; exact ⟨i,z,hi,hz,by simpa using h⟩
  ·
   cases h
 ·
  cases h
theorem yN {R:bL} (hR:ObjOk R) {cx:Cx} {S:St} {w:World} (h:aS R cx S w) {sz nc e:Nat} {xs:List D} {fl:List Value} {rest:Array Value} (hf:Flat w cx.fr sz xs fl) (hne:xs ≠ [])
  (hr:rest.size=(nc - xs.length) * sz) (hle:xs.length ≤ nc) :
  ∃ cx',aS R cx' { S with T:=S.T.set S.nx xs.length,nx:=S.nx + 1 } (w.alloc (.cells (fl.toArray ++ rest) e)) ∧
   Ext cx S w cx' { S with T:=S.T.set S.nx xs.length,nx:=S.nx + 1 } (w.alloc (.cells (fl.toArray ++ rest) e)) ∧
   aF cx' { S with T:=S.T.set S.nx xs.length,nx:=S.nx + 1 } (w.alloc (.cells (fl.toArray ++ rest) e)) (.tsl xs S.nx) (.slice (some ⟨w.heap.size,0,none⟩) xs.length nc):=by
 obtain ⟨nH,nT⟩:=kE h
 have hH:∀ id,id ≠ S.nx→({ S with T:=S.T.set S.nx xs.length,nx:=S.nx + 1 }:St).H.get id=S.H.get id:=fun _ _=>rfl
 have hT:∀ id,id ≠ S.nx→({ S with T:=S.T.set S.nx xs.length,nx:=S.nx + 1 }:St).T.get id=S.T.get id:=fun id hid=>by simp [AL.aR,Ne.symm hid]
 have hc:∀ id,id ≠ S.nx→cur { S with T:=S.T.set S.nx xs.length,nx:=S.nx + 1 } id=cur S id:=fun id hid=>by unfold cur; rw [hH id hid,hT id hid]
 have hcn:cur { S with T:=S.T.set S.nx xs.length,nx:=S.nx + 1 } S.nx=some xs.length:=by unfold cur; simp [nH,AL.aR]
 have ext:=Ext.fresh (S':={ S with T:=S.T.set S.nx xs.length,nx:=S.nx + 1 }) h (.cells (fl.toArray ++ rest) e) sz nc (fun o=>xs.length * sz ≤ o) rfl hc hH
 refine ⟨cx.new S.nx w.heap.size sz nc (fun o=>xs.length * sz ≤ o),aS.fresh hR h _ sz nc _ rfl hH hT (fun b hb=>?_) (fun g cs hg=>?_) (fun es hg=>?_) (fun k x hg=>?_) (fun en hg=>?_),ext,?_⟩
 ·
  have:S.H.get S.nx=some b:=hb
  rw [nH] at this; cases this
 ·
  have:S.H.get S.nx=some _:=hg
  rw [nH] at this; cases this
 ·
  have:S.H.get S.nx=some _:=hg
  rw [nH] at this; cases this
 ·
  have:S.H.get S.nx=some _:=hg
  rw [nH] at this; cases this
 ·
  have:en=xs.length:=by simpa [AL.aR] using hg.symm
  subst this
  refine ⟨fun b=>by simp [Cx.new],fun o ho=>by simp only [Cx.new,if_true] at ho ⊢; exact .inl ⟨trivial,ho⟩,fl.toArray ++ rest,e,(0,0),by simp only [Cx.new,if_true]; exact heap_alloc_new w _,?_,by simp [Cx.new]; exact hle,.inl rfl⟩
  simp only [Cx.new,if_true]
  simp only [Array.size_append,List.size_toArray,hf.len,hr]
  rw [← Nat.add_mul]
  congr 1; omega
 ·
  refine .tsl xs S.nx w.heap.size 0 nc ⟨Nat.lt_succ_self _,fun g' hg=>by rw [hcn] at hg; simp at hg; omega⟩ ((hf.mono ext.prot).slice (fun i v hi=>⟨?_,?_⟩) hle) (fun _=>?_)
  ·
   rw [cell_of (heap_alloc_new w _)]
   have hlt:=(List.getElem?_eq_some_iff.1 hi).1
   rw [Array.getElem?_append_left (by simpa using hlt)]
   simpa using hi
  ·
   have hlt:=(List.getElem?_eq_some_iff.1 hi).1
   rw [hf.len] at hlt
   simp only [Cx.new]
   rintro (⟨_,q⟩ | q)
   ·
    omega
   ·
    have:=h.lt _ _ q; omega
  ·
   simp only [Cx.new,if_true]
   exact ⟨trivial,trivial,trivial,hf.szs⟩
theorem wo {R:bL} (hR:ObjOk R) {C:gK} {cx:Cx} {S:St} {w:World} (h:aS R cx S w) {t t2 e ty:Nat} {xs ys:List D} {v u:Value} {fs:List Value} (he:cu C.P t=some e) (h2:iU C t2=true)
  (hx:bA w cx.fr (.sl xs true) v) (hu:(Builtin.lenOf u).run C.P w=.ok ys.length w) (hsrc:∀ w',w'.heap=w.heap→(Builtin.firstCells (aH C.P e) ys.length u).run C.P w'=.ok fs.toArray w') (hfs:Flat w cx.fr (aH C.P e) ys fs) (hn:ys.length ≠ 0)
  (hb:(xs.length + ys.length) * bytesOf C.P e ≤ bound) (hb0:0 < bytesOf C.P e) (hb1:bytesOf C.P e ≤ 65536) (hsx:sizes (aH C.P e) xs=true) (hz:iB C e=true) :
  ∃ cx' w' r,(Builtin.append_ #[t,t2] ty #[v,u]).run C.P w=.ok r w'∧aS R cx' { S with T:=S.T.set S.nx (xs.length + ys.length),nx:=S.nx + 1 } w' ∧
   Ext cx S w cx' { S with T:=S.T.set S.nx (xs.length + ys.length),nx:=S.nx + 1 } w'∧aF cx' { S with T:=S.T.set S.nx (xs.length + ys.length),nx:=S.nx + 1 } w' (.tsl (xs ++ ys) S.nx) r:=by
 obtain ⟨ie,z,hi,hz0,hzs⟩:=l8 hz
 have hse:aH C.P e=ie.size:=by simp [aH,hi]
 have hbe:bytesOf C.P e=ie.bytes:=by simp [bytesOf,hi]
 obtain ⟨a,cap,rfl,hcap,ht,_⟩:=x8 hx
 have hc:=ht rfl
 subst hc
 obtain ⟨hd1,hd2⟩:=nQ hR h
 obtain ⟨fl,f1,f2,f3⟩:=iV (P:=C.P) (hx.mono hd2.prot) hsx
 obtain ⟨nc,n1,n63,n2⟩:=iE (w:=w) (ty:=ty) (sLen:=xs.length) (sCap:=xs.length) (n:=ys.length) (base:=a) (u:=u) (bP he) hi h2 hu (by omega) (by rw [← hbe]; exact hb0) (by rw [← hbe]; exact hb1) (by rw [← hbe]; exact hb) hz0 (by rw [← hse]; exact f1) (by rw [← hse]; exact hsrc _ rfl)
 have hflat:Flat w.drew cx.fr (aH C.P e) (xs ++ ys) (fl ++ fs):=f2.append (hfs.mono hd2.prot)
 have hlen:(xs ++ ys).length=xs.length + ys.length:=by simp
 obtain ⟨cx',k1,k2,k3⟩:=yN hR hd1 (nc:=nc) (e:=e) (rest:=Builtin.zeroCells z.cells (nc - (xs.length + ys.length))) hflat (by intro q; simp at q; exact hn (by simp [q.2])) (by rw [iZ,hzs,hlen,hse]) (by rw [hlen]; exact n1)
 have hdz:S.nx=({ S with }:St).nx:=rfl
 rw [hlen] at k1 k2 k3
 have harr:fl.toArray ++ fs.toArray ++ Builtin.zeroCells z.cells (nc - (xs.length + ys.length))=(fl ++ fs).toArray ++ Builtin.zeroCells z.cells (nc - (xs.length + ys.length)):=by simp
 rw [harr] at n2
 exact ⟨cx',_,_,n2,k1,hd2.trans k2,k3⟩
theorem AR {R:bL} (hR:ObjOk R) {C:gK} {cx:Cx} {S:St} {w:World} (h:aS R cx S w) {t t2 e ty tok:Nat} {xs ys:List D} {v u:Value} {fs:List Value} (he:cu C.P t=some e) (h2:iU C t2=true)
  (hx:aF cx S w (.tsl xs tok) v) (hx0:xs ≠ []) (hT:S.T.get tok=some xs.length) (hu:(Builtin.lenOf u).run C.P w=.ok ys.length w) (hsrc:∀ w',w'.heap=w.heap→(Builtin.firstCells (aH C.P e) ys.length u).run C.P w'=.ok fs.toArray w')
  (hfs:Flat w cx.fr (aH C.P e) ys fs) (hn:ys.length ≠ 0)
  (hb:(xs.length + ys.length) * bytesOf C.P e ≤ bound) (hb0:0 < bytesOf C.P e) (hb1:bytesOf C.P e ≤ 65536) (hsx:sizes (aH C.P e) xs=true) (hz:iB C e=true) :
  ∃ cx' w' r,(Builtin.append_ #[t,t2] ty #[v,u]).run C.P w=.ok r w'∧aS R cx' { S with T:=S.T.set tok (xs.length + ys.length) } w' ∧
   Ext cx S w cx' { S with T:=S.T.set tok (xs.length + ys.length) } w'∧aF cx' { S with T:=S.T.set tok (xs.length + ys.length) } w' (.tsl (xs ++ ys) tok) r:=by
 obtain ⟨ie,z,hi,hz0,hzs⟩:=l8 hz
 have hse:aH C.P e=ie.size:=by simp [aH,hi]
 have hbe:bytesOf C.P e=ie.bytes:=by simp [bytesOf,hi]
 obtain ⟨hcu,hHn⟩:=yU h hT
 cases hx with
 | tsl _ _ b off cap hnm hdx hp =>
  obtain ⟨p1,p2,p3,p4⟩:=hp hcu
  subst p1; subst p2; subst p3
  obtain ⟨t1,tf,tarr,tel,tfz,t3,t4,t5,t6⟩:=h.toks tok _ hT
  have hlen:(xs ++ ys).length=xs.length + ys.length:=by simp
  have hcurn:cur { S with T:=S.T.set tok (xs.length + ys.length) } tok=some (xs.length + ys.length):=by unfold cur; simp [hHn,AL.aR]
  have hszx:∀ x ∈ xs ++ ys,x.cells.length=aH C.P e:=fun x hx=>(List.mem_append.1 hx).elim (nk hsx x) (hfs.szs x)
  have hnm':Names { S with T:=S.T.set tok (xs.length + ys.length) } tok (xs ++ ys).length:=⟨hnm.1,fun g' hg=>by rw [hcurn] at hg; simp at hg; omega⟩
  have htsz:cx.tsz tok=aH C.P e:=by
   cases xs with
   | nil=>exact absurd rfl hx0
   | cons x xs=>rw [← p4 x (by simp)]; exact nk hsx x (by simp)
  by_cases hfit:xs.length + ys.length ≤ cx.tot tok
  ·
   have hrun:=run_append_fits (w:=w) (ty:=ty) (sLen:=xs.length) (sCap:=cx.tot tok) (n:=ys.length) (base:=some ⟨cx.bm tok,0,none⟩) (u:=u) (bP he) hi h2 hu hfit (by rw [← hse]; exact hsrc w rfl)
   have hsize:xs.length * aH C.P e + fs.length ≤ tarr.size:=by
    rw [t4,htsz,hfs.len,← Nat.add_mul]; exact Nat.mul_le_mul_right _ hfit
   obtain ⟨w',r1,r2,r3,r4,r5,r6,r7,r8⟩:=gZ (P:=C.P) fs w (cx.bm tok) (xs.length * aH C.P e) 0 tarr tel tfz t3 hfs.one (by omega) (by rw [htsz] at t6; simpa using t6)
   let cx':Cx:={ cx with fr:=fun b o=>cx.fr b o∧¬ (b=cx.bm tok∧o < (xs.length + ys.length) * aH C.P e) }
   have hcellkeep:∀ (b o:Nat) (v:Value),¬ cx.fr b o→w.cell? ⟨b,o,none⟩=some v→w'.cell? ⟨b,o,none⟩=some v:=by
    intro b o v hf hc
    by_cases hb':b=cx.bm tok
    ·
     subst hb'
     have ho:o < xs.length * aH C.P e:=by
      rcases Nat.lt_or_ge o (xs.length * aH C.P e) with q | q
      ·
       exact q
      ·
       exact absurd (tf o (by rw [htsz]; exact q)) hf
     rw [cell_of t3] at hc
     rw [cell_of r8,List.getElem?_toArray,fe _ _ _ _ (by simp; omega),if_neg (by omega)]
     simpa using hc
    ·
     exact lM (r3 b hb') hc
   have hnew:C9 cx' w' tok (xs.length + ys.length):=by
    refine ⟨t1,fun o ho=>⟨tf o (Nat.le_trans (Nat.mul_le_mul_right _ (by omega)) ho),fun q=>?_⟩,_,tel,tfz,r8,?_,hfit,?_⟩
    ·
     have:(xs.length + ys.length) * cx.tsz tok ≤ o:=ho
     rw [htsz] at this
     omega
    ·
     simp only [List.size_toArray,dU,Array.length_toList]; exact t4
    ·
     rcases t6 with q | q
     ·
      exact .inl q
     ·
      exact .inr (Nat.le_trans q (Nat.mul_le_mul_right _ (by omega)))
   obtain ⟨k1,k2⟩:=wT hR (cx':=cx') h hT (by omega) (by omega) r4 r5 r6 (fun b _ hb'=>r3 b hb') hcellkeep (fun _ _=>rfl) (fun _ _ _=>Iff.rfl) (fun _ _=>rfl) (fun _ _=>rfl)
    (fun b hb'=>.inl ((t1 b).1 hb')) (fun b o hf _ q=>hf q.1) (fun b o hb' hf=>⟨hf,fun q=>hb' q.1⟩) (fun b o q=>by rw [r2]; exact h.lt b o q.1) hnew
   refine ⟨cx',w',.slice (some ⟨cx.bm tok,0,none⟩) (xs.length + ys.length) (cx.tot tok),?_,k1,k2,?_⟩
   ·
    rw [hrun]
    simp only [iw,Nat.zero_add]
    rw [hse] at r1
    rw [r1]; rfl
   ·
    obtain ⟨fl,f1,f2,f3⟩:=iV (P:=C.P) hdx hsx
    have hflat:Flat w' cx'.fr (aH C.P e) (xs ++ ys) (fl ++ fs):=(f2.append hfs).mono k2.prot
    have hA:=aF.tsl (cx:=cx') (S:={ S with T:=S.T.set tok (xs.length + ys.length) }) (w:=w') (xs ++ ys) tok (cx.bm tok) 0 (cx.tot tok) hnm' (hflat.slice (fun i v hv=>?_) (by rw [hlen]; exact hfit)) (fun _=>⟨rfl,rfl,rfl,fun x hx=>by show _=cx.tsz tok; rw [htsz]; exact hszx x hx⟩)
    ·
     rw [hlen] at hA; exact hA
    ·
     have hil:=(List.getElem?_eq_some_iff.1 hv).1
     simp only [List.length_append,f2.len,hfs.len] at hil
     rw [← Nat.add_mul] at hil
     refine ⟨?_,fun q=>q.2 ⟨rfl,hil⟩⟩
     rw [cell_of r8,List.getElem?_toArray,Nat.add_zero,fe _ _ _ _ (by simp; omega)]
     rw [List.getElem?_append] at hv
     by_cases hlt:i < fl.length
     ·
      rw [if_pos hlt] at hv
      rw [if_neg (by rw [← f2.len]; omega)]
      have hrd:=f3 (cx.bm tok) 0 _ _ rfl i v hv
      rw [Nat.zero_add,cell_of t3] at hrd
      simpa using hrd
     ·
      rw [if_neg hlt] at hv
      rw [if_pos (by rw [← f2.len]; refine ⟨by omega,?_⟩; have:=(List.getElem?_eq_some_iff.1 hv).1; omega)]
      rw [← f2.len]; exact hv
  ·
   obtain ⟨hd1,hd2⟩:=nQ hR h
   obtain ⟨fl,f1,f2,f3⟩:=iV (P:=C.P) (hdx.mono hd2.prot) hsx
   obtain ⟨nc,n1,n63,n2⟩:=iE (w:=w) (ty:=ty) (sLen:=xs.length) (sCap:=cx.tot tok) (n:=ys.length) (base:=some ⟨cx.bm tok,0,none⟩) (u:=u) (bP he) hi h2 hu (by omega) (by rw [← hbe]; exact hb0) (by rw [← hbe]; exact hb1) (by rw [← hbe]; exact hb) hz0 (by rw [← hse]; exact f1) (by rw [← hse]; exact hsrc _ rfl)
   let cx':Cx:={ bm:=fun i=>if i=tok then w.heap.size else cx.bm i,fp:=fun i b=>if i=tok then b=w.heap.size else cx.fp i b,tsz:=cx.tsz,tot:=fun i=>if i=tok then nc else cx.tot i,fr:=fun b o=>(b=w.heap.size∧(xs.length + ys.length) * aH C.P e ≤ o)∨cx.fr b o }
   have hsz0:w.drew.heap.size=w.heap.size:=rfl
   have harr:fl.toArray ++ fs.toArray ++ Builtin.zeroCells z.cells (nc - (xs.length + ys.length))=(fl ++ fs).toArray ++ Builtin.zeroCells z.cells (nc - (xs.length + ys.length)):=by simp
   rw [harr] at n2
   have hblk:(w.drew.alloc (.cells ((fl ++ fs).toArray ++ Builtin.zeroCells z.cells (nc - (xs.length + ys.length))) e)).heap[w.heap.size]? = some (.cells ((fl ++ fs).toArray ++ Builtin.zeroCells z.cells (nc - (xs.length + ys.length))) e):=heap_alloc_new w.drew _
   have hfl:(fl ++ fs).length=(xs.length + ys.length) * aH C.P e:=by rw [List.length_append,f2.len,hfs.len,Nat.add_mul]
   have hnew:C9 cx' (w.drew.alloc (.cells ((fl ++ fs).toArray ++ Builtin.zeroCells z.cells (nc - (xs.length + ys.length))) e)) tok (xs.length + ys.length):=by
    refine ⟨fun b=>by simp [cx'],fun o ho=>.inl ⟨by simp [cx'],by rw [← htsz]; exact ho⟩,_,e,(0,0),by simp only [cx',if_true]; exact hblk,?_,by simp only [cx',if_true]; exact n1,.inl rfl⟩
    simp only [Array.size_append,List.size_toArray,hfl,iZ,hzs,cx',if_true,htsz,← hse]
    rw [← Nat.add_mul]; congr 1; omega
   obtain ⟨k1,k2⟩:=wT hR (cx':=cx') (w':=w.drew.alloc (.cells ((fl ++ fs).toArray ++ Builtin.zeroCells z.cells (nc - (xs.length + ys.length))) e)) h hT (en':=xs.length + ys.length) (by omega) (by rw [size_alloc]; omega) rfl rfl rfl
    (fun b hb' _=>heap_alloc_old w.drew _ hb') (fun b o v _ hc=>lM (heap_alloc_old w.drew _ (mq hc)) hc) (fun i hi=>by simp [cx',hi]) (fun i hi b=>by simp [cx',hi]) (fun _ _=>rfl) (fun i hi=>by simp [cx',hi])
    (fun b hb'=>.inr (by simp only [cx',if_true] at hb'; subst hb'; rw [size_alloc]; exact ⟨Nat.le_refl _,Nat.lt_succ_self _⟩))
    (fun b o hf hlt q=>q.elim (fun q=>absurd q.1 (by omega)) (fun q=>hf q)) (fun b o _ hf=>.inr hf) (fun b o q=>by rw [size_alloc]; exact q.elim (fun q=>by rw [q.1]; exact Nat.lt_succ_self _) (fun q=>Nat.lt_succ_of_lt (h.lt b o q))) hnew
   refine ⟨cx',_,_,n2,k1,k2,?_⟩
   have f2':Flat w cx.fr (aH C.P e) xs fl:=Flat.mono (w:=w.drew) (w':=w) (fun b o v q1 q2=>⟨q2,q1⟩) f2
   have hflat:Flat (w.drew.alloc (.cells ((fl ++ fs).toArray ++ Builtin.zeroCells z.cells (nc - (xs.length + ys.length))) e)) cx'.fr (aH C.P e) (xs ++ ys) (fl ++ fs):=(f2'.append hfs).mono k2.prot
   have hA:=aF.tsl (cx:=cx') (S:={ S with T:=S.T.set tok (xs.length + ys.length) }) (w:=w.drew.alloc (.cells ((fl ++ fs).toArray ++ Builtin.zeroCells z.cells (nc - (xs.length + ys.length))) e))
    (xs ++ ys) tok w.heap.size 0 nc hnm' (hflat.slice (fun i v hv=>?_) (by rw [hlen]; exact n1)) (fun _=>⟨by simp [cx'],rfl,by simp [cx'],fun x hx=>by show _=cx.tsz tok; rw [htsz]; exact hszx x hx⟩)
   ·
    rw [hlen] at hA; exact hA
   ·
    have hil:=(List.getElem?_eq_some_iff.1 hv).1
    refine ⟨?_,fun q=>?_⟩
    ·
     rw [cell_of hblk,Array.getElem?_append_left (by simpa using hil)]
     simpa using hv
    ·
     rcases q with ⟨_,q⟩ | q
     ·
      rw [hfl] at hil; omega
     ·
      have:=h.lt _ _ q; omega
end
end Go.Ev

namespace Go.Ev
noncomputable section
set_option linter.unusedVariables false
set_option linter.unusedSimpArgs false
theorem w9 {R:bL} (hR:ObjOk R) {cx cx':Cx} {S:St} {w w':World} (h:aS R cx S w) {id g g':Nat} {cs cs':List AV} (hg:S.H.get id=some (.cells g cs)) (hlt:g < g')
  (hs:w.heap.size ≤ w'.heap.size) (h1:w'.os=w.os) (h2:w'.tape=w.tape) (h3:w'.output=w.output)
  (hoth:∀ b,b < w.heap.size→b ≠ cx.bm id→w'.heap[b]? = w.heap[b]?)
  (hbm:∀ i,i ≠ id→cx'.bm i=cx.bm i) (hfp:∀ i,i ≠ id→∀ b,(cx'.fp i b↔cx.fp i b)) (htsz:∀ i,i ≠ id→cx'.tsz i=cx.tsz i) (htot:∀ i,i ≠ id→cx'.tot i=cx.tot i)
  (hfpt:∀ b,cx'.fp id b→b=cx.bm id∨(w.heap.size ≤ b∧b < w'.heap.size))
  (hfr1:∀ b o,¬ cx.fr b o→b < w.heap.size→¬ cx'.fr b o) (hfr2:∀ b o,cx.fr b o→cx'.fr b o) (hfr3:∀ b o,cx'.fr b o→b < w'.heap.size)
  (hnew:Ext cx S w cx' { S with H:=S.H.set id (.cells g' cs') } w'→Ap cx' { S with H:=S.H.set id (.cells g' cs') } w' id cs') :
  aS R cx' { S with H:=S.H.set id (.cells g' cs') } w'∧Ext cx S w cx' { S with H:=S.H.set id (.cells g' cs') } w':=by
 obtain ⟨t1,t2,tarr,tel,t3,t4,t5⟩:=h.cells id g cs hg
 have hlive:live S id:=by simp [live,cur,hg]
 have hcur:∀ i,i ≠ id→cur { S with H:=S.H.set id (.cells g' cs') } i=cur S i:=fun i hi=>by
  unfold cur; simp only [AL.aR,if_neg (Ne.symm hi)]
 have hcurt:cur { S with H:=S.H.set id (.cells g' cs') } id=some g':=by unfold cur; simp [AL.aR]
 have hl':∀ i,live { S with H:=S.H.set id (.cells g' cs') } i→live S i:=fun i hl=>by
  by_cases hi:i=id
  ·
   subst hi; exact hlive
  ·
   unfold live at *; rwa [hcur i hi] at hl
 have e:Ext cx S w cx' { S with H:=S.H.set id (.cells g' cs') } w':=by
  refine ⟨hs,h1,h2,h3,Nat.le_refl _,fun b o v hf hcl=>⟨?_,hfr1 b o hf (mq hcl)⟩,fun b hb hn=>?_,fun i b hl hf=>?_,fun i gi _ hi=>⟨gi,by
   unfold isIt at *
   simp only [AL.aR] at hi
   split at hi
   ·
    cases hi
   ·
    exact hi⟩,fun i gi b _ h0 _ hf=>(hfp i (fun q=>by subst q; unfold isIt at h0; rw [hg] at h0; cases h0) b).2 hf,fun i gg hi hgg=>?_⟩
  ·
   have hne:b ≠ cx.bm id:=fun q=>hf (by rw [q]; exact t2 o)
   exact lM (hoth b (mq hcl) hne) hcl
  ·
   have hne:b ≠ cx.bm id:=fun q=>BJ hg (by simp) (hn id hlive ((t1 b).2 q))
   exact ⟨hoth b hb hne,fun o=>⟨fun q=>Classical.byContradiction fun q'=>hfr1 b o q' hb q,hfr2 b o⟩⟩
  ·
   refine ⟨fun _=>⟨hl' i hl,?_⟩,fun hge=>absurd (h.wf i (hl' i hl)) (by show ¬ i < S.nx; omega)⟩
   by_cases hi:i=id
   ·
    subst hi
    rcases hfpt b hf with q | q
    ·
     exact .inl ((t1 b).2 q)
    ·
     exact .inr q.1
   ·
    exact .inl ((hfp i hi b).1 hf)
  ·
   by_cases hi':i=id
   ·
    subst hi'
    rw [hcurt] at hgg
    simp only [Option.some.injEq] at hgg
    exact ⟨g,by simp [cur,hg],by omega,fun q=>by omega⟩
   ·
    rw [hcur i hi'] at hgg
    exact ⟨gg,hgg,Nat.le_refl _,fun _=>⟨hbm i hi',htsz i hi',htot i hi'⟩⟩
 have hne:∀ i,live S i→i ≠ id→∀ b,cx.fp i b→b ≠ cx.bm id:=fun i hi hne b hf hq=>hne (h.sep i id b hi hlive hf ((t1 b).2 hq))
 refine ⟨⟨fun i hi=>h.wf i (hl' i hi),fun i b hi=>?_,fun i gg cs2 hi=>?_,fun i es hi=>?_,fun i k x hi=>?_,fun i n hi=>?_,fun i i' b a1 a2 f1 f2=>?_,hfr3,hR.stat _ _ _ _ h.stat e.prot (h.still e)⟩,e⟩
 ·
  simp only [AL.aR] at hi
  by_cases q:id=i
  ·
   subst q; exact h.dis id _ hg
  ·
   rw [if_neg q] at hi; exact h.dis i b hi
 ·
  simp only [AL.aR] at hi
  by_cases q:id=i
  ·
   subst q
   simp only [if_true,Option.some.injEq,wD.cells.injEq] at hi
   obtain ⟨_,rfl⟩:=hi
   exact hnew e
  ·
   rw [if_neg q] at hi
   have q':=Ne.symm q
   obtain ⟨d1,d2,arr2,el2,d3,d4,d5⟩:=h.cells i gg cs2 hi
   have hb:=hne i (by simp [live,cur,hi]) q' _ ((d1 _).2 rfl)
   refine ⟨fun b=>by rw [hfp i q',hbm i q']; exact d1 b,fun o=>by rw [hbm i q']; exact hfr2 _ _ (d2 o),arr2,el2,?_,by rw [htsz i q',htot i q']; exact d4,fun j x hx=>by
    obtain ⟨v,v1,v2,v3⟩:=d5 j x hx
    exact ⟨v,v1,v2.mono e,v3⟩⟩
   rw [hbm i q',hoth _ (h.lt _ 0 (d2 0)) hb]; exact d3
 ·
  simp only [AL.aR] at hi
  by_cases q:id=i
  ·
   subst q; simp at hi
  ·
   rw [if_neg q] at hi
   have q':=Ne.symm q
   obtain ⟨d1,d2,ms,clk,d3,d4,d5⟩:=h.maps i es hi
   have hb:=hne i (by simp [live,cur,hi]) q' _ ((d1 _).2 rfl)
   refine ⟨fun b=>by rw [hfp i q',hbm i q']; exact d1 b,fun o=>by rw [hbm i q']; exact hfr2 _ _ (d2 o),ms,clk,?_,d4,fun j p m hp hm=>by
    obtain ⟨v1,v2⟩:=d5 j p m hp hm
    exact ⟨v1.mono e.prot,v2.mono e⟩⟩
   rw [hbm i q',hoth _ (h.lt _ 0 (d2 0)) hb]; exact d3
 ·
  simp only [AL.aR] at hi
  by_cases q:id=i
  ·
   subst q; simp at hi
  ·
   rw [if_neg q] at hi
   have q':=Ne.symm q
   obtain ⟨d1,d2⟩:=h.objs i k x hi
   have hf:cx'.fp i=cx.fp i:=funext fun b=>propext (hfp i q' b)
   rw [hbm i q',hf]
   have hb:=hne i (by simp [live,cur,hi]) q'
   exact ⟨hR.frame k x w w' _ _ d1 (fun c hc=>hoth c ((hR.lt k x w _ _ d1).1 c hc) (hb c hc)),fun b o hbf=>hfr2 b o (d2 b o hbf)⟩
 ·
  have hi':S.T.get i=some n:=hi
  have q:i ≠ id:=fun q=>by subst q; have:=h.dis i _ hg; rw [this] at hi'; cases hi'
  obtain ⟨hci,hHi⟩:=yU h hi'
  obtain ⟨d1,d2,arr2,el2,fz,d3,d4,d5,d6⟩:=h.toks i n hi'
  have hb:=hne i (by simp [live,hci]) q _ ((d1 _).2 rfl)
  have hlt:cx.bm i < w.heap.size:=h.lt _ _ (d2 _ (Nat.le_refl _))
  refine ⟨fun b=>by rw [hfp i q,hbm i q]; exact d1 b,fun o ho=>?_,arr2,el2,fz,?_,?_,?_,?_⟩
  ·
   rw [htsz i q] at ho; rw [hbm i q]; exact hfr2 _ _ (d2 o ho)
  ·
   rw [hbm i q,hoth _ hlt hb]; exact d3
  ·
   rw [htsz i q,htot i q]; exact d4
  ·
   rw [htot i q]; exact d5
  ·
   rw [htsz i q]; exact d6
 ·
  by_cases q:i=id <;> by_cases q':i'=id
  ·
   omega
  ·
   exfalso
   subst q
   have f2':=(hfp i' q' b).1 f2
   have hb:=hne i' (hl' i' a2) q' b f2'
   rcases hfpt b f1 with z | z
   ·
    exact hb z
   ·
    have:=h.tN hR (hl' i' a2) f2'; omega
  ·
   exfalso
   subst q'
   have f1':=(hfp i q b).1 f1
   have hb:=hne i (hl' i a1) q b f1'
   rcases hfpt b f2 with z | z
   ·
    exact hb z
   ·
    have:=h.tN hR (hl' i a1) f1'; omega
  ·
   exact h.sep i i' b (hl' i a1) (hl' i' a2) ((hfp i q b).1 f1) ((hfp i' q' b).1 f2)
theorem Flat.cons {w:World} {fr:Nat→Nat→Prop} {sz:Nat} {x:D} {xs:List D} {fl:List Value} (h:Flat w fr sz (x :: xs) fl):gL w fr x (fl.take sz)∧Flat w fr sz xs (fl.drop sz):=by
 have h0:=h.rel 0 x rfl
 simp only [Nat.zero_mul,List.drop_zero] at h0
 have hl:=h.len
 simp only [List.length_cons,Nat.succ_mul] at hl
 refine ⟨h0,by simp; omega,fun v hv=>h.one v (List.mem_of_mem_drop hv),fun y hy=>h.szs y (by simp [hy]),fun i y hy=>?_⟩
 have:=h.rel (i + 1) y (by simpa using hy)
 rw [Nat.succ_mul,Nat.add_comm] at this
 rwa [List.drop_drop]
theorem Flat.pw {w:World} {fr:Nat→Nat→Prop} {sz:Nat}:∀ {xs:List D} {fl:List Value},Flat w fr sz xs fl→Pw (bA w fr) (xs.map D.cells).flatten fl
 | [],fl,h=>by
  have:fl=[]:=by have:=h.len; simpa using this
  subst this; exact Pw.nil
 | x :: xs,fl,h=>by
  obtain ⟨h1,h2⟩:=h.cons
  have hc:=h1.cells
  have:=Pw.append (Rl:=bA w fr) (cs:=x.cells) (vs:=fl.take sz) ⟨hc.1,hc.2.1,hc.2.2⟩ h2.pw
  rw [List.take_append_drop] at this
  simpa using this
theorem Pw.Cn {cx:Cx} {S:St} {w:World} {ds:List D} {vs:List Value} (h:Pw (bA w cx.fr) ds vs):Pw (aF cx S w) (ds.map .d) vs:=by
 obtain ⟨h1,h2,h3⟩:=h
 refine ⟨by simp [h1],h2,fun i x v hx hv=>?_⟩
 simp only [List.getElem?_map,Option.map_eq_some_iff] at hx
 obtain ⟨y,hy,rfl⟩:=hx
 exact .d y v (h3 i y v hy hv)
theorem Pw.mono {cx cx':Cx} {S S':St} {w w':World} {ds:List AV} {vs:List Value} (h:Pw (aF cx S w) ds vs) (e:Ext cx S w cx' S' w'):Pw (aF cx' S' w') ds vs :=
 ⟨h.1,h.2.1,fun i x v hx hv=>(h.2.2 i x v hx hv).mono e⟩
theorem lL {P:Program} {w:World} {b o n:Nat} {arr:Array Value} {el:Nat} {fz:Nat × Nat} (hb:w.heap[b]? = some (.cells arr el fz)) (hle:o + n ≤ arr.size) :
  (loadCells ⟨b,o,none⟩ n).run P w=.ok ((arr.toList.drop o).take n).toArray w:=by
 have hl:((arr.toList.drop o).take n).length=n:=by simp; omega
 have:=run_loadCells_list (P:=P) w ⟨b,o,none⟩ ((arr.toList.drop o).take n) (fun j v hj=>by
  rw [iw,cell_of hb]
  have hlt:=(List.getElem?_eq_some_iff.1 hj).1
  rw [hl] at hlt
  rw [List.getElem?_take,if_pos hlt,List.getElem?_drop] at hj
  simpa using hj)
 rwa [hl] at this
theorem vC {cx:Cx} {S:St} {w:World} {cs:List AV} {arr:Array Value} (hle:cs.length ≤ arr.size) (h:∀ (i:Nat) (x:AV),cs[i]? = some x→∃ v,arr[i]? = some v∧aF cx S w x v∧v.oneCell'=true) (o n:Nat) (hn:o + n ≤ cs.length) :
  Pw (aF cx S w) ((cs.drop o).take n) ((arr.toList.drop o).take n):=by
 have hex:∀ (i:Nat) (v:Value),((arr.toList.drop o).take n)[i]? = some v→i < n∧arr[o + i]? = some v:=fun i v hv=>by
  have hlt:=(List.getElem?_eq_some_iff.1 hv).1
  have hi:i < n:=by simp at hlt; omega
  rw [List.getElem?_take,if_pos hi,List.getElem?_drop] at hv
  exact ⟨hi,by simpa using hv⟩
 refine ⟨by simp; omega,fun v hv=>?_,fun i x v hx hv=>?_⟩
 ·
  obtain ⟨i,hi⟩:=List.mem_iff_getElem?.1 hv
  obtain ⟨h1,h2⟩:=hex i v hi
  obtain ⟨u,u1,u2,u3⟩:=h (o + i) cs[o + i] (List.getElem?_eq_getElem (by omega))
  rw [u1] at h2; cases h2; exact u3
 ·
  obtain ⟨h1,h2⟩:=hex i v hv
  rw [List.getElem?_take,if_pos h1,List.getElem?_drop] at hx
  obtain ⟨u,u1,u2,u3⟩:=h (o + i) x hx
  rw [u1] at h2; cases h2; exact u2
theorem mV {S:St} {id g:Nat} {cs:List AV} (h:S.look id g=some cs):S.H.get id=some (.cells g cs):=by
 unfold St.look at h
 split at h
 ·
  rename_i g' cs' hg
  cases hb:Nat.beq g' g
  ·
   simp [hb] at h
  ·
   have:=Nat.eq_of_beq_eq_true hb
   subst this
   simp only [hb,cond_true,Option.some.injEq] at h
   subst h; exact hg
 ·
  cases h
theorem vX {P:Program} {w:World} {fr:Nat→Nat→Prop} {xs:List D} {tight:Bool} {v:Value} {sz:Nat} (h:bA w fr (.sl xs tight) v) (hs:sizes sz xs=true) :
  ∃ fl,(∀ w',w'.heap=w.heap→(Builtin.firstCells sz xs.length v).run P w'=.ok fl.toArray w')∧Flat w fr sz xs fl:=by
 obtain ⟨fl,f1,f2,f3⟩:=iV (P:=P) h hs
 refine ⟨fl,fun w' hw=>?_,f2⟩
 obtain ⟨a,cap,rfl,_,_,hm⟩:=x8 h
 cases a with
 | none =>
  have:xs=[]:=Classical.byContradiction fun q=>by
   obtain ⟨b,off,s,vs,e,_⟩:=hm q; cases e
  subst this
  have:fl=[]:=by have:=f2.len; simpa using this
  subst this
  simp [Builtin.firstCells]
 | some ad =>
  by_cases q:xs=[]
  ·
   subst q
   have:fl=[]:=by have:=f2.len; simpa using this
   subst this
   simp [Builtin.firstCells,loadCells,loadCellsFrom]
  ·
   obtain ⟨b,off,s,vs,e,_⟩:=hm q
   simp only [Option.some.injEq] at e; subst e
   have:=run_loadCells_list (P:=P) w' ⟨b,off,none⟩ fl (fun j u hj=>by
    rw [iw]
    have:=f3 b off _ _ rfl j u hj
    simp only [World.cell?] at this ⊢
    rw [hw]; exact this)
   rw [f2.len] at this
   exact this
theorem o8 {cx:Cx} {S:St} {w:World} {x:AV} {id g off len sz:Nat} {v:Value} (h:uC x=some (id,g,off,len,sz)) (hx:aF cx S w x v) :
  ∃ b cap,v=.slice (some ⟨b,off,none⟩) len cap∧len ≤ cap∧cap ≤ 9223372036854775807∧(cur S id=some g→b=cx.bm id):=by
 cases hx <;> try (cases h; done)
 case msl id g off len lim sz b cap hn hl hcap h63 hp =>
  cases h
  exact ⟨b,cap,rfl,by omega,h63,fun hc=>(hp hc).1⟩
 case asl id g off len sz b hn h63 hp =>
  cases h
  exact ⟨b,len,rfl,Nat.le_refl _,h63,hp⟩
theorem jZ {R:bL} {P:Program} {cx:Cx} {S:St} {w:World} (hS:aS R cx S w) {sz n:Nat} {y:AV} {ys:List AV} {u:Value} (h:oF S sz y=some (ys,n)) (hy:aF cx S w y u) :
  (Builtin.lenOf u).run P w=.ok n w∧ys.length=n * sz∧∃ fl,(∀ w',w'.heap=w.heap→(Builtin.firstCells sz n u).run P w'=.ok fl.toArray w')∧Pw (aF cx S w) ys fl:=by
 unfold oF at h
 split at h
 ·
  rename_i id g off len sz' hrow
  split at h
  ·
   rename_i cs hlk
   split at h
   ·
    rename_i hc
    obtain ⟨rfl,hpos,hle⟩:=hc
    simp only [Option.some.injEq,Prod.mk.injEq] at h
    obtain ⟨rfl,rfl⟩:=h
    have hk:=mV hlk
    obtain ⟨b,cap,rfl,hl1,hl2,hp⟩:=o8 hrow hy
    have p1:=hp (by simp [cur,hk])
    subst p1
    obtain ⟨c1,c2,arr,el,c3,c4,c5⟩:=hS.cells id g cs hk
    refine ⟨rfl,by simp; omega,(arr.toList.drop off).take (len * sz'),fun w' hw=>?_,vC c4.2.2 c5 off (len * sz') hle⟩
    exact lL (P:=P) (w:=w') (by rw [hw]; exact c3) (by have:=c4.2.2; omega)
   ·
    cases h
  ·
   cases h
 rename_i hrow
 split at h
 ·
  rename_i s
  split at h
  ·
   rename_i hsz
   subst hsz
   simp only [Option.some.injEq,Prod.mk.injEq] at h
   obtain ⟨rfl,rfl⟩:=h
   obtain ⟨b,rfl,rfl⟩:=hy.str
   have hbl:b.data.toList.length=b.size:=Array.length_toList
   obtain ⟨fl,f1,f2⟩:=wR (P:=P) (w:=w) (fr:=cx.fr) b
   refine ⟨by simp only [Builtin.lenOf,Sem.run_pure]; rw [hbl],by simp,fl,fun w' _=>?_,?_⟩
   ·
    simp only [Builtin.firstCells,Sem.run_pure,Result.ok.injEq,and_true] at f1 ⊢
    rw [hbl]; exact f1
   ·
    have:=f2.pw.Cn (cx:=cx) (S:=S)
    have e:(List.map D.cells (List.map (fun c:UInt8=>D.int .u8 c.toNat) b.data.toList)).flatten.map AV.d=b.data.toList.map fun c=>.d (.int .u8 c.toNat):=by
     generalize b.data.toList=l
     induction l with
     | nil=>rfl
     | cons c l ih=>simp only [List.map_cons,List.flatten_cons,List.map_append,ih,D.cells,List.map_nil,List.singleton_append]
    rw [e] at this
    exact this
  ·
   cases h
 ·
  rename_i hn1 hn2
  split at h
  ·
   rename_i xs hd
   split at h
   ·
    rename_i hs
    simp only [Option.some.injEq,Prod.mk.injEq] at h
    obtain ⟨rfl,rfl⟩:=h
    obtain ⟨tight,hr⟩:=yg hd hy
    obtain ⟨fl,f1,f2⟩:=vX (P:=P) hr hs
    have hpw:=f2.pw.Cn (cx:=cx) (S:=S)
    refine ⟨?_,by rw [← hpw.1,f2.len],fl,f1,hpw⟩
    obtain ⟨a,cap,rfl,_⟩:=x8 hr
    rfl
   ·
    cases h
  ·
   cases h
theorem nP {R:bL} (hR:ObjOk R) {cx:Cx} {S:St} {w:World} (h:aS R cx S w) (cs:List AV) (vs:List Value) (rest:Array Value) (el len sz cap:Nat) (hp:Pw (aF cx S w) cs vs)
  (hc:cs.length=len * sz) (hcap:len ≤ cap) (h63:cap ≤ 9223372036854775807) (hr:rest.size=(cap - len) * sz) :
  ∃ cx',aS R cx' (ib S cs).2 (w.alloc (.cells (vs.toArray ++ rest) el))∧Ext cx S w cx' (ib S cs).2 (w.alloc (.cells (vs.toArray ++ rest) el)) ∧
   aF cx' (ib S cs).2 (w.alloc (.cells (vs.toArray ++ rest) el)) (.msl S.nx 0 0 len len sz) (.slice (some ⟨w.heap.size,0,none⟩) len cap):=by
 obtain ⟨nH,nT⟩:=kE h
 obtain ⟨hl,ho,hv⟩:=hp
 have hsz:(vs.toArray ++ rest).size=cap * sz:=by
  simp only [Array.size_append,List.size_toArray,hr,hl,hc]
  rw [← Nat.add_mul]; congr 1; omega
 have hle:len * sz ≤ cap * sz:=Nat.mul_le_mul_right _ hcap
 have hH:∀ id,id ≠ S.nx→(ib S cs).2.H.get id=S.H.get id:=fun id hid=>by simp [ib,bX,AL.aR,Ne.symm hid]
 have hT:∀ id,id ≠ S.nx→(ib S cs).2.T.get id=S.T.get id:=fun id hid=>rfl
 have hc':∀ id,id ≠ S.nx→cur (ib S cs).2 id=cur S id:=fun id hid=>by unfold cur; rw [hH id hid,hT id hid]
 have hnew:(ib S cs).2.H.get S.nx=some (.cells 0 cs):=by simp [ib,bX,AL.aR]
 have e:=Ext.fresh (S':=(ib S cs).2) h (.cells (vs.toArray ++ rest) el) (len * sz) (cap * sz) (fun _=>True) rfl hc' hH
 refine ⟨cx.new S.nx w.heap.size (len * sz) (cap * sz) (fun _=>True),aS.fresh hR h _ (len * sz) (cap * sz) _ rfl hH hT (fun b _=>nT) (fun g cs' hg=>?_) (fun es hg=>?_) (fun k x hg=>?_) (fun en hg=>?_),e,?_⟩
 ·
  rw [hnew] at hg
  obtain ⟨rfl,rfl⟩:0=g∧cs=cs':=by simpa using hg
  refine ⟨fun c=>by simp [Cx.new],fun o=>by simp [Cx.new],vs.toArray ++ rest,el,by simp only [Cx.new,if_true]; exact heap_alloc_new w _,?_,fun i x hx=>?_⟩
  ·
   simp only [Cx.new,if_true]
   exact ⟨hsz,hc,by rw [hsz,hc]; exact hle⟩
  ·
   have hi:i < vs.length:=by rw [hl]; exact (List.getElem?_eq_some_iff.1 hx).1
   refine ⟨vs[i],?_,(hv i x vs[i] hx (List.getElem?_eq_getElem hi)).mono e,ho _ (List.getElem_mem hi)⟩
   rw [Array.getElem?_append_left (by simpa using hi)]
   simp [hi]
 ·
  rw [hnew] at hg; cases hg
 ·
  rw [hnew] at hg; cases hg
 ·
  have:(ib S cs).2.T.get S.nx=none:=nT
  rw [this] at hg; cases hg
 ·
  exact .msl S.nx 0 0 len len sz w.heap.size cap ⟨by simp [ib,bX],fun g' _=>Nat.zero_le _⟩ (Nat.le_refl _) hcap h63 (fun _=>by simp only [Cx.new,if_true,Nat.zero_add]; exact ⟨trivial,hle,Nat.le_refl _⟩)
theorem tu {C:gK} {e n:Nat} (h:yL C e n=true):∃ i z,C.P.info? e=some i∧i.zero=some z∧z.cells.size=i.size∧n * i.bytes ≤ bound∧0 < i.bytes∧i.bytes ≤ 65536:=by
 unfold yL at h
 simp only [Bool.and_eq_true] at h
 obtain ⟨⟨⟨h1,h2⟩,h3⟩,h4⟩:=h
 obtain ⟨i,z,hi,hz,hs⟩:=l8 h4
 have hb:bytesOf C.P e=i.bytes:=by simp [bytesOf,hi]
 rw [hb] at h1 h2 h3
 exact ⟨i,z,hi,hz,hs,Nat.le_of_ble_eq_true h1,Nat.le_of_ble_eq_true h2,Nat.le_of_ble_eq_true h3⟩
theorem l9 {R:bL} (hR:ObjOk R) {C:gK} {cx:Cx} {S S':St} {w:World} (hS:aS R cx S w) {t t2 e ty:Nat} {xs:List D} {x y r:AV} {a:Option Addr} {cap:Nat} {u:Value} (h:mi C e S x xs y=some (r,S')) (he:cu C.P t=some e) (h2:iU C t2=true)
  (hold:∀ sz,sizes sz xs=true→∃ fl,(∀ w',w'.heap=w.heap→(Builtin.firstCells sz xs.length (.slice a xs.length cap)).run C.P w'=.ok fl.toArray w')∧Flat w cx.fr sz xs fl) (hcap:cap=xs.length) (hx:aF cx S w x (.slice a xs.length cap)) (hy:aF cx S w y u) :
  ∃ cx' w' z,(Builtin.append_ #[t,t2] ty #[.slice a xs.length cap,u]).run C.P w=.ok z w'∧aS R cx' S' w'∧Ext cx S w cx' S' w'∧aF cx' S' w' r z:=by
 unfold mi at h
 split at h
 ·
  rename_i ys n hsrc
  split at h
  ·
   rename_i hn0
   subst hn0
   split at h
   ·
    rename_i hinf
    simp only [Option.some.injEq,Prod.mk.injEq] at h
    obtain ⟨rfl,rfl⟩:=h
    obtain ⟨ie,hi⟩:=Option.isSome_iff_exists.1 hinf
    have hse:aH C.P e=ie.size:=by simp [aH,hi]
    obtain ⟨s1,s2,fs,s3,s4⟩:=jZ (P:=C.P) hS hsrc hy
    have hfs:fs=[]:=List.eq_nil_of_length_eq_zero (by rw [s4.1,s2,Nat.zero_mul])
    subst hfs
    refine ⟨cx,w,_,?_,hS,Ext.refl w hS.wf,hx⟩
    rw [run_append_fits (w:=w) (ty:=ty) (sLen:=xs.length) (sCap:=cap) (n:=0) (base:=a) (u:=u) (bP he) hi h2 s1 (by omega) (by rw [← hse]; exact s3 w rfl)]
    cases a with
    | none=>rfl
    | some a=>simp [storeCells]
   ·
    cases h
  split at h
  ·
   rename_i hc
   obtain ⟨hn,hpos,hsx,hg⟩:=hc
   simp only [Option.some.injEq,Prod.mk.injEq] at h
   obtain ⟨rfl,rfl⟩:=h
   obtain ⟨s1,s2,fs,s3,s4⟩:=jZ (P:=C.P) hS hsrc hy
   obtain ⟨ie,z,hi,hz0,hzs,hb2,hb0,hb1⟩:=tu hg
   have hse:aH C.P e=ie.size:=by simp [aH,hi]
   obtain ⟨fl,f1,f2⟩:=hold _ hsx
   obtain ⟨nc,n1,n63,n2⟩:=iE (w:=w) (ty:=ty) (sLen:=xs.length) (sCap:=cap) (n:=n) (base:=a) (u:=u) (bP he) hi h2 s1 (by omega) hb0 hb1 hb2 hz0 (by rw [← hse]; exact f1 _ rfl) (by rw [← hse]; exact s3 _ rfl)
   obtain ⟨hd1,hd2⟩:=nQ hR hS
   have hpw:Pw (aF cx S w.drew) ((xs.map D.cells).flatten.map .d ++ ys) (fl ++ fs):=Pw.append ((f2.pw.Cn (cx:=cx) (S:=S)).mono hd2) (s4.mono hd2)
   have hlen:((xs.map D.cells).flatten.map AV.d ++ ys).length=(xs.length + n) * aH C.P e:=by
    rw [List.length_append,s2,← (f2.pw.Cn (cx:=cx) (S:=S)).1,f2.len,Nat.add_mul]
   obtain ⟨cx',k1,k2,k3⟩:=nP hR hd1 _ _ (Builtin.zeroCells z.cells (nc - (xs.length + n))) e (xs.length + n) (aH C.P e) nc hpw hlen n1 n63 (by rw [iZ,hzs,hse])
   have harr:fl.toArray ++ fs.toArray ++ Builtin.zeroCells z.cells (nc - (xs.length + n))=(fl ++ fs).toArray ++ Builtin.zeroCells z.cells (nc - (xs.length + n)):=by simp
   rw [harr] at n2
   exact ⟨cx',_,_,n2,k1,hd2.trans k2,k3⟩
  ·
   cases h
 ·
  cases h
theorem ug {R:bL} (hR:ObjOk R) {C:gK} {cx:Cx} {S S':St} {w:World} (hS:aS R cx S w) {t t2 e ty id g off len lim sz:Nat} {y r:AV} {v u:Value} (h:rZ C e S id g off len lim sz y=some (r,S')) (he:cu C.P t=some e) (h2:iU C t2=true)
  (hx:aF cx S w (.msl id g off len lim sz) v) (hy:aF cx S w y u) :
  ∃ cx' w' z,(Builtin.append_ #[t,t2] ty #[v,u]).run C.P w=.ok z w'∧aS R cx' S' w'∧Ext cx S w cx' S' w'∧aF cx' S' w' r z:=by
 unfold rZ at h
 split at h
 ·
  rename_i ys n cs hsrc hlk
  split at h
  ·
   rename_i hc
   obtain ⟨rfl,hpos,hle⟩:=hc
   obtain ⟨s1,s2,fs,s3,s4⟩:=jZ (P:=C.P) hS hsrc hy
   have hfsl:fs.length=n * aH C.P e:=by rw [s4.1,s2]
   have hk:=mV hlk
   obtain ⟨ie,hi⟩:∃ i,C.P.info? e=some i:=by
    unfold aH at hpos
    split at hpos
    ·
     exact ⟨_,by assumption⟩
    ·
     omega
   have hse:aH C.P e=ie.size:=by simp [aH,hi]
   have hlive:cur S id=some g:=by simp [cur,hk]
   cases hx with
   | msl _ _ _ _ _ _ b cap hn hl hcap h63 hp =>
   obtain ⟨p1,p2,p3⟩:=hp hlive
   subst p1
   obtain ⟨c1,c2,arr,el,c3,c4,c5⟩:=hS.cells id g cs hk
   have fits:=fun (hfit:len + n ≤ cap)=>run_append_fits (w:=w) (ty:=ty) (sLen:=len) (sCap:=cap) (n:=n) (base:=some ⟨cx.bm id,off,none⟩) (u:=u) (bP he) hi h2 s1 hfit (by rw [← hse]; exact s3 w rfl)
   have stor:=fun (hfit:off + len * aH C.P e + fs.length ≤ arr.size)=>gZ (P:=C.P) fs w (cx.bm id) (off + len * aH C.P e) 0 arr el (0,0) c3 s4.2.1 (by omega) (.inl rfl)
   split at h
   ·
    rename_i hn0
    subst hn0
    simp only [Option.some.injEq,Prod.mk.injEq] at h
    obtain ⟨rfl,rfl⟩:=h
    have hfs:fs=[]:=List.eq_nil_of_length_eq_zero (by rw [hfsl]; omega)
    subst hfs
    refine ⟨cx,w,_,?_,hS,Ext.refl w hS.wf,.msl id g off len lim _ _ cap hn hl hcap h63 hp⟩
    rw [fits (by omega)]
    simp [storeCells]
   ·
    rename_i hn0
    split at h
    ·
     rename_i hfitc
     simp only [Option.some.injEq,Prod.mk.injEq] at h
     obtain ⟨rfl,rfl⟩:=h
     have hfit:len + n ≤ cap:=by
      have h1:(len + n) * aH C.P e ≤ cap * aH C.P e:=by rw [Nat.add_mul]; have:=c4.2.1; omega
      exact Nat.le_of_mul_le_mul_right h1 hpos
     obtain ⟨w',r1,r2,r3,r4,r5,r6,r7,r8⟩:=stor (by have:=c4.2.2; omega)
     have hw:=mf hR (w':=w') (cs':=setAt cs (off + len * aH C.P e) ys) (arr':=(setAt arr.toList (off + len * aH C.P e + 0) fs).toArray) (el:=el) hS hk r2 r3 r4 r5 r6 r8 (by simp [dU]) (by simp [dU]; exact c4.1) (fun i x hx=>by
      rw [fe _ _ _ _ (by omega)] at hx
      simp only [List.getElem?_toArray,Nat.add_zero]
      rw [fe _ _ _ _ (by have:=c4.2.2; simp; omega)]
      by_cases hi:off + len * aH C.P e ≤ i∧i < off + len * aH C.P e + ys.length
      ·
       rw [if_pos hi] at hx
       rw [if_pos (by rw [s4.1]; exact hi)]
       have hlt:i - (off + len * aH C.P e) < fs.length:=by rw [s4.1]; omega
       have hu:=List.getElem?_eq_getElem hlt
       exact ⟨_,hu,s4.2.2 _ x _ hx hu,s4.2.1 _ (List.getElem_mem hlt)⟩
      ·
       rw [if_neg hi] at hx
       rw [if_neg (by rw [s4.1]; exact hi)]
       obtain ⟨z,z1,z2,z3⟩:=c5 i x hx
       exact ⟨z,by simpa using z1,z2,z3⟩)
     refine ⟨cx,w',.slice (some ⟨cx.bm id,off,none⟩) (len + n) cap,?_,hw.1,hw.2,?_⟩
     ·
      rw [fits hfit]
      rw [hse] at r1
      simp only [iw]
      rw [r1]; rfl
     ·
      have hm:=(aF.msl (cx:=cx) (S:=S) (w:=w) id g off len lim _ (cx.bm id) cap hn hl hcap h63 hp).mono hw.2
      cases hm with
      | msl _ _ _ _ _ _ _ _ m1 m2 m3 m63 m4=>exact .msl id g off (len + n) _ _ _ cap m1 (by omega) (by omega) m63 m4
    ·
     rename_i hnfit
     split at h
     ·
      rename_i hg
      obtain ⟨rfl,hg⟩:=hg
      simp only [Option.some.injEq,Prod.mk.injEq] at h
      obtain ⟨rfl,rfl⟩:=h
      simp only [Nat.zero_add] at *
      have hcurn:cur { S with H:=S.H.set id (.cells (g + 1) (cs.take (len * aH C.P e) ++ ys)) } id=some (g + 1):=by unfold cur; simp [AL.aR]
      have hnm:Names { S with H:=S.H.set id (.cells (g + 1) (cs.take (len * aH C.P e) ++ ys)) } id (g + 1):=⟨hn.1,fun g' hg=>by rw [hcurn] at hg; simp at hg; omega⟩
      have hnl:(cs.take (len * aH C.P e) ++ ys).length=(len + n) * aH C.P e:=by simp [s2,Nat.add_mul]; omega
      by_cases hfit:len + n ≤ cap
      ·
       have hsize:(len + n) * aH C.P e ≤ cap * aH C.P e:=Nat.mul_le_mul_right _ hfit
       have hsize':=hsize
       rw [Nat.add_mul] at hsize'
       obtain ⟨w',r1,r2,r3,r4,r5,r6,r7,r8⟩:=stor (by have:=c4.1; omega)
       let cx':Cx:={ cx with tsz:=fun i=>if i=id then (len + n) * aH C.P e else cx.tsz i }
       obtain ⟨k1,k2⟩:=w9 hR (cx':=cx') (w':=w') (g':=g + 1) (cs':=cs.take (len * aH C.P e) ++ ys) hS hk (by omega) (by omega) r4 r5 r6 (fun b _ hb=>r3 b hb) (fun _ _=>rfl) (fun _ _ _=>Iff.rfl) (fun i hi=>by simp [cx',hi]) (fun _ _=>rfl)
        (fun b hb=>.inl ((c1 b).1 hb)) (fun b o hf _=>hf) (fun b o hf=>hf) (fun b o hf=>by rw [r2]; exact hS.lt b o hf) (fun ext=>by
        refine ⟨c1,c2,_,el,r8,⟨by simp [dU]; exact c4.1,by simp only [cx',if_true]; exact hnl,by simp only [List.size_toArray,dU,Array.length_toList,hnl]; have:=c4.1; omega⟩,fun i x hx=>?_⟩
        simp only [List.getElem?_toArray,Nat.add_zero]
        rw [fe _ _ _ _ (by have:=c4.1; simp; omega)]
        rw [List.getElem?_append] at hx
        have htl:(cs.take (len * aH C.P e)).length=len * aH C.P e:=by simp; omega
        by_cases hi:i < (cs.take (len * aH C.P e)).length
        ·
         rw [if_pos hi,List.getElem?_take,if_pos (by omega)] at hx
         rw [if_neg (by omega)]
         obtain ⟨z,z1,z2,z3⟩:=c5 i x hx
         exact ⟨z,by simpa using z1,z2.mono ext,z3⟩
        ·
         rw [if_neg hi,htl] at hx
         have hlt:i - len * aH C.P e < fs.length:=by rw [s4.1]; exact (List.getElem?_eq_some_iff.1 hx).1
         rw [if_pos (by omega)]
         have hu:=List.getElem?_eq_getElem hlt
         exact ⟨_,hu,(s4.2.2 _ x _ hx hu).mono ext,s4.2.1 _ (List.getElem_mem hlt)⟩)
       refine ⟨cx',w',.slice (some ⟨cx.bm id,0,none⟩) (len + n) cap,?_,k1,k2,.msl id (g + 1) 0 (len + n) (len + n) _ _ cap hnm (Nat.le_refl _) hfit h63 (fun _=>⟨rfl,by simp only [cx',if_true,Nat.zero_add]; exact hsize,by simp only [Nat.zero_add]; exact p3⟩)⟩
       rw [fits hfit]
       rw [hse] at r1
       simp only [iw,Nat.zero_add]
       rw [r1]; rfl
      ·
       obtain ⟨ie',z,hi',hz0,hzs,hb2,hb0,hb1⟩:=tu hg
       rw [hi] at hi'
       simp only [Option.some.injEq] at hi'; subst hi'
       have hold:(Builtin.firstCells ie.size len (.slice (some ⟨cx.bm id,0,none⟩) len cap)).run C.P w.drew=.ok ((arr.toList.drop 0).take (len * aH C.P e)).toArray w.drew:=by
        rw [← hse]
        exact lL (P:=C.P) (w:=w.drew) (b:=cx.bm id) (o:=0) (n:=len * aH C.P e) (arr:=arr) (el:=el) (fz:=(0,0)) c3 (by have:=c4.2.2; omega)
       obtain ⟨nc,n1,n63,n2⟩:=iE (w:=w) (ty:=ty) (sLen:=len) (sCap:=cap) (n:=n) (base:=some ⟨cx.bm id,0,none⟩) (u:=u) (bP he) hi h2 s1 (by omega) hb0 hb1 hb2 hz0 hold (by rw [← hse]; exact s3 _ rfl)
       have hpw:Pw (aF cx S w) (cs.take (len * aH C.P e) ++ ys) (arr.toList.take (len * aH C.P e) ++ fs):=by
        have:=vC c4.2.2 c5 0 (len * aH C.P e) (by omega)
        simp only [List.drop_zero] at this
        exact Pw.append this s4
       have harr:((arr.toList.drop 0).take (len * aH C.P e)).toArray ++ fs.toArray ++ Builtin.zeroCells z.cells (nc - (len + n))=(arr.toList.take (len * aH C.P e) ++ fs).toArray ++ Builtin.zeroCells z.cells (nc - (len + n)):=by simp
       rw [harr] at n2
       generalize hblk0:(arr.toList.take (len * aH C.P e) ++ fs).toArray ++ Builtin.zeroCells z.cells (nc - (len + n))=A at n2
       have hAsz:A.size=nc * aH C.P e:=by
        rw [← hblk0]
        simp only [Array.size_append,List.size_toArray,hpw.1,hnl,iZ,hzs,← hse]
        rw [← Nat.add_mul]; congr 1; omega
       let cx':Cx:={ bm:=fun i=>if i=id then w.heap.size else cx.bm i,fp:=fun i b=>if i=id then b=w.heap.size else cx.fp i b,tsz:=fun i=>if i=id then (len + n) * aH C.P e else cx.tsz i,tot:=fun i=>if i=id then nc * aH C.P e else cx.tot i,fr:=fun b o=>b=w.heap.size∨cx.fr b o }
       have hblk:(w.drew.alloc (.cells A e)).heap[w.heap.size]? = some (.cells A e):=heap_alloc_new w.drew _
       have hsize:(len + n) * aH C.P e ≤ nc * aH C.P e:=Nat.mul_le_mul_right _ n1
       obtain ⟨k1,k2⟩:=w9 hR (cx':=cx') (w':=w.drew.alloc (.cells A e)) (g':=g + 1) (cs':=cs.take (len * aH C.P e) ++ ys) hS hk (by omega) (by rw [size_alloc]; show w.heap.size ≤ w.heap.size + 1; omega) rfl rfl rfl
        (fun b hb _=>heap_alloc_old w.drew _ hb) (fun i hi=>by simp [cx',hi]) (fun i hi b=>by simp [cx',hi]) (fun i hi=>by simp [cx',hi]) (fun i hi=>by simp [cx',hi])
        (fun b hb=>.inr (by simp only [cx',if_true] at hb; subst hb; rw [size_alloc]; exact ⟨Nat.le_refl _,Nat.lt_succ_self _⟩))
        (fun b o hf hlt q=>q.elim (fun q=>absurd q (by omega)) (fun q=>hf q)) (fun b o hf=>.inr hf) (fun b o q=>by rw [size_alloc]; exact q.elim (fun q=>by rw [q]; exact Nat.lt_succ_self _) (fun q=>Nat.lt_succ_of_lt (hS.lt b o q)))
        (fun ext=>by
        refine ⟨fun b=>by simp [cx'],fun o=>by simp [cx'],A,e,by simp only [cx',if_true]; exact hblk,⟨by simp only [cx',if_true]; exact hAsz,by simp only [cx',if_true]; exact hnl,by rw [hAsz,hnl]; exact hsize⟩,fun i x hx=>?_⟩
        have hlt:i < (arr.toList.take (len * aH C.P e) ++ fs).length:=by rw [hpw.1]; exact (List.getElem?_eq_some_iff.1 hx).1
        have hu:=List.getElem?_eq_getElem hlt
        refine ⟨_,?_,(hpw.2.2 i x _ hx hu).mono ext,hpw.2.1 _ (List.getElem_mem hlt)⟩
        rw [← hblk0,Array.getElem?_append_left (by simpa using hlt)]
        simp)
       exact ⟨cx',_,_,n2,k1,k2,.msl id (g + 1) 0 (len + n) (len + n) _ _ nc hnm (Nat.le_refl _) n1 n63 (fun _=>⟨by simp [cx'],by simp only [cx',if_true,Nat.zero_add]; exact hsize,by simp only [cx',if_true,Nat.zero_add]; exact Nat.le_refl _⟩)⟩
     ·
      cases h
  ·
   cases h
 ·
  cases h
theorem zk {cx:Cx} {S:St} {w:World} {z:D} {zv:Value} (hz:bA w cx.fr z zv) (n:Nat) (h0:0 < z.cells.length):Pw (aF cx S w) ((List.replicate n z.cells).flatten.map .d) (Builtin.zeroCells zv.cells n).toList:=by
 have hc:=hz.1.cells
 have hsz:zv.cells.size=z.cells.length:=by rw [← hc.1]; simp
 have hp:Pw (bA w cx.fr) z.cells zv.cells.toList:=⟨hc.1,hc.2.1,hc.2.2⟩
 have:=(Pw.flat hp n).Cn (cx:=cx) (S:=S)
 rw [← qi zv.cells n (by omega)] at this
 exact this
theorem zC {R:bL} (hR:ObjOk R) {C:gK} {cx:Cx} {S:St} {w:World} (hS:aS R cx S w) {t e ty:Nat} {x:AV} {v:Value} {nx:DD} (h:yI C e S x=some nx) (he:cu C.P t=some e) (hx:aF cx S w x v) :
  ∃ S' cx' w',nx=.val (.tup []) S'∧(Builtin.clear_ #[t] ty #[v]).run C.P w=.ok (.tuple #[]) w'∧aS R cx' S' w'∧Ext cx S w cx' S' w':=by
 have hu:=bP he
 unfold yI at h
 split at h
 ·
  simp only [Option.some.injEq] at h; subst h
  have:=zR hx.dd; subst this
  exact ⟨S,cx,w,rfl,by simp [Builtin.clear_,aL w hu],hS,Ext.refl w hS.wf⟩
 ·
  simp only [Option.some.injEq] at h; subst h
  obtain ⟨a,cap,rfl,_⟩:=x8 hx.dd
  exact ⟨S,cx,w,rfl,by cases a <;> simp [Builtin.clear_,aL w hu],hS,Ext.refl w hS.wf⟩
 ·
  rename_i id g off len lim sz
  cases hx with
  | msl _ _ _ _ _ _ b cap hn hl hcap h63 hp =>
  split at h
  ·
   rename_i h0
   subst h0
   simp only [Option.some.injEq] at h; subst h
   exact ⟨S,cx,w,rfl,by simp [Builtin.clear_,aL w hu],hS,Ext.refl w hS.wf⟩
  ·
   rename_i h0
   split at h
   ·
    rename_i cs z hlk hz
    split at h
    ·
     rename_i hc
     obtain ⟨rfl,hpos,hle⟩:=hc
     simp only [Option.some.injEq] at h; subst h
     have hk:=mV hlk
     obtain ⟨p1,p2,p3⟩:=hp (by simp [cur,hk])
     subst p1
     obtain ⟨c1,c2,arr,el,c3,c4,c5⟩:=hS.cells id g cs hk
     obtain ⟨zv,z1,z2⟩:=jC hz w cx.fr
     have s4:=zk (S:=S) z2 len hpos
     have hyl:((List.replicate len z.cells).flatten.map AV.d).length=len * z.cells.length:=by
      rw [← s4.1]
      have hsz:zv.cells.size=z.cells.length:=by rw [← z2.1.cells.1]; simp
      simp [Builtin.zeroCells,hsz]
     generalize (List.replicate len z.cells).flatten.map AV.d=ys at s4 hyl
     generalize hfs:(Builtin.zeroCells zv.cells len).toList=fs at s4
     obtain ⟨w',r1,r2,r3,r4,r5,r6,r7,r8⟩:=gZ (P:=C.P) fs w (cx.bm id) off 0 arr el (0,0) c3 s4.2.1 (by have:=c4.2.2; have:=s4.1; omega) (.inl rfl)
     have hw:=mf hR (w':=w') (cs':=setAt cs off ys) (arr':=(setAt arr.toList (off + 0) fs).toArray) (el:=el) hS hk r2 r3 r4 r5 r6 r8 (by simp [dU]) (by simp [dU]; exact c4.1) (fun i x hx=>by
      rw [fe _ _ _ _ (by omega)] at hx
      simp only [List.getElem?_toArray,Nat.add_zero]
      rw [fe _ _ _ _ (by have:=c4.2.2; have:=s4.1; simp; omega)]
      by_cases hi:off ≤ i∧i < off + ys.length
      ·
       rw [if_pos hi] at hx
       rw [if_pos (by rw [s4.1]; exact hi)]
       have hlt:i - off < fs.length:=by rw [s4.1]; omega
       have hu:=List.getElem?_eq_getElem hlt
       exact ⟨_,hu,s4.2.2 _ x _ hx hu,s4.2.1 _ (List.getElem_mem hlt)⟩
      ·
       rw [if_neg hi] at hx
       rw [if_neg (by rw [s4.1]; exact hi)]
       obtain ⟨z,z1,z2,z3⟩:=c5 i x hx
       exact ⟨z,by simpa using z1,z2,z3⟩)
     refine ⟨_,cx,w',rfl,?_,hw.1,hw.2⟩
     obtain ⟨m,hm⟩:=Nat.exists_eq_succ_of_ne_zero h0
     subst hm
     simp only [Builtin.clear_,List.getElem?_toArray,List.getElem?_cons_zero,Sem.run_bind,aL w hu,Result.andThen_ok,z1,hfs,r1,Sem.run_pure]
    ·
     cases h
   ·
    cases h
 ·
  cases h
theorem vL {R:bL} (hR:ObjOk R) {P:Program} {cx:Cx} {S:St} {w:World} (hS:aS R cx S w) {id g off:Nat} {cs ys:List AV} {fs:List Value} (hk:S.H.get id=some (.cells g cs)) (hle:off + ys.length ≤ cs.length) (s4:Pw (aF cx S w) ys fs) :
  ∃ w',(storeCells ⟨cx.bm id,off,none⟩ fs).run P w=.ok () w'∧aS R cx { S with H:=S.H.set id (.cells g (setAt cs off ys)) } w'∧Ext cx S w cx { S with H:=S.H.set id (.cells g (setAt cs off ys)) } w':=by
 obtain ⟨c1,c2,arr,el,c3,c4,c5⟩:=hS.cells id g cs hk
 obtain ⟨w',r1,r2,r3,r4,r5,r6,r7,r8⟩:=gZ (P:=P) fs w (cx.bm id) off 0 arr el (0,0) c3 s4.2.1 (by have:=c4.2.2; have:=s4.1; omega) (.inl rfl)
 have hw:=mf hR (w':=w') (cs':=setAt cs off ys) (arr':=(setAt arr.toList (off + 0) fs).toArray) (el:=el) hS hk r2 r3 r4 r5 r6 r8 (by simp [dU]) (by simp [dU]; exact c4.1) (fun i x hx=>by
  rw [fe _ _ _ _ (by omega)] at hx
  simp only [List.getElem?_toArray,Nat.add_zero]
  rw [fe _ _ _ _ (by have:=c4.2.2; have:=s4.1; simp; omega)]
  by_cases hi:off ≤ i∧i < off + ys.length
  ·
   rw [if_pos hi] at hx
   rw [if_pos (by rw [s4.1]; exact hi)]
   have hlt:i - off < fs.length:=by rw [s4.1]; omega
   have hu:=List.getElem?_eq_getElem hlt
   exact ⟨_,hu,s4.2.2 _ x _ hx hu,s4.2.1 _ (List.getElem_mem hlt)⟩
  ·
   rw [if_neg hi] at hx
   rw [if_neg (by rw [s4.1]; exact hi)]
   obtain ⟨z,z1,z2,z3⟩:=c5 i x hx
   exact ⟨z,by simpa using z1,z2,z3⟩)
 exact ⟨w',r1,hw.1,hw.2⟩
theorem AA {R:bL} (hR:ObjOk R) {C:gK} {cx:Cx} {S:St} {w:World} (hS:aS R cx S w) {t t2 e ty:Nat} {x y:AV} {v u:Value} {nx:DD} (h:Aj C e S x y=some nx) (he:cu C.P t=some e) (hx:aF cx S w x v) (hy:aF cx S w y u) :
  ∃ n S' cx' w',nx=.val (.d (.int .i64 (n:Nat))) S'∧(Builtin.copy_ #[t,t2] ty #[v,u]).run C.P w=.ok (.int .i64 (n:Nat)) w'∧aS R cx' S' w'∧Ext cx S w cx' S' w':=by
 have hu:=bP he
 unfold Aj at h
 split at h
 ·
  rename_i id g off len sz hrow
  split at h
  ·
   rename_i cs hlk
   split at h
   ·
    rename_i hc
    obtain ⟨rfl,hpos,hle⟩:=hc
    have hk:=mV hlk
    obtain ⟨ie,hi⟩:∃ i,C.P.info? e=some i:=by
     unfold aH at hpos
     split at hpos
     ·
      exact ⟨_,by assumption⟩
     ·
      omega
    have hse:aH C.P e=ie.size:=by simp [aH,hi]
    have hs:(Go.sizeOf e).run C.P w=.ok ie.size w:=by simp [Go.sizeOf,typeInfo,hi]
    obtain ⟨b,cap,rfl,hlcap,h63,hp⟩:=o8 hrow hx
    have p1:=hp (by simp [cur,hk])
    subst p1
    split at h
    ·
     rename_i id2 g2 off2 len2 sz2 hrow2
     split at h
     ·
      rename_i cs2 hlk2
      split at h
      ·
       rename_i hc2
       obtain ⟨rfl,hle2⟩:=hc2
       simp only [Option.some.injEq] at h; subst h
       have hk2:=mV hlk2
       obtain ⟨b2,cap2,rfl,hl2cap,h632,hp2⟩:=o8 hrow2 hy
       have p1':=hp2 (by simp [cur,hk2])
       subst p1'
       obtain ⟨c1,c2,arr,el,c3,c4,c5⟩:=hS.cells id2 g2 cs2 hk2
       have hmin:min len2 len * aH C.P e ≤ len2 * aH C.P e:=Nat.mul_le_mul_right _ (Nat.min_le_left _ _)
       have hmin':min len2 len * aH C.P e ≤ len * aH C.P e:=Nat.mul_le_mul_right _ (Nat.min_le_right _ _)
       have s4:=vC c4.2.2 c5 off2 (min len2 len * aH C.P e) (by omega)
       have hld:=lL (P:=C.P) (w:=w) (o:=off2) (n:=min len2 len * aH C.P e) c3 (by have:=c4.2.2; omega)
       obtain ⟨w',r1,r2,r3⟩:=vL hR (P:=C.P) (off:=off) hS hk (by simp; omega) s4
       refine ⟨min len2 len,_,cx,w',rfl,?_,r2,r3⟩
       have hf:(Builtin.firstCells ie.size (min len2 len) (.slice (some ⟨cx.bm id2,off2,none⟩) len2 cap2)).run C.P w=.ok ((arr.toList.drop off2).take (min len2 len * aH C.P e)).toArray w:=by rw [← hse]; exact hld
       have hln:(Builtin.lenOf (.slice (some ⟨cx.bm id2,off2,none⟩) len2 cap2)).run C.P w=.ok len2 w:=rfl
       simp only [Builtin.copy_,List.getElem?_toArray,List.getElem?_cons_zero,List.getElem?_cons_succ,Sem.run_bind,aL w hu,Result.andThen_ok,hln,hs,Nat.min_def] at hf ⊢
       simp only [Nat.min_def] at r1
       rw [hf]
       simp only [Result.andThen_ok,r1,Sem.run_pure,goInt]
      ·
       cases h
     ·
      cases h
    ·
     split at h
     ·
      rename_i ys n hsrc
      split at h
      ·
       rename_i hnl
       simp only [Option.some.injEq] at h; subst h
       obtain ⟨s1,s2,fs,s3,s4⟩:=jZ (P:=C.P) hS hsrc hy
       have hmul:n * aH C.P e ≤ len * aH C.P e:=Nat.mul_le_mul_right _ hnl
       obtain ⟨w',r1,r2,r3⟩:=vL hR (P:=C.P) (off:=off) hS hk (by omega) s4
       refine ⟨n,_,cx,w',rfl,?_,r2,r3⟩
       have hf:(Builtin.firstCells ie.size n u).run C.P w=.ok fs.toArray w:=by rw [← hse]; exact s3 w rfl
       have hmin:Nat.min n len=n:=Nat.min_eq_left hnl
       simp only [Builtin.copy_,List.getElem?_toArray,List.getElem?_cons_zero,List.getElem?_cons_succ,Sem.run_bind,aL w hu,Result.andThen_ok,s1,hs,hmin,hf,r1,Sem.run_pure,goInt]
      ·
       cases h
     ·
      cases h
   ·
    cases h
  ·
   cases h
 ·
  cases h
theorem Aq {R:bL} (hR:ObjOk R) {C:gK} {cx:Cx} {S:St} {w:World} (hS:aS R cx S w) {t:Nat} {l c:D} {r:AV × St} {lv cv:Value} (h:Ay C t S l c=some r) (hl:bA w cx.fr l lv) (hc:bA w cx.fr c cv) :
  ∃ cx' w' u,(Instr.makeSlice t lv cv).run C.P w=.ok u w'∧aS R cx' r.2 w'∧Ext cx S w cx' r.2 w'∧aF cx' r.2 w' r.1 u:=by
 unfold Ay at h
 split at h
 ·
  rename_i e k1 n1 k2 n2 he
  have a1:=hl.val rfl; cases a1
  have a2:=hc.val rfl; cases a2
  split at h
  ·
   rename_i z hz
   split at h
   ·
    rename_i hcond
    obtain ⟨c1,c2,c3,c4,c5,c6,c7,c8⟩:=hcond
    simp only [Option.some.injEq] at h; subst h
    obtain ⟨ie,hi⟩:∃ i,C.P.info? e=some i:=by
     unfold aH at c4
     split at c4
     ·
      exact ⟨_,by assumption⟩
     ·
      omega
    have hse:aH C.P e=ie.size:=by simp [aH,hi]
    have hbe:bytesOf C.P e=ie.bytes:=by simp [bytesOf,hi]
    obtain ⟨zv,z1,z2⟩:=jC hz w cx.fr
    obtain ⟨zz,hzz⟩:∃ q,ie.zero=some q:=by
     cases hq:ie.zero with
     | some q=>exact ⟨q,rfl⟩
     | none=>simp [zeroOf,hi,hq] at hz
    have hzv:zv=zz:=by simpa [zeroValue,typeInfo,hi,hzz] using z1.symm
    subst hzv
    have hrun:=run_makeSlice (P:=C.P) w t e ie zv (bP he) hi hzz k1 k2 n1 n2 c1 c2 (by rw [← hse]; exact c5) (by rw [← hbe]; exact c6) (by omega)
    have s4:=zk (S:=S) z2 n2.toNat (by omega)
    have hsz:zv.cells.size=aH C.P e:=by rw [← c3,← z2.1.cells.1]; simp
    have hyl:((List.replicate n2.toNat z.cells).flatten.map AV.d).length=n2.toNat * aH C.P e:=by
     rw [← s4.1]; simp [Builtin.zeroCells,hsz]
    obtain ⟨cx',k1',k2',k3'⟩:=nP hR hS _ _ #[] e n2.toNat (aH C.P e) n2.toNat s4 hyl (Nat.le_refl _) (by omega) (by simp)
    have harr:(Builtin.zeroCells zv.cells n2.toNat).toList.toArray ++ #[]=madeCells zv.cells (n2.toNat * ie.size):=by
     rw [← hse,← hsz]; apply Array.ext'; simp [Builtin.zeroCells,madeCells]
    rw [harr] at k1' k2' k3'
    refine ⟨cx',_,_,hrun,k1',k2',?_⟩
    cases k3' with
    | msl _ _ _ _ _ _ b cap hn hll hcap h63 hp=>exact .msl _ _ _ _ _ _ _ _ hn (by omega) hcap h63 hp
   ·
    cases h
  ·
   cases h
 ·
  cases h
theorem uX {R:bL} (hR:ObjOk R) {C:gK} {cx:Cx} {S:St} {w:World} (hS:aS R cx S w) {ρ:Operand→Option AV} {σ:Operand→Value} (hρ:tQ cx S w ρ σ) {t len:Nat} {parts:Array (Nat × Operand)}
  {ps:List (Nat × AV)} {nx:DD} (hps:qO ρ parts=some ps) (h:qf C t S len ps=some nx) :
  ∃ v S',nx=.val v S'∧∃ cx' u w',(Instr.buildSlice t len (parts.map fun (i,x)=>(i,σ x))).run C.P w=.ok u w'∧aS R cx' S' w'∧Ext cx S w cx' S' w'∧aF cx' S' w' v u:=by
 obtain ⟨e1,e2⟩:=oH hρ hps
 unfold qf at h
 split at h
 ·
  rename_i e he
  split at h
  ·
   rename_i z hz
   split at h
   ·
    rename_i hc
    obtain ⟨c1,c2,c3,c4⟩:=hc
    cases hhas:S.H.has S.nx with
    | true=>simp [hhas] at h
    | false =>
    simp only [hhas,cond_false,Option.map_eq_some_iff] at h
    obtain ⟨cs,hf,rfl⟩:=h
    have hu:=bP he
    obtain ⟨ag,hag⟩:=Option.isSome_iff_exists.1 c4
    obtain ⟨d,hd⟩:=iX hag
    obtain ⟨ie,hie⟩:=iM hd
    have hse:aH C.P e=ie.size:=by simp [aH,hie]
    obtain ⟨zv,r1,r2⟩:=jC hz w cx.fr
    have hpw:=r2.xS
    have hsz:zv.cells.size=ie.size:=by rw [← hse,← c1,← hpw.1]; simp
    have hP:Pw (aF cx S w) ((List.replicate len z.cells).flatten.map AV.d) ((Array.range (len * ie.size)).map (zv.cells[· % zv.cells.size]!)).toList:=by
     rw [← hsz,qi _ _ (by rw [hsz,← hse]; exact Nat.pos_of_ne_zero (fun q=>by rw [q,Nat.mul_zero] at c2; omega))]
     exact (hpw.flat len).Cn
    obtain ⟨arr',f1,f2⟩:=qp (Rl:=aF cx S w) ps (parts.map fun (i,x)=>(i,σ x)).toList _ cs _ hf e1 (fun i p u hp hu=>⟨(e2 i p u hp hu).1,fun ds hds=>by
     unfold lW at hds
     cases hpn:p.2.plain with
     | true=>rw [hpn] at hds; simp at hds; subst hds; exact jq (e2 i p u hp hu).2 hpn
     | false=>rw [hpn] at hds; simp at hds⟩) hP
    have hcl:cs.length=len * aH C.P e:=by
     rw [nN _ _ _ hf,List.length_map,← c1]
     simp
    have h3:len ≤ len * aH C.P e:=Nat.le_mul_of_pos_right _ (Nat.pos_of_ne_zero (fun q=>by rw [q,Nat.mul_zero] at c2; omega))
    obtain ⟨cx',k1,k2,k3⟩:=nP hR hS cs arr'.toList #[] e len (aH C.P e) len f2 hcl (Nat.le_refl _) (by omega) (by simp)
    refine ⟨_,_,rfl,cx',.slice (some ⟨w.heap.size,0,none⟩) len len,w.alloc (.cells arr' e),?_,?_,?_,?_⟩
    ·
     have hsm':¬ len * ie.size > 2 ^ 24:=by rw [← hse]; have:(2:Nat) ^ 24=16777216:=(by decide); omega
     rw [hse] at f1
     simp only [Instr.buildSlice,Sem.run_bind,aL w hu,Result.andThen_ok,dG w hd,hse]
     rw [if_neg hsm',if_neg (by rw [← hse]; omega)]
     simp only [Sem.run_bind,Sem.run_pure,Result.andThen_ok,r1]
     rw [f1]
     simp only [newRow,Sem.run_bind,Sem.run_pure,run_newObj,Result.andThen_ok]
     rfl
    ·
     simpa using k1
    ·
     simpa using k2
    ·
     simpa using k3
   ·
    cases h
  ·
   cases h
 ·
  cases h
end
end Go.Ev

namespace Go.Ev
noncomputable section
set_option linter.unusedVariables false
set_option linter.unusedSimpArgs false
theorem Dj {w:World} {fr:Nat→Nat→Prop} {s:List UInt8} {v:Value} (h:bA w fr (.str s) v):∃ b:ByteArray,v=.string b∧b.data.toList=s:=by
 have:=h.val rfl; cases this; exact ⟨_,rfl,rfl⟩
theorem BU {a b:ByteArray} (h:a.data.toList=b.data.toList):a=b:=by
 cases a; cases b
 simp only at h
 congr 1
 exact Array.toList_inj.1 h
theorem xw {w:World} {fr:Nat→Nat→Prop} {k:D} {v u:Value} (hs:ll k=true) (h1:bA w fr k v) (h2:bA w fr k u):v=u:=by
 cases k <;> simp only [ll,Bool.false_eq_true] at hs
 ·
  have a:=h1.val rfl; have b:=h2.val rfl; cases a; cases b; rfl
 ·
  have a:=h1.val rfl; have b:=h2.val rfl; cases a; cases b; rfl
 ·
  obtain ⟨a,rfl,ha⟩:=Dj h1
  obtain ⟨b,rfl,hb⟩:=Dj h2
  rw [BU (ha.trans hb.symm)]
theorem tq {w:World} {fr:Nat→Nat→Prop} {k:D} {v:Value} (hs:ll k=true) (h:bA w fr k v) (n:Nat):Instr.sameBits n v v=true:=by
 cases k <;> simp only [ll,Bool.false_eq_true] at hs
 ·
  have a:=h.val rfl; cases a; cases n <;> simp [Instr.sameBits]
 ·
  have a:=h.val rfl; cases a; cases n <;> simp [Instr.sameBits]
 ·
  obtain ⟨a,rfl,ha⟩:=Dj h
  cases n <;> simp [Instr.sameBits,zB]
theorem mE {P:Program} {t:Nat} {k:D} (h:ma P t k=true):(ll k=true∧kD P t=true) ∨
  ∃ xs fs,k=.agg xs∧P.underlying t=some (.struct fs)∧(∀ x ∈ xs,ll x=true)∧∀ f ∈ fs.toList,f.name ≠ "_" ∧ kD P f.type=true∧(ik P f.type xs f.offset).isSome=true:=by
 cases k
 case agg xs =>
  right
  simp only [ma] at h
  split at h
  ·
   rename_i fs hu
   simp only [Bool.and_eq_true,List.all_eq_true] at h
   refine ⟨xs,fs,rfl,hu,h.1,fun f hf=>?_⟩
   have:=Array.all_eq_true_iff_forall_mem.1 h.2 f (by simpa using hf)
   simp only [Bool.and_eq_true,bne_iff_ne,ne_eq] at this
   exact ⟨this.1.1,this.1.2,this.2⟩
  ·
   cases h
 all_goals
  left
  simp only [ma,Bool.and_eq_true] at h
  exact h
theorem EY {P:Program} {w:World} {fr:Nat→Nat→Prop} {t:Nat} {k:D} {v u:Value} (hk:ma P t k=true) (h1:bA w fr k v) (h2:bA w fr k u):v=u:=by
 rcases mE hk with ⟨hs,_⟩ | ⟨xs,fs,rfl,_,hs,_⟩
 ·
  exact xw hs h1 h2
 ·
  obtain ⟨vs,rfl,l1,_,c1⟩:=h1.wP
  obtain ⟨us,rfl,l2,_,c2⟩:=h2.wP
  congr 2
  apply List.ext_getElem (by omega)
  intro i q1 q2
  have hx:=List.getElem?_eq_getElem (l:=xs) (i:=i) (by omega)
  exact xw (hs _ (List.getElem_mem _)) (c1 i _ _ hx (List.getElem?_eq_getElem q1)) (c2 i _ _ hx (List.getElem?_eq_getElem q2))
theorem Da {P:Program} {w:World} {fr:Nat→Nat→Prop} {t:Nat} {k:D} {v:Value} (hk:ma P t k=true) (h1:bA w fr k v) (n:Nat):Instr.sameBits (n + 1) v v=true:=by
 rcases mE hk with ⟨hs,_⟩ | ⟨xs,fs,rfl,_,hs,_⟩
 ·
  exact tq hs h1 _
 ·
  obtain ⟨vs,rfl,l1,_,c1⟩:=h1.wP
  simp only [Instr.sameBits,beq_self_eq_true,Bool.true_and,List.all_eq_true]
  intro p hp
  obtain ⟨i,hi⟩:=List.mem_iff_getElem?.1 hp
  simp only [List.getElem?_zip_eq_some] at hi
  obtain ⟨a,b⟩:=p
  simp only at hi ⊢
  have hab:a=b:=by have:=hi.1.symm.trans hi.2; simpa using this
  subst hab
  have hlt:i < vs.length:=(List.getElem?_eq_some_iff.1 hi.1).1
  have hx:=List.getElem?_eq_getElem (l:=xs) (i:=i) (by omega)
  exact tq (hs _ (List.getElem_mem _)) (c1 i _ _ hx hi.1) _
theorem mF {P:Program} {t:Nat} (h:kD P t=true):P.underlying t=some .bool∨(∃ k,P.underlying t=some (.int k))∨P.underlying t=some .string:=by
 unfold kD at h
 split at h
 ·
  exact .inl (by assumption)
 ·
  exact .inr (.inl ⟨_,by assumption⟩)
 ·
  exact .inr (.inr (by assumption))
 ·
  cases h
theorem qL {P:Program} {w:World} {t:Nat} (h:kD P t=true) (b:Bool) (n:Nat) (v:Value):(Instr.checkKey b (n + 1) t v).run P w=.ok () w:=by
 rcases mF h with hu | ⟨k,hu⟩ | hu <;> simp [Instr.checkKey,aL w hu]
theorem pG {P:Program} {w:World} {fr:Nat→Nat→Prop} {t:Nat} {k:D} {v:Value} (hk:ma P t k=true) (h1:bA w fr k v) (b:Bool):(Instr.checkKey b 10000 t v).run P w=.ok () w:=by
 rcases mE hk with ⟨hs,ht⟩ | ⟨xs,fs,rfl,hu,hs,hf⟩
 ·
  exact qL ht b 9999 v
 ·
  obtain ⟨vs,rfl,l1,o1,c1⟩:=h1.wP
  unfold Instr.checkKey
  simp only [Sem.run_bind,aL w hu,Result.andThen_ok]
  rw [← Array.forIn_toList]
  generalize fs.toList=l at hf
  induction l with
  | nil=>simp
  | cons f l ih =>
   obtain ⟨h2,h3,h4⟩:=hf f (by simp)
   obtain ⟨r,hr⟩:=Option.isSome_iff_exists.1 h4
   obtain ⟨u,e1,_⟩:=mr (w:=w) (fr:=fr) hr vs l1 o1 c1
   simp only [List.forIn_cons,ne_eq,h2,not_false_eq_true,if_true,Sem.run_bind,e1,Result.andThen_ok,qL h3,Sem.run_pure]
   exact ih (fun f hf'=>hf f (by simp [hf']))
def EI (w:World) (fr:Nat→Nat→Prop) (es:List (D × AV × Nat)) (ms:List MapEntry):Prop :=
 ms.length=es.length∧∀ (i:Nat) (p:D × AV × Nat) (m:MapEntry),es[i]? = some p→ms[i]? = some m→bA w fr p.1 m.key
theorem EI.tail {w:World} {fr:Nat→Nat→Prop} {p:D × AV × Nat} {es:List (D × AV × Nat)} {m:MapEntry} {ms:List MapEntry} (h:EI w fr (p :: es) (m :: ms)):EI w fr es ms :=
 ⟨by have:=h.1; simpa using this,fun i q r hq hr=>h.2 (i + 1) q r (by simpa using hq) (by simpa using hr)⟩
def Found (ms:List MapEntry) (i0:Nat):Option (Nat × AV)→Option (Nat × Value)→Prop
 | none,r=>r=none
 | some (i,_),r=>∃ m,i0 ≤ i∧ms[i - i0]? = some m∧r=some (i,m.val)
theorem vG {P:Program} {t:Nat} {k:D}:∀ {es:List (D × AV × Nat)} {i0:Nat} {i:Nat} {v:AV},jV P t k es i0=some (some (i,v))→∃ b,i0 ≤ i∧es[i - i0]? = some (k,v,b)
 | [],i0,i,v,h=>by simp [jV] at h
 | (x,u,b) :: l,i0,i,v,h=>by
  simp only [jV] at h
  split at h
  ·
   split at h
   ·
    rename_i hs
    simp only [Option.some.injEq,Prod.mk.injEq] at h
    obtain ⟨rfl,rfl⟩:=h
    have:=D.same_eq _ _ hs
    subst this
    exact ⟨b,Nat.le_refl _,by simp⟩
   ·
    cases h
  ·
   obtain ⟨b',h1,h2⟩:=vG h
   refine ⟨b',by omega,?_⟩
   rw [show i - i0=(i - (i0 + 1)) + 1 by omega]
   simpa using h2
  ·
   cases h
theorem q9 {P:Program} {w:World} {fr:Nat→Nat→Prop} {t:Nat} {k:D} {kv:Value} (hk:bA w fr k kv):∀ {es:List (D × AV × Nat)} {ms:List MapEntry} {i0:Nat} {r:Option (Nat × AV)},EI w fr es ms→jV P t k es i0=some r →
  ∃ o,(Instr.findAsking t kv ms i0).run P w=.ok o w∧Found ms i0 r o
 | [],ms,i0,r,hE,h=>by
  have:ms=[]:=List.eq_nil_of_length_eq_zero (by rw [hE.1]; rfl)
  subst this
  simp only [jV,Option.some.injEq] at h; subst h
  exact ⟨none,by simp [Instr.findAsking],rfl⟩
 | (x,v,b) :: es,ms,i0,r,hE,h=>by
  match ms,hE with
  | m :: ms,hE =>
   have hx:=hE.2 0 _ m rfl rfl
   simp only [jV] at h
   split at h
   ·
    rename_i he
    split at h
    ·
     simp only [Option.some.injEq] at h; subst h
     have:=nK 20 t k x true kv m.key he hk hx 10000 (by omega)
     refine ⟨some (i0,m.val),?_,m,Nat.le_refl _,by simp,rfl⟩
     have hq:(Op.equal t kv m.key).run P w=.ok true w:=this
     simp [Instr.findAsking,hq]
    ·
     cases h
   ·
    rename_i he
    have:=nK 20 t k x false kv m.key he hk hx 10000 (by omega)
    have hq:(Op.equal t kv m.key).run P w=.ok false w:=this
    obtain ⟨o,h1,h2⟩:=q9 hk hE.tail h
    refine ⟨o,by simp [Instr.findAsking,hq,h1],?_⟩
    cases r with
    | none=>exact h2
    | some p =>
     obtain ⟨i,v'⟩:=p
     obtain ⟨m',q1,q2,q3⟩:=h2
     refine ⟨m',by omega,?_,q3⟩
     rw [show i - i0=(i - (i0 + 1)) + 1 by omega]
     simpa using q2
   ·
    cases h
theorem pX {P:Program} {w:World} {fr:Nat→Nat→Prop} {t:Nat} {k x:D} {kv xv:Value} {d:TypeDesc} {b:Bool} (ht:P.underlying t=some d) (hs:kD P t=true) (he:jY P 20 t k x=some b) (hk:bA w fr k kv) (hx:bA w fr x xv) :
  Instr.sameNow d kv xv=some b:=by
 rcases mF hs with hu | ⟨kk,hu⟩ | hu <;> rw [ht] at hu <;> simp only [Option.some.injEq] at hu <;> subst hu
 ·
  unfold jY at he
  rw [ht] at he
  split at he <;> first | (rename_i q; cases q; done) | skip
  ·
   have h1:=hk.val rfl; have h2:=hx.val rfl; cases h1; cases h2
   simpa [Instr.sameNow] using he
  ·
   cases he
 ·
  unfold jY at he
  rw [ht] at he
  split at he <;> first | (rename_i q; cases q; done) | skip
  ·
   have h1:=hk.val rfl; have h2:=hx.val rfl; cases h1; cases h2
   simpa [Instr.sameNow] using he
  ·
   cases he
 ·
  unfold jY at he
  rw [ht] at he
  split at he <;> first | (rename_i q; cases q; done) | skip
  ·
   obtain ⟨a,rfl,rfl⟩:=Dj hk
   obtain ⟨c,rfl,rfl⟩:=Dj hx
   simpa [Instr.sameNow,zB] using he
  ·
   cases he
theorem xK {P:Program} {w:World} {fr:Nat→Nat→Prop} {t:Nat} {k:D} {kv:Value} {d:TypeDesc} (ht:P.underlying t=some d) (hs:kD P t=true) (hk:bA w fr k kv):∀ {es:List (D × AV × Nat)} {ms:List MapEntry} {i0:Nat} {r:Option (Nat × AV)},EI w fr es ms→jV P t k es i0=some r →
  ∃ o,Instr.findNow d kv ms i0=some o∧Found ms i0 r o
 | [],ms,i0,r,hE,h=>by
  have:ms=[]:=List.eq_nil_of_length_eq_zero (by rw [hE.1]; rfl)
  subst this
  simp only [jV,Option.some.injEq] at h; subst h
  exact ⟨none,by simp [Instr.findNow],rfl⟩
 | (x,v,b) :: es,ms,i0,r,hE,h=>by
  match ms,hE with
  | m :: ms,hE =>
   have hx:=hE.2 0 _ m rfl rfl
   simp only [jV] at h
   split at h
   ·
    rename_i he
    split at h
    ·
     simp only [Option.some.injEq] at h; subst h
     exact ⟨some (i0,m.val),by simp only [Instr.findNow,pX ht hs he hk hx],m,Nat.le_refl _,by simp,rfl⟩
    ·
     cases h
   ·
    rename_i he
    obtain ⟨o,h1,h2⟩:=xK ht hs hk hE.tail h
    refine ⟨o,by simp only [Instr.findNow,pX ht hs he hk hx,h1],?_⟩
    cases r with
    | none=>exact h2
    | some p =>
     obtain ⟨i,v'⟩:=p
     obtain ⟨m',q1,q2,q3⟩:=h2
     refine ⟨m',by omega,?_,q3⟩
     rw [show i - i0=(i - (i0 + 1)) + 1 by omega]
     simpa using q2
   ·
    cases h
theorem gp {P:Program} {w:World} {fr:Nat→Nat→Prop} {t:Nat} {k:D} {kv:Value} (hok:ma P t k=true) (hk:bA w fr k kv) {es:List (D × AV × Nat)} {ms:List MapEntry} {r:Option (Nat × AV)} (hE:EI w fr es ms) (h:jV P t k es 0=some r) :
  ∃ o,(Instr.findKey t kv ms).run P w=.ok o w∧Found ms 0 r o:=by
 rcases mE hok with ⟨hs,ht⟩ | ⟨xs,fs,rfl,hu,hs,hf⟩
 ·
  obtain ⟨d,hd⟩:∃ d,P.underlying t=some d:=by
   rcases mF ht with hu | ⟨kk,hu⟩ | hu <;> exact ⟨_,hu⟩
  obtain ⟨o,h1,h2⟩:=xK hd ht hk hE h
  exact ⟨o,by simp only [Instr.findKey,Sem.run_bind,aL w hd,Result.andThen_ok,h1,Sem.run_pure],h2⟩
 ·
  cases ms with
  | nil =>
   have:es=[]:=List.eq_nil_of_length_eq_zero (by rw [← hE.1]; rfl)
   subst this
   simp only [jV,Option.some.injEq] at h; subst h
   exact ⟨none,by simp [Instr.findKey,aL w hu,Instr.findNow],rfl⟩
  | cons m ms =>
   obtain ⟨o,h1,h2⟩:=q9 (P:=P) (t:=t) hk hE h
   refine ⟨o,?_,h2⟩
   obtain ⟨vs,rfl,_⟩:=hk.wP
   simp only [Instr.findKey,Sem.run_bind,aL w hu,Result.andThen_ok,Instr.findNow,Instr.sameNow,h1]
end
end Go.Ev

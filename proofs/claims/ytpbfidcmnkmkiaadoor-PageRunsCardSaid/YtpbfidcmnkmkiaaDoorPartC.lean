import Derived.Test.YtpbfidcmnkmkiaaDoorPartB
import Derived.Test.YtpbfidcmnkmkiaaDoorProg
import Derived.WalkKit
import Derived.ProofKit
import Derived.Shelf.Strconv.Itoa3
import Derived.Lib.AppendIntMem
namespace Go.Ev
namespace Pr
set_option linter.unusedVariables false
set_option linter.unusedSimpArgs false
structure Attr where
 Name:Str
 Value:Str
 deriving DecidableEq
def ax (x:Attr):D:=.agg [(.str x.Name),(.str x.Value)]
theorem Attr.eq (x:Attr):ax x=.agg [(.str x.Name),(.str x.Value)]:=rfl
theorem Attr.cells (x:Attr):(ax x).cells=[(.str x.Name),(.str x.Value)]:=by rw [Attr.eq]; rfl
theorem Attr.bB (x:Attr):(AV.d (ax x)).cells=[.d (.str x.Name),.d (.str x.Value)]:=by rw [Attr.eq]; rfl
theorem Attr.agg (x:Attr):(ax x).isAgg=true:=by rw [Attr.eq]; rfl
theorem Attr.len (x:Attr):(ax x).cells.length=2:=by rw [Attr.cells]; rfl
theorem Attr.cn (x:Attr):(ax x).cn=ax x:=by
 rw [Attr.eq]
 exact uC (by
  intro d hd
  simp only [List.mem_cons,List.not_mem_nil,or_false] at hd
  rcases hd with rfl | rfl
  ·
   exact rfl
  ·
   exact rfl)
theorem Attr.fV {P:Program} {t:Nat} {x:Attr} (ha:cZ P t=some true) (hz:aI P t=2):dO P t (ax x).cells 0=some (ax x):=by
 rw [Attr.cells,kJ ha hz rfl,Attr.eq]; rfl
def Attr.beq (x y:Attr):Bool:=((x.Name == y.Name) && ((x.Value == y.Value) && true))
inductive Tree where
 | mk (Tag:Str) (Key:Str) (Text:Str) (aL:(List Attr)) (Kids:(List Tree))
def Tree.Tag:Tree→Str | .mk x _ _ _ _=>x
def Tree.Key:Tree→Str | .mk _ x _ _ _=>x
def Tree.Text:Tree→Str | .mk _ _ x _ _=>x
def Tree.aL:Tree→(List Attr) | .mk _ _ _ x _=>x
def Tree.Kids:Tree→(List Tree) | .mk _ _ _ _ x=>x
mutual
def av:Tree→D
 | .mk x0 x1 x2 x3 x4=>.agg [(.str x0),(.str x1),(.str x2),(.sl ((x3).map ax) false),.sl (iD x4) false]
def iD:List Tree→List D
 | []=>[]
 | x :: l=>av x :: iD l
end
theorem mo:∀ (l:List Tree),iD l=l.map av
 | []=>rfl
 | x :: l=>by rw [iD,mo l]; rfl
theorem Tree.eq (x:Tree):av x=.agg [(.str x.Tag),(.str x.Key),(.str x.Text),(.sl ((x.aL).map ax) false),(.sl ((x.Kids).map av) false)]:=by
 cases x
 rw [av,mo]
 rfl
theorem Tree.cells (x:Tree):(av x).cells=[(.str x.Tag),(.str x.Key),(.str x.Text),(.sl ((x.aL).map ax) false),(.sl ((x.Kids).map av) false)]:=by rw [Tree.eq]; rfl
theorem Tree.bB (x:Tree):(AV.d (av x)).cells=[.d (.str x.Tag),.d (.str x.Key),.d (.str x.Text),.d (.sl ((x.aL).map ax) false),.d (.sl ((x.Kids).map av) false)]:=by rw [Tree.eq]; rfl
theorem Tree.agg (x:Tree):(av x).isAgg=true:=by rw [Tree.eq]; rfl
theorem Tree.len (x:Tree):(av x).cells.length=5:=by rw [Tree.cells]; rfl
mutual
theorem Tree.cn:∀ (x:Tree),(av x).cn=av x
 | .mk x0 x1 x2 x3 x4=>by
  rw [av]
  exact uC (by
   intro d hd
   simp only [List.mem_cons,List.not_mem_nil,or_false] at hd
   rcases hd with rfl | rfl | rfl | rfl | rfl
   ·
    exact rfl
   ·
    exact rfl
   ·
    exact rfl
   ·
    exact xO Attr.cn _ _
   ·
    exact congrArg (D.sl · false) (Tree.rX x4))
theorem Tree.rX:∀ (l:List Tree),D.rX (iD l)=iD l
 | []=>rfl
 | x :: l=>by rw [iD,D.rX,Tree.cn x,Tree.rX l]
end
theorem Tree.fV {P:Program} {t:Nat} {x:Tree} (ha:cZ P t=some true) (hz:aI P t=5):dO P t (av x).cells 0=some (av x):=by
 rw [Tree.cells,kJ ha hz rfl,Tree.eq]; rfl
structure fM where
 Name:Str
 Value:Str
 deriving DecidableEq
def aD (x:fM):D:=.agg [(.str x.Name),(.str x.Value)]
theorem fM.eq (x:fM):aD x=.agg [(.str x.Name),(.str x.Value)]:=rfl
theorem fM.cells (x:fM):(aD x).cells=[(.str x.Name),(.str x.Value)]:=by rw [fM.eq]; rfl
theorem fM.bB (x:fM):(AV.d (aD x)).cells=[.d (.str x.Name),.d (.str x.Value)]:=by rw [fM.eq]; rfl
theorem fM.agg (x:fM):(aD x).isAgg=true:=by rw [fM.eq]; rfl
theorem fM.len (x:fM):(aD x).cells.length=2:=by rw [fM.cells]; rfl
theorem fM.fV {P:Program} {t:Nat} {x:fM} (ha:cZ P t=some true) (hz:aI P t=2):dO P t (aD x).cells 0=some (aD x):=by
 rw [fM.cells,kJ ha hz rfl,fM.eq]; rfl
structure aF where
 state:(List Int)
 params:(List fM)
 steps:Int
def gT (x:aF):D:=.agg [(.sl ((x.state).map (D.int .i64)) false),(.sl ((x.params).map aD) false),(.int .i64 x.steps)]
theorem aF.eq (x:aF):gT x=.agg [(.sl ((x.state).map (D.int .i64)) false),(.sl ((x.params).map aD) false),(.int .i64 x.steps)]:=rfl
theorem aF.cells (x:aF):(gT x).cells=[(.sl ((x.state).map (D.int .i64)) false),(.sl ((x.params).map aD) false),(.int .i64 x.steps)]:=by rw [aF.eq]; rfl
theorem aF.bB (x:aF):(AV.d (gT x)).cells=[.d (.sl ((x.state).map (D.int .i64)) false),.d (.sl ((x.params).map aD) false),.d (.int .i64 x.steps)]:=by rw [aF.eq]; rfl
theorem aF.agg (x:aF):(gT x).isAgg=true:=by rw [aF.eq]; rfl
inductive aY where
 | mk (Kind:Int) (N:Int) (Tag:Str) (Text:Str) (aL:(List Attr)) (Kids:(List aY))
def aY.Kind:aY→Int | .mk x _ _ _ _ _=>x
def aY.N:aY→Int | .mk _ x _ _ _ _=>x
def aY.Tag:aY→Str | .mk _ _ x _ _ _=>x
def aY.Text:aY→Str | .mk _ _ _ x _ _=>x
def aY.aL:aY→(List Attr) | .mk _ _ _ _ x _=>x
def aY.Kids:aY→(List aY) | .mk _ _ _ _ _ x=>x
mutual
def aH:aY→D
 | .mk x0 x1 x2 x3 x4 x5=>.agg [(.int .i64 x0),(.int .i64 x1),(.str x2),(.str x3),(.sl ((x4).map ax) false),.sl (jK x5) false]
def jK:List aY→List D
 | []=>[]
 | x :: l=>aH x :: jK l
end
theorem nG:∀ (l:List aY),jK l=l.map aH
 | []=>rfl
 | x :: l=>by rw [jK,nG l]; rfl
theorem aY.eq (x:aY):aH x=.agg [(.int .i64 x.Kind),(.int .i64 x.N),(.str x.Tag),(.str x.Text),(.sl ((x.aL).map ax) false),(.sl ((x.Kids).map aH) false)]:=by
 cases x
 rw [aH,nG]
 rfl
theorem aY.cells (x:aY):(aH x).cells=[(.int .i64 x.Kind),(.int .i64 x.N),(.str x.Tag),(.str x.Text),(.sl ((x.aL).map ax) false),(.sl ((x.Kids).map aH) false)]:=by rw [aY.eq]; rfl
theorem aY.bB (x:aY):(AV.d (aH x)).cells=[.d (.int .i64 x.Kind),.d (.int .i64 x.N),.d (.str x.Tag),.d (.str x.Text),.d (.sl ((x.aL).map ax) false),.d (.sl ((x.Kids).map aH) false)]:=by rw [aY.eq]; rfl
theorem aY.agg (x:aY):(aH x).isAgg=true:=by rw [aY.eq]; rfl
theorem aY.len (x:aY):(aH x).cells.length=6:=by rw [aY.cells]; rfl
mutual
theorem aY.cn:∀ (x:aY),(aH x).cn=aH x
 | .mk x0 x1 x2 x3 x4 x5=>by
  rw [aH]
  exact uC (by
   intro d hd
   simp only [List.mem_cons,List.not_mem_nil,or_false] at hd
   rcases hd with rfl | rfl | rfl | rfl | rfl | rfl
   ·
    exact rfl
   ·
    exact rfl
   ·
    exact rfl
   ·
    exact rfl
   ·
    exact xO Attr.cn _ _
   ·
    exact congrArg (D.sl · false) (aY.rX x5))
theorem aY.rX:∀ (l:List aY),D.rX (jK l)=jK l
 | []=>rfl
 | x :: l=>by rw [jK,D.rX,aY.cn x,aY.rX l]
end
theorem aY.fV {P:Program} {t:Nat} {x:aY} (ha:cZ P t=some true) (hz:aI P t=6):dO P t (aH x).cells 0=some (aH x):=by
 rw [aY.cells,kJ ha hz rfl,aY.eq]; rfl
structure bM where
 Err:Int
 Note:Str
 At:Int
 deriving DecidableEq
def eu (x:bM):D:=.agg [(.int .i64 x.Err),(.str x.Note),(.int .i64 x.At)]
theorem bM.eq (x:bM):eu x=.agg [(.int .i64 x.Err),(.str x.Note),(.int .i64 x.At)]:=rfl
theorem bM.cells (x:bM):(eu x).cells=[(.int .i64 x.Err),(.str x.Note),(.int .i64 x.At)]:=by rw [bM.eq]; rfl
theorem bM.bB (x:bM):(AV.d (eu x)).cells=[.d (.int .i64 x.Err),.d (.str x.Note),.d (.int .i64 x.At)]:=by rw [bM.eq]; rfl
theorem bM.agg (x:bM):(eu x).isAgg=true:=by rw [bM.eq]; rfl
def fA (n:Nat) (a1:Attr) (a2:Attr):Option Bool :=
 (some (a1.Name == a2.Name))
def aP (a1:(List Attr)) (p2:Attr→Option Bool):Nat→Int→Option Int
 | 0,_=>none
 | k13 + 1,x12 =>
  (if (decide (x12 < ((a1).length:Int)))=true then ((idx a1 x12).bind fun z15=>((p2 z15).bind fun z16=>(if z16=true then (some x12) else ((aP a1 p2 k13) ((IntKind.wrap .i64 (x12 + 1))))))) else (some (-1)))
def bN (n:Nat) (a1:(List Attr)) (p2:Attr→Option Bool):Option Int :=
 (aP a1 p2 n (0))
def bF (n:Nat) (a1:(List Attr)) (p2:Attr→Option Bool):Option Bool :=
 ((bN n a1 p2).bind fun z6=>(some (decide (0 ≤ z6))))
def cO (n:Nat) (a1:Tree):Nat→Int→Option Bool
 | 0,_=>none
 | k20 + 1,x19 =>
  (if (decide (x19 < ((a1.aL).length:Int)))=true then ((idx a1.aL x19).bind fun z22=>((if (((z22.Name == []) || (decide (64 < ((z22.Name).length:Int)))) || (decide (64 < ((z22.Value).length:Int))))=true then some true else ((cut a1.aL 0 x19).bind fun z30=>((bF n z30 (fun y31=>fA n y31 z22)).bind fun z32=>(some z32)))).bind fun z31=>(if z31=true then (some false) else ((cO n a1 k20) ((IntKind.wrap .i64 (x19 + 1))))))) else (some true))
def ja (n:Nat) (a1:Tree):Option Bool :=
 ((if (decide (16 < ((a1.Tag).length:Int)))=true then some true else ((lV n a1.Tag [97,98,99,100,101,102,103,104,105,106,107,108,109,110,111,112,113,114,115,116,117,118,119,120,121,122,48,49,50,51,52,53,54,55,56,57]).bind fun z5=>(some (!(z5 == []))))).bind fun z6=>(if (((z6 || (!(a1.Text == []))) || (decide (24 < ((a1.Kids).length:Int)))) || (decide (64 < ((a1.Key).length:Int))))=true then (some false) else (cO n a1 n (0))))
def dG (self:Tree→Option Bool) (a1:Tree):Nat→Int→Option Bool
 | 0,_=>none
 | k19 + 1,x18 =>
  (if (decide (x18 < ((a1.Kids).length:Int)))=true then ((idx a1.Kids x18).bind fun z21=>((self z21).bind fun z27=>(if (!z27)=true then (some false) else ((dG self a1 k19) ((IntKind.wrap .i64 (x18 + 1))))))) else (some true))
def eP:Nat→Tree→Option Bool
 | 0,_=>none
 | n + 1,a1 =>
  (if (a1.Tag == [])=true then (some ((((a1.Key == []) && (((a1.aL).length:Int) == 0)) && (((a1.Kids).length:Int) == 0)) && (decide (((a1.Text).length:Int) ≤ 64)))) else ((ja n a1).bind fun z9=>(if (!z9)=true then (some false) else (dG (eP n) a1 n (0)))))
def dF (self:Tree→Option Int) (a1:Tree):Nat→Int→Int→Option Int
 | 0,_,_=>none
 | k15 + 1,x13,x14 =>
  (if (decide (x14 < ((a1.Kids).length:Int)))=true then ((idx a1.Kids x14).bind fun z17=>((self z17).bind fun z23=>((dF self a1 k15) ((IntKind.wrap .i64 (x13 + z23))) ((IntKind.wrap .i64 (x14 + 1)))))) else (some x13))
def eQ:Nat→Tree→Option Int
 | 0,_=>none
 | n + 1,a1 =>
  (dF (eQ n) a1 n (1) (0))
def dP (self:Tree→Option Int) (a1:Tree):Nat→Int→Int→Option Int
 | 0,_,_=>none
 | k15 + 1,x13,x14 =>
  (if (decide (x14 < ((a1.Kids).length:Int)))=true then ((idx a1.Kids x14).bind fun z17=>((self z17).bind fun z23=>((dP self a1 k15) ((q9 x13 z23)) ((IntKind.wrap .i64 (x14 + 1)))))) else (some (IntKind.wrap .i64 (x13 + 1))))
def fD:Nat→Tree→Option Int
 | 0,_=>none
 | n + 1,a1 =>
  (dP (fD n) a1 n (0) (0))
def j3 (n:Nat) (a1:Tree):Option Bool :=
 ((eP n a1).bind fun z5=>((if z5=true then ((eQ n a1).bind fun z6=>(some (decide (z6 ≤ 60)))) else some false).bind fun z7=>((if z7=true then ((fD n a1).bind fun z9=>(some (decide (z9 ≤ 12)))) else some false).bind fun z10=>(some z10))))
def lG (n:Nat) (a1:Int) (a2:Str) (a3:Int):Option (Option Unit):=if a1=6 then some none else none
def mF (n:Nat) (a1:Bool) (a2:Int) (a3:Str) (a4:Int):Option (Option Unit) :=
 (if (!a1)=true then ((lG n a2 a3 a4).bind fun z6=>(qm z6 (fun x7=>(some (some ()))))) else (some (some ())))
def fJ (n:Nat) (a1:Bool) (a2:Str) (a3:Int):Option (Option Unit) :=
 ((mF n a1 6 a2 a3).bind fun z4=>(qm z4 (fun x5=>(some (some ())))))
def cK (prow:aF→aY→Option (Option ((List Tree) × aF))) (a3:(List aY)):Nat→(List Int)→(List fM)→Int→(List Tree)→Int→Option (Option ((List Tree) × aF))
 | 0,_,_,_,_,_=>none
 | k22 + 1,x16,x17,x18,x19,x21 =>
  (if (decide (x21 < ((a3).length:Int)))=true then ((idx a3 x21).bind fun z24=>((prow (aF.mk x16 x17 x18) z24).bind fun z30=>(qm z30 (fun x31=>((app 96 x19 x31.1).bind fun z36=>((cK prow a3 k22) (x31.2.state) (x31.2.params) (x31.2.steps) (z36) ((IntKind.wrap .i64 (x21 + 1))))))))) else (some (some (x19,(aF.mk x16 x17 x18)))))
def fq (prow:aF→aY→Option (Option ((List Tree) × aF))) (n:Nat) (a2:aF) (a3:(List aY)):Option (Option ((List Tree) × aF)) :=
 (cK prow a3 n (a2.state) (a2.params) (a2.steps) ([]) (0))
def dX (n:Nat) (a2:aF) (a3:Int):Option (Option Int) :=
 ((fJ n ((decide (0 ≤ a3)) && (decide (a3 < ((a2.state).length:Int)))) [110,117,109,98,101,114] a3).bind fun z5=>(qm z5 (fun x6=>((idx a2.state a3).bind fun z11=>(some (some z11))))))
def bV (n:Nat) (a2:aF) (a3:Str):Nat→Int→Option (Option Str)
 | 0,_=>none
 | k12 + 1,x11 =>
  (if (decide (x11 < ((a2.params).length:Int)))=true then ((idx a2.params x11).bind fun z14=>(if (z14.Name == a3)=true then (some (some z14.Value)) else ((bV n a2 a3 k12) ((IntKind.wrap .i64 (x11 + 1)))))) else ((fJ n false a3 0).bind fun z21=>(qm z21 (fun x22=>(some (some []))))))
def iE (n:Nat) (a2:aF) (a3:Str):Option (Option Str) :=
 (bV n a2 a3 n (0))
def dI (x54:(List Tree)) (x56:Int) (again57:(List Tree)→Int→Option (Option ((List Tree) × aF))) (z59:Tree) (x67:Str):Option (Option ((List Tree) × aF)) :=
 ((app 96 x54 [(Tree.mk z59.Tag x67 z59.Text z59.aL z59.Kids)]).bind fun z69=>(again57 (z69) ((IntKind.wrap .i64 (x56 + 1)))))
def bE (n:Nat) (x36:Int) (again37:(List Int)→(List fM)→Int→(List Tree)→Int→Option (Option ((List Tree) × aF))) (x40:((List Tree) × aF)):Nat→(List Tree)→Int→Option (Option ((List Tree) × aF))
 | 0,_,_=>none
 | k57 + 1,x54,x56 =>
  (if (decide (x56 < ((x40.1).length:Int)))=true then ((idx x40.1 x56).bind fun z59=>(if (!(z59.Tag == []))=true then ((strconv_Itoa n x36).bind fun z74=>(dI x54 x56 (bE n x36 again37 x40 k57) z59 (z74))) else (dI x54 x56 (bE n x36 again37 x40 k57) z59 (z59.Key)))) else (again37 (x40.2.state) (x40.2.params) (x40.2.steps) (x54) ((IntKind.wrap .i64 (x36 + 1)))))
def bf (n:Nat) (prow:aF→aY→Option (Option ((List Tree) × aF))) (a3:aY) (x8:Int):Nat→(List Int)→(List fM)→Int→(List Tree)→Int→Option (Option ((List Tree) × aF))
 | 0,_,_,_,_,_=>none
 | k37 + 1,x31,x32,x33,x34,x36 =>
  (if (decide (x36 < (q9 x8 0)))=true then ((fq prow n (aF.mk x31 x32 x33) a3.Kids).bind fun z39=>(qm z39 (fun x40=>(bE n x36 (bf n prow a3 x8 k37) x40 n (x34) (0))))) else (some (some (x34,(aF.mk x31 x32 x33)))))
def jg (prow:aF→aY→Option (Option ((List Tree) × aF))) (n:Nat) (a2:aF) (a3:aY):Option (Option ((List Tree) × aF)) :=
 ((dX n a2 a3.N).bind fun z7=>(qm z7 (fun x8=>((fJ n (decide (x8 ≤ 24)) [116,105,109,101,115] x8).bind fun z13=>(qm z13 (fun x14=>(bf n prow a3 x8 n (a2.state) (a2.params) (a2.steps) ([]) (0))))))))
def bJ:Nat→aF→aY→Option (Option ((List Tree) × aF))
 | 0,_,_=>none
 | n + 1,a2,a3 =>
  ((fJ n (decide ((IntKind.wrap .i64 (a2.steps + 1)) ≤ 1000)) [115,116,101,112,115] (IntKind.wrap .i64 (a2.steps + 1))).bind fun z9=>(qm z9 (fun x10=>(if (a3.Kind == 1)=true then ((app 32 [] a3.aL).bind fun z19=>((fq (bJ n) n (aF.mk a2.state a2.params (IntKind.wrap .i64 (a2.steps + 1))) a3.Kids).bind fun z23=>(qm z23 (fun x24=>(some (some ([(Tree.mk a3.Tag [] [] z19 x24.1)],x24.2))))))) else (if (a3.Kind == 2)=true then (some (some ([(Tree.mk [] [] a3.Text [] [])],(aF.mk a2.state a2.params (IntKind.wrap .i64 (a2.steps + 1)))))) else (if (a3.Kind == 3)=true then ((dX n (aF.mk a2.state a2.params (IntKind.wrap .i64 (a2.steps + 1))) a3.N).bind fun z41=>(qm z41 (fun x42=>((strconv_Itoa n x42).bind fun z47=>(some (some ([(Tree.mk [] [] z47 [] [])],(aF.mk a2.state a2.params (IntKind.wrap .i64 (a2.steps + 1)))))))))) else (if (a3.Kind == 4)=true then ((iE n (aF.mk a2.state a2.params (IntKind.wrap .i64 (a2.steps + 1))) a3.Text).bind fun z49=>(qm z49 (fun x50=>(some (some ([(Tree.mk [] [] x50 [] [])],(aF.mk a2.state a2.params (IntKind.wrap .i64 (a2.steps + 1))))))))) else (if (a3.Kind == 5)=true then ((dX n (aF.mk a2.state a2.params (IntKind.wrap .i64 (a2.steps + 1))) a3.N).bind fun z56=>(qm z56 (fun x57=>(if (x57 == 0)=true then (some (some ([],(aF.mk a2.state a2.params (IntKind.wrap .i64 (a2.steps + 1)))))) else ((fq (bJ n) n (aF.mk a2.state a2.params (IntKind.wrap .i64 (a2.steps + 1))) a3.Kids).bind fun z63=>(qm z63 (fun x64=>(some (some (x64.1,x64.2)))))))))) else (if (a3.Kind == 6)=true then ((jg (bJ n) n (aF.mk a2.state a2.params (IntKind.wrap .i64 (a2.steps + 1))) a3).bind fun z70=>(qm z70 (fun x71=>(some (some (x71.1,x71.2)))))) else ((fJ n (a3.Kind == 7) [107,105,110,100] a3.Kind).bind fun z76=>(qm z76 (fun x77=>(some (some ([(Tree.mk [111,117,116,108,101,116] [] [] [] [])],(aF.mk a2.state a2.params (IntKind.wrap .i64 (a2.steps + 1))))))))))))))))))
def iX (n:Nat) (a2:aF) (a5:aY) (a7:Tree):Option (Option (aF × Tree)) :=
 ((bJ n a2 a5).bind fun z8=>(qm z8 (fun x9=>((if (((x9.1).length:Int) == 1)=true then ((idx x9.1 0).bind fun z14=>(some (!(z14.Tag == [])))) else some false).bind fun z15=>((if z15=true then ((idx x9.1 0).bind fun z17=>((j3 n z17).bind fun z18=>(some z18))) else some false).bind fun z18=>((fJ n z18 [115,104,97,112,101] ((x9.1).length:Int)).bind fun z21=>(qm z21 (fun x22=>((idx x9.1 0).bind fun z27=>(some (some (x9.2,z27))))))))))))
def iO (n:Nat) (a1:aY) (a2:(List Int)) (a3:(List fM)):Option (Tree × Int) :=
 ((iX n (aF.mk a2 a3 0) a1 (Tree.mk [] [] [] [] [])).bind fun z21=>(xY z21 (some ((Tree.mk [] [] [] [] []),6)) (fun x28=>(some (x28.2,0)))))
def aV (a1:(List Attr)) (a2:(List Attr)):Nat→Int→Option Bool
 | 0,_=>none
 | k12 + 1,x11 =>
  (if (decide (x11 < ((a1).length:Int)))=true then ((idx a1 x11).bind fun z14=>((idx a2 x11).bind fun z15=>(if (!(Attr.beq z14 z15))=true then (some false) else ((aV a1 a2 k12) ((IntKind.wrap .i64 (x11 + 1))))))) else (some true))
def dE (n:Nat) (a1:(List Attr)) (a2:(List Attr)):Option Bool :=
 (if (((a1).length:Int) != ((a2).length:Int))=true then (some false) else (aV a1 a2 n (0)))
def bO (self:Tree→Tree→Option Bool) (a1:Tree) (a2:Tree):Nat→Int→Option Bool
 | 0,_=>none
 | k24 + 1,x23 =>
  (if (decide (x23 < ((a1.Kids).length:Int)))=true then ((idx a1.Kids x23).bind fun z26=>((idx a2.Kids x23).bind fun z27=>((self z26 z27).bind fun z28=>(if (!z28)=true then (some false) else ((bO self a1 a2 k24) ((IntKind.wrap .i64 (x23 + 1)))))))) else (some true))
def bS:Nat→Tree→Tree→Option Bool
 | 0,_,_=>none
 | n + 1,a1,a2 =>
  ((if (((!(a1.Tag == a2.Tag)) || (!(a1.Key == a2.Key))) || (!(a1.Text == a2.Text)))=true then some true else ((dE n a1.aL a2.aL).bind fun z11=>(some (!z11)))).bind fun z12=>(if (z12 || (((a1.Kids).length:Int) != ((a2.Kids).length:Int)))=true then (some false) else (bO (bS n) a1 a2 n (0))))
def dL (self:aY→Option (Int × Int)) (a1:aY):Nat→Int→Int→Int→Option (Int × Int)
 | 0,_,_,_=>none
 | k17 + 1,x14,x15,x16 =>
  (if (decide (x16 < ((a1.Kids).length:Int)))=true then ((idx a1.Kids x16).bind fun z19=>((self z19).bind fun z25=>((dL self a1 k17) ((IntKind.wrap .i64 (x14 + z25.1))) ((q9 x15 z25.2)) ((IntKind.wrap .i64 (x16 + 1)))))) else (some (x14,(IntKind.wrap .i64 (x15 + 1)))))
def fC:Nat→aY→Option (Int × Int)
 | 0,_=>none
 | n + 1,a1 =>
  (dL (fC n) a1 n (1) (0) (0))
def dN (self:aY→Int→Bool→Option Bool) (a1:aY) (a2:Int) (a3:Bool):Nat→Int→Option Bool
 | 0,_=>none
 | k33 + 1,x32 =>
  (if (decide (x32 < ((a1.Kids).length:Int)))=true then ((idx a1.Kids x32).bind fun z35=>((self z35 a2 ((a3 || (a1.Kind == 5)) || (a1.Kind == 6))).bind fun z41=>(if (!z41)=true then (some false) else ((dN self a1 a2 a3 k33) ((IntKind.wrap .i64 (x32 + 1))))))) else (some true))
def eH (n:Nat) (self:aY→Int→Bool→Option Bool) (a1:aY) (a2:Int) (a3:Bool) (x16:Bool):Option Bool :=
 (if x16=true then (some false) else (if ((((a1.Kind == 3) || (a1.Kind == 5)) || (a1.Kind == 6)) && (!((decide (0 ≤ a1.N)) && (decide (a1.N < a2)))))=true then (some false) else (dN self a1 a2 a3 n (0))))
def dJ:Nat→aY→Int→Bool→Option Bool
 | 0,_,_,_=>none
 | n + 1,a1,a2,a3 =>
  (if (((decide (a1.Kind < 1)) || (decide (7 < a1.Kind))) || ((!(((a1.Kind == 1) || (a1.Kind == 5)) || (a1.Kind == 6))) && (decide (0 < ((a1.Kids).length:Int)))))=true then (some false) else (if (a1.Tag == [111,117,116,108,101,116])=true then (eH n (dJ n) a1 a2 a3 ((a1.Tag == [111,117,116,108,101,116]))) else (eH n (dJ n) a1 a2 a3 (((a1.Kind == 7) && a3)))))
def jQ (n:Nat) (a1:aY) (a2:Int):Option Bool :=
 ((fC n a1).bind fun z6=>((if (((a1.Kind == 1) && (decide (z6.1 ≤ 60))) && (decide (z6.2 ≤ 12)))=true then ((dJ n a1 a2 false).bind fun z9=>(some z9)) else some false).bind fun z10=>(some z10)))
def eD (n:Nat)  : Option Bool :=
 ((iO n (aY.mk 1 0 [117,108] [] [] [(aY.mk 6 0 [] [] [] [(aY.mk 1 0 [108,105] [] [] [(aY.mk 3 1 [] [] [] [])])])]) [2,7] []).bind fun z6=>((iO n (aY.mk 1 0 [117,108] [] [] [(aY.mk 6 0 [] [] [] [(aY.mk 1 0 [108,105] [] [] [(aY.mk 3 1 [] [] [] [])])])]) [99,7] []).bind fun z12=>((if (z6.2 == 0)=true then ((bS n z6.1 (Tree.mk [117,108] [] [] [] [(Tree.mk [108,105] [48] [] [] [(Tree.mk [] [] [55] [] [])]),(Tree.mk [108,105] [49] [] [] [(Tree.mk [] [] [55] [] [])])])).bind fun z18=>(some z18)) else some false).bind fun z19=>((if (z19 && (z12.2 == 6))=true then ((jQ n (aY.mk 1 0 [117,108] [] [] [(aY.mk 6 0 [] [] [] [(aY.mk 1 0 [108,105] [] [] [(aY.mk 3 1 [] [] [] [])])])]) 2).bind fun z22=>(some z22)) else some false).bind fun z23=>((if z23=true then ((jQ n (aY.mk 1 0 [117,108] [] [] [(aY.mk 6 0 [] [] [] [(aY.mk 1 0 [108,105] [] [] [(aY.mk 3 1 [] [] [] [])])])]) 1).bind fun z25=>(some (!z25))) else some false).bind fun z26=>(some z26))))))
end Pr
end Go.Ev

namespace Go.Ev
theorem aa.r {t:Nat} {x:AV} {e2 e:Env} (h:AL.get e t=some x) (k:aa e2 e):aa ((t,x) :: e2) e:=.cons h (.refl _) k
theorem gL.o {x:AV} {a b:List (Option AV)} (k:gL a b):gL (some x :: a) (some x :: b):=.old (.refl _) k
theorem gL.w (x:AV) {a b:List (Option AV)} (k:gL a b):gL (some x :: a) (none :: b):=.new k
theorem gL.n {a b:List (Option AV)} (k:gL a b):gL (none :: a) (none :: b):=.new k
theorem gL.z {a b:List (Option AV)} (k:gL a b):gL (some (.tup []) :: a) (none :: b):=.new k
theorem gL.q {x y z u:AV} {a b:List (Option AV)} (k:gL a b):gL (some x :: some y :: some z :: some u :: a) (some x :: some y :: some z :: some u :: b):=.o (.o (.o (.o k)))
theorem gL.m {a b:List (Option AV)} (k:gL a b):gL (none :: none :: none :: none :: a) (none :: none :: none :: none :: b):=.n (.n (.n (.n k)))
theorem RL.v {R:aR} {C:df} {nt:Nat} {ops:Array Oper} {srcs:List Src} {e0:Env} {ws:List (Option AV)} {S:St} {i:Nat} {o:Oper} {x:AV} {e:Env} {os:List Nat} (ho:ops[i]? = some o) (hx:ws[i]? = some (some x)) (he:jy ws e0 (srcs.getD i [])=some e) (hw:bA ops e o=some true) (h:oper C (dD e) S o.op=some (.val x S)) (k:RL R C nt ops srcs e0 ws S os):RL R C nt ops srcs e0 ws S (i :: os):=.cons ho hx he (.val hw h (.refl _)) k
theorem Has.sl {B S:St} {l:List bg} (h:Has B S l) (is:List Nat) (hn:decide is.Nodup=true) {l':List bg} (hl:is.map (fun i=>l[i]?)=l'.map some):Has B S l':=h.AA is (of_decide_eq_true hn) hl
namespace Pr
set_option linter.unusedVariables false
set_option linter.unusedSimpArgs false
open Go.Proofs
noncomputable def cfg:df:={ P:=Tryd.prog,good:=fun _=>true,rowT:=fun _=>false,prim:=fun _ _ _=>none,objT:=fun _=>none,hasPrim:=fun _=>false }
theorem zO:(Tryd.f29.name == "runtime.NumGoroutine")=false:=by kernel_rfl
theorem zi:(Tryd.f53.name == "runtime.NumGoroutine")=false:=by kernel_rfl
theorem zk:∀ v w,(Instr.typeAssert (.iface 70 v) 20 70 true).run cfg.P w=.ok (.tuple #[v,.bool true]) w:=fun _ _=>by kernel_rfl
theorem xn:cfg.objT 70=none:=by kernel_rfl
theorem vg:zeroOf cfg.P 70=some (.agg [.int .i64 0,.str [],.int .i64 0]):=by kernel_rfl
theorem tX:aI cfg.P 70=3:=by kernel_rfl
theorem wL:(cZ cfg.P 70).isSome=true:=by kernel_rfl
theorem yj:cZ cfg.P 70=some true:=by kernel_rfl
theorem AU:cfg.objT 4=none:=by kernel_rfl
theorem A7:zeroOf cfg.P 4=some (.bool false):=by kernel_rfl
theorem Az:aI cfg.P 4=1:=by kernel_rfl
theorem AP:(cZ cfg.P 4).isSome=true:=by kernel_rfl
theorem y9:cZ cfg.P 4=some false:=by kernel_rfl
theorem rG:bI cfg.P 47 0=some (0,9):=by kernel_rfl
theorem lK:Nat.beq (aI cfg.P 9) 0=false:=by kernel_rfl
theorem lU:cZ cfg.P 9=some false:=by kernel_rfl
theorem zy:(Tryd.f75.name == "runtime.NumGoroutine")=false:=by kernel_rfl
theorem vQ:(aX cfg.P 22).isSome=true:=by kernel_rfl
theorem ug:aX cfg.P 22=some 47:=by kernel_rfl
theorem vR:(cZ cfg.P 47).isSome=true:=by kernel_rfl
theorem lY:aI cfg.P 47=2:=by kernel_rfl
theorem xg:cZ cfg.P 47=some true:=by kernel_rfl
theorem Af:(Tryd.f89.name == "runtime.NumGoroutine")=false:=by kernel_rfl
theorem zu:(Tryd.f76.name == "runtime.NumGoroutine")=false:=by kernel_rfl
theorem ll:bI cfg.P 28 0=some (0,9):=by kernel_rfl
theorem yE:mI cfg.P 9=true:=by kernel_rfl
theorem rU:bI cfg.P 28 2=some (2,9):=by kernel_rfl
theorem jk:bI cfg.P 28 4=some (4,26):=by kernel_rfl
theorem qh:Nat.beq (aI cfg.P 26) 0=false:=by kernel_rfl
theorem p9:cZ cfg.P 26=some false:=by kernel_rfl
theorem pR:(aX cfg.P 26).isSome=true:=by kernel_rfl
theorem oO:bI cfg.P 28 1=some (1,9):=by kernel_rfl
theorem oQ:bI cfg.P 28 3=some (3,22):=by kernel_rfl
theorem uw:Nat.beq (aI cfg.P 22) 0=false:=by kernel_rfl
theorem uM:cZ cfg.P 22=some false:=by kernel_rfl
theorem zt:cfg.objT 47=none:=by kernel_rfl
theorem zV:zeroOf cfg.P 47=some (.agg [.str [],.str []]):=by kernel_rfl
theorem yx:bI cfg.P 47 1=some (1,9):=by kernel_rfl
theorem Aj:(cfg.P.underlying 47).isSome=true:=by kernel_rfl
theorem zP:(Tryd.f63.name == "runtime.NumGoroutine")=false:=by kernel_rfl
theorem gm:cZ cfg.P 28=some true:=by kernel_rfl
theorem di:aI cfg.P 28=5:=by kernel_rfl
theorem jH:aX cfg.P 26=some 28:=by kernel_rfl
theorem jV:(cZ cfg.P 28).isSome=true:=by kernel_rfl
theorem tJ:cfg.objT 28=none:=by kernel_rfl
theorem gH:zeroOf cfg.P 28=some (.agg [.str [],.str [],.str [],.aT,.aT]):=by kernel_rfl
theorem zx:(Tryd.f45.name == "runtime.NumGoroutine")=false:=by kernel_rfl
theorem zq:(Tryd.f46.name == "runtime.NumGoroutine")=false:=by kernel_rfl
theorem zJ:(Tryd.f47.name == "runtime.NumGoroutine")=false:=by kernel_rfl
theorem Ap:(Tryd.f21.name == "runtime.NumGoroutine")=false:=by kernel_rfl
theorem zZ:(Tryd.f73.name == "runtime.NumGoroutine")=false:=by kernel_rfl
theorem zn:∀ v w,(Instr.makeInterface 70 v).run cfg.P w=.ok (.iface 70 v) w:=fun _ _=>by kernel_rfl
theorem Ae:(Tryd.f59.name == "runtime.NumGoroutine")=false:=by kernel_rfl
theorem Ak:(Tryd.f32.name == "runtime.NumGoroutine")=false:=by kernel_rfl
theorem xm:(aX cfg.P 23).isSome=true:=by kernel_rfl
theorem vG:aX cfg.P 23=some 25:=by kernel_rfl
theorem ui:(cZ cfg.P 25).isSome=true:=by kernel_rfl
theorem iq:aI cfg.P 25=6:=by kernel_rfl
theorem j4:cZ cfg.P 25=some true:=by kernel_rfl
theorem xE:cfg.objT 25=none:=by kernel_rfl
theorem pz:zeroOf cfg.P 25=some (.agg [.int .i64 0,.int .i64 0,.str [],.str [],.aT,.aT]):=by kernel_rfl
theorem qa:cfg.rowT 26=false:=by kernel_rfl
theorem yJ:ic cfg 26=true:=by kernel_rfl
theorem yZ:bytesOf cfg.P 28=96:=by kernel_rfl
theorem yL:eB cfg 28=true:=by kernel_rfl
theorem zU:(Tryd.f54.name == "runtime.NumGoroutine")=false:=by kernel_rfl
theorem zN:(cfg.P.underlying 5).isSome=true:=by kernel_rfl
theorem wE:bI cfg.P 68 0=some (0,32):=by kernel_rfl
theorem yM:Nat.beq (aI cfg.P 32) 0=false:=by kernel_rfl
theorem yK:cZ cfg.P 32=some false:=by kernel_rfl
theorem zo:(aX cfg.P 32).isSome=true:=by kernel_rfl
theorem yc:aX cfg.P 32=some 3:=by kernel_rfl
theorem Aw:(cZ cfg.P 3).isSome=true:=by kernel_rfl
theorem za:aI cfg.P 3=1:=by kernel_rfl
theorem mE:cZ cfg.P 3=some false:=by kernel_rfl
theorem zY:(Tryd.f56.name == "runtime.NumGoroutine")=false:=by kernel_rfl
theorem yl:bI cfg.P 68 1=some (1,38):=by kernel_rfl
theorem zC:Nat.beq (aI cfg.P 38) 0=false:=by kernel_rfl
theorem zA:cZ cfg.P 38=some false:=by kernel_rfl
theorem Ag:(aX cfg.P 38).isSome=true:=by kernel_rfl
theorem Ah:aX cfg.P 38=some 104:=by kernel_rfl
theorem xP:(cZ cfg.P 104).isSome=true:=by kernel_rfl
theorem wG:aI cfg.P 104=2:=by kernel_rfl
theorem yT:cZ cfg.P 104=some true:=by kernel_rfl
theorem yN:cfg.objT 104=none:=by kernel_rfl
theorem yS:zeroOf cfg.P 104=some (.agg [.str [],.str []]):=by kernel_rfl
theorem xA:bI cfg.P 104 0=some (0,9):=by kernel_rfl
theorem xq:bI cfg.P 104 1=some (1,9):=by kernel_rfl
theorem zX:(Tryd.f57.name == "runtime.NumGoroutine")=false:=by kernel_rfl
theorem oM:bI cfg.P 25 1=some (1,3):=by kernel_rfl
theorem nK:Nat.beq (aI cfg.P 3) 0=false:=by kernel_rfl
theorem jN:bI cfg.P 25 5=some (5,23):=by kernel_rfl
theorem rA:Nat.beq (aI cfg.P 23) 0=false:=by kernel_rfl
theorem qV:cZ cfg.P 23=some false:=by kernel_rfl
theorem AX:aI cfg.P 9=1:=by kernel_rfl
theorem AQ:(cZ cfg.P 9).isSome=true:=by kernel_rfl
theorem Ad:(Tryd.f58.name == "runtime.NumGoroutine")=false:=by kernel_rfl
theorem mM:bI cfg.P 68 2=some (2,3):=by kernel_rfl
theorem uG:cfg.P.follows .mixedOrders=true:=by kernel_rfl
theorem fE:bI cfg.P 25 0=some (0,3):=by kernel_rfl
theorem mO:bI cfg.P 25 2=some (2,9):=by kernel_rfl
theorem wC:bI cfg.P 25 4=some (4,22):=by kernel_rfl
theorem yP:cfg.rowT 22=false:=by kernel_rfl
theorem yQ:ic cfg 22=true:=by kernel_rfl
theorem yF:bytesOf cfg.P 47=32:=by kernel_rfl
theorem yH:eB cfg 47=true:=by kernel_rfl
theorem vW:bI cfg.P 25 3=some (3,9):=by kernel_rfl
theorem zK:(Tryd.f31.name == "runtime.NumGoroutine")=false:=by kernel_rfl
theorem zQ:cZ cfg.P 66=some false:=by kernel_rfl
theorem zF:(Tryd.f30.name == "runtime.NumGoroutine")=false:=by kernel_rfl
theorem zM:zeroOf cfg.P 68=some (.agg [.aT,.aT,.int .i64 0]):=by kernel_rfl
theorem zw:cfg.objT 66=none:=by kernel_rfl
theorem zm:zeroOf cfg.P 66=some (.nilp):=by kernel_rfl
theorem zD:aI cfg.P 66=1:=by kernel_rfl
theorem zl:(cZ cfg.P 66).isSome=true:=by kernel_rfl
theorem wu:bI cfg.P 70 0=some (0,29):=by kernel_rfl
theorem yI:Nat.beq (aI cfg.P 29) 0=false:=by kernel_rfl
theorem yC:cZ cfg.P 29=some false:=by kernel_rfl
theorem AO:(Tryd.f9.name == "runtime.NumGoroutine")=false:=by kernel_rfl
theorem zB:(Tryd.f33.name == "runtime.NumGoroutine")=false:=by kernel_rfl
theorem zT:(Tryd.f10.name == "runtime.NumGoroutine")=false:=by kernel_rfl
theorem Al:(Tryd.f34.name == "runtime.NumGoroutine")=false:=by kernel_rfl
theorem zS:(Tryd.f35.name == "runtime.NumGoroutine")=false:=by kernel_rfl
theorem zR:(Tryd.f11.name == "runtime.NumGoroutine")=false:=by kernel_rfl
theorem yu:cfg.rowT 23=false:=by kernel_rfl
theorem yO:cfg.rowT 32=false:=by kernel_rfl
theorem Aq:zeroOf cfg.P 3=some (.int .i64 0):=by kernel_rfl
theorem AY:(Tryd.f3.name == "runtime.NumGoroutine")=false:=by kernel_rfl
theorem j5:oper.P_place cfg 70=some (mP [(0,1),(1,1),(2,1)]):=kI (by kernel_rfl)
theorem bP:oper.P_place cfg 28=some (mP [(0,1),(1,1),(2,1),(3,1),(4,1)]):=kI (by kernel_rfl)
theorem ow:oper.P_place cfg 68=some (mP [(0,1),(1,1),(2,1)]):=kI (by kernel_rfl)
theorem fQ:oper.P_place cfg 25=some (mP [(0,1),(1,1),(2,1),(3,1),(4,1),(5,1)]):=kI (by kernel_rfl)
theorem yV (x y:Attr):AV.eqv cfg.P 47 (.d (.agg [(.str x.Name),(.str x.Value)])) (.d (.agg [(.str y.Name),(.str y.Value)]))=some (Attr.beq x y) :=
 wZ (by kernel_rfl) Tryd.underlying47 (by kernel_rfl) (by kernel_rfl)
def Ar:List Src:=[[(0,none)],[(12,some 0)],[(13,some 1)],[(14,some 2)],[(15,some 3)],[(0,none)],[(17,some 5)],[(18,some 6)],[(19,some 7)],[(16,some 4),(20,some 8)]]
def Av:List Src:=[[(3,none)],[(26,some 0)],[(3,none)],[(28,some 2)],[(29,some 3)],[(0,none)],[(3,none)],[(32,some 6)],[(31,some 5),(33,some 7)],[(27,some 1),(30,some 4),(34,some 8)],[(35,some 9)],[(36,some 10)]]
def AJ:List Src:=[[],[(10,none)],[(24,some 1)],[(6,none),(23,some 0)],[(25,some 2)]]
def AB:List Src:=[[(0,none)],[(5,none)],[(17,some 0),(18,some 1)],[(19,some 2)],[(1,none)],[(5,none)],[(21,some 4),(22,some 5)],[(23,some 6)],[(20,some 3),(24,some 7)]]
def AR:List Src:=[[(2,none)],[(48,some 0)],[(5,none)],[(49,some 1),(50,some 2)],[(51,some 3)],[(3,none)],[(53,some 5)],[(5,none)],[(54,some 6),(55,some 7)],[(56,some 8)],[(52,some 4),(57,some 9)],[(58,some 10)]]
structure Ab (R:aR):Prop where
 obj:jh R cfg
 strconv_Itoa_ok:∀ (n:Nat) (x0:Int) (r:Str),strconv_Itoa n x0=some r→dB R cfg.P 55 [(.int .i64 x0)] (.d (.str r))
 strings_Trim_ok:∀ (n:Nat) (x0:Str) (x1:Str) (r:Str),lV n x0 x1=some r→dB R cfg.P 74 [(.str x0),(.str x1)] (.d (.str r))
section
variable {R:aR} (E:Ab R)
include E
theorem sF {α:Type} {g:Nat} {caps:List AV} {ins:List bg} {z:Option α} {res:α→AV→List bg→Prop} (hc:dW R cfg.P 70 g caps ins z res):xM R cfg.P 29 [.fn g caps] ins (yf z res):=by
 intro B S hB
 refine ⟨⟨Tryd.f29,Tryd.func29,rfl,by simpa using zO⟩,fun cx w us hS hl hr=>?_⟩
 refine calls_of_wp_defers Tryd.func29 rfl ?_
 have he0:=mX (n:=11) hl (Nat.le_of_ble_eq_true rfl) hr
 refine wp_seq (ay.run (Q:=fun r=>∃ b2 b3 S1,r=(.normal,[(3,.ptr b3 0 0),(2,.ptr b2 0 0),(0,.fn g caps)],S1)∧Has B S1 (.box b3 [.d (.bool false)] :: .box b2 [.d (.int .i64 0),.d (.str []),.d (.int .i64 0)] :: ins)) ?_ hS he0 (fun r hr=>?_))
 ·
  refine ay.region E.obj rfl ?_
  refine ae.alloc hB rfl xn vg rfl rfl (fun b2 S1 H1=>?_)
  refine ae.alloc H1 rfl AU A7 rfl rfl (fun b3 S2 H2=>?_)
  exact ae.nil ⟨b2,b3,S2,rfl,H2⟩
 obtain ⟨b2,b3,S1,rfl,H1⟩:=hr
 intro cx1 a1 w1 s1 x1 er1 d1
 refine wp_seq (ay.run (Q:=fun r=>r=(.normal,[(3,.ptr b3 0 0),(2,.ptr b2 0 0),(0,.fn g caps)],S1)) ?_ s1 er1 (fun r hr=>?_))
 ·
  refine ay.seq ?_
  refine ay.region E.obj rfl ?_
  refine ae.val rfl (ah rfl) rfl ?_
  refine ae.y7 (f:=g) (caps:=caps) rfl rfl (fun _=>rfl) (fun vs w=>by kernel_rfl) rfl ?_
  refine ae.nil ?_
  refine ay.cond rfl (fun hb=>by cases hb) (fun hb=>?_)
  refine ay.sub (e2:=[(3,.ptr b3 0 0),(2,.ptr b2 0 0),(0,.fn g caps)]) ?_ (ay.skip rfl)
  exact .cons rfl (.cons rfl (.cons rfl .nil))
 subst hr
 intro cx2 a2 w2 s2 x2 er2 d2
 have dd:a2.defers=[]:=d2.trans d1
 obtain ⟨cx3,w3,u7,q1,s3,x3,q4⟩:=bR E.obj s2 er2.eval { dst:=some 7,op:=Op.makeFunc (Fn.func 53) #[] #[Operand.tmp 3,Operand.tmp 2],type:=1,pos := "trap.go:28", after:=#[],guard:=none } (jf (g:=53) (cs:=[AV.ptr b3 0 0,AV.ptr b2 0 0]) rfl)
 cases q4 with
 | fn _ _ vs hl7 h7 =>
 match vs,hl7,h7,q1 with
 | [v3,v2],_,h7,q1 =>
 have r3:=h7 0 _ _ rfl rfl
 have r2:=h7 1 _ _ rfl rfl
 refine wp_seq (wp_region (qK rfl rfl rfl q1 ?_))
 have er3:cu cx3 S1 w3 11 [(7,.any),(3,.ptr b3 0 0),(2,.ptr b2 0 0),(0,.fn g caps)] (a2.put (some 7) (.func (.func 53) #[] #[v3,v2])):=(er2.mono x3).put rfl (.any _)
 have e7:(a2.put (some 7) (.func (.func 53) #[] #[v3,v2])).tmps[7]? = some (.func (.func 53) #[] #[v3,v2]):=by
  have hz:=er2.size
  show (a2.tmps.setIfInBounds 7 _)[7]? = _
  rw [Array.getElem?_setIfInBounds_self_of_lt (by omega)]
 let dfd:Deferred:={ target:=.fn (.func 53) #[v3,v2],args:=#[] }
 have erun:(execOp (a2.put (some 7) (.func (.func 53) #[] #[v3,v2])).eval { dst:=none,op:=Op.defer { callee:=Callee.value (Operand.tmp 7),args:=#[],argTypes:=#[] },type:=0,pos := "trap.go:28", after:=#[{ on:=0,ground:=Ground.data }],guard:=none }).run cfg.P w3=.ok (.defer dfd) w3:=by
  simp [execOp,resolve,Deferred.ofValue,Act.tV e7,dfd]
 rw [show (a2.put (some 7) (Value.func (Fn.func 53) #[] [v3,v2].toArray))=(a2.put (some 7) (.func (.func 53) #[] #[v3,v2])) from rfl]
 rw [erun]
 have hinv:∀ w:World,(invoke (.fn (.func 53) #[v3,v2]) #[]).run cfg.P w=.ok (.enter 53 #[v3,v2]) w:=fun w=>by
  have hf:cfg.P.funcs[53]? = some Tryd.f53:=Tryd.func53
  have hb:Tryd.f53.body.isNone=false:=rfl
  simp only [invoke,callFunc,Sem.run_bind,Sem.run_pure,Result.andThen_ok,run_program,hf,zi,hb,Bool.false_eq_true,if_false]
  rfl
 let a3:Act:={ tmps:=a2.tmps.setIfInBounds 7 (.func (.func 53) #[] #[v3,v2]),defers:=dfd :: a2.defers }
 have er3':cu cx3 S1 w3 11 [(7,.any),(3,.ptr b3 0 0),(2,.ptr b2 0 0),(0,.fn g caps)] a3:=⟨er3.size,er3.rel⟩
 show (Code.seq _ _).wp cfg.P _ a3 w3
 obtain ⟨cx4,w4,u8,q8,s4,x4,r8⟩:=bR E.obj s3 er3'.eval { dst:=some 8,op:=Op.move (Operand.tmp 0),type:=1,pos := "trap.go:39", after:=#[],guard:=none } (ah rfl)
 refine wp_seq (wp_region (qK rfl rfl rfl q8 ?_))
 have er4:cu cx4 S1 w4 11 [(8,.fn g caps),(7,.any),(3,.ptr b3 0 0),(2,.ptr b2 0 0),(0,.fn g caps)] (a3.put (some 8) u8):=(er3'.mono x4).put rfl r8
 obtain ⟨zN,k1,k2,k3⟩:=bR E.obj s4 er4.eval { dst:=some 9,op:=Op.call { callee:=Callee.value (Operand.tmp 8),args:=#[],argTypes:=#[] },type:=0,pos := "trap.go:39", after:=#[{ on:=0,ground:=Ground.data }],guard:=none } (pU rfl rfl)
 have H1':Has B S1 (ins ++ [.box b3 [.d (.bool false)],.box b2 [.d (.int .i64 0),.d (.str []),.d (.int .i64 0)]]):=H1.perm (List.perm_append_comm (l₁:=[bg.box b3 [.d (.bool false)],bg.box b2 [.d (.int .i64 0),.d (.str []),.d (.int .i64 0)]]) (l₂:=ins))
 obtain ⟨B',f1,f2⟩:=H1'.frame
 obtain ⟨⟨fn,g1,g2,g3⟩,hcalls⟩:=(hc B' S1 f1).kR
 rw [k3 fn g1 g2 g3]
 show Calls cfg.P g zN.toArray w4 _
 refine (hcalls cx4 w4 zN s4 k1 k2).mono (fun en w5 hen=>?_)
 obtain ⟨⟨p,v,S5⟩,⟨hq,hd⟩,cx5,m1,m2,m3⟩:=hen
 simp only at hd m1 m2 m3
 have r3':=r3.mono (x4.trans m2)
 have r2':=r2.mono (x4.trans m2)
 have er5:=er4.mono m2
 cases z with
 | none =>
  obtain ⟨note,n,q1,q2⟩:=hq
  simp only at q1 q2
  subst q1
  obtain ⟨u,rfl,m3⟩:=m3
  have H5:=f2 S5 [] q2 hd
  show Go.Leaves cfg.P Tryd.f29 _ _ (dfd :: a2.defers) _ w5
  rw [dd]
  refine leaves_cons (f:=53) (args:=#[v3,v2]) (by simp) (hinv w5) ?_
  refine CallsD.mono (R:=fun e u' w'=>e=.returned (.tuple #[])∧u'=.panicking [{ v:=u,recovered:=true }]∧∃ cx6 S6,aK R cx6 S6 w'∧Ext cx5 S5 w5 cx6 S6 w'∧Has B S6 [.box b3 [.d (.bool false)],.box b2 [.d (.int .i64 6),.d (.str note),.d (.int .i64 n)]]) (callsD_of_wpS Tryd.func53 rfl (fun c0 cs hu=>?_)) ?_
  ·
   have he6:=mX (cx:=cx5) (S:=S5) (w:=w5) (args:=[.ptr b3 0 0,.ptr b2 0 0]) (us:=[v3,v2]) (n:=16) rfl (Nat.le_of_ble_eq_true rfl) (fun i x y hx hy=>by
    match i,hx,hy with
    | 0,hx,hy=>cases hx; cases hy; exact r3'
    | 1,hx,hy=>cases hx; cases hy; exact r2')
   refine wpS_seq (wpS_of_wp (ay.run (Q:=fun r=>r=(.normal,[(0,.ptr b3 0 0),(1,.ptr b2 0 0)],S5)) ?_ m1 he6 (fun r hr=>?_)))
   ·
    refine ay.seq ?_
    refine ay.region E.obj rfl ?_
    refine ae.val rfl (au H5 (i:=0) rfl rfl (aA y9 rfl)) rfl ?_
    refine ae.nil ?_
    refine ay.cond rfl (fun hb=>by cases hb) (fun hb=>?_)
    exact ay.sub (e2:=[(0,.ptr b3 0 0),(1,.ptr b2 0 0)]) (.cons rfl (.cons rfl .nil)) (ay.skip rfl)
   subst hr
   intro cx6 a6 w6 s6 x6 er6 d6
   have hrc:recoverD (c0 :: cs)=some (u,{ c0 with mode:=.panicking [{ v:=u,recovered:=true }] } :: cs):=by
    simp only [recoverD,hu]
   refine wpS_seq (wpS_region (oC rfl rfl rfl rfl hrc rfl ?_))
   have m36:aG cx6 S5 w6 (.d (o7 70 note n)) u:=m3.mono x6
   have e6:(a6.put (some 6) u).eval (.tmp 6)=u:=Act.tV (by
    have hz:=er6.size
    show (a6.tmps.setIfInBounds 6 u)[6]? = _
    rw [Array.getElem?_setIfInBounds_self_of_lt (by omega)])
   have er7:cu cx6 S5 w6 16 [(2,.d (o7 70 note n)),(6,.any),(0,.ptr b3 0 0),(1,.ptr b2 0 0)] ((a6.put (some 6) u).put (some 2) ((a6.put (some 6) u).eval (.tmp 6))):=(er6.put (dst:=some 6) (x:=.any) rfl (.any _)).put (dst:=some 2) rfl (by rw [e6]; exact m36)
   refine wpS_of_wp (ay.run (Q:=fun r=>∃ e6 S6,r=(.normal,e6,S6)∧Has B S6 [.box b3 [.d (.bool false)],.box b2 [.d (.int .i64 6),.d (.str note),.d (.int .i64 n)]]) ?_ s6 er7 (fun r hr=>?_))
   ·
    refine ay.seq ?_
    refine ay.region E.obj rfl ?_
    refine ae.val rfl (ah rfl) rfl ?_
    refine ae.wS (d:=mH note n) rfl rfl zk rfl ?_
    refine ae.val rfl (ah rfl) rfl ?_
    refine ae.val rfl (bD rfl rfl) rfl ?_
    refine ae.val rfl (bD rfl rfl) rfl ?_
    refine ae.alloc H5 rfl xn vg rfl rfl (fun b6 S6 H6=>?_)
    refine ae.store H6 (i:=0) rfl rfl rfl rfl rfl rfl tX rfl wL rfl rfl rfl (fun S7 H7=>?_)
    refine ae.val rfl (aj rfl) rfl ?_
    refine ae.nil ?_
    refine ay.seq ?_
    refine ay.seq ?_
    refine ay.region E.obj rfl ?_
    refine ae.val rfl (ah rfl) rfl ?_
    refine ae.val rfl (dU rfl) rfl ?_
    refine ae.nil ?_
    refine ay.cond rfl (fun hb=>by cases hb) (fun hb=>?_)
    refine ay.skip ?_
    refine ay.region E.obj rfl ?_
    refine ae.val rfl (au H7 (i:=0) rfl rfl (bq yj tX rfl)) rfl ?_
    refine ae.store H7 (i:=2) rfl rfl rfl rfl rfl rfl tX rfl wL rfl rfl rfl (fun S8 H8=>?_)
    refine ae.nil ⟨_,S8,rfl,?_⟩
    exact H8.sl [1,2] rfl rfl
   obtain ⟨e8,S6,rfl,H6⟩:=hr
   intro cx8 a8 w8 s8 x8 er8 d8
   exact ⟨d8.trans ((put_defers _ _ _).trans ((put_defers _ _ _).trans d6)),_,rfl,_,results_none rfl _ _ _,rfl,rfl,cx8,S6,s8,x6.trans x8,H6⟩
  ·
   rintro e u' w' ⟨rfl,rfl,cx6,S6,s6,x6,H6⟩
   obtain ⟨uv,h1,h2⟩:=gG (C:=cfg) s6 (er5.mono x6) (fn:=Tryd.f29) (ni H6 (i:=1) (i2:=0) rfl rfl rfl (bq yj tX rfl) rfl rfl (aA y9 rfl))
   exact ⟨uv,h1,(none,.tup [.d (mH note n),.d (.bool false)],S6),⟨rfl,_,[],.refl _,⟨rfl,note,n,rfl⟩,H6.weaken (List.nil_sublist _)⟩,cx6,s6,x1.trans (x2.trans (x3.trans (x4.trans (m2.trans x6)))),uv,rfl,h2⟩
 | some x =>
  obtain ⟨q1,v',l',q2,q3,q4⟩:=hq
  simp only at q1 q2 q3 q4
  subst q1
  obtain ⟨u,rfl,m3⟩:=m3
  have H5:Has B S5 (.box b3 [.d (.bool false)] :: .box b2 [.d (.int .i64 0),.d (.str []),.d (.int .i64 0)] :: l'):=(f2 S5 l' q4 hd).perm (List.perm_append_comm (l₁:=l') (l₂:=[bg.box b3 [.d (.bool false)],bg.box b2 [.d (.int .i64 0),.d (.str []),.d (.int .i64 0)]]))
  have er6:cu cx5 S5 w5 11 [(3,.ptr b3 0 0),(2,.ptr b2 0 0)] ((a3.put (some 8) u8).put (some 9) u):=(er5.put (dst:=some 9) (x:=.any) rfl (.any _)).sub (.cons rfl (.cons rfl .nil))
  show (Code.seq _ _).wp cfg.P _ ((a3.put (some 8) u8).put (some 9) u) w5
  refine ay.run (Q:=fun r=>∃ S6,r=(.ret,[(3,.ptr b3 0 0),(2,.ptr b2 0 0)],S6)∧Has B S6 (.box b3 [.d (.bool true)] :: .box b2 [.d (.int .i64 0),.d (.str []),.d (.int .i64 0)] :: l')) ?_ m1 er6 (fun r hr=>?_)
  ·
   refine ay.seq ?_
   refine ay.region E.obj rfl ?_
   refine ae.val rfl (bG (cs:=[.d (.int .i64 0),.d (.str []),.d (.int .i64 0)]) vg rfl (j5) rfl) rfl ?_
   refine ae.store H5 (i:=1) rfl rfl rfl rfl rfl rfl tX rfl wL rfl rfl rfl (fun S6 H6=>?_)
   refine ae.store H6 (i:=0) rfl rfl rfl rfl rfl rfl Az rfl AP rfl rfl rfl (fun S7 H7=>?_)
   refine ae.nil ?_
   refine ay.sub (e2:=[(3,.ptr b3 0 0),(2,.ptr b2 0 0)]) (.cons rfl (.cons rfl .nil)) (ay.ret ⟨S7,rfl,H7⟩)
  obtain ⟨S6,rfl,H6⟩:=hr
  intro cx7 a7 w7 s7 x7 er7 d7
  have r3'':=r3'.mono x7
  have r2'':=r2'.mono x7
  have d7':a7.defers=[dfd]:=d7.trans (by show dfd :: a2.defers=_; rw [dd])
  show Go.Leaves cfg.P Tryd.f29 _ _ a7.defers _ w7
  rw [d7']
  refine leaves_cons (f:=53) (args:=#[v3,v2]) (by simp) (hinv w7) ?_
  refine CallsD.mono (R:=fun e u' w'=>u'=.returning∧e=.returned (.tuple #[])∧∃ cx8,aK R cx8 S6 w'∧Ext cx7 S6 w7 cx8 S6 w') (callsD_of_wp Tryd.func53 rfl ?_) ?_
  ·
   have he8:=mX (cx:=cx7) (S:=S6) (w:=w7) (args:=[.ptr b3 0 0,.ptr b2 0 0]) (us:=[v3,v2]) (n:=16) rfl (Nat.le_of_ble_eq_true rfl) (fun i x y hx hy=>by
    match i,hx,hy with
    | 0,hx,hy=>cases hx; cases hy; exact r3''
    | 1,hx,hy=>cases hx; cases hy; exact r2'')
   refine ay.run (Q:=fun r=>∃ e8,r=(.ret,e8,S6)) ?_ s7 he8 (fun r hr=>?_)
   ·
    refine ay.seq ?_
    refine ay.seq ?_
    refine ay.region E.obj rfl ?_
    refine ae.val rfl (au H6 (i:=0) rfl rfl (aA y9 rfl)) rfl ?_
    refine ae.nil ?_
    refine ay.cond rfl (fun hb=>?_) (fun hb=>by cases hb)
    exact ay.ret ⟨_,rfl⟩
   obtain ⟨e8,rfl⟩:=hr
   intro cx8 a8 w8 s8 x8 er8 d8
   exact ⟨d8,_,results_none rfl _ _ _,rfl,cx8,s8,x8⟩
  ·
   rintro e u' w' ⟨rfl,rfl,cx8,s8,x8⟩
   obtain ⟨uv,h1,h2⟩:=gG (C:=cfg) s8 (er7.mono x8) (fn:=Tryd.f29) (ni H6 (i:=1) (i2:=0) rfl rfl rfl (bq yj tX rfl) rfl rfl (aA y9 rfl))
   exact ⟨uv,h1,(none,.tup [.d (.agg [.int .i64 0,.str [],.int .i64 0]),.d (.bool true)],S6),⟨rfl,_,l',.refl _,⟨v',q3,rfl⟩,H6.weaken ((List.sublist_cons_self _ _).trans (List.sublist_cons_self _ _))⟩,cx8,s8,x1.trans (x2.trans (x3.trans (x4.trans (m2.trans (x7.trans x8))))),uv,rfl,h2⟩
set_option maxRecDepth 20000 in
set_option maxHeartbeats 4000000 in
theorem lJ (n:Nat) (a1:Attr) (a2:Attr) (S0:St) (b3:Nat) (hb4:S0.H.get b3=some (.cells 0 [(.d (.str a2.Name)),(.d (.str a2.Value))])) (r:Bool) (h:fA n a1 a2=some r):bX R cfg.P 75 [.d (ax a1),.ptr b3 0 0] S0 (fun o=>o=(none,.d (.bool r),S0)):=by
 unfold fA at h
 refine SpecS.of_wp (C:=cfg) Tryd.func75 rfl zy rfl (fun wf0=>?_)
 have H0:Has S0 S0 []:=Has.start wf0
 refine ay.seq ?_
 refine ay.region E.obj rfl ?_
 refine ae.box H0 rfl rfl rfl (Attr.bB _) rfl (fun b5 S6 H7=>?_)
 refine ae.val rfl (aj rfl) rfl ?_
 refine ae.nil ?_
 refine ay.seq ?_
 refine ay.region E.obj rfl ?_
 refine ae.val rfl (ai rfl rG lK rfl) rfl ?_
 refine ae.val rfl (au H7 (i:=0) rfl rfl (aA lU rfl)) rfl ?_
 refine ae.val rfl (ai rfl rG lK rfl) rfl ?_
 refine ae.val rfl (uD H7 hb4 rfl (aA lU rfl)) rfl ?_
 refine ae.val rfl (az rfl rfl iw) rfl ?_
 refine ae.val rfl (aj rfl) rfl ?_
 refine ae.nil ?_
 have hr:=Option.some.inj h
 subst hr
 exact ay.ret ⟨_,rfl,rfl,H7.keeps,gp (aM.eq .nil)⟩
set_option maxRecDepth 20000 in
set_option maxHeartbeats 4000000 in
theorem eF (n:Nat) (S0:St) (a1:(List Attr)) (fg3:Nat) (fc4:List AV) (p2:Attr→Option Bool) (hpp2:∀ S',jU S0 S'→S'.Wf→∀ (y0:Attr) (r:Bool),p2 y0=some r→bX R cfg.P fg3 ([.d (ax y0)] ++ fc4) S' (fun o=>o=(none,.d (.bool r),S'))) (r:Int) (h:bN n a1 p2=some r):bX R cfg.P 89 [.d (.sl ((a1).map ax) false),.fn fg3 fc4] S0 (fun o=>o=(none,.d (.int .i64 r),S0)):=by
 unfold bN at h
 refine SpecS.of_wp (C:=cfg) Tryd.func89 rfl Af rfl (fun wf0=>?_)
 have H0:Has S0 S0 []:=Has.start wf0
 refine ay.seq ?_
 refine ay.region E.obj rfl ?_
 refine ae.val rfl (aj rfl) rfl ?_
 refine ae.nil ?_
 refine ay.seq ?_
 refine ay.seq ?_
 refine ay.region E.obj rfl ?_
 refine ae.val rfl (ah rfl) rfl ?_
 refine ae.val rfl (aZ rfl vQ) rfl ?_
 refine ae.val rfl (ah rfl) rfl ?_
 refine ae.nil ?_
 refine ay.block ?_
 refine kS.start (B:=S0) (α:=Int) (fun k a=>aP a1 p2 k a=some r) (fun a=>[(0,(.d (.sl ((a1).map ax) false))),(1,(.fn fg3 fc4)),(7,(.d (.int .i64 ((a1).length:Int)))),(8,(.d (.int .i64 a)))]) (fun a=>[]) ?_ ?_ n ⟨0,_,_,S0,.refl _ _,.refl _,(aa.r rfl (aa.r rfl (aa.r rfl (aa.r rfl aa.nil)))),H0.sl [] rfl rfl,h⟩
 ·
  intro a h; simp [aP] at h
 intro k13 x12 S10 H11 h
 replace h:aP a1 p2 (k13 + 1) x12=some r:=h
 replace H11:Has S0 S10 []:=H11
 unfold aP at h
 refine ay.seq ?_
 refine ay.region E.obj rfl ?_
 refine ae.val rfl (az rfl rfl dh) rfl ?_
 refine ae.nil ?_
 refine ay.seq ?_
 refine ay.cond rfl (fun hb14=>?_) (fun hb14=>?_)
 ·
  replace h:=dn hb14 h
  refine ay.skip ?_
  refine ay.seq ?_
  refine ay.block ?_
  refine ay.seq ?_
  refine ay.region E.obj rfl ?_
  refine ae.val rfl (ah rfl) rfl ?_
  refine ae.val rfl (aj rfl) rfl ?_
  refine ae.nil ?_
  refine ay.seq ?_
  refine ay.region E.obj rfl ?_
  refine ae.val rfl (ah rfl) rfl ?_
  refine ae.val rfl (ah rfl) rfl ?_
  refine ae.val rfl (ah rfl) rfl ?_
  obtain ⟨z15,hzz15,h⟩:=bind_some h
  refine ae.val rfl (bU rfl rfl (dC (enc:=ax) hzz15 ug vR ((Attr.len _).trans lY.symm))) rfl ?_
  refine ae.val rfl (bC rfl (Attr.fV xg lY)) rfl ?_
  obtain ⟨z16,hzz16,h⟩:=bind_some h
  refine ae.ret rfl (pU rfl rfl) (hpp2 _ H11.keeps H11.wf _ _ hzz16) rfl ?_
  refine ae.nil ?_
  refine ay.cond rfl (fun hb17=>?_) (fun hb17=>?_)
  ·
   replace h:=dn hb17 h
   refine ay.seq ?_
   refine ay.region E.obj rfl ?_
   refine ae.val rfl (ah rfl) rfl ?_
   refine ae.val rfl (aj rfl) rfl ?_
   refine ae.nil ?_
   have hr:=Option.some.inj h
   subst hr
   exact ay.ret ⟨_,rfl,rfl,H11.keeps,gp (aM.eq .nil)⟩
  replace h:=dm hb17 h
  refine ay.skip ?_
  refine ay.region E.obj rfl ?_
  refine ae.val rfl (az rfl rfl bT) rfl ?_
  refine ae.val rfl (ah rfl) rfl ?_
  refine ae.nil ?_
  exact ⟨(IntKind.wrap .i64 (x12 + 1)),_,_,S10,.refl _ _,.refl _,(aa.r rfl (aa.r rfl (aa.r rfl (aa.r rfl aa.nil)))),H11.sl [] rfl rfl,h⟩
 replace h:=dm hb14 h
 refine ay.exit ?_
 refine ay.seq ?_
 refine ay.region E.obj rfl ?_
 refine ae.val rfl (aj rfl) rfl ?_
 refine ae.nil ?_
 have hr:=Option.some.inj h
 subst hr
 exact ay.ret ⟨_,rfl,rfl,H11.keeps,gp (aM.eq .nil)⟩
set_option maxRecDepth 20000 in
set_option maxHeartbeats 4000000 in
theorem dR (n:Nat) (S0:St) (a1:(List Attr)) (fg3:Nat) (fc4:List AV) (p2:Attr→Option Bool) (hpp2:∀ S',jU S0 S'→S'.Wf→∀ (y0:Attr) (r:Bool),p2 y0=some r→bX R cfg.P fg3 ([.d (ax y0)] ++ fc4) S' (fun o=>o=(none,.d (.bool r),S'))) (r:Bool) (h:bF n a1 p2=some r):bX R cfg.P 76 [.d (.sl ((a1).map ax) false),.fn fg3 fc4] S0 (fun o=>o=(none,.d (.bool r),S0)):=by
 unfold bF at h
 refine SpecS.of_wp (C:=cfg) Tryd.func76 rfl zu rfl (fun wf0=>?_)
 have H0:Has S0 S0 []:=Has.start wf0
 refine ay.seq ?_
 refine ay.region E.obj rfl ?_
 refine ae.val rfl (aj rfl) rfl ?_
 refine ae.nil ?_
 refine ay.seq ?_
 refine ay.region E.obj rfl ?_
 refine ae.val rfl (ah rfl) rfl ?_
 refine ae.val rfl (ah rfl) rfl ?_
 obtain ⟨z6,hzz6,h⟩:=bind_some h
 refine ae.ret rfl (aC rfl rfl) (bX.qD (eF E n S0 _ _ _ p2 (fun S' hk hw y5 r hr=>hpp2 S' (H0.keeps.trans hk) hw y5 r hr) _ hzz6) (.cons (.refl _) (.cons (.refl _) .nil))) rfl ?_
 refine ae.val rfl (az rfl rfl oG) rfl ?_
 refine ae.val rfl (aj rfl) rfl ?_
 refine ae.nil ?_
 have hr:=Option.some.inj h
 subst hr
 exact ay.ret ⟨_,rfl,rfl,H0.keeps,gp (aM.eq .nil)⟩
set_option maxRecDepth 20000 in
set_option maxHeartbeats 4000000 in
theorem mG (n:Nat) (a1:Tree) (r:Bool) (h:ja n a1=some r):dB R cfg.P 63 [(av a1)] (.d (.bool r)):=by
 unfold ja at h
 refine dB.of_wp E.obj.toObjOk (C:=cfg) Tryd.func63 rfl zP rfl ?_
 have H0:Has aO aO []:=Has.pure
 refine ay.seq ?_
 refine ay.region E.obj rfl ?_
 refine ae.box H0 rfl rfl rfl (Tree.bB _) rfl (fun b2 S3 H4=>?_)
 refine ae.val rfl (aj rfl) rfl ?_
 refine ae.nil ?_
 refine ay.seq ?_
 refine ay.seq ?_
 refine ay.region E.obj rfl ?_
 refine ae.val rfl (ai rfl ll lK rfl) rfl ?_
 refine ae.val rfl (au H4 (i:=0) rfl rfl (aA lU rfl)) rfl ?_
 refine ae.val rfl (jC rfl (jr yE) rfl) rfl ?_
 refine ae.val rfl (az rfl rfl iH) rfl ?_
 refine ae.val rfl (ah rfl) rfl ?_
 obtain ⟨z6,hzz6,h⟩:=bind_some h
 refine ae.bz 5 15 (.d (.bool z6)) ?_ ?_
 ·
  rcases Bool.eq_false_or_eq_true ((decide (16 < ((a1.Tag).length:Int)))) with hB5 | hB5
  ·
   refine ae.bool hB5 ?_
   refine ae.no rfl rfl ?_
   refine ae.no rfl rfl ?_
   refine ae.no rfl rfl ?_
   refine ae.no rfl rfl ?_
   refine ae.val rfl (aB (b:=true) rfl rfl) rfl ?_
   replace hzz6:=dn hB5 hzz6
   cases hzz6
   exact ae.nil ⟨_,rfl,(aa.put (aa.push rfl (aa.push rfl (aa.push rfl (aa.push rfl (aa.put (.refl _) (Less.eq (by rw [hB5]))))))) (.refl _))⟩
  refine ae.bool hB5 ?_
  replace hzz6:=dm hB5 hzz6
  refine ae.val rfl (ai rfl ll lK rfl) rfl ?_
  refine ae.val rfl (au H4 (i:=0) rfl rfl (aA lU rfl)) rfl ?_
  obtain ⟨z7,hzz7,hzz6⟩:=bind_some hzz6
  refine ae.ret rfl (aC rfl rfl) (E.strings_Trim_ok _ _ _ _ hzz7 _ _ (aM.eq (aM.eq .nil))) rfl ?_
  refine ae.val rfl (az rfl rfl gy) rfl ?_
  refine ae.val rfl (aB (b:=false) rfl rfl) rfl ?_
  cases hzz6
  exact ae.nil ⟨_,rfl,(aa.put (aa.push rfl (aa.push rfl (aa.push rfl (aa.push rfl (aa.put (.refl _) (Less.eq (by rw [hB5]))))))) (.refl _))⟩
 refine ae.val rfl (ah rfl) rfl ?_
 refine ae.bz 4 20 (.d (.bool (z6 || (!(a1.Text == []))))) ?_ ?_
 ·
  rcases Bool.eq_false_or_eq_true (z6) with hB8 | hB8
  ·
   refine ae.bool hB8 ?_
   refine ae.no rfl rfl ?_
   refine ae.no rfl rfl ?_
   refine ae.no rfl rfl ?_
   refine ae.val rfl (aB (b:=true) rfl rfl) rfl ?_
   exact ae.nil ⟨_,rfl,(aa.put (aa.push rfl (aa.push rfl (aa.push rfl (aa.put (.refl _) (Less.eq (by rw [hB8])))))) (Less.eq (by rw [hB8]; rw [Bool.true_or])))⟩
  refine ae.bool hB8 ?_
  refine ae.val rfl (ai rfl rU lK rfl) rfl ?_
  refine ae.val rfl (au H4 (i:=0) rfl rfl (aA lU rfl)) rfl ?_
  refine ae.val rfl (az rfl rfl gy) rfl ?_
  refine ae.val rfl (aB (b:=false) rfl rfl) rfl ?_
  exact ae.nil ⟨_,rfl,(aa.put (aa.push rfl (aa.push rfl (aa.push rfl (aa.put (.refl _) (Less.eq (by rw [hB8])))))) (Less.eq (by rw [hB8]; rw [Bool.false_or])))⟩
 refine ae.val rfl (ah rfl) rfl ?_
 refine ae.bz 5 26 (.d (.bool ((z6 || (!(a1.Text == []))) || (decide (24 < ((a1.Kids).length:Int)))))) ?_ ?_
 ·
  rcases Bool.eq_false_or_eq_true ((z6 || (!(a1.Text == [])))) with hB9 | hB9
  ·
   refine ae.bool hB9 ?_
   refine ae.no rfl rfl ?_
   refine ae.no rfl rfl ?_
   refine ae.no rfl rfl ?_
   refine ae.no rfl rfl ?_
   refine ae.val rfl (aB (b:=true) rfl rfl) rfl ?_
   exact ae.nil ⟨_,rfl,(aa.put (aa.push rfl (aa.push rfl (aa.push rfl (aa.push rfl (aa.put (.refl _) (Less.eq (by rw [hB9]))))))) (Less.eq (by rw [hB9]; rw [Bool.true_or])))⟩
  refine ae.bool hB9 ?_
  refine ae.val rfl (ai rfl jk qh rfl) rfl ?_
  refine ae.val rfl (au H4 (i:=0) rfl rfl (aA p9 rfl)) rfl ?_
  refine ae.val rfl (aZ rfl pR) rfl ?_
  refine ae.val rfl (az rfl rfl iH) rfl ?_
  refine ae.val rfl (aB (b:=false) rfl rfl) rfl ?_
  exact ae.nil ⟨_,rfl,(aa.put (aa.push rfl (aa.push rfl (aa.push rfl (aa.push rfl (aa.put (.refl _) (Less.eq (by rw [hB9]))))))) (Less.eq (by rw [hB9]; rw [Bool.false_or])))⟩
 refine ae.val rfl (ah rfl) rfl ?_
 refine ae.bz 5 32 (.d (.bool (((z6 || (!(a1.Text == []))) || (decide (24 < ((a1.Kids).length:Int)))) || (decide (64 < ((a1.Key).length:Int)))))) ?_ ?_
 ·
  rcases Bool.eq_false_or_eq_true (((z6 || (!(a1.Text == []))) || (decide (24 < ((a1.Kids).length:Int))))) with hB10 | hB10
  ·
   refine ae.bool hB10 ?_
   refine ae.no rfl rfl ?_
   refine ae.no rfl rfl ?_
   refine ae.no rfl rfl ?_
   refine ae.no rfl rfl ?_
   refine ae.val rfl (aB (b:=true) rfl rfl) rfl ?_
   exact ae.nil ⟨_,rfl,(aa.put (aa.push rfl (aa.push rfl (aa.push rfl (aa.push rfl (aa.put (.refl _) (Less.eq (by rw [hB10]))))))) (Less.eq (by rw [hB10]; rw [Bool.true_or])))⟩
  refine ae.bool hB10 ?_
  refine ae.val rfl (ai rfl oO lK rfl) rfl ?_
  refine ae.val rfl (au H4 (i:=0) rfl rfl (aA lU rfl)) rfl ?_
  refine ae.val rfl (jC rfl (jr yE) rfl) rfl ?_
  refine ae.val rfl (az rfl rfl iH) rfl ?_
  refine ae.val rfl (aB (b:=false) rfl rfl) rfl ?_
  exact ae.nil ⟨_,rfl,(aa.put (aa.push rfl (aa.push rfl (aa.push rfl (aa.push rfl (aa.put (.refl _) (Less.eq (by rw [hB10]))))))) (Less.eq (by rw [hB10]; rw [Bool.false_or])))⟩
 refine ae.nil ?_
 refine ay.cond rfl (fun hb11=>?_) (fun hb11=>?_)
 ·
  replace h:=dn hb11 h
  refine ay.seq ?_
  refine ay.region E.obj rfl ?_
  refine ae.val rfl (aj rfl) rfl ?_
  refine ae.nil ?_
  have hr:=Option.some.inj h
  subst hr
  exact ay.ret ⟨_,rfl,rfl,gp (aM.eq .nil)⟩
 replace h:=dm hb11 h
 refine ay.skip ?_
 refine ay.seq ?_
 refine ay.seq ?_
 refine ay.region E.obj rfl ?_
 refine ae.val rfl (ai rfl oQ uw rfl) rfl ?_
 refine ae.val rfl (au H4 (i:=0) rfl rfl (aA uM rfl)) rfl ?_
 refine ae.val rfl (aZ rfl vQ) rfl ?_
 refine ae.val rfl (ah rfl) rfl ?_
 refine ae.nil ?_
 refine ay.block ?_
 refine kS.start (B:=aO) (α:=Int) (fun k a=>cO n a1 k a=some r) (fun a=>[(1,(.ptr b2 0 0)),(34,(.d (.sl ((a1.aL).map ax) false))),(35,(.d (.int .i64 ((a1.aL).length:Int)))),(36,(.d (.int .i64 a)))]) (fun a=>[.box b2 [(.d (.str a1.Tag)),(.d (.str a1.Key)),(.d (.str a1.Text)),(.d (.sl ((a1.aL).map ax) false)),(.d (.sl ((a1.Kids).map av) false))]]) ?_ ?_ n ⟨0,_,_,S3,.refl _ _,.refl _,(aa.r rfl (aa.r rfl (aa.r rfl (aa.r rfl aa.nil)))),H4.sl [0] rfl rfl,h⟩
 ·
  intro a h; simp [cO] at h
 intro k20 x19 S17 H18 h
 replace h:cO n a1 (k20 + 1) x19=some r:=h
 replace H18:Has aO S17 [.box b2 [(.d (.str a1.Tag)),(.d (.str a1.Key)),(.d (.str a1.Text)),(.d (.sl ((a1.aL).map ax) false)),(.d (.sl ((a1.Kids).map av) false))]]:=H18
 unfold cO at h
 refine ay.seq ?_
 refine ay.region E.obj rfl ?_
 refine ae.val rfl (az rfl rfl dh) rfl ?_
 refine ae.nil ?_
 refine ay.seq ?_
 refine ay.cond rfl (fun hb21=>?_) (fun hb21=>?_)
 ·
  replace h:=dn hb21 h
  refine ay.skip ?_
  refine ay.seq ?_
  refine ay.block ?_
  refine ay.seq ?_
  refine ay.region E.obj rfl ?_
  refine ae.val rfl (ah rfl) rfl ?_
  obtain ⟨z22,hzz22,h⟩:=bind_some h
  refine ae.val rfl (bU rfl rfl (dC (enc:=ax) hzz22 ug vR ((Attr.len _).trans lY.symm))) rfl ?_
  refine ae.val rfl (bC rfl (Attr.fV xg lY)) rfl ?_
  refine ae.alloc H18 rfl zt zV rfl rfl (fun b23 S24 H25=>?_)
  refine ae.val rfl (aj rfl) rfl ?_
  refine ae.store H25 (i:=0) rfl rfl rfl rfl (Attr.bB _) rfl lY rfl vR rfl rfl rfl (fun S26 H27=>?_)
  refine ae.nil ?_
  refine ay.seq ?_
  refine ay.region E.obj rfl ?_
  refine ae.val rfl (jf rfl) rfl ?_
  refine ae.val rfl (aj rfl) rfl ?_
  refine ae.nil ?_
  refine ay.seq ?_
  refine ay.region E.obj rfl ?_
  refine ae.val rfl (ai rfl rG lK rfl) rfl ?_
  refine ae.val rfl (au H27 (i:=0) rfl rfl (aA lU rfl)) rfl ?_
  refine ae.val rfl (az rfl rfl iw) rfl ?_
  refine ae.val rfl (ah rfl) rfl ?_
  refine ae.bz 5 50 (.d (.bool ((z22.Name == []) || (decide (64 < ((z22.Name).length:Int)))))) ?_ ?_
  ·
   rcases Bool.eq_false_or_eq_true ((z22.Name == [])) with hB28 | hB28
   ·
    refine ae.bool hB28 ?_
    refine ae.no rfl rfl ?_
    refine ae.no rfl rfl ?_
    refine ae.no rfl rfl ?_
    refine ae.no rfl rfl ?_
    refine ae.val rfl (aB (b:=true) rfl rfl) rfl ?_
    exact ae.nil ⟨_,rfl,(aa.put (aa.push rfl (aa.push rfl (aa.push rfl (aa.push rfl (aa.put (.refl _) (Less.eq (by rw [hB28]))))))) (Less.eq (by rw [hB28]; rw [Bool.true_or])))⟩
   refine ae.bool hB28 ?_
   refine ae.val rfl (ai rfl rG lK rfl) rfl ?_
   refine ae.val rfl (au H27 (i:=0) rfl rfl (aA lU rfl)) rfl ?_
   refine ae.val rfl (jC rfl (jr yE) rfl) rfl ?_
   refine ae.val rfl (az rfl rfl iH) rfl ?_
   refine ae.val rfl (aB (b:=false) rfl rfl) rfl ?_
   exact ae.nil ⟨_,rfl,(aa.put (aa.push rfl (aa.push rfl (aa.push rfl (aa.push rfl (aa.put (.refl _) (Less.eq (by rw [hB28]))))))) (Less.eq (by rw [hB28]; rw [Bool.false_or])))⟩
  refine ae.val rfl (ah rfl) rfl ?_
  refine ae.bz 5 56 (.d (.bool (((z22.Name == []) || (decide (64 < ((z22.Name).length:Int)))) || (decide (64 < ((z22.Value).length:Int)))))) ?_ ?_
  ·
   rcases Bool.eq_false_or_eq_true (((z22.Name == []) || (decide (64 < ((z22.Name).length:Int))))) with hB29 | hB29
   ·
    refine ae.bool hB29 ?_
    refine ae.no rfl rfl ?_
    refine ae.no rfl rfl ?_
    refine ae.no rfl rfl ?_
    refine ae.no rfl rfl ?_
    refine ae.val rfl (aB (b:=true) rfl rfl) rfl ?_
    exact ae.nil ⟨_,rfl,(aa.put (aa.push rfl (aa.push rfl (aa.push rfl (aa.push rfl (aa.put (.refl _) (Less.eq (by rw [hB29]))))))) (Less.eq (by rw [hB29]; rw [Bool.true_or])))⟩
   refine ae.bool hB29 ?_
   refine ae.val rfl (ai rfl yx lK rfl) rfl ?_
   refine ae.val rfl (au H27 (i:=0) rfl rfl (aA lU rfl)) rfl ?_
   refine ae.val rfl (jC rfl (jr yE) rfl) rfl ?_
   refine ae.val rfl (az rfl rfl iH) rfl ?_
   refine ae.val rfl (aB (b:=false) rfl rfl) rfl ?_
   exact ae.nil ⟨_,rfl,(aa.put (aa.push rfl (aa.push rfl (aa.push rfl (aa.push rfl (aa.put (.refl _) (Less.eq (by rw [hB29]))))))) (Less.eq (by rw [hB29]; rw [Bool.false_or])))⟩
  refine ae.val rfl (ah rfl) rfl ?_
  obtain ⟨z31,hzz31,h⟩:=bind_some h
  refine ae.bz 7 64 (.d (.bool z31)) ?_ ?_
  ·
   rcases Bool.eq_false_or_eq_true ((((z22.Name == []) || (decide (64 < ((z22.Name).length:Int)))) || (decide (64 < ((z22.Value).length:Int))))) with hB30 | hB30
   ·
    refine ae.bool hB30 ?_
    refine ae.no rfl rfl ?_
    refine ae.no rfl rfl ?_
    refine ae.no rfl rfl ?_
    refine ae.no rfl rfl ?_
    refine ae.no rfl rfl ?_
    refine ae.no rfl rfl ?_
    refine ae.val rfl (aB (b:=true) rfl rfl) rfl ?_
    replace hzz31:=dn hB30 hzz31
    cases hzz31
    exact ae.nil ⟨_,rfl,(aa.put (aa.push rfl (aa.push rfl (aa.push rfl (aa.push rfl (aa.push rfl (aa.push rfl (aa.put (.refl _) (Less.eq (by rw [hB30]))))))))) (.refl _))⟩
   refine ae.bool hB30 ?_
   replace hzz31:=dm hB30 hzz31
   refine ae.val rfl (ai rfl oQ uw rfl) rfl ?_
   refine ae.val rfl (au H27 (i:=1) rfl rfl (aA uM rfl)) rfl ?_
   refine ae.val rfl (ah rfl) rfl ?_
   obtain ⟨z32,hzz32,hzz31⟩:=bind_some hzz31
   refine ae.val rfl (uN rfl rfl ug Aj (fun z=>(Attr.len z).trans lY.symm) hzz32) rfl ?_
   refine ae.val rfl (ah rfl) rfl ?_
   obtain ⟨z34,hzz34,hzz31⟩:=bind_some hzz31
   refine ae.ret rfl (aC rfl rfl) (bX.qD (dR E n S26 _ _ _ (fun y33=>fA n y33 z22) (fun S' hk hw y33 r hr=>lJ E n y33 z22 S' _ (hk.H _ _ (H27.at (i:=0) rfl)) r hr) _ hzz34) (.cons (.refl _) (.cons (.refl _) .nil))) rfl ?_
   refine ae.val rfl (aB (b:=false) rfl rfl) rfl ?_
   cases hzz31
   exact ae.nil ⟨_,rfl,(aa.put (aa.push rfl (aa.push rfl (aa.push rfl (aa.push rfl (aa.push rfl (aa.push rfl (aa.put (.refl _) (Less.eq (by rw [hB30]))))))))) (.refl _))⟩
  refine ae.nil ?_
  refine ay.cond rfl (fun hb35=>?_) (fun hb35=>?_)
  ·
   replace h:=dn hb35 h
   refine ay.seq ?_
   refine ay.region E.obj rfl ?_
   refine ae.val rfl (aj rfl) rfl ?_
   refine ae.nil ?_
   have hr:=Option.some.inj h
   subst hr
   exact ay.ret ⟨_,rfl,rfl,gp (aM.eq .nil)⟩
  replace h:=dm hb35 h
  refine ay.skip ?_
  refine ay.region E.obj rfl ?_
  refine ae.val rfl (az rfl rfl bT) rfl ?_
  refine ae.val rfl (ah rfl) rfl ?_
  refine ae.nil ?_
  exact ⟨(IntKind.wrap .i64 (x19 + 1)),_,_,S26,.refl _ _,.refl _,(aa.r rfl (aa.r rfl (aa.r rfl (aa.r rfl aa.nil)))),H27.sl [1] rfl rfl,h⟩
 replace h:=dm hb21 h
 refine ay.exit ?_
 refine ay.seq ?_
 refine ay.region E.obj rfl ?_
 refine ae.val rfl (aj rfl) rfl ?_
 refine ae.nil ?_
 have hr:=Option.some.inj h
 subst hr
 exact ay.ret ⟨_,rfl,rfl,gp (aM.eq .nil)⟩
set_option maxRecDepth 20000 in
set_option maxHeartbeats 4000000 in
theorem kr:∀ (n:Nat) (a1:Tree) (r:Bool),eP n a1=some r→dB R cfg.P 45 [(av a1)] (.d (.bool r))
 | 0,a1,r,h=>by simp [eP] at h
 | n + 1,a1,r,h=>by
  have ih:=kr n
  unfold eP at h
  refine dB.of_wp E.obj.toObjOk (C:=cfg) Tryd.func45 rfl zx rfl ?_
  have H0:Has aO aO []:=Has.pure
  refine ay.seq ?_
  refine ay.region E.obj rfl ?_
  refine ae.box H0 rfl rfl rfl (Tree.bB _) rfl (fun b2 S3 H4=>?_)
  refine ae.val rfl (aj rfl) rfl ?_
  refine ae.nil ?_
  refine ay.seq ?_
  refine ay.seq ?_
  refine ay.region E.obj rfl ?_
  refine ae.val rfl (ai rfl ll lK rfl) rfl ?_
  refine ae.val rfl (au H4 (i:=0) rfl rfl (aA lU rfl)) rfl ?_
  refine ae.val rfl (az rfl rfl iw) rfl ?_
  refine ae.nil ?_
  refine ay.cond rfl (fun hb5=>?_) (fun hb5=>?_)
  ·
   replace h:=dn hb5 h
   refine ay.seq ?_
   refine ay.region E.obj rfl ?_
   refine ae.val rfl (ai rfl oO lK rfl) rfl ?_
   refine ae.val rfl (au H4 (i:=0) rfl rfl (aA lU rfl)) rfl ?_
   refine ae.val rfl (az rfl rfl iw) rfl ?_
   refine ae.val rfl (ah rfl) rfl ?_
   refine ae.bz 5 16 (.d (.bool ((a1.Key == []) && (((a1.aL).length:Int) == 0)))) ?_ ?_
   ·
    rcases Bool.eq_false_or_eq_true ((a1.Key == [])) with hB6 | hB6
    ·
     refine ae.bool hB6 ?_
     refine ae.val rfl (ai rfl oQ uw rfl) rfl ?_
     refine ae.val rfl (au H4 (i:=0) rfl rfl (aA uM rfl)) rfl ?_
     refine ae.val rfl (aZ rfl vQ) rfl ?_
     refine ae.val rfl (az rfl rfl bH) rfl ?_
     refine ae.val rfl (aB (b:=true) rfl rfl) rfl ?_
     exact ae.nil ⟨_,rfl,(aa.put (aa.push rfl (aa.push rfl (aa.push rfl (aa.push rfl (aa.put (.refl _) (Less.eq (by rw [hB6]))))))) (Less.eq (by rw [hB6]; rw [Bool.true_and])))⟩
    refine ae.bool hB6 ?_
    refine ae.no rfl rfl ?_
    refine ae.no rfl rfl ?_
    refine ae.no rfl rfl ?_
    refine ae.no rfl rfl ?_
    refine ae.val rfl (aB (b:=false) rfl rfl) rfl ?_
    exact ae.nil ⟨_,rfl,(aa.put (aa.push rfl (aa.push rfl (aa.push rfl (aa.push rfl (aa.put (.refl _) (Less.eq (by rw [hB6]))))))) (Less.eq (by rw [hB6]; rw [Bool.false_and])))⟩
   refine ae.val rfl (ah rfl) rfl ?_
   refine ae.bz 5 22 (.d (.bool (((a1.Key == []) && (((a1.aL).length:Int) == 0)) && (((a1.Kids).length:Int) == 0)))) ?_ ?_
   ·
    rcases Bool.eq_false_or_eq_true (((a1.Key == []) && (((a1.aL).length:Int) == 0))) with hB7 | hB7
    ·
     refine ae.bool hB7 ?_
     refine ae.val rfl (ai rfl jk qh rfl) rfl ?_
     refine ae.val rfl (au H4 (i:=0) rfl rfl (aA p9 rfl)) rfl ?_
     refine ae.val rfl (aZ rfl pR) rfl ?_
     refine ae.val rfl (az rfl rfl bH) rfl ?_
     refine ae.val rfl (aB (b:=true) rfl rfl) rfl ?_
     exact ae.nil ⟨_,rfl,(aa.put (aa.push rfl (aa.push rfl (aa.push rfl (aa.push rfl (aa.put (.refl _) (Less.eq (by rw [hB7]))))))) (Less.eq (by rw [hB7]; rw [Bool.true_and])))⟩
    refine ae.bool hB7 ?_
    refine ae.no rfl rfl ?_
    refine ae.no rfl rfl ?_
    refine ae.no rfl rfl ?_
    refine ae.no rfl rfl ?_
    refine ae.val rfl (aB (b:=false) rfl rfl) rfl ?_
    exact ae.nil ⟨_,rfl,(aa.put (aa.push rfl (aa.push rfl (aa.push rfl (aa.push rfl (aa.put (.refl _) (Less.eq (by rw [hB7]))))))) (Less.eq (by rw [hB7]; rw [Bool.false_and])))⟩
   refine ae.val rfl (ah rfl) rfl ?_
   refine ae.bz 5 28 (.d (.bool ((((a1.Key == []) && (((a1.aL).length:Int) == 0)) && (((a1.Kids).length:Int) == 0)) && (decide (((a1.Text).length:Int) ≤ 64))))) ?_ ?_
   ·
    rcases Bool.eq_false_or_eq_true ((((a1.Key == []) && (((a1.aL).length:Int) == 0)) && (((a1.Kids).length:Int) == 0))) with hB8 | hB8
    ·
     refine ae.bool hB8 ?_
     refine ae.val rfl (ai rfl rU lK rfl) rfl ?_
     refine ae.val rfl (au H4 (i:=0) rfl rfl (aA lU rfl)) rfl ?_
     refine ae.val rfl (jC rfl (jr yE) rfl) rfl ?_
     refine ae.val rfl (az rfl rfl gV) rfl ?_
     refine ae.val rfl (aB (b:=true) rfl rfl) rfl ?_
     exact ae.nil ⟨_,rfl,(aa.put (aa.push rfl (aa.push rfl (aa.push rfl (aa.push rfl (aa.put (.refl _) (Less.eq (by rw [hB8]))))))) (Less.eq (by rw [hB8]; rw [Bool.true_and])))⟩
    refine ae.bool hB8 ?_
    refine ae.no rfl rfl ?_
    refine ae.no rfl rfl ?_
    refine ae.no rfl rfl ?_
    refine ae.no rfl rfl ?_
    refine ae.val rfl (aB (b:=false) rfl rfl) rfl ?_
    exact ae.nil ⟨_,rfl,(aa.put (aa.push rfl (aa.push rfl (aa.push rfl (aa.push rfl (aa.put (.refl _) (Less.eq (by rw [hB8]))))))) (Less.eq (by rw [hB8]; rw [Bool.false_and])))⟩
   refine ae.val rfl (aj rfl) rfl ?_
   refine ae.nil ?_
   have hr:=Option.some.inj h
   subst hr
   exact ay.ret ⟨_,rfl,rfl,gp (aM.eq .nil)⟩
  replace h:=dm hb5 h
  refine ay.skip ?_
  refine ay.seq ?_
  refine ay.seq ?_
  refine ay.region E.obj rfl ?_
  refine ae.val rfl (au H4 (i:=0) rfl rfl (bq gm di rfl)) rfl ?_
  refine ae.less (Less.agg' (d:=av a1) (ak.eq rfl (ak.eq rfl (ak.eq rfl (ak.eq rfl (ak.eq rfl .nil))))) ((Tree.eq _).trans rfl)) ?_
  obtain ⟨z9,hzz9,h⟩:=bind_some h
  refine ae.ret rfl (aC rfl rfl) (mG E _ _ _ hzz9 _ _ (aM.eq .nil)) rfl ?_
  refine ae.val rfl (dU rfl) rfl ?_
  refine ae.nil ?_
  refine ay.cond rfl (fun hb10=>?_) (fun hb10=>?_)
  ·
   replace h:=dn hb10 h
   refine ay.seq ?_
   refine ay.region E.obj rfl ?_
   refine ae.val rfl (aj rfl) rfl ?_
   refine ae.nil ?_
   have hr:=Option.some.inj h
   subst hr
   exact ay.ret ⟨_,rfl,rfl,gp (aM.eq .nil)⟩
  replace h:=dm hb10 h
  refine ay.skip ?_
  refine ay.seq ?_
  refine ay.seq ?_
  refine ay.region E.obj rfl ?_
  refine ae.val rfl (ai rfl jk qh rfl) rfl ?_
  refine ae.val rfl (au H4 (i:=0) rfl rfl (aA p9 rfl)) rfl ?_
  refine ae.val rfl (aZ rfl pR) rfl ?_
  refine ae.val rfl (ah rfl) rfl ?_
  refine ae.nil ?_
  refine ay.block ?_
  refine kS.start (B:=aO) (α:=Int) (fun k a=>dG (eP n) a1 k a=some r) (fun a=>[(33,(.d (.sl ((a1.Kids).map av) false))),(34,(.d (.int .i64 ((a1.Kids).length:Int)))),(35,(.d (.int .i64 a)))]) (fun a=>[]) ?_ ?_ n ⟨0,_,_,S3,.refl _ _,.refl _,(aa.r rfl (aa.r rfl (aa.r rfl aa.nil))),H4.sl [] rfl rfl,h⟩
  ·
   intro a h; simp [dG] at h
  intro k19 x18 S16 H17 h
  replace h:dG (eP n) a1 (k19 + 1) x18=some r:=h
  replace H17:Has aO S16 []:=H17
  unfold dG at h
  refine ay.seq ?_
  refine ay.region E.obj rfl ?_
  refine ae.val rfl (az rfl rfl dh) rfl ?_
  refine ae.nil ?_
  refine ay.seq ?_
  refine ay.cond rfl (fun hb20=>?_) (fun hb20=>?_)
  ·
   replace h:=dn hb20 h
   refine ay.skip ?_
   refine ay.seq ?_
   refine ay.block ?_
   refine ay.seq ?_
   refine ay.region E.obj rfl ?_
   obtain ⟨z21,hzz21,h⟩:=bind_some h
   refine ae.val rfl (bU rfl rfl (dC (enc:=av) hzz21 jH jV ((Tree.len _).trans di.symm))) rfl ?_
   refine ae.val rfl (bC rfl (Tree.fV gm di)) rfl ?_
   refine ae.alloc H17 rfl tJ gH rfl rfl (fun b22 S23 H24=>?_)
   refine ae.store H24 (i:=0) rfl rfl rfl rfl (Tree.bB _) rfl di rfl jV rfl rfl rfl (fun S25 H26=>?_)
   refine ae.nil ?_
   refine ay.seq ?_
   refine ay.region E.obj rfl ?_
   refine ae.val rfl (au H26 (i:=0) rfl rfl (bq gm di rfl)) rfl ?_
   refine ae.less (Less.agg' (d:=av z21) (ak.eq rfl (ak.eq rfl (ak.eq rfl (ak.eq rfl (ak.eq rfl .nil))))) ((Tree.eq _).trans rfl)) ?_
   obtain ⟨z27,hzz27,h⟩:=bind_some h
   refine ae.ret rfl (aC rfl rfl) (ih _ _ hzz27 _ _ (aM.eq .nil)) rfl ?_
   refine ae.val rfl (dU rfl) rfl ?_
   refine ae.nil ?_
   refine ay.cond rfl (fun hb28=>?_) (fun hb28=>?_)
   ·
    replace h:=dn hb28 h
    refine ay.seq ?_
    refine ay.region E.obj rfl ?_
    refine ae.val rfl (aj rfl) rfl ?_
    refine ae.nil ?_
    have hr:=Option.some.inj h
    subst hr
    exact ay.ret ⟨_,rfl,rfl,gp (aM.eq .nil)⟩
   replace h:=dm hb28 h
   refine ay.skip ?_
   refine ay.region E.obj rfl ?_
   refine ae.val rfl (az rfl rfl bT) rfl ?_
   refine ae.val rfl (ah rfl) rfl ?_
   refine ae.nil ?_
   exact ⟨(IntKind.wrap .i64 (x18 + 1)),_,_,S25,.refl _ _,.refl _,(aa.r rfl (aa.r rfl (aa.r rfl aa.nil))),H26.sl [] rfl rfl,h⟩
  replace h:=dm hb20 h
  refine ay.exit ?_
  refine ay.seq ?_
  refine ay.region E.obj rfl ?_
  refine ae.val rfl (aj rfl) rfl ?_
  refine ae.nil ?_
  have hr:=Option.some.inj h
  subst hr
  exact ay.ret ⟨_,rfl,rfl,gp (aM.eq .nil)⟩
set_option maxRecDepth 20000 in
set_option maxHeartbeats 4000000 in
theorem kg:∀ (n:Nat) (a1:Tree) (r:Int),eQ n a1=some r→dB R cfg.P 46 [(av a1)] (.d (.int .i64 r))
 | 0,a1,r,h=>by simp [eQ] at h
 | n + 1,a1,r,h=>by
  have ih:=kg n
  unfold eQ at h
  refine dB.of_wp E.obj.toObjOk (C:=cfg) Tryd.func46 rfl zq rfl ?_
  have H0:Has aO aO []:=Has.pure
  refine ay.seq ?_
  refine ay.region E.obj rfl ?_
  refine ae.box H0 rfl rfl rfl (Tree.bB _) rfl (fun b2 S3 H4=>?_)
  refine ae.val rfl (aj rfl) rfl ?_
  refine ae.nil ?_
  refine ay.seq ?_
  refine ay.region E.obj rfl ?_
  refine ae.val rfl (aj rfl) rfl ?_
  refine ae.nil ?_
  refine ay.seq ?_
  refine ay.seq ?_
  refine ay.region E.obj rfl ?_
  refine ae.val rfl (ai rfl jk qh rfl) rfl ?_
  refine ae.val rfl (au H4 (i:=0) rfl rfl (aA p9 rfl)) rfl ?_
  refine ae.val rfl (aZ rfl pR) rfl ?_
  refine ae.val rfl (ah rfl) rfl ?_
  refine ae.nil ?_
  refine ay.block ?_
  refine kS.start (B:=aO) (α:=Int × Int) (fun k a=>dF (eQ n) a1 k a.1 a.2=some r) (fun a=>[(3,(.d (.int .i64 a.1))),(7,(.d (.sl ((a1.Kids).map av) false))),(8,(.d (.int .i64 ((a1.Kids).length:Int)))),(9,(.d (.int .i64 a.2)))]) (fun a=>[]) ?_ ?_ n ⟨⟨1,0⟩,_,_,S3,.refl _ _,.refl _,(aa.r rfl (aa.r rfl (aa.r rfl (aa.r rfl aa.nil)))),H4.sl [] rfl rfl,h⟩
  ·
   intro a h; simp [dF] at h
  intro k15 a S11 H12 h
  obtain ⟨x13,x14⟩:=a
  replace h:dF (eQ n) a1 (k15 + 1) x13 x14=some r:=h
  replace H12:Has aO S11 []:=H12
  unfold dF at h
  refine ay.seq ?_
  refine ay.region E.obj rfl ?_
  refine ae.val rfl (az rfl rfl dh) rfl ?_
  refine ae.nil ?_
  refine ay.seq ?_
  refine ay.cond rfl (fun hb16=>?_) (fun hb16=>?_)
  ·
   replace h:=dn hb16 h
   refine ay.skip ?_
   refine ay.seq ?_
   refine ay.block ?_
   refine ay.seq ?_
   refine ay.region E.obj rfl ?_
   obtain ⟨z17,hzz17,h⟩:=bind_some h
   refine ae.val rfl (bU rfl rfl (dC (enc:=av) hzz17 jH jV ((Tree.len _).trans di.symm))) rfl ?_
   refine ae.val rfl (bC rfl (Tree.fV gm di)) rfl ?_
   refine ae.alloc H12 rfl tJ gH rfl rfl (fun b18 S19 H20=>?_)
   refine ae.store H20 (i:=0) rfl rfl rfl rfl (Tree.bB _) rfl di rfl jV rfl rfl rfl (fun S21 H22=>?_)
   refine ae.nil ?_
   refine ay.region E.obj rfl ?_
   refine ae.val rfl (ah rfl) rfl ?_
   refine ae.val rfl (au H22 (i:=0) rfl rfl (bq gm di rfl)) rfl ?_
   refine ae.less (Less.agg' (d:=av z17) (ak.eq rfl (ak.eq rfl (ak.eq rfl (ak.eq rfl (ak.eq rfl .nil))))) ((Tree.eq _).trans rfl)) ?_
   obtain ⟨z23,hzz23,h⟩:=bind_some h
   refine ae.ret rfl (aC rfl rfl) (ih _ _ hzz23 _ _ (aM.eq .nil)) rfl ?_
   refine ae.val rfl (az rfl rfl bT) rfl ?_
   refine ae.val rfl (aj rfl) rfl ?_
   refine ae.nil ?_
   refine ay.region E.obj rfl ?_
   refine ae.val rfl (az rfl rfl bT) rfl ?_
   refine ae.val rfl (ah rfl) rfl ?_
   refine ae.nil ?_
   exact ⟨⟨(IntKind.wrap .i64 (x13 + z23)),(IntKind.wrap .i64 (x14 + 1))⟩,_,_,S21,.refl _ _,.refl _,(aa.r rfl (aa.r rfl (aa.r rfl (aa.r rfl aa.nil)))),H22.sl [] rfl rfl,h⟩
  replace h:=dm hb16 h
  refine ay.exit ?_
  refine ay.seq ?_
  refine ay.region E.obj rfl ?_
  refine ae.val rfl (ah rfl) rfl ?_
  refine ae.val rfl (aj rfl) rfl ?_
  refine ae.nil ?_
  have hr:=Option.some.inj h
  subst hr
  exact ay.ret ⟨_,rfl,rfl,gp (aM.eq .nil)⟩
set_option maxRecDepth 20000 in
set_option maxHeartbeats 4000000 in
theorem kT:∀ (n:Nat) (a1:Tree) (r:Int),fD n a1=some r→dB R cfg.P 47 [(av a1)] (.d (.int .i64 r))
 | 0,a1,r,h=>by simp [fD] at h
 | n + 1,a1,r,h=>by
  have ih:=kT n
  unfold fD at h
  refine dB.of_wp E.obj.toObjOk (C:=cfg) Tryd.func47 rfl zJ rfl ?_
  have H0:Has aO aO []:=Has.pure
  refine ay.seq ?_
  refine ay.region E.obj rfl ?_
  refine ae.box H0 rfl rfl rfl (Tree.bB _) rfl (fun b2 S3 H4=>?_)
  refine ae.val rfl (aj rfl) rfl ?_
  refine ae.nil ?_
  refine ay.seq ?_
  refine ay.region E.obj rfl ?_
  refine ae.val rfl (aj rfl) rfl ?_
  refine ae.nil ?_
  refine ay.seq ?_
  refine ay.seq ?_
  refine ay.region E.obj rfl ?_
  refine ae.val rfl (ai rfl jk qh rfl) rfl ?_
  refine ae.val rfl (au H4 (i:=0) rfl rfl (aA p9 rfl)) rfl ?_
  refine ae.val rfl (aZ rfl pR) rfl ?_
  refine ae.val rfl (ah rfl) rfl ?_
  refine ae.nil ?_
  refine ay.block ?_
  refine kS.start (B:=aO) (α:=Int × Int) (fun k a=>dP (fD n) a1 k a.1 a.2=some r) (fun a=>[(3,(.d (.int .i64 a.1))),(7,(.d (.sl ((a1.Kids).map av) false))),(8,(.d (.int .i64 ((a1.Kids).length:Int)))),(9,(.d (.int .i64 a.2)))]) (fun a=>[]) ?_ ?_ n ⟨⟨0,0⟩,_,_,S3,.refl _ _,.refl _,(aa.r rfl (aa.r rfl (aa.r rfl (aa.r rfl aa.nil)))),H4.sl [] rfl rfl,h⟩
  ·
   intro a h; simp [dP] at h
  intro k15 a S11 H12 h
  obtain ⟨x13,x14⟩:=a
  replace h:dP (fD n) a1 (k15 + 1) x13 x14=some r:=h
  replace H12:Has aO S11 []:=H12
  unfold dP at h
  refine ay.seq ?_
  refine ay.region E.obj rfl ?_
  refine ae.val rfl (az rfl rfl dh) rfl ?_
  refine ae.nil ?_
  refine ay.seq ?_
  refine ay.cond rfl (fun hb16=>?_) (fun hb16=>?_)
  ·
   replace h:=dn hb16 h
   refine ay.skip ?_
   refine ay.seq ?_
   refine ay.block ?_
   refine ay.seq ?_
   refine ay.region E.obj rfl ?_
   obtain ⟨z17,hzz17,h⟩:=bind_some h
   refine ae.val rfl (bU rfl rfl (dC (enc:=av) hzz17 jH jV ((Tree.len _).trans di.symm))) rfl ?_
   refine ae.val rfl (bC rfl (Tree.fV gm di)) rfl ?_
   refine ae.alloc H12 rfl tJ gH rfl rfl (fun b18 S19 H20=>?_)
   refine ae.store H20 (i:=0) rfl rfl rfl rfl (Tree.bB _) rfl di rfl jV rfl rfl rfl (fun S21 H22=>?_)
   refine ae.nil ?_
   refine ay.region E.obj rfl ?_
   refine ae.val rfl (ah rfl) rfl ?_
   refine ae.val rfl (au H22 (i:=0) rfl rfl (bq gm di rfl)) rfl ?_
   refine ae.less (Less.agg' (d:=av z17) (ak.eq rfl (ak.eq rfl (ak.eq rfl (ak.eq rfl (ak.eq rfl .nil))))) ((Tree.eq _).trans rfl)) ?_
   obtain ⟨z23,hzz23,h⟩:=bind_some h
   refine ae.ret rfl (aC rfl rfl) (ih _ _ hzz23 _ _ (aM.eq .nil)) rfl ?_
   refine ae.val rfl (pF rfl rfl) rfl ?_
   refine ae.val rfl (aj rfl) rfl ?_
   refine ae.nil ?_
   refine ay.region E.obj rfl ?_
   refine ae.val rfl (az rfl rfl bT) rfl ?_
   refine ae.val rfl (ah rfl) rfl ?_
   refine ae.nil ?_
   exact ⟨⟨(q9 x13 z23),(IntKind.wrap .i64 (x14 + 1))⟩,_,_,S21,.refl _ _,.refl _,(aa.r rfl (aa.r rfl (aa.r rfl (aa.r rfl aa.nil)))),H22.sl [] rfl rfl,h⟩
  replace h:=dm hb16 h
  refine ay.exit ?_
  refine ay.seq ?_
  refine ay.region E.obj rfl ?_
  refine ae.val rfl (ah rfl) rfl ?_
  refine ae.val rfl (az rfl rfl bT) rfl ?_
  refine ae.val rfl (aj rfl) rfl ?_
  refine ae.nil ?_
  have hr:=Option.some.inj h
  subst hr
  exact ay.ret ⟨_,rfl,rfl,gp (aM.eq .nil)⟩
set_option maxRecDepth 20000 in
set_option maxHeartbeats 4000000 in
theorem pJ (n:Nat) (a1:Tree) (r:Bool) (h:j3 n a1=some r):dB R cfg.P 21 [(av a1)] (.d (.bool r)):=by
 unfold j3 at h
 refine dB.of_wp E.obj.toObjOk (C:=cfg) Tryd.func21 rfl Ap rfl ?_
 have H0:Has aO aO []:=Has.pure
 refine ay.seq ?_
 refine ay.region E.obj rfl ?_
 refine ae.box H0 rfl rfl rfl (Tree.bB _) rfl (fun b2 S3 H4=>?_)
 refine ae.val rfl (aj rfl) rfl ?_
 refine ae.nil ?_
 refine ay.seq ?_
 refine ay.region E.obj rfl ?_
 refine ae.val rfl (au H4 (i:=0) rfl rfl (bq gm di rfl)) rfl ?_
 refine ae.less (Less.agg' (d:=av a1) (ak.eq rfl (ak.eq rfl (ak.eq rfl (ak.eq rfl (ak.eq rfl .nil))))) ((Tree.eq _).trans rfl)) ?_
 obtain ⟨z5,hzz5,h⟩:=bind_some h
 refine ae.ret rfl (aC rfl rfl) (kr E _ _ _ hzz5 _ _ (aM.eq .nil)) rfl ?_
 refine ae.val rfl (ah rfl) rfl ?_
 obtain ⟨z7,hzz7,h⟩:=bind_some h
 refine ae.bz 4 9 (.d (.bool z7)) ?_ ?_
 ·
  rcases Bool.eq_false_or_eq_true (z5) with hB6 | hB6
  ·
   refine ae.bool hB6 ?_
   replace hzz7:=dn hB6 hzz7
   refine ae.val rfl (au H4 (i:=0) rfl rfl (bq gm di rfl)) rfl ?_
   refine ae.less (Less.agg' (d:=av a1) (ak.eq rfl (ak.eq rfl (ak.eq rfl (ak.eq rfl (ak.eq rfl .nil))))) ((Tree.eq _).trans rfl)) ?_
   obtain ⟨z8,hzz8,hzz7⟩:=bind_some hzz7
   refine ae.ret rfl (aC rfl rfl) (kg E _ _ _ hzz8 _ _ (aM.eq .nil)) rfl ?_
   refine ae.val rfl (az rfl rfl gV) rfl ?_
   refine ae.val rfl (aB (b:=true) rfl rfl) rfl ?_
   cases hzz7
   exact ae.nil ⟨_,rfl,(aa.put (aa.push rfl (aa.push rfl (aa.push rfl (aa.put (.refl _) (Less.eq (by rw [hB6])))))) (.refl _))⟩
  refine ae.bool hB6 ?_
  refine ae.no rfl rfl ?_
  refine ae.no rfl rfl ?_
  refine ae.no rfl rfl ?_
  refine ae.val rfl (aB (b:=false) rfl rfl) rfl ?_
  replace hzz7:=dm hB6 hzz7
  cases hzz7
  exact ae.nil ⟨_,rfl,(aa.put (aa.push rfl (aa.push rfl (aa.push rfl (aa.put (.refl _) (Less.eq (by rw [hB6])))))) (.refl _))⟩
 refine ae.val rfl (ah rfl) rfl ?_
 obtain ⟨z10,hzz10,h⟩:=bind_some h
 refine ae.bz 4 14 (.d (.bool z10)) ?_ ?_
 ·
  rcases Bool.eq_false_or_eq_true (z7) with hB9 | hB9
  ·
   refine ae.bool hB9 ?_
   replace hzz10:=dn hB9 hzz10
   refine ae.val rfl (au H4 (i:=0) rfl rfl (bq gm di rfl)) rfl ?_
   refine ae.less (Less.agg' (d:=av a1) (ak.eq rfl (ak.eq rfl (ak.eq rfl (ak.eq rfl (ak.eq rfl .nil))))) ((Tree.eq _).trans rfl)) ?_
   obtain ⟨z11,hzz11,hzz10⟩:=bind_some hzz10
   refine ae.ret rfl (aC rfl rfl) (kT E _ _ _ hzz11 _ _ (aM.eq .nil)) rfl ?_
   refine ae.val rfl (az rfl rfl gV) rfl ?_
   refine ae.val rfl (aB (b:=true) rfl rfl) rfl ?_
   cases hzz10
   exact ae.nil ⟨_,rfl,(aa.put (aa.push rfl (aa.push rfl (aa.push rfl (aa.put (.refl _) (Less.eq (by rw [hB9])))))) (.refl _))⟩
  refine ae.bool hB9 ?_
  refine ae.no rfl rfl ?_
  refine ae.no rfl rfl ?_
  refine ae.no rfl rfl ?_
  refine ae.val rfl (aB (b:=false) rfl rfl) rfl ?_
  replace hzz10:=dm hB9 hzz10
  cases hzz10
  exact ae.nil ⟨_,rfl,(aa.put (aa.push rfl (aa.push rfl (aa.push rfl (aa.put (.refl _) (Less.eq (by rw [hB9])))))) (.refl _))⟩
 refine ae.val rfl (aj rfl) rfl ?_
 refine ae.nil ?_
 have hr:=Option.some.inj h
 subst hr
 exact ay.ret ⟨_,rfl,rfl,gp (aM.eq .nil)⟩
theorem kW (n:Nat) (a1:Int) (a2:Str) (a3:Int) (r:Option Unit) (h:lG n a1 a2 a3=some r):dW R cfg.P 70 73 [.d (.int .i64 a1),.d (.str a2),.d (.int .i64 a3)] [] r (fun _ v l=>v=.tup []∧l=[]):=by
 unfold lG at h
 split at h
 ·
  rename_i he
  subst he
  cases h
  refine dW.of_wp (C:=cfg) Tryd.func73 rfl zZ rfl (fun B0 S0 H0=>?_)
  refine ay.region E.obj rfl ?_
  refine ae.val rfl (ah rfl) rfl ?_
  refine ae.val rfl (ah rfl) rfl ?_
  refine ae.val rfl (ah rfl) rfl ?_
  refine ae.val rfl (bG (cs:=[.d (.int .i64 6),.d (.str a2),.d (.int .i64 a3)]) vg rfl (j5) (dz rfl rfl rfl rfl (dz rfl rfl rfl rfl (dz rfl rfl rfl rfl rfl)))) rfl ?_
  refine ae.vK (d:=mH a2 a3) rfl rfl zn rfl ?_
  refine ae.panic (d:=mH a2 a3) rfl rfl ?_
  exact ⟨a2,a3,rfl,H0⟩
 ·
  cases h
set_option maxRecDepth 20000 in
set_option maxHeartbeats 4000000 in
theorem lZ (n:Nat) (a1:Bool) (a2:Int) (a3:Str) (a4:Int) (r:(Option Unit)) (h:mF n a1 a2 a3 a4=some r):dW R cfg.P 70 59 [.d (.bool a1),.d (.int .i64 a2),.d (.str a3),.d (.int .i64 a4)] [] r (fun r v l=>v=.tup []∧l=[]):=by
 unfold mF at h
 refine dW.of_wp (C:=cfg) Tryd.func59 rfl Ae rfl (fun B0 S0 H0=>?_)
 replace H0:Has B0 S0 []:=H0
 refine ay.seq ?_
 refine ay.region E.obj rfl ?_
 refine ae.val rfl (ah rfl) rfl ?_
 refine ae.val rfl (dU rfl) rfl ?_
 refine ae.nil ?_
 refine ay.cond rfl (fun hb5=>?_) (fun hb5=>?_)
 ·
  replace h:=dn hb5 h
  refine ay.region E.obj rfl ?_
  refine ae.val rfl (ah rfl) rfl ?_
  refine ae.val rfl (ah rfl) rfl ?_
  refine ae.val rfl (ah rfl) rfl ?_
  obtain ⟨z6,hzz6,h⟩:=bind_some h
  rcases z6 with _ | x7
  ·
   replace h:=jY h
   subst h
   refine ae.thrown (ins:=[]) (more:=[]) rfl (H0.sl [] rfl rfl) rfl (aC rfl rfl) (kW E n _ _ _ _ hzz6 ) (.cons (.refl _) (.cons (.refl _) (.cons (.refl _) .nil))) (fun _ _ S8 H9=>?_)
   exact ⟨_,_,rfl,H9.weaken (List.nil_sublist _)⟩
  replace h:=jW h
  refine ae.jX (ins:=[]) (more:=[]) (H0.sl [] rfl rfl) rfl (aC rfl rfl) (kW E n _ _ _ _ hzz6 ) (.cons (.refl _) (.cons (.refl _) (.cons (.refl _) .nil))) rfl ?_
  rintro _ S10 _ ⟨rfl,rfl⟩ H11
  replace H11:Has B0 S10 []:=H11
  refine ae.nil ?_
  have hr:=Option.some.inj h
  subst hr
  exact ⟨_,rfl,rfl,_,_,_,.refl _,(.refl _),⟨rfl,rfl⟩,H11.sl [] rfl rfl⟩
 replace h:=dm hb5 h
 refine ay.skip ?_
 have hr:=Option.some.inj h
 subst hr
 exact ⟨_,rfl,rfl,_,_,_,.refl _,(.refl _),⟨rfl,rfl⟩,H0.sl [] rfl rfl⟩
set_option maxRecDepth 20000 in
set_option maxHeartbeats 4000000 in
theorem bQ (n:Nat) (a1:Bool) (a2:Str) (a3:Int) (r:(Option Unit)) (h:fJ n a1 a2 a3=some r):dW R cfg.P 70 32 [.d (.bool a1),.d (.str a2),.d (.int .i64 a3)] [] r (fun r v l=>v=.tup []∧l=[]):=by
 unfold fJ at h
 refine dW.of_wp (C:=cfg) Tryd.func32 rfl Ak rfl (fun B0 S0 H0=>?_)
 replace H0:Has B0 S0 []:=H0
 refine ay.region E.obj rfl ?_
 refine ae.val rfl (ah rfl) rfl ?_
 refine ae.val rfl (ah rfl) rfl ?_
 refine ae.val rfl (ah rfl) rfl ?_
 obtain ⟨z4,hzz4,h⟩:=bind_some h
 rcases z4 with _ | x5
 ·
  replace h:=jY h
  subst h
  refine ae.thrown (ins:=[]) (more:=[]) rfl (H0.sl [] rfl rfl) rfl (aC rfl rfl) (lZ E n _ _ _ _ _ hzz4 ) (.cons (.refl _) (.cons (.refl _) (.cons (.refl _) (.cons (.refl _) .nil)))) (fun _ _ S6 H7=>?_)
  exact ⟨_,_,rfl,H7.weaken (List.nil_sublist _)⟩
 replace h:=jW h
 refine ae.jX (ins:=[]) (more:=[]) (H0.sl [] rfl rfl) rfl (aC rfl rfl) (lZ E n _ _ _ _ _ hzz4 ) (.cons (.refl _) (.cons (.refl _) (.cons (.refl _) (.cons (.refl _) .nil)))) rfl ?_
 rintro _ S8 _ ⟨rfl,rfl⟩ H9
 replace H9:Has B0 S8 []:=H9
 refine ae.nil ?_
 have hr:=Option.some.inj h
 subst hr
 exact ⟨_,rfl,rfl,_,_,_,.refl _,(.refl _),⟨rfl,rfl⟩,H9.sl [] rfl rfl⟩
set_option maxRecDepth 20000 in
set_option maxHeartbeats 4000000 in
theorem dx (prow:aF→aY→Option (Option ((List Tree) × aF))) (hprow:∀ (x0:aF) (x1:aY) (r:Option ((List Tree) × aF)),prow x0 x1=some r→∀ (b:Nat),dW R cfg.P 70 31 [.ptr b 0 0,.d (aH x1)] [.box b [.d (.sl ((x0.state).map (D.int .i64)) false),.d (.sl ((x0.params).map aD) false),.d (.int .i64 x0.steps)]] r (fun r v l=>v=.d (.sl ((r.1).map av) false)∧l=[.box b [.d (.sl ((r.2.state).map (D.int .i64)) false),.d (.sl ((r.2.params).map aD) false),.d (.int .i64 r.2.steps)]])) (n:Nat) (a2:aF) (a3:(List aY)) (r:(Option ((List Tree) × aF))) (h:fq prow n a2 a3=some r) (b1:Nat):dW R cfg.P 70 54 [.ptr b1 0 0,.d (.sl ((a3).map aH) false)] [.box b1 [(.d (.sl ((a2.state).map (D.int .i64)) false)),(.d (.sl ((a2.params).map aD) false)),(.d (.int .i64 a2.steps))]] r (fun r v l=>v=.d (.sl ((r.1).map av) false)∧l=[.box b1 [.d (.sl ((r.2.state).map (D.int .i64)) false),.d (.sl ((r.2.params).map aD) false),.d (.int .i64 r.2.steps)]]):=by
 unfold fq at h
 refine dW.of_wp (C:=cfg) Tryd.func54 rfl zU rfl (fun B0 S0 H0=>?_)
 replace H0:Has B0 S0 [.box b1 [(.d (.sl ((a2.state).map (D.int .i64)) false)),(.d (.sl ((a2.params).map aD) false)),(.d (.int .i64 a2.steps))]]:=H0
 refine ay.seq ?_
 refine ay.region E.obj rfl ?_
 refine ae.val rfl (aj rfl) rfl ?_
 refine ae.nil ?_
 refine ay.seq ?_
 refine ay.region E.obj rfl ?_
 refine ae.val rfl (aj rfl) rfl ?_
 refine ae.nil ?_
 refine ay.seq ?_
 refine ay.seq ?_
 refine ay.region E.obj rfl ?_
 refine ae.val rfl (ah rfl) rfl ?_
 refine ae.val rfl (aZ rfl xm) rfl ?_
 refine ae.val rfl (ah rfl) rfl ?_
 refine ae.nil ?_
 refine ay.block ?_
 have H40:=H0.xy
 refine kS.start (B:=B0) (α:=(List Int) × (List fM) × Int × (List Tree) × AV × Int) (fun k a=>cK prow a3 k a.1 a.2.1 a.2.2.1 a.2.2.2.1 a.2.2.2.2.2=some r) (fun a=>[(0,(.ptr b1 0 0)),(5,a.2.2.2.2.1),(8,(.d (.sl ((a3).map aH) false))),(9,(.d (.int .i64 ((a3).length:Int)))),(10,(.d (.int .i64 a.2.2.2.2.2)))]) (fun a=>[.box b1 [(.d (.sl ((a.1).map (D.int .i64)) false)),(.d (.sl ((a.2.1).map aD) false)),(.d (.int .i64 a.2.2.1))],.grow a.2.2.2.2.1 ((a.2.2.2.1).map av)]) ?_ ?_ n ⟨⟨a2.state,a2.params,a2.steps,[],(.d .aT),0⟩,_,_,S0,.refl _ _,.refl _,(aa.r rfl (aa.r rfl (aa.r rfl (aa.r rfl (aa.r rfl aa.nil))))),H40.sl [1,0] rfl rfl,h⟩
 ·
  intro a h; simp [cK] at h
 intro k22 a S14 H15 h
 obtain ⟨x16,x17,x18,x19,v20,x21⟩:=a
 replace h:cK prow a3 (k22 + 1) x16 x17 x18 x19 x21=some r:=h
 replace H15:Has B0 S14 [.box b1 [(.d (.sl ((x16).map (D.int .i64)) false)),(.d (.sl ((x17).map aD) false)),(.d (.int .i64 x18))],.grow v20 ((x19).map av)]:=H15
 unfold cK at h
 refine ay.seq ?_
 refine ay.region E.obj rfl ?_
 refine ae.val rfl (az rfl rfl dh) rfl ?_
 refine ae.nil ?_
 refine ay.seq ?_
 refine ay.cond rfl (fun hb23=>?_) (fun hb23=>?_)
 ·
  replace h:=dn hb23 h
  refine ay.skip ?_
  refine ay.seq ?_
  refine ay.block ?_
  refine ay.seq ?_
  refine ay.region E.obj rfl ?_
  obtain ⟨z24,hzz24,h⟩:=bind_some h
  refine ae.val rfl (bU rfl rfl (dC (enc:=aH) hzz24 vG ui ((aY.len _).trans iq.symm))) rfl ?_
  refine ae.val rfl (bC rfl (aY.fV j4 iq)) rfl ?_
  refine ae.alloc H15 rfl xE pz rfl rfl (fun b25 S26 H27=>?_)
  refine ae.store H27 (i:=0) rfl rfl rfl rfl (aY.bB _) rfl iq rfl ui rfl rfl rfl (fun S28 H29=>?_)
  refine ae.nil ?_
  refine ay.region E.obj rfl ?_
  refine ae.val rfl (ah rfl) rfl ?_
  refine ae.val rfl (ah rfl) rfl ?_
  refine ae.val rfl (au H29 (i:=0) rfl rfl (bq j4 iq rfl)) rfl ?_
  refine ae.less (Less.agg' (d:=aH z24) (ak.eq rfl (ak.eq rfl (ak.eq rfl (ak.eq rfl (ak.eq rfl (ak.eq rfl .nil)))))) ((aY.eq _).trans rfl)) ?_
  obtain ⟨z30,hzz30,h⟩:=bind_some h
  rcases z30 with _ | x31
  ·
   replace h:=jY h
   subst h
   refine ae.thrown (ins:=[.box b1 [(.d (.sl ((x16).map (D.int .i64)) false)),(.d (.sl ((x17).map aD) false)),(.d (.int .i64 x18))]]) (more:=[.box b25 [(.d (.int .i64 z24.Kind)),(.d (.int .i64 z24.N)),(.d (.str z24.Tag)),(.d (.str z24.Text)),(.d (.sl ((z24.aL).map ax) false)),(.d (.sl ((z24.Kids).map aH) false))],.grow v20 ((x19).map av)]) rfl (H29.sl [1,0,2] rfl rfl) rfl (aC rfl rfl) (hprow _ _ _ hzz30 b1) (.cons (.refl _) (.cons (.refl _) .nil)) (fun _ _ S32 H33=>?_)
   exact ⟨_,_,rfl,H33.weaken (List.nil_sublist _)⟩
  replace h:=jW h
  refine ae.jX (ins:=[.box b1 [(.d (.sl ((x16).map (D.int .i64)) false)),(.d (.sl ((x17).map aD) false)),(.d (.int .i64 x18))]]) (more:=[.box b25 [(.d (.int .i64 z24.Kind)),(.d (.int .i64 z24.N)),(.d (.str z24.Tag)),(.d (.str z24.Text)),(.d (.sl ((z24.aL).map ax) false)),(.d (.sl ((z24.Kids).map aH) false))],.grow v20 ((x19).map av)]) (H29.sl [1,0,2] rfl rfl) rfl (aC rfl rfl) (hprow _ _ _ hzz30 b1) (.cons (.refl _) (.cons (.refl _) .nil)) rfl ?_
  rintro _ S34 _ ⟨rfl,rfl⟩ H35
  replace H35:Has B0 S34 [.box b1 [(.d (.sl ((x31.2.state).map (D.int .i64)) false)),(.d (.sl ((x31.2.params).map aD) false)),(.d (.int .i64 x31.2.steps))],.box b25 [(.d (.int .i64 z24.Kind)),(.d (.int .i64 z24.N)),(.d (.str z24.Tag)),(.d (.str z24.Text)),(.d (.sl ((z24.aL).map ax) false)),(.d (.sl ((z24.Kids).map aH) false))],.grow v20 ((x19).map av)]:=H35
  obtain ⟨z36,hzz36,h⟩:=bind_some h
  refine ae.append (xs:=(x19).map av) (ys:=(x31.1).map av) (zs:=(z36).map av) H35 rfl rfl rfl (i:=2) rfl rfl qa yJ jH (kP hzz36) yZ rfl (eT (enc:=av) (fun z=>(Tree.len z).trans di.symm) _) (eT (enc:=av) (fun z=>(Tree.len z).trans di.symm) _) yL rfl (rF hzz36) (fun v37 S38 H39=>?_)
  refine ae.val rfl (aj rfl) rfl ?_
  refine ae.nil ?_
  refine ay.region E.obj rfl ?_
  refine ae.val rfl (az rfl rfl bT) rfl ?_
  refine ae.val rfl (ah rfl) rfl ?_
  refine ae.nil ?_
  exact ⟨⟨x31.2.state,x31.2.params,x31.2.steps,z36,v37,(IntKind.wrap .i64 (x21 + 1))⟩,_,_,S38,.refl _ _,.refl _,(aa.r rfl (aa.r rfl (aa.r rfl (aa.r rfl (aa.r rfl aa.nil))))),H39.sl [0,2] rfl rfl,h⟩
 replace h:=dm hb23 h
 refine ay.exit ?_
 refine ay.seq ?_
 refine ay.region E.obj rfl ?_
 refine ae.val rfl (ah rfl) rfl ?_
 refine ae.val rfl (aj rfl) rfl ?_
 refine ae.nil ?_
 have hr:=Option.some.inj h
 subst hr
 exact ay.ret ⟨_,rfl,rfl,_,_,_,.refl _,(xU H15 (i:=1) rfl),⟨rfl,rfl⟩,H15.sl [0] rfl rfl⟩
set_option maxRecDepth 20000 in
set_option maxHeartbeats 4000000 in
theorem bW (n:Nat) (a2:aF) (a3:Int) (r:(Option Int)) (h:dX n a2 a3=some r) (b1:Nat):dW R cfg.P 70 56 [.ptr b1 0 0,.d (.int .i64 a3)] [.box b1 [(.d (.sl ((a2.state).map (D.int .i64)) false)),(.d (.sl ((a2.params).map aD) false)),(.d (.int .i64 a2.steps))]] r (fun r v l=>v=.d (.int .i64 r)∧l=[.box b1 [.d (.sl ((a2.state).map (D.int .i64)) false),.d (.sl ((a2.params).map aD) false),.d (.int .i64 a2.steps)]]):=by
 unfold dX at h
 refine dW.of_wp (C:=cfg) Tryd.func56 rfl zY rfl (fun B0 S0 H0=>?_)
 replace H0:Has B0 S0 [.box b1 [(.d (.sl ((a2.state).map (D.int .i64)) false)),(.d (.sl ((a2.params).map aD) false)),(.d (.int .i64 a2.steps))]]:=H0
 refine ay.seq ?_
 refine ay.region E.obj rfl ?_
 refine ae.val rfl (aj rfl) rfl ?_
 refine ae.nil ?_
 refine ay.seq ?_
 refine ay.region E.obj rfl ?_
 refine ae.val rfl (ah rfl) rfl ?_
 refine ae.val rfl (az rfl rfl oG) rfl ?_
 refine ae.val rfl (ah rfl) rfl ?_
 refine ae.bz 8 15 (.d (.bool ((decide (0 ≤ a3)) && (decide (a3 < ((a2.state).length:Int)))))) ?_ ?_
 ·
  rcases Bool.eq_false_or_eq_true ((decide (0 ≤ a3))) with hB4 | hB4
  ·
   refine ae.bool hB4 ?_
   refine ae.val rfl (ah rfl) rfl ?_
   refine ae.val rfl (ah rfl) rfl ?_
   refine ae.val rfl (bZ rfl) rfl ?_
   refine ae.val rfl (ai rfl wE yM rfl) rfl ?_
   refine ae.val rfl (au H0 (i:=0) rfl rfl (aA yK rfl)) rfl ?_
   refine ae.val rfl (aZ rfl zo) rfl ?_
   refine ae.val rfl (az rfl rfl dh) rfl ?_
   refine ae.val rfl (aB (b:=true) rfl rfl) rfl ?_
   exact ae.nil ⟨_,rfl,(aa.put (aa.push rfl (aa.push rfl (aa.push rfl (aa.push rfl (aa.push rfl (aa.push rfl (aa.push rfl (aa.put (.refl _) (Less.eq (by rw [hB4])))))))))) (Less.eq (by rw [hB4]; rw [Bool.true_and])))⟩
  refine ae.bool hB4 ?_
  refine ae.no rfl rfl ?_
  refine ae.no rfl rfl ?_
  refine ae.no rfl rfl ?_
  refine ae.no rfl rfl ?_
  refine ae.no rfl rfl ?_
  refine ae.no rfl rfl ?_
  refine ae.no rfl rfl ?_
  refine ae.val rfl (aB (b:=false) rfl rfl) rfl ?_
  exact ae.nil ⟨_,rfl,(aa.put (aa.push rfl (aa.push rfl (aa.push rfl (aa.push rfl (aa.push rfl (aa.push rfl (aa.push rfl (aa.put (.refl _) (Less.eq (by rw [hB4])))))))))) (Less.eq (by rw [hB4]; rw [Bool.false_and])))⟩
 refine ae.val rfl (ah rfl) rfl ?_
 obtain ⟨z5,hzz5,h⟩:=bind_some h
 rcases z5 with _ | x6
 ·
  replace h:=jY h
  subst h
  refine ae.thrown (ins:=[]) (more:=[.box b1 [(.d (.sl ((a2.state).map (D.int .i64)) false)),(.d (.sl ((a2.params).map aD) false)),(.d (.int .i64 a2.steps))]]) rfl (H0.sl [0] rfl rfl) rfl (aC rfl rfl) (bQ E n _ _ _ _ hzz5 ) (.cons (.refl _) (.cons (.refl _) (.cons (.refl _) .nil))) (fun _ _ S7 H8=>?_)
  exact ⟨_,_,rfl,H8.weaken (List.nil_sublist _)⟩
 replace h:=jW h
 refine ae.jX (ins:=[]) (more:=[.box b1 [(.d (.sl ((a2.state).map (D.int .i64)) false)),(.d (.sl ((a2.params).map aD) false)),(.d (.int .i64 a2.steps))]]) (H0.sl [0] rfl rfl) rfl (aC rfl rfl) (bQ E n _ _ _ _ hzz5 ) (.cons (.refl _) (.cons (.refl _) (.cons (.refl _) .nil))) rfl ?_
 rintro _ S9 _ ⟨rfl,rfl⟩ H10
 replace H10:Has B0 S9 [.box b1 [(.d (.sl ((a2.state).map (D.int .i64)) false)),(.d (.sl ((a2.params).map aD) false)),(.d (.int .i64 a2.steps))]]:=H10
 refine ae.nil ?_
 refine ay.seq ?_
 refine ay.region E.obj rfl ?_
 refine ae.val rfl (ah rfl) rfl ?_
 refine ae.val rfl (bZ rfl) rfl ?_
 refine ae.val rfl (ai rfl wE yM rfl) rfl ?_
 refine ae.val rfl (au H10 (i:=0) rfl rfl (aA yK rfl)) rfl ?_
 refine ae.val rfl (ah rfl) rfl ?_
 obtain ⟨z11,hzz11,h⟩:=bind_some h
 refine ae.val rfl (bU rfl rfl (dC (enc:=(D.int .i64)) hzz11 yc Aw (((fun _=>rfl) _).trans za.symm))) rfl ?_
 refine ae.val rfl (bC rfl (qF mE rfl)) rfl ?_
 refine ae.val rfl (aj rfl) rfl ?_
 refine ae.nil ?_
 have hr:=Option.some.inj h
 subst hr
 exact ay.ret ⟨_,rfl,rfl,_,_,_,.refl _,(.refl _),⟨rfl,rfl⟩,H10.sl [0] rfl rfl⟩
set_option maxRecDepth 20000 in
set_option maxHeartbeats 4000000 in
theorem iQ (n:Nat) (a2:aF) (a3:Str) (r:(Option Str)) (h:iE n a2 a3=some r) (b1:Nat):dW R cfg.P 70 57 [.ptr b1 0 0,.d (.str a3)] [.box b1 [(.d (.sl ((a2.state).map (D.int .i64)) false)),(.d (.sl ((a2.params).map aD) false)),(.d (.int .i64 a2.steps))]] r (fun r v l=>v=.d (.str r)∧l=[.box b1 [.d (.sl ((a2.state).map (D.int .i64)) false),.d (.sl ((a2.params).map aD) false),.d (.int .i64 a2.steps)]]):=by
 unfold iE at h
 refine dW.of_wp (C:=cfg) Tryd.func57 rfl zX rfl (fun B0 S0 H0=>?_)
 replace H0:Has B0 S0 [.box b1 [(.d (.sl ((a2.state).map (D.int .i64)) false)),(.d (.sl ((a2.params).map aD) false)),(.d (.int .i64 a2.steps))]]:=H0
 refine ay.seq ?_
 refine ay.region E.obj rfl ?_
 refine ae.val rfl (aj rfl) rfl ?_
 refine ae.nil ?_
 refine ay.seq ?_
 refine ay.seq ?_
 refine ay.region E.obj rfl ?_
 refine ae.val rfl (ah rfl) rfl ?_
 refine ae.val rfl (bZ rfl) rfl ?_
 refine ae.val rfl (ai rfl yl zC rfl) rfl ?_
 refine ae.val rfl (au H0 (i:=0) rfl rfl (aA zA rfl)) rfl ?_
 refine ae.val rfl (aZ rfl Ag) rfl ?_
 refine ae.val rfl (ah rfl) rfl ?_
 refine ae.nil ?_
 refine ay.block ?_
 refine kS.start (B:=B0) (α:=Int) (fun k a=>bV n a2 a3 k a=some r) (fun a=>[(1,(.d (.str a3))),(10,(.d (.sl ((a2.params).map aD) false))),(11,(.d (.int .i64 ((a2.params).length:Int)))),(12,(.d (.int .i64 a)))]) (fun a=>[.box b1 [(.d (.sl ((a2.state).map (D.int .i64)) false)),(.d (.sl ((a2.params).map aD) false)),(.d (.int .i64 a2.steps))]]) ?_ ?_ n ⟨0,_,_,S0,.refl _ _,.refl _,(aa.r rfl (aa.r rfl (aa.r rfl (aa.r rfl aa.nil)))),H0.sl [0] rfl rfl,h⟩
 ·
  intro a h; simp [bV] at h
 intro k12 x11 S9 H10 h
 replace h:bV n a2 a3 (k12 + 1) x11=some r:=h
 replace H10:Has B0 S9 [.box b1 [(.d (.sl ((a2.state).map (D.int .i64)) false)),(.d (.sl ((a2.params).map aD) false)),(.d (.int .i64 a2.steps))]]:=H10
 unfold bV at h
 refine ay.seq ?_
 refine ay.region E.obj rfl ?_
 refine ae.val rfl (az rfl rfl dh) rfl ?_
 refine ae.nil ?_
 refine ay.seq ?_
 refine ay.cond rfl (fun hb13=>?_) (fun hb13=>?_)
 ·
  replace h:=dn hb13 h
  refine ay.skip ?_
  refine ay.seq ?_
  refine ay.block ?_
  refine ay.seq ?_
  refine ay.region E.obj rfl ?_
  obtain ⟨z14,hzz14,h⟩:=bind_some h
  refine ae.val rfl (bU rfl rfl (dC (enc:=aD) hzz14 Ah xP ((fM.len _).trans wG.symm))) rfl ?_
  refine ae.val rfl (bC rfl (fM.fV yT wG)) rfl ?_
  refine ae.alloc H10 rfl yN yS rfl rfl (fun b15 S16 H17=>?_)
  refine ae.store H17 (i:=0) rfl rfl rfl rfl (fM.bB _) rfl wG rfl xP rfl rfl rfl (fun S18 H19=>?_)
  refine ae.nil ?_
  refine ay.seq ?_
  refine ay.region E.obj rfl ?_
  refine ae.val rfl (ai rfl xA lK rfl) rfl ?_
  refine ae.val rfl (au H19 (i:=0) rfl rfl (aA lU rfl)) rfl ?_
  refine ae.val rfl (ah rfl) rfl ?_
  refine ae.val rfl (az rfl rfl iw) rfl ?_
  refine ae.nil ?_
  refine ay.cond rfl (fun hb20=>?_) (fun hb20=>?_)
  ·
   replace h:=dn hb20 h
   refine ay.seq ?_
   refine ay.region E.obj rfl ?_
   refine ae.val rfl (ai rfl xq lK rfl) rfl ?_
   refine ae.val rfl (au H19 (i:=0) rfl rfl (aA lU rfl)) rfl ?_
   refine ae.val rfl (aj rfl) rfl ?_
   refine ae.nil ?_
   have hr:=Option.some.inj h
   subst hr
   exact ay.ret ⟨_,rfl,rfl,_,_,_,.refl _,(.refl _),⟨rfl,rfl⟩,H19.sl [1] rfl rfl⟩
  replace h:=dm hb20 h
  refine ay.skip ?_
  refine ay.region E.obj rfl ?_
  refine ae.val rfl (az rfl rfl bT) rfl ?_
  refine ae.val rfl (ah rfl) rfl ?_
  refine ae.nil ?_
  exact ⟨(IntKind.wrap .i64 (x11 + 1)),_,_,S18,.refl _ _,.refl _,(aa.r rfl (aa.r rfl (aa.r rfl (aa.r rfl aa.nil)))),H19.sl [1] rfl rfl,h⟩
 replace h:=dm hb13 h
 refine ay.exit ?_
 refine ay.seq ?_
 refine ay.region E.obj rfl ?_
 refine ae.val rfl (ah rfl) rfl ?_
 obtain ⟨z21,hzz21,h⟩:=bind_some h
 rcases z21 with _ | x22
 ·
  replace h:=jY h
  subst h
  refine ae.thrown (ins:=[]) (more:=[.box b1 [(.d (.sl ((a2.state).map (D.int .i64)) false)),(.d (.sl ((a2.params).map aD) false)),(.d (.int .i64 a2.steps))]]) rfl (H10.sl [0] rfl rfl) rfl (aC rfl rfl) (bQ E n _ _ _ _ hzz21 ) (.cons (.refl _) (.cons (.refl _) (.cons (.refl _) .nil))) (fun _ _ S23 H24=>?_)
  exact ⟨_,_,rfl,H24.weaken (List.nil_sublist _)⟩
 replace h:=jW h
 refine ae.jX (ins:=[]) (more:=[.box b1 [(.d (.sl ((a2.state).map (D.int .i64)) false)),(.d (.sl ((a2.params).map aD) false)),(.d (.int .i64 a2.steps))]]) (H10.sl [0] rfl rfl) rfl (aC rfl rfl) (bQ E n _ _ _ _ hzz21 ) (.cons (.refl _) (.cons (.refl _) (.cons (.refl _) .nil))) rfl ?_
 rintro _ S25 _ ⟨rfl,rfl⟩ H26
 replace H26:Has B0 S25 [.box b1 [(.d (.sl ((a2.state).map (D.int .i64)) false)),(.d (.sl ((a2.params).map aD) false)),(.d (.int .i64 a2.steps))]]:=H26
 refine ae.nil ?_
 refine ay.seq ?_
 refine ay.region E.obj rfl ?_
 refine ae.val rfl (aj rfl) rfl ?_
 refine ae.nil ?_
 have hr:=Option.some.inj h
 subst hr
 exact ay.ret ⟨_,rfl,rfl,_,_,_,.refl _,(.refl _),⟨rfl,rfl⟩,H26.sl [0] rfl rfl⟩
set_option maxRecDepth 20000 in
set_option maxHeartbeats 4000000 in
theorem jB (prow:aF→aY→Option (Option ((List Tree) × aF))) (hprow:∀ (x0:aF) (x1:aY) (r:Option ((List Tree) × aF)),prow x0 x1=some r→∀ (b:Nat),dW R cfg.P 70 31 [.ptr b 0 0,.d (aH x1)] [.box b [.d (.sl ((x0.state).map (D.int .i64)) false),.d (.sl ((x0.params).map aD) false),.d (.int .i64 x0.steps)]] r (fun r v l=>v=.d (.sl ((r.1).map av) false)∧l=[.box b [.d (.sl ((r.2.state).map (D.int .i64)) false),.d (.sl ((r.2.params).map aD) false),.d (.int .i64 r.2.steps)]])) (n:Nat) (a2:aF) (a3:aY) (r:(Option ((List Tree) × aF))) (h:jg prow n a2 a3=some r) (b1:Nat):dW R cfg.P 70 58 [.ptr b1 0 0,.d (aH a3)] [.box b1 [(.d (.sl ((a2.state).map (D.int .i64)) false)),(.d (.sl ((a2.params).map aD) false)),(.d (.int .i64 a2.steps))]] r (fun r v l=>v=.d (.sl ((r.1).map av) false)∧l=[.box b1 [.d (.sl ((r.2.state).map (D.int .i64)) false),.d (.sl ((r.2.params).map aD) false),.d (.int .i64 r.2.steps)]]):=by
 unfold jg at h
 refine dW.of_wp (C:=cfg) Tryd.func58 rfl Ad rfl (fun B0 S0 H0=>?_)
 replace H0:Has B0 S0 [.box b1 [(.d (.sl ((a2.state).map (D.int .i64)) false)),(.d (.sl ((a2.params).map aD) false)),(.d (.int .i64 a2.steps))]]:=H0
 refine ay.seq ?_
 refine ay.region E.obj rfl ?_
 refine ae.box H0 rfl rfl rfl (aY.bB _) rfl (fun b4 S5 H6=>?_)
 refine ae.val rfl (aj rfl) rfl ?_
 refine ae.nil ?_
 refine ay.seq ?_
 refine ay.region E.obj rfl ?_
 refine ae.val rfl (ah rfl) rfl ?_
 refine ae.val rfl (ai rfl oM nK rfl) rfl ?_
 refine ae.val rfl (au H6 (i:=0) rfl rfl (aA mE rfl)) rfl ?_
 obtain ⟨z7,hzz7,h⟩:=bind_some h
 rcases z7 with _ | x8
 ·
  replace h:=jY h
  subst h
  refine ae.thrown (ins:=[.box b1 [(.d (.sl ((a2.state).map (D.int .i64)) false)),(.d (.sl ((a2.params).map aD) false)),(.d (.int .i64 a2.steps))]]) (more:=[.box b4 [(.d (.int .i64 a3.Kind)),(.d (.int .i64 a3.N)),(.d (.str a3.Tag)),(.d (.str a3.Text)),(.d (.sl ((a3.aL).map ax) false)),(.d (.sl ((a3.Kids).map aH) false))]]) rfl (H6.sl [1,0] rfl rfl) rfl (aC rfl rfl) (bW E n _ _ _ hzz7 b1) (.cons (.refl _) (.cons (.refl _) .nil)) (fun _ _ S9 H10=>?_)
  exact ⟨_,_,rfl,H10.weaken (List.nil_sublist _)⟩
 replace h:=jW h
 refine ae.jX (ins:=[.box b1 [(.d (.sl ((a2.state).map (D.int .i64)) false)),(.d (.sl ((a2.params).map aD) false)),(.d (.int .i64 a2.steps))]]) (more:=[.box b4 [(.d (.int .i64 a3.Kind)),(.d (.int .i64 a3.N)),(.d (.str a3.Tag)),(.d (.str a3.Text)),(.d (.sl ((a3.aL).map ax) false)),(.d (.sl ((a3.Kids).map aH) false))]]) (H6.sl [1,0] rfl rfl) rfl (aC rfl rfl) (bW E n _ _ _ hzz7 b1) (.cons (.refl _) (.cons (.refl _) .nil)) rfl ?_
 rintro _ S11 _ ⟨rfl,rfl⟩ H12
 replace H12:Has B0 S11 [.box b1 [(.d (.sl ((a2.state).map (D.int .i64)) false)),(.d (.sl ((a2.params).map aD) false)),(.d (.int .i64 a2.steps))],.box b4 [(.d (.int .i64 a3.Kind)),(.d (.int .i64 a3.N)),(.d (.str a3.Tag)),(.d (.str a3.Text)),(.d (.sl ((a3.aL).map ax) false)),(.d (.sl ((a3.Kids).map aH) false))]]:=H12
 refine ae.val rfl (aj rfl) rfl ?_
 refine ae.nil ?_
 refine ay.seq ?_
 refine ay.region E.obj rfl ?_
 refine ae.val rfl (ah rfl) rfl ?_
 refine ae.val rfl (az rfl rfl gV) rfl ?_
 refine ae.val rfl (ah rfl) rfl ?_
 obtain ⟨z13,hzz13,h⟩:=bind_some h
 rcases z13 with _ | x14
 ·
  replace h:=jY h
  subst h
  refine ae.thrown (ins:=[]) (more:=[.box b1 [(.d (.sl ((a2.state).map (D.int .i64)) false)),(.d (.sl ((a2.params).map aD) false)),(.d (.int .i64 a2.steps))],.box b4 [(.d (.int .i64 a3.Kind)),(.d (.int .i64 a3.N)),(.d (.str a3.Tag)),(.d (.str a3.Text)),(.d (.sl ((a3.aL).map ax) false)),(.d (.sl ((a3.Kids).map aH) false))]]) rfl (H12.sl [0,1] rfl rfl) rfl (aC rfl rfl) (bQ E n _ _ _ _ hzz13 ) (.cons (.refl _) (.cons (.refl _) (.cons (.refl _) .nil))) (fun _ _ S15 H16=>?_)
  exact ⟨_,_,rfl,H16.weaken (List.nil_sublist _)⟩
 replace h:=jW h
 refine ae.jX (ins:=[]) (more:=[.box b1 [(.d (.sl ((a2.state).map (D.int .i64)) false)),(.d (.sl ((a2.params).map aD) false)),(.d (.int .i64 a2.steps))],.box b4 [(.d (.int .i64 a3.Kind)),(.d (.int .i64 a3.N)),(.d (.str a3.Tag)),(.d (.str a3.Text)),(.d (.sl ((a3.aL).map ax) false)),(.d (.sl ((a3.Kids).map aH) false))]]) (H12.sl [0,1] rfl rfl) rfl (aC rfl rfl) (bQ E n _ _ _ _ hzz13 ) (.cons (.refl _) (.cons (.refl _) (.cons (.refl _) .nil))) rfl ?_
 rintro _ S17 _ ⟨rfl,rfl⟩ H18
 replace H18:Has B0 S17 [.box b1 [(.d (.sl ((a2.state).map (D.int .i64)) false)),(.d (.sl ((a2.params).map aD) false)),(.d (.int .i64 a2.steps))],.box b4 [(.d (.int .i64 a3.Kind)),(.d (.int .i64 a3.N)),(.d (.str a3.Tag)),(.d (.str a3.Text)),(.d (.sl ((a3.aL).map ax) false)),(.d (.sl ((a3.Kids).map aH) false))]]:=H18
 refine ae.nil ?_
 refine ay.seq ?_
 refine ay.region E.obj rfl ?_
 refine ae.val rfl (aj rfl) rfl ?_
 refine ae.nil ?_
 refine ay.seq ?_
 refine ay.seq ?_
 refine ay.region E.obj rfl ?_
 refine ae.val rfl (ah rfl) rfl ?_
 refine ae.val rfl (pF rfl rfl) rfl ?_
 refine ae.val rfl (ah rfl) rfl ?_
 refine ae.nil ?_
 refine ay.block ?_
 have H77:=H18.xy
 refine kS.start (B:=B0) (α:=(List Int) × (List fM) × Int × (List Tree) × AV × Int) (fun k a=>bf n prow a3 x8 k a.1 a.2.1 a.2.2.1 a.2.2.2.1 a.2.2.2.2.2=some r) (fun a=>[(0,(.ptr b1 0 0)),(3,(.ptr b4 0 0)),(6,a.2.2.2.2.1),(19,(.d (.int .i64 (q9 x8 0)))),(20,(.d (.int .i64 a.2.2.2.2.2)))]) (fun a=>[.box b1 [(.d (.sl ((a.1).map (D.int .i64)) false)),(.d (.sl ((a.2.1).map aD) false)),(.d (.int .i64 a.2.2.1))],.box b4 [(.d (.int .i64 a3.Kind)),(.d (.int .i64 a3.N)),(.d (.str a3.Tag)),(.d (.str a3.Text)),(.d (.sl ((a3.aL).map ax) false)),(.d (.sl ((a3.Kids).map aH) false))],.grow a.2.2.2.2.1 ((a.2.2.2.1).map av)]) ?_ ?_ n ⟨⟨a2.state,a2.params,a2.steps,[],(.d .aT),0⟩,_,_,S17,.refl _ _,.refl _,(aa.r rfl (aa.r rfl (aa.r rfl (aa.r rfl (aa.r rfl aa.nil))))),H77.sl [1,2,0] rfl rfl,h⟩
 ·
  intro a h; simp [bf] at h
 intro k37 a S29 H30 h
 obtain ⟨x31,x32,x33,x34,v35,x36⟩:=a
 replace h:bf n prow a3 x8 (k37 + 1) x31 x32 x33 x34 x36=some r:=h
 replace H30:Has B0 S29 [.box b1 [(.d (.sl ((x31).map (D.int .i64)) false)),(.d (.sl ((x32).map aD) false)),(.d (.int .i64 x33))],.box b4 [(.d (.int .i64 a3.Kind)),(.d (.int .i64 a3.N)),(.d (.str a3.Tag)),(.d (.str a3.Text)),(.d (.sl ((a3.aL).map ax) false)),(.d (.sl ((a3.Kids).map aH) false))],.grow v35 ((x34).map av)]:=H30
 unfold bf at h
 refine ay.seq ?_
 refine ay.region E.obj rfl ?_
 refine ae.val rfl (az rfl rfl dh) rfl ?_
 refine ae.nil ?_
 refine ay.seq ?_
 refine ay.cond rfl (fun hb38=>?_) (fun hb38=>?_)
 ·
  replace h:=dn hb38 h
  refine ay.skip ?_
  refine ay.seq ?_
  refine ay.block ?_
  refine ay.seq ?_
  refine ay.region E.obj rfl ?_
  refine ae.val rfl (ah rfl) rfl ?_
  refine ae.val rfl (aj rfl) rfl ?_
  refine ae.nil ?_
  refine ay.seq ?_
  refine ay.region E.obj rfl ?_
  refine ae.val rfl (ah rfl) rfl ?_
  refine ae.val rfl (ai rfl jN rA rfl) rfl ?_
  refine ae.val rfl (au H30 (i:=1) rfl rfl (aA qV rfl)) rfl ?_
  obtain ⟨z39,hzz39,h⟩:=bind_some h
  rcases z39 with _ | x40
  ·
   replace h:=jY h
   subst h
   refine ae.thrown (ins:=[.box b1 [(.d (.sl ((x31).map (D.int .i64)) false)),(.d (.sl ((x32).map aD) false)),(.d (.int .i64 x33))]]) (more:=[.box b4 [(.d (.int .i64 a3.Kind)),(.d (.int .i64 a3.N)),(.d (.str a3.Tag)),(.d (.str a3.Text)),(.d (.sl ((a3.aL).map ax) false)),(.d (.sl ((a3.Kids).map aH) false))],.grow v35 ((x34).map av)]) rfl (H30.sl [0,1,2] rfl rfl) rfl (aC rfl rfl) (dx E prow hprow n _ _ _ hzz39 b1) (.cons (.refl _) (.cons (.refl _) .nil)) (fun _ _ S41 H42=>?_)
   exact ⟨_,_,rfl,H42.weaken (List.nil_sublist _)⟩
  replace h:=jW h
  refine ae.jX (ins:=[.box b1 [(.d (.sl ((x31).map (D.int .i64)) false)),(.d (.sl ((x32).map aD) false)),(.d (.int .i64 x33))]]) (more:=[.box b4 [(.d (.int .i64 a3.Kind)),(.d (.int .i64 a3.N)),(.d (.str a3.Tag)),(.d (.str a3.Text)),(.d (.sl ((a3.aL).map ax) false)),(.d (.sl ((a3.Kids).map aH) false))],.grow v35 ((x34).map av)]) (H30.sl [0,1,2] rfl rfl) rfl (aC rfl rfl) (dx E prow hprow n _ _ _ hzz39 b1) (.cons (.refl _) (.cons (.refl _) .nil)) rfl ?_
  rintro _ S43 _ ⟨rfl,rfl⟩ H44
  replace H44:Has B0 S43 [.box b1 [(.d (.sl ((x40.2.state).map (D.int .i64)) false)),(.d (.sl ((x40.2.params).map aD) false)),(.d (.int .i64 x40.2.steps))],.box b4 [(.d (.int .i64 a3.Kind)),(.d (.int .i64 a3.N)),(.d (.str a3.Tag)),(.d (.str a3.Text)),(.d (.sl ((a3.aL).map ax) false)),(.d (.sl ((a3.Kids).map aH) false))],.grow v35 ((x34).map av)]:=H44
  refine ae.val rfl (aZ rfl pR) rfl ?_
  refine ae.val rfl (ah rfl) rfl ?_
  refine ae.nil ?_
  refine ay.block ?_
  refine kS.start (B:=B0) (α:=(List Tree) × AV × Int) (fun k a=>bE n x36 (bf n prow a3 x8 k37) x40 k a.1 a.2.2=some r) (fun a=>[(0,(.ptr b1 0 0)),(3,(.ptr b4 0 0)),(6,a.2.1),(7,(.d (.int .i64 x36))),(19,(.d (.int .i64 (q9 x8 0)))),(20,(.d (.int .i64 x36))),(26,(.d (.sl ((x40.1).map av) false))),(27,(.d (.int .i64 ((x40.1).length:Int)))),(28,(.d (.int .i64 a.2.2)))]) (fun a=>[.box b1 [(.d (.sl ((x40.2.state).map (D.int .i64)) false)),(.d (.sl ((x40.2.params).map aD) false)),(.d (.int .i64 x40.2.steps))],.box b4 [(.d (.int .i64 a3.Kind)),(.d (.int .i64 a3.N)),(.d (.str a3.Tag)),(.d (.str a3.Text)),(.d (.sl ((a3.aL).map ax) false)),(.d (.sl ((a3.Kids).map aH) false))],.grow a.2.1 ((a.1).map av)]) ?_ ?_ n ⟨⟨x34,v35,0⟩,_,_,S43,.refl _ _,.refl _,(aa.r rfl (aa.r rfl (aa.r rfl (aa.r rfl (aa.r rfl (aa.r rfl (aa.r rfl (aa.r rfl (aa.r rfl aa.nil))))))))),H44.sl [0,1,2] rfl rfl,h⟩
  ·
   intro a h; simp [bE] at h
  intro k57 a S52 H53 h
  obtain ⟨x54,v55,x56⟩:=a
  replace h:bE n x36 (bf n prow a3 x8 k37) x40 (k57 + 1) x54 x56=some r:=h
  replace H53:Has B0 S52 [.box b1 [(.d (.sl ((x40.2.state).map (D.int .i64)) false)),(.d (.sl ((x40.2.params).map aD) false)),(.d (.int .i64 x40.2.steps))],.box b4 [(.d (.int .i64 a3.Kind)),(.d (.int .i64 a3.N)),(.d (.str a3.Tag)),(.d (.str a3.Text)),(.d (.sl ((a3.aL).map ax) false)),(.d (.sl ((a3.Kids).map aH) false))],.grow v55 ((x54).map av)]:=H53
  unfold bE at h
  refine ay.seq ?_
  refine ay.region E.obj rfl ?_
  refine ae.val rfl (az rfl rfl dh) rfl ?_
  refine ae.nil ?_
  refine ay.seq ?_
  refine ay.cond rfl (fun hb58=>?_) (fun hb58=>?_)
  ·
   replace h:=dn hb58 h
   refine ay.skip ?_
   refine ay.seq ?_
   refine ay.block ?_
   refine ay.seq ?_
   refine ay.region E.obj rfl ?_
   obtain ⟨z59,hzz59,h⟩:=bind_some h
   refine ae.val rfl (bU rfl rfl (dC (enc:=av) hzz59 jH jV ((Tree.len _).trans di.symm))) rfl ?_
   refine ae.val rfl (bC rfl (Tree.fV gm di)) rfl ?_
   refine ae.alloc H53 rfl tJ gH rfl rfl (fun b60 S61 H62=>?_)
   refine ae.store H62 (i:=0) rfl rfl rfl rfl (Tree.bB _) rfl di rfl jV rfl rfl rfl (fun S63 H64=>?_)
   refine ae.nil ?_
   refine ay.join (B:=B0) (α:=Str) (fun a=>dI x54 x56 (bE n x36 (bf n prow a3 x8 k37) x40 k57) z59 a=some r) (fun a=>[(0,(.ptr b1 0 0)),(3,(.ptr b4 0 0)),(6,v55),(7,(.d (.int .i64 x36))),(9,(.ptr b60 0 0)),(19,(.d (.int .i64 (q9 x8 0)))),(20,(.d (.int .i64 x36))),(26,(.d (.sl ((x40.1).map av) false))),(27,(.d (.int .i64 ((x40.1).length:Int)))),(28,(.d (.int .i64 x56)))]) (fun a=>[.box b60 [(.d (.str z59.Tag)),(.d (.str a)),(.d (.str z59.Text)),(.d (.sl ((z59.aL).map ax) false)),(.d (.sl ((z59.Kids).map av) false))],.box b1 [(.d (.sl ((x40.2.state).map (D.int .i64)) false)),(.d (.sl ((x40.2.params).map aD) false)),(.d (.int .i64 x40.2.steps))],.box b4 [(.d (.int .i64 a3.Kind)),(.d (.int .i64 a3.N)),(.d (.str a3.Tag)),(.d (.str a3.Text)),(.d (.sl ((a3.aL).map ax) false)),(.d (.sl ((a3.Kids).map aH) false))],.grow v55 ((x54).map av)]) ?_ ?_
   ·
    intro x67 S65 H66 h
    replace h:dI x54 x56 (bE n x36 (bf n prow a3 x8 k37) x40 k57) z59 x67=some r:=h
    replace H66:Has B0 S65 [.box b60 [(.d (.str z59.Tag)),(.d (.str x67)),(.d (.str z59.Text)),(.d (.sl ((z59.aL).map ax) false)),(.d (.sl ((z59.Kids).map av) false))],.box b1 [(.d (.sl ((x40.2.state).map (D.int .i64)) false)),(.d (.sl ((x40.2.params).map aD) false)),(.d (.int .i64 x40.2.steps))],.box b4 [(.d (.int .i64 a3.Kind)),(.d (.int .i64 a3.N)),(.d (.str a3.Tag)),(.d (.str a3.Text)),(.d (.sl ((a3.aL).map ax) false)),(.d (.sl ((a3.Kids).map aH) false))],.grow v55 ((x54).map av)]:=H66
    unfold dI at h
    refine ay.region E.obj rfl ?_
    refine ae.val rfl (ah rfl) rfl ?_
    refine ae.val rfl (au H66 (i:=0) rfl rfl (bq gm di rfl)) rfl ?_
    refine ae.less (Less.agg' (d:=av (Tree.mk z59.Tag x67 z59.Text z59.aL z59.Kids)) (ak.eq rfl (ak.eq rfl (ak.eq rfl (ak.eq rfl (ak.eq rfl .nil))))) ((Tree.eq _).trans rfl)) ?_
    refine ae.val rfl (aW (vs:=[(.d (av (Tree.mk z59.Tag x67 z59.Text z59.aL z59.Kids)))]) (ds:=[(av (Tree.mk z59.Tag x67 z59.Text z59.aL z59.Kids))]) qa jH gm gH di rfl (by decide) (.cons rfl (Tree.len _) .nil) rfl (by intro d hd; simp only [List.mem_cons,List.not_mem_nil,or_false] at hd; rcases hd with rfl <;> exact Tree.agg _) rfl) rfl ?_
    obtain ⟨z69,hzz69,h⟩:=bind_some h
    refine ae.append (xs:=(x54).map av) (ys:=([(Tree.mk z59.Tag x67 z59.Text z59.aL z59.Kids)]).map av) (zs:=(z69).map av) H66 rfl rfl rfl (i:=3) rfl rfl qa yJ jH (kP hzz69) yZ rfl (eT (enc:=av) (fun z=>(Tree.len z).trans di.symm) _) (eT (enc:=av) (fun z=>(Tree.len z).trans di.symm) _) yL rfl (rF hzz69) (fun v70 S71 H72=>?_)
    refine ae.val rfl (aj rfl) rfl ?_
    refine ae.nil ?_
    refine ay.region E.obj rfl ?_
    refine ae.val rfl (az rfl rfl bT) rfl ?_
    refine ae.val rfl (ah rfl) rfl ?_
    refine ae.nil ?_
    exact ⟨⟨z69,v70,(IntKind.wrap .i64 (x56 + 1))⟩,_,_,S71,.refl _ _,.refl _,(aa.r rfl (aa.r rfl (aa.r rfl (aa.r rfl (aa.r rfl (aa.r rfl (aa.r rfl (aa.r rfl (aa.r rfl aa.nil))))))))),H72.sl [1,2,3] rfl rfl,h⟩
   refine ay.seq ?_
   refine ay.region E.obj rfl ?_
   refine ae.val rfl (ai rfl ll lK rfl) rfl ?_
   refine ae.val rfl (au H64 (i:=0) rfl rfl (aA lU rfl)) rfl ?_
   refine ae.val rfl (az rfl rfl gy) rfl ?_
   refine ae.nil ?_
   refine ay.cond rfl (fun hb73=>?_) (fun hb73=>?_)
   ·
    replace h:=dn hb73 h
    refine ay.region E.obj rfl ?_
    refine ae.val rfl (ah rfl) rfl ?_
    obtain ⟨z74,hzz74,h⟩:=bind_some h
    refine ae.ret rfl (aC rfl rfl) (E.strconv_Itoa_ok _ _ _ hzz74 _ _ (aM.eq .nil)) rfl ?_
    refine ae.val rfl (ai rfl oO lK rfl) rfl ?_
    refine ae.store H64 (i:=0) rfl rfl rfl rfl rfl rfl AX rfl AQ rfl rfl rfl (fun S75 H76=>?_)
    refine ae.nil ?_
    exact ⟨z74,_,_,S75,.refl _ _,.refl _,(aa.r rfl (aa.r rfl (aa.r rfl (aa.r rfl (aa.r rfl (aa.r rfl (aa.r rfl (aa.r rfl (aa.r rfl (aa.r rfl aa.nil)))))))))),H76.sl [0,1,2,3] rfl rfl,h⟩
   replace h:=dm hb73 h
   refine ay.skip ?_
   exact ⟨z59.Key,_,_,S63,.refl _ _,.refl _,(aa.r rfl (aa.r rfl (aa.r rfl (aa.r rfl (aa.r rfl (aa.r rfl (aa.r rfl (aa.r rfl (aa.r rfl (aa.r rfl aa.nil)))))))))),H64.sl [0,1,2,3] rfl rfl,h⟩
  replace h:=dm hb58 h
  refine ay.exit ?_
  refine ay.region E.obj rfl ?_
  refine ae.val rfl (az rfl rfl bT) rfl ?_
  refine ae.val rfl (ah rfl) rfl ?_
  refine ae.nil ?_
  exact ⟨⟨x40.2.state,x40.2.params,x40.2.steps,x54,v55,(IntKind.wrap .i64 (x36 + 1))⟩,_,_,S52,.refl _ _,.refl _,(aa.r rfl (aa.r rfl (aa.r rfl (aa.r rfl (aa.r rfl aa.nil))))),H53.sl [0,1,2] rfl rfl,h⟩
 replace h:=dm hb38 h
 refine ay.exit ?_
 refine ay.seq ?_
 refine ay.region E.obj rfl ?_
 refine ae.val rfl (ah rfl) rfl ?_
 refine ae.val rfl (aj rfl) rfl ?_
 refine ae.nil ?_
 have hr:=Option.some.inj h
 subst hr
 exact ay.ret ⟨_,rfl,rfl,_,_,_,.refl _,(xU H30 (i:=2) rfl),⟨rfl,rfl⟩,H30.sl [0] rfl rfl⟩
set_option maxRecDepth 20000 in
set_option maxHeartbeats 4000000 in
theorem gY:∀ (n:Nat) (a2:aF) (a3:aY) (r:(Option ((List Tree) × aF))),bJ n a2 a3=some r→∀ (b1:Nat),dW R cfg.P 70 31 [.ptr b1 0 0,.d (aH a3)] [.box b1 [(.d (.sl ((a2.state).map (D.int .i64)) false)),(.d (.sl ((a2.params).map aD) false)),(.d (.int .i64 a2.steps))]] r (fun r v l=>v=.d (.sl ((r.1).map av) false)∧l=[.box b1 [.d (.sl ((r.2.state).map (D.int .i64)) false),.d (.sl ((r.2.params).map aD) false),.d (.int .i64 r.2.steps)]])
 | 0,a2,a3,r,h,b1=>by simp [bJ] at h
 | n + 1,a2,a3,r,h,b1=>by
  have ih:=gY n
  unfold bJ at h
  refine dW.of_wp (C:=cfg) Tryd.func31 rfl zK rfl (fun B0 S0 H0=>?_)
  replace H0:Has B0 S0 [.box b1 [(.d (.sl ((a2.state).map (D.int .i64)) false)),(.d (.sl ((a2.params).map aD) false)),(.d (.int .i64 a2.steps))]]:=H0
  refine ay.seq ?_
  refine ay.region E.obj rfl ?_
  refine ae.box H0 rfl rfl rfl (aY.bB _) rfl (fun b4 S5 H6=>?_)
  refine ae.val rfl (aj rfl) rfl ?_
  refine ae.nil ?_
  refine ay.seq ?_
  refine ay.region E.obj rfl ?_
  refine ae.val rfl (ah rfl) rfl ?_
  refine ae.val rfl (bZ rfl) rfl ?_
  refine ae.val rfl (ai rfl mM nK rfl) rfl ?_
  refine ae.val rfl (au H6 (i:=1) rfl rfl (aA mE rfl)) rfl ?_
  refine ae.val rfl (az rfl rfl bT) rfl ?_
  refine ae.val rfl (bZ rfl) rfl ?_
  refine ae.val rfl (ai rfl mM nK rfl) rfl ?_
  refine ae.store H6 (i:=1) rfl rfl rfl rfl rfl rfl za rfl Aw rfl rfl rfl (fun S7 H8=>?_)
  refine ae.nil ?_
  refine ay.seq ?_
  obtain ⟨z9,hzz9,h⟩:=bind_some h
  rcases z9 with _ | x10
  ·
   replace h:=jY h
   subst h
   refine ay.pE E.obj uG Ar [(0,none),(3,none)] (by kernel_rfl) [9] (by decide) [some (.ptr b1 0 0),some (.ptr b1 0 0),some (.ptr b1 0 2),some (.d (.int .i64 (IntKind.wrap .i64 (a2.steps + 1)))),some (.d (.bool (decide ((IntKind.wrap .i64 (a2.steps + 1)) ≤ 1000)))),some (.ptr b1 0 0),some (.ptr b1 0 0),some (.ptr b1 0 2),some (.d (.int .i64 (IntKind.wrap .i64 (a2.steps + 1)))),none] ?_
   refine ⟨[0,1,2,3,4,5,6,7,8],by kernel_rfl,?_,_,_,rfl,rfl,.stepX ?_⟩
   ·
    refine .v rfl rfl rfl rfl (ah rfl) ?_
    refine .v rfl rfl rfl rfl (bZ rfl) ?_
    refine .v rfl rfl rfl rfl (ai rfl mM nK rfl) ?_
    refine .v rfl rfl rfl rfl (au H8 (i:=1) rfl rfl (aA mE rfl)) ?_
    refine .v rfl rfl rfl rfl (az rfl rfl gV) ?_
    refine .v rfl rfl rfl rfl (ah rfl) ?_
    refine .v rfl rfl rfl rfl (bZ rfl) ?_
    refine .v rfl rfl rfl rfl (ai rfl mM nK rfl) ?_
    refine .v rfl rfl rfl rfl (au H8 (i:=1) rfl rfl (aA mE rfl)) ?_
    exact .nil
   refine ae.thrown (ins:=[]) (more:=[.box b4 [(.d (.int .i64 a3.Kind)),(.d (.int .i64 a3.N)),(.d (.str a3.Tag)),(.d (.str a3.Text)),(.d (.sl ((a3.aL).map ax) false)),(.d (.sl ((a3.Kids).map aH) false))],.box b1 [(.d (.sl ((a2.state).map (D.int .i64)) false)),(.d (.sl ((a2.params).map aD) false)),(.d (.int .i64 (IntKind.wrap .i64 (a2.steps + 1))))]]) rfl (H8.sl [0,1] rfl rfl) rfl (aC rfl rfl) (bQ E n _ _ _ _ hzz9 ) (.cons (.refl _) (.cons (.refl _) (.cons (.refl _) .nil))) (fun _ _ S11 H12=>?_)
   exact ⟨_,_,rfl,H12.weaken (List.nil_sublist _)⟩
  replace h:=jW h
  refine ay.pE E.obj uG Ar [(0,none),(3,none)] (by kernel_rfl) [9] (by decide) [some (.ptr b1 0 0),some (.ptr b1 0 0),some (.ptr b1 0 2),some (.d (.int .i64 (IntKind.wrap .i64 (a2.steps + 1)))),some (.d (.bool (decide ((IntKind.wrap .i64 (a2.steps + 1)) ≤ 1000)))),some (.ptr b1 0 0),some (.ptr b1 0 0),some (.ptr b1 0 2),some (.d (.int .i64 (IntKind.wrap .i64 (a2.steps + 1)))),none] ?_
  refine ⟨[0,1,2,3,4,5,6,7,8],by kernel_rfl,?_,_,_,rfl,rfl,.stepX ?_⟩
  ·
   refine .v rfl rfl rfl rfl (ah rfl) ?_
   refine .v rfl rfl rfl rfl (bZ rfl) ?_
   refine .v rfl rfl rfl rfl (ai rfl mM nK rfl) ?_
   refine .v rfl rfl rfl rfl (au H8 (i:=1) rfl rfl (aA mE rfl)) ?_
   refine .v rfl rfl rfl rfl (az rfl rfl gV) ?_
   refine .v rfl rfl rfl rfl (ah rfl) ?_
   refine .v rfl rfl rfl rfl (bZ rfl) ?_
   refine .v rfl rfl rfl rfl (ai rfl mM nK rfl) ?_
   refine .v rfl rfl rfl rfl (au H8 (i:=1) rfl rfl (aA mE rfl)) ?_
   exact .nil
  refine ae.jX (ins:=[]) (more:=[.box b4 [(.d (.int .i64 a3.Kind)),(.d (.int .i64 a3.N)),(.d (.str a3.Tag)),(.d (.str a3.Text)),(.d (.sl ((a3.aL).map ax) false)),(.d (.sl ((a3.Kids).map aH) false))],.box b1 [(.d (.sl ((a2.state).map (D.int .i64)) false)),(.d (.sl ((a2.params).map aD) false)),(.d (.int .i64 (IntKind.wrap .i64 (a2.steps + 1))))]]) (H8.sl [0,1] rfl rfl) rfl (aC rfl rfl) (bQ E n _ _ _ _ hzz9 ) (.cons (.refl _) (.cons (.refl _) (.cons (.refl _) .nil))) rfl ?_
  rintro _ S15 _ ⟨rfl,rfl⟩ H16
  replace H16:Has B0 S15 [.box b4 [(.d (.int .i64 a3.Kind)),(.d (.int .i64 a3.N)),(.d (.str a3.Tag)),(.d (.str a3.Text)),(.d (.sl ((a3.aL).map ax) false)),(.d (.sl ((a3.Kids).map aH) false))],.box b1 [(.d (.sl ((a2.state).map (D.int .i64)) false)),(.d (.sl ((a2.params).map aD) false)),(.d (.int .i64 (IntKind.wrap .i64 (a2.steps + 1))))]]:=H16
  refine ae.nil ⟨_,(fun _ ht=>by cases ht; rfl),_,(.q (.q (.o (.z .nil)))),(fun _ ht=>by cases ht; exact ⟨_,rfl,.refl _⟩),?_⟩
  refine ⟨[],by kernel_rfl,?_,_,rfl,?_⟩
  ·
   exact .nil
  refine ay.seq ?_
  refine ay.seq ?_
  refine ay.region E.obj rfl ?_
  refine ae.val rfl (ai rfl fE nK rfl) rfl ?_
  refine ae.val rfl (au H16 (i:=0) rfl rfl (aA mE rfl)) rfl ?_
  refine ae.nil ?_
  refine ay.block ?_
  refine ay.seq ?_
  refine ay.region E.obj rfl ?_
  refine ae.val rfl (az rfl rfl bH) rfl ?_
  refine ae.val rfl (aj rfl) rfl ?_
  refine ae.nil ?_
  refine ay.cond rfl (fun hb17=>?_) (fun hb17=>?_)
  ·
   replace h:=dn hb17 h
   refine ay.seq ?_
   obtain ⟨z19,hzz19,h⟩:=bind_some h
   obtain ⟨z23,hzz23,h⟩:=bind_some h
   rcases z23 with _ | x24
   ·
    replace h:=jY h
    subst h
    refine ay.pE E.obj uG Av [(4,some 11)] (by kernel_rfl) [4,8] (by decide) [some (.ptr b4 0 2),some (.d (.str a3.Tag)),some (.ptr b4 0 4),some (.d (.sl ((a3.aL).map ax) false)),none,some (.ptr b1 0 0),some (.ptr b4 0 5),some (.d (.sl ((a3.Kids).map aH) false)),none,none,none,none] ?_
    refine ⟨[0,1,2,3,5,6,7],by kernel_rfl,?_,_,_,rfl,rfl,.step ?_⟩
    ·
     refine .v rfl rfl rfl rfl (ai rfl mO lK rfl) ?_
     refine .v rfl rfl rfl rfl (au H16 (i:=0) rfl rfl (aA lU rfl)) ?_
     refine .v rfl rfl rfl rfl (ai rfl wC uw rfl) ?_
     refine .v rfl rfl rfl rfl (au H16 (i:=0) rfl rfl (aA uM rfl)) ?_
     refine .v rfl rfl rfl rfl (ah rfl) ?_
     refine .v rfl rfl rfl rfl (ai rfl jN rA rfl) ?_
     refine .v rfl rfl rfl rfl (au H16 (i:=0) rfl rfl (aA qV rfl)) ?_
     exact .nil
    have H25:=H16.xy
    refine ae.append (xs:=([]).map ax) (ys:=(a3.aL).map ax) (zs:=(z19).map ax) H25 rfl rfl rfl (i:=0) rfl rfl yP yQ ug (kP hzz19) yF rfl (eT (enc:=ax) (fun z=>(Attr.len z).trans lY.symm) _) (eT (enc:=ax) (fun z=>(Attr.len z).trans lY.symm) _) yH rfl (rF hzz19) (fun v26 S27 H28=>?_)
    refine ae.nil ⟨_,_,_,rfl,(fun _ ht=>by cases ht; rfl),_,(.q (.w v26 (.o (.o (.o (.m .nil)))))),(fun _ ht=>by cases ht; exact ⟨_,rfl,.refl _⟩),?_⟩
    refine ⟨[0,1,5,6,7],by kernel_rfl,?_,_,_,rfl,rfl,.stepX ?_⟩
    ·
     refine .v rfl rfl rfl rfl (ai rfl mO lK rfl) ?_
     refine .v rfl rfl rfl rfl (au H28 (i:=1) rfl rfl (aA lU rfl)) ?_
     refine .v rfl rfl rfl rfl (ah rfl) ?_
     refine .v rfl rfl rfl rfl (ai rfl jN rA rfl) ?_
     refine .v rfl rfl rfl rfl (au H28 (i:=1) rfl rfl (aA qV rfl)) ?_
     exact .nil
    refine ae.thrown (ins:=[.box b1 [(.d (.sl ((a2.state).map (D.int .i64)) false)),(.d (.sl ((a2.params).map aD) false)),(.d (.int .i64 (IntKind.wrap .i64 (a2.steps + 1))))]]) (more:=[.grow v26 ((z19).map ax),.box b4 [(.d (.int .i64 a3.Kind)),(.d (.int .i64 a3.N)),(.d (.str a3.Tag)),(.d (.str a3.Text)),(.d (.sl ((a3.aL).map ax) false)),(.d (.sl ((a3.Kids).map aH) false))]]) rfl (H28.sl [2,0,1] rfl rfl) rfl (aC rfl rfl) (dx E (bJ n) ih n _ _ _ hzz23 b1) (.cons (.refl _) (.cons (.refl _) .nil)) (fun _ _ S29 H30=>?_)
    exact ⟨_,_,rfl,H30.weaken (List.nil_sublist _)⟩
   replace h:=jW h
   refine ay.pE E.obj uG Av [(4,some 11)] (by kernel_rfl) [4,8] (by decide) [some (.ptr b4 0 2),some (.d (.str a3.Tag)),some (.ptr b4 0 4),some (.d (.sl ((a3.aL).map ax) false)),none,some (.ptr b1 0 0),some (.ptr b4 0 5),some (.d (.sl ((a3.Kids).map aH) false)),none,none,none,none] ?_
   refine ⟨[0,1,2,3,5,6,7],by kernel_rfl,?_,_,_,rfl,rfl,.step ?_⟩
   ·
    refine .v rfl rfl rfl rfl (ai rfl mO lK rfl) ?_
    refine .v rfl rfl rfl rfl (au H16 (i:=0) rfl rfl (aA lU rfl)) ?_
    refine .v rfl rfl rfl rfl (ai rfl wC uw rfl) ?_
    refine .v rfl rfl rfl rfl (au H16 (i:=0) rfl rfl (aA uM rfl)) ?_
    refine .v rfl rfl rfl rfl (ah rfl) ?_
    refine .v rfl rfl rfl rfl (ai rfl jN rA rfl) ?_
    refine .v rfl rfl rfl rfl (au H16 (i:=0) rfl rfl (aA qV rfl)) ?_
    exact .nil
   have H33:=H16.xy
   refine ae.append (xs:=([]).map ax) (ys:=(a3.aL).map ax) (zs:=(z19).map ax) H33 rfl rfl rfl (i:=0) rfl rfl yP yQ ug (kP hzz19) yF rfl (eT (enc:=ax) (fun z=>(Attr.len z).trans lY.symm) _) (eT (enc:=ax) (fun z=>(Attr.len z).trans lY.symm) _) yH rfl (rF hzz19) (fun v34 S35 H36=>?_)
   refine ae.nil ⟨_,_,_,rfl,(fun _ ht=>by cases ht; rfl),_,(.q (.w v34 (.o (.o (.o (.m .nil)))))),(fun _ ht=>by cases ht; exact ⟨_,rfl,.refl _⟩),?_⟩
   refine ⟨[0,1,5,6,7],by kernel_rfl,?_,_,_,rfl,rfl,.stepX ?_⟩
   ·
    refine .v rfl rfl rfl rfl (ai rfl mO lK rfl) ?_
    refine .v rfl rfl rfl rfl (au H36 (i:=1) rfl rfl (aA lU rfl)) ?_
    refine .v rfl rfl rfl rfl (ah rfl) ?_
    refine .v rfl rfl rfl rfl (ai rfl jN rA rfl) ?_
    refine .v rfl rfl rfl rfl (au H36 (i:=1) rfl rfl (aA qV rfl)) ?_
    exact .nil
   refine ae.jX (ins:=[.box b1 [(.d (.sl ((a2.state).map (D.int .i64)) false)),(.d (.sl ((a2.params).map aD) false)),(.d (.int .i64 (IntKind.wrap .i64 (a2.steps + 1))))]]) (more:=[.grow v34 ((z19).map ax),.box b4 [(.d (.int .i64 a3.Kind)),(.d (.int .i64 a3.N)),(.d (.str a3.Tag)),(.d (.str a3.Text)),(.d (.sl ((a3.aL).map ax) false)),(.d (.sl ((a3.Kids).map aH) false))]]) (H36.sl [2,0,1] rfl rfl) rfl (aC rfl rfl) (dx E (bJ n) ih n _ _ _ hzz23 b1) (.cons (.refl _) (.cons (.refl _) .nil)) rfl ?_
   rintro _ S37 _ ⟨rfl,rfl⟩ H38
   replace H38:Has B0 S37 [.box b1 [(.d (.sl ((x24.2.state).map (D.int .i64)) false)),(.d (.sl ((x24.2.params).map aD) false)),(.d (.int .i64 x24.2.steps))],.grow v34 ((z19).map ax),.box b4 [(.d (.int .i64 a3.Kind)),(.d (.int .i64 a3.N)),(.d (.str a3.Tag)),(.d (.str a3.Text)),(.d (.sl ((a3.aL).map ax) false)),(.d (.sl ((a3.Kids).map aH) false))]]:=H38
   refine ae.nil ⟨_,(fun _ ht=>by cases ht; rfl),_,(.q (.q (.w (.d (.sl ((x24.1).map av) false)) (.w (.d (av (Tree.mk a3.Tag [] [] z19 x24.1))) (.w (.d (.sl (([(Tree.mk a3.Tag [] [] z19 x24.1)]).map av) true)) (.w (.d (.sl (([(Tree.mk a3.Tag [] [] z19 x24.1)]).map av) true)) .nil)))))),(fun _ ht=>by cases ht; exact ⟨_,rfl,.refl _⟩),?_⟩
   refine ⟨[0,1,9,10,11],by kernel_rfl,?_,_,rfl,?_⟩
   ·
    refine .v rfl rfl rfl rfl (ai rfl mO lK rfl) ?_
    refine .v rfl rfl rfl rfl (au H38 (i:=2) rfl rfl (aA lU rfl)) ?_
    refine .cons rfl rfl rfl (.step ?_) ?_
    ·
     refine ae.val rfl (bG (cs:=[(.d (.str a3.Tag)),(.d (.str [])),(.d (.str [])),v34,(.d (.sl ((x24.1).map av) false))]) gH rfl (bP) (dz rfl rfl rfl rfl (dz rfl (uj H38 (i:=1) rfl) rfl rfl (dz rfl rfl rfl rfl rfl)))) rfl ?_
     refine ae.less (Less.agg' (d:=av (Tree.mk a3.Tag [] [] z19 x24.1)) (ak.eq rfl (ak.eq rfl (ak.eq rfl (ak.grow H38 (i:=1) rfl (ak.eq rfl .nil))))) ((Tree.eq _).trans rfl)) ?_
     exact ae.nil ⟨_,_,rfl,fun _ ht=>by cases ht; exact ⟨rfl,.refl _⟩⟩
    refine .v rfl rfl rfl rfl (aW (vs:=[(.d (av (Tree.mk a3.Tag [] [] z19 x24.1)))]) (ds:=[(av (Tree.mk a3.Tag [] [] z19 x24.1))]) qa jH gm gH di rfl (by decide) (.cons rfl (Tree.len _) .nil) rfl (by intro d hd; simp only [List.mem_cons,List.not_mem_nil,or_false] at hd; rcases hd with rfl <;> exact Tree.agg _) rfl) ?_
    refine .v rfl rfl rfl rfl (aj rfl) ?_
    exact .nil
   have hr:=Option.some.inj h
   subst hr
   exact ay.ret ⟨_,rfl,rfl,_,_,_,.refl _,wJ,⟨rfl,rfl⟩,H38.sl [0] rfl rfl⟩
  replace h:=dm hb17 h
  refine ay.seq ?_
  refine ay.region E.obj rfl ?_
  refine ae.val rfl (az rfl rfl bH) rfl ?_
  refine ae.val rfl (aj rfl) rfl ?_
  refine ae.nil ?_
  refine ay.cond rfl (fun hb39=>?_) (fun hb39=>?_)
  ·
   replace h:=dn hb39 h
   refine ay.seq ?_
   refine ay.region E.obj rfl ?_
   refine ae.val rfl (ai rfl vW lK rfl) rfl ?_
   refine ae.val rfl (au H16 (i:=0) rfl rfl (aA lU rfl)) rfl ?_
   refine ae.val rfl (bG (cs:=[(.d (.str [])),(.d (.str [])),(.d (.str a3.Text)),(.d .aT),(.d .aT)]) gH rfl (bP) (dz rfl rfl rfl rfl rfl)) rfl ?_
   refine ae.less (Less.agg' (d:=av (Tree.mk [] [] a3.Text [] [])) (ak.eq rfl (ak.eq rfl (ak.eq rfl (ak.bY rfl (.aT false) rfl rfl (ak.bY rfl (.aT false) rfl rfl .nil))))) ((Tree.eq _).trans rfl)) ?_
   refine ae.val rfl (aW (vs:=[(.d (av (Tree.mk [] [] a3.Text [] [])))]) (ds:=[(av (Tree.mk [] [] a3.Text [] []))]) qa jH gm gH di rfl (by decide) (.cons rfl (Tree.len _) .nil) rfl (by intro d hd; simp only [List.mem_cons,List.not_mem_nil,or_false] at hd; rcases hd with rfl <;> exact Tree.agg _) rfl) rfl ?_
   refine ae.val rfl (aj rfl) rfl ?_
   refine ae.nil ?_
   have hr:=Option.some.inj h
   subst hr
   exact ay.ret ⟨_,rfl,rfl,_,_,_,.refl _,wJ,⟨rfl,rfl⟩,H16.sl [1] rfl rfl⟩
  replace h:=dm hb39 h
  refine ay.seq ?_
  refine ay.region E.obj rfl ?_
  refine ae.val rfl (az rfl rfl bH) rfl ?_
  refine ae.val rfl (aj rfl) rfl ?_
  refine ae.nil ?_
  refine ay.cond rfl (fun hb40=>?_) (fun hb40=>?_)
  ·
   replace h:=dn hb40 h
   refine ay.seq ?_
   refine ay.region E.obj rfl ?_
   refine ae.val rfl (ah rfl) rfl ?_
   refine ae.val rfl (ai rfl oM nK rfl) rfl ?_
   refine ae.val rfl (au H16 (i:=0) rfl rfl (aA mE rfl)) rfl ?_
   obtain ⟨z41,hzz41,h⟩:=bind_some h
   rcases z41 with _ | x42
   ·
    replace h:=jY h
    subst h
    refine ae.thrown (ins:=[.box b1 [(.d (.sl ((a2.state).map (D.int .i64)) false)),(.d (.sl ((a2.params).map aD) false)),(.d (.int .i64 (IntKind.wrap .i64 (a2.steps + 1))))]]) (more:=[.box b4 [(.d (.int .i64 a3.Kind)),(.d (.int .i64 a3.N)),(.d (.str a3.Tag)),(.d (.str a3.Text)),(.d (.sl ((a3.aL).map ax) false)),(.d (.sl ((a3.Kids).map aH) false))]]) rfl (H16.sl [1,0] rfl rfl) rfl (aC rfl rfl) (bW E n _ _ _ hzz41 b1) (.cons (.refl _) (.cons (.refl _) .nil)) (fun _ _ S43 H44=>?_)
    exact ⟨_,_,rfl,H44.weaken (List.nil_sublist _)⟩
   replace h:=jW h
   refine ae.jX (ins:=[.box b1 [(.d (.sl ((a2.state).map (D.int .i64)) false)),(.d (.sl ((a2.params).map aD) false)),(.d (.int .i64 (IntKind.wrap .i64 (a2.steps + 1))))]]) (more:=[.box b4 [(.d (.int .i64 a3.Kind)),(.d (.int .i64 a3.N)),(.d (.str a3.Tag)),(.d (.str a3.Text)),(.d (.sl ((a3.aL).map ax) false)),(.d (.sl ((a3.Kids).map aH) false))]]) (H16.sl [1,0] rfl rfl) rfl (aC rfl rfl) (bW E n _ _ _ hzz41 b1) (.cons (.refl _) (.cons (.refl _) .nil)) rfl ?_
   rintro _ S45 _ ⟨rfl,rfl⟩ H46
   replace H46:Has B0 S45 [.box b1 [(.d (.sl ((a2.state).map (D.int .i64)) false)),(.d (.sl ((a2.params).map aD) false)),(.d (.int .i64 (IntKind.wrap .i64 (a2.steps + 1))))],.box b4 [(.d (.int .i64 a3.Kind)),(.d (.int .i64 a3.N)),(.d (.str a3.Tag)),(.d (.str a3.Text)),(.d (.sl ((a3.aL).map ax) false)),(.d (.sl ((a3.Kids).map aH) false))]]:=H46
   obtain ⟨z47,hzz47,h⟩:=bind_some h
   refine ae.ret rfl (aC rfl rfl) (E.strconv_Itoa_ok _ _ _ hzz47 _ _ (aM.eq .nil)) rfl ?_
   refine ae.val rfl (bG (cs:=[(.d (.str [])),(.d (.str [])),(.d (.str z47)),(.d .aT),(.d .aT)]) gH rfl (bP) (dz rfl rfl rfl rfl rfl)) rfl ?_
   refine ae.less (Less.agg' (d:=av (Tree.mk [] [] z47 [] [])) (ak.eq rfl (ak.eq rfl (ak.eq rfl (ak.bY rfl (.aT false) rfl rfl (ak.bY rfl (.aT false) rfl rfl .nil))))) ((Tree.eq _).trans rfl)) ?_
   refine ae.val rfl (aW (vs:=[(.d (av (Tree.mk [] [] z47 [] [])))]) (ds:=[(av (Tree.mk [] [] z47 [] []))]) qa jH gm gH di rfl (by decide) (.cons rfl (Tree.len _) .nil) rfl (by intro d hd; simp only [List.mem_cons,List.not_mem_nil,or_false] at hd; rcases hd with rfl <;> exact Tree.agg _) rfl) rfl ?_
   refine ae.val rfl (aj rfl) rfl ?_
   refine ae.nil ?_
   have hr:=Option.some.inj h
   subst hr
   exact ay.ret ⟨_,rfl,rfl,_,_,_,.refl _,wJ,⟨rfl,rfl⟩,H46.sl [0] rfl rfl⟩
  replace h:=dm hb40 h
  refine ay.seq ?_
  refine ay.region E.obj rfl ?_
  refine ae.val rfl (az rfl rfl bH) rfl ?_
  refine ae.val rfl (aj rfl) rfl ?_
  refine ae.nil ?_
  refine ay.cond rfl (fun hb48=>?_) (fun hb48=>?_)
  ·
   replace h:=dn hb48 h
   refine ay.seq ?_
   refine ay.region E.obj rfl ?_
   refine ae.val rfl (ah rfl) rfl ?_
   refine ae.val rfl (ai rfl vW lK rfl) rfl ?_
   refine ae.val rfl (au H16 (i:=0) rfl rfl (aA lU rfl)) rfl ?_
   obtain ⟨z49,hzz49,h⟩:=bind_some h
   rcases z49 with _ | x50
   ·
    replace h:=jY h
    subst h
    refine ae.thrown (ins:=[.box b1 [(.d (.sl ((a2.state).map (D.int .i64)) false)),(.d (.sl ((a2.params).map aD) false)),(.d (.int .i64 (IntKind.wrap .i64 (a2.steps + 1))))]]) (more:=[.box b4 [(.d (.int .i64 a3.Kind)),(.d (.int .i64 a3.N)),(.d (.str a3.Tag)),(.d (.str a3.Text)),(.d (.sl ((a3.aL).map ax) false)),(.d (.sl ((a3.Kids).map aH) false))]]) rfl (H16.sl [1,0] rfl rfl) rfl (aC rfl rfl) (iQ E n _ _ _ hzz49 b1) (.cons (.refl _) (.cons (.refl _) .nil)) (fun _ _ S51 H52=>?_)
    exact ⟨_,_,rfl,H52.weaken (List.nil_sublist _)⟩
   replace h:=jW h
   refine ae.jX (ins:=[.box b1 [(.d (.sl ((a2.state).map (D.int .i64)) false)),(.d (.sl ((a2.params).map aD) false)),(.d (.int .i64 (IntKind.wrap .i64 (a2.steps + 1))))]]) (more:=[.box b4 [(.d (.int .i64 a3.Kind)),(.d (.int .i64 a3.N)),(.d (.str a3.Tag)),(.d (.str a3.Text)),(.d (.sl ((a3.aL).map ax) false)),(.d (.sl ((a3.Kids).map aH) false))]]) (H16.sl [1,0] rfl rfl) rfl (aC rfl rfl) (iQ E n _ _ _ hzz49 b1) (.cons (.refl _) (.cons (.refl _) .nil)) rfl ?_
   rintro _ S53 _ ⟨rfl,rfl⟩ H54
   replace H54:Has B0 S53 [.box b1 [(.d (.sl ((a2.state).map (D.int .i64)) false)),(.d (.sl ((a2.params).map aD) false)),(.d (.int .i64 (IntKind.wrap .i64 (a2.steps + 1))))],.box b4 [(.d (.int .i64 a3.Kind)),(.d (.int .i64 a3.N)),(.d (.str a3.Tag)),(.d (.str a3.Text)),(.d (.sl ((a3.aL).map ax) false)),(.d (.sl ((a3.Kids).map aH) false))]]:=H54
   refine ae.val rfl (bG (cs:=[(.d (.str [])),(.d (.str [])),(.d (.str x50)),(.d .aT),(.d .aT)]) gH rfl (bP) (dz rfl rfl rfl rfl rfl)) rfl ?_
   refine ae.less (Less.agg' (d:=av (Tree.mk [] [] x50 [] [])) (ak.eq rfl (ak.eq rfl (ak.eq rfl (ak.bY rfl (.aT false) rfl rfl (ak.bY rfl (.aT false) rfl rfl .nil))))) ((Tree.eq _).trans rfl)) ?_
   refine ae.val rfl (aW (vs:=[(.d (av (Tree.mk [] [] x50 [] [])))]) (ds:=[(av (Tree.mk [] [] x50 [] []))]) qa jH gm gH di rfl (by decide) (.cons rfl (Tree.len _) .nil) rfl (by intro d hd; simp only [List.mem_cons,List.not_mem_nil,or_false] at hd; rcases hd with rfl <;> exact Tree.agg _) rfl) rfl ?_
   refine ae.val rfl (aj rfl) rfl ?_
   refine ae.nil ?_
   have hr:=Option.some.inj h
   subst hr
   exact ay.ret ⟨_,rfl,rfl,_,_,_,.refl _,wJ,⟨rfl,rfl⟩,H54.sl [0] rfl rfl⟩
  replace h:=dm hb48 h
  refine ay.seq ?_
  refine ay.region E.obj rfl ?_
  refine ae.val rfl (az rfl rfl bH) rfl ?_
  refine ae.val rfl (aj rfl) rfl ?_
  refine ae.nil ?_
  refine ay.cond rfl (fun hb55=>?_) (fun hb55=>?_)
  ·
   replace h:=dn hb55 h
   refine ay.seq ?_
   refine ay.seq ?_
   refine ay.region E.obj rfl ?_
   refine ae.val rfl (ah rfl) rfl ?_
   refine ae.val rfl (ai rfl oM nK rfl) rfl ?_
   refine ae.val rfl (au H16 (i:=0) rfl rfl (aA mE rfl)) rfl ?_
   obtain ⟨z56,hzz56,h⟩:=bind_some h
   rcases z56 with _ | x57
   ·
    replace h:=jY h
    subst h
    refine ae.thrown (ins:=[.box b1 [(.d (.sl ((a2.state).map (D.int .i64)) false)),(.d (.sl ((a2.params).map aD) false)),(.d (.int .i64 (IntKind.wrap .i64 (a2.steps + 1))))]]) (more:=[.box b4 [(.d (.int .i64 a3.Kind)),(.d (.int .i64 a3.N)),(.d (.str a3.Tag)),(.d (.str a3.Text)),(.d (.sl ((a3.aL).map ax) false)),(.d (.sl ((a3.Kids).map aH) false))]]) rfl (H16.sl [1,0] rfl rfl) rfl (aC rfl rfl) (bW E n _ _ _ hzz56 b1) (.cons (.refl _) (.cons (.refl _) .nil)) (fun _ _ S58 H59=>?_)
    exact ⟨_,_,rfl,H59.weaken (List.nil_sublist _)⟩
   replace h:=jW h
   refine ae.jX (ins:=[.box b1 [(.d (.sl ((a2.state).map (D.int .i64)) false)),(.d (.sl ((a2.params).map aD) false)),(.d (.int .i64 (IntKind.wrap .i64 (a2.steps + 1))))]]) (more:=[.box b4 [(.d (.int .i64 a3.Kind)),(.d (.int .i64 a3.N)),(.d (.str a3.Tag)),(.d (.str a3.Text)),(.d (.sl ((a3.aL).map ax) false)),(.d (.sl ((a3.Kids).map aH) false))]]) (H16.sl [1,0] rfl rfl) rfl (aC rfl rfl) (bW E n _ _ _ hzz56 b1) (.cons (.refl _) (.cons (.refl _) .nil)) rfl ?_
   rintro _ S60 _ ⟨rfl,rfl⟩ H61
   replace H61:Has B0 S60 [.box b1 [(.d (.sl ((a2.state).map (D.int .i64)) false)),(.d (.sl ((a2.params).map aD) false)),(.d (.int .i64 (IntKind.wrap .i64 (a2.steps + 1))))],.box b4 [(.d (.int .i64 a3.Kind)),(.d (.int .i64 a3.N)),(.d (.str a3.Tag)),(.d (.str a3.Text)),(.d (.sl ((a3.aL).map ax) false)),(.d (.sl ((a3.Kids).map aH) false))]]:=H61
   refine ae.val rfl (az rfl rfl bH) rfl ?_
   refine ae.nil ?_
   refine ay.cond rfl (fun hb62=>?_) (fun hb62=>?_)
   ·
    replace h:=dn hb62 h
    refine ay.seq ?_
    refine ay.region E.obj rfl ?_
    refine ae.val rfl (aj rfl) rfl ?_
    refine ae.nil ?_
    have hr:=Option.some.inj h
    subst hr
    exact ay.ret ⟨_,rfl,rfl,_,_,_,.refl _,xZ,⟨rfl,rfl⟩,H61.sl [0] rfl rfl⟩
   replace h:=dm hb62 h
   refine ay.skip ?_
   refine ay.seq ?_
   refine ay.region E.obj rfl ?_
   refine ae.val rfl (ah rfl) rfl ?_
   refine ae.val rfl (ai rfl jN rA rfl) rfl ?_
   refine ae.val rfl (au H61 (i:=1) rfl rfl (aA qV rfl)) rfl ?_
   obtain ⟨z63,hzz63,h⟩:=bind_some h
   rcases z63 with _ | x64
   ·
    replace h:=jY h
    subst h
    refine ae.thrown (ins:=[.box b1 [(.d (.sl ((a2.state).map (D.int .i64)) false)),(.d (.sl ((a2.params).map aD) false)),(.d (.int .i64 (IntKind.wrap .i64 (a2.steps + 1))))]]) (more:=[.box b4 [(.d (.int .i64 a3.Kind)),(.d (.int .i64 a3.N)),(.d (.str a3.Tag)),(.d (.str a3.Text)),(.d (.sl ((a3.aL).map ax) false)),(.d (.sl ((a3.Kids).map aH) false))]]) rfl (H61.sl [0,1] rfl rfl) rfl (aC rfl rfl) (dx E (bJ n) ih n _ _ _ hzz63 b1) (.cons (.refl _) (.cons (.refl _) .nil)) (fun _ _ S65 H66=>?_)
    exact ⟨_,_,rfl,H66.weaken (List.nil_sublist _)⟩
   replace h:=jW h
   refine ae.jX (ins:=[.box b1 [(.d (.sl ((a2.state).map (D.int .i64)) false)),(.d (.sl ((a2.params).map aD) false)),(.d (.int .i64 (IntKind.wrap .i64 (a2.steps + 1))))]]) (more:=[.box b4 [(.d (.int .i64 a3.Kind)),(.d (.int .i64 a3.N)),(.d (.str a3.Tag)),(.d (.str a3.Text)),(.d (.sl ((a3.aL).map ax) false)),(.d (.sl ((a3.Kids).map aH) false))]]) (H61.sl [0,1] rfl rfl) rfl (aC rfl rfl) (dx E (bJ n) ih n _ _ _ hzz63 b1) (.cons (.refl _) (.cons (.refl _) .nil)) rfl ?_
   rintro _ S67 _ ⟨rfl,rfl⟩ H68
   replace H68:Has B0 S67 [.box b1 [(.d (.sl ((x64.2.state).map (D.int .i64)) false)),(.d (.sl ((x64.2.params).map aD) false)),(.d (.int .i64 x64.2.steps))],.box b4 [(.d (.int .i64 a3.Kind)),(.d (.int .i64 a3.N)),(.d (.str a3.Tag)),(.d (.str a3.Text)),(.d (.sl ((a3.aL).map ax) false)),(.d (.sl ((a3.Kids).map aH) false))]]:=H68
   refine ae.val rfl (aj rfl) rfl ?_
   refine ae.nil ?_
   have hr:=Option.some.inj h
   subst hr
   exact ay.ret ⟨_,rfl,rfl,_,_,_,.refl _,(.refl _),⟨rfl,rfl⟩,H68.sl [0] rfl rfl⟩
  replace h:=dm hb55 h
  refine ay.seq ?_
  refine ay.region E.obj rfl ?_
  refine ae.val rfl (az rfl rfl bH) rfl ?_
  refine ae.val rfl (aj rfl) rfl ?_
  refine ae.nil ?_
  refine ay.cond rfl (fun hb69=>?_) (fun hb69=>?_)
  ·
   replace h:=dn hb69 h
   refine ay.seq ?_
   refine ay.region E.obj rfl ?_
   refine ae.val rfl (ah rfl) rfl ?_
   refine ae.val rfl (au H16 (i:=0) rfl rfl (bq j4 iq rfl)) rfl ?_
   refine ae.less (Less.agg' (d:=aH a3) (ak.eq rfl (ak.eq rfl (ak.eq rfl (ak.eq rfl (ak.eq rfl (ak.eq rfl .nil)))))) ((aY.eq _).trans rfl)) ?_
   obtain ⟨z70,hzz70,h⟩:=bind_some h
   rcases z70 with _ | x71
   ·
    replace h:=jY h
    subst h
    refine ae.thrown (ins:=[.box b1 [(.d (.sl ((a2.state).map (D.int .i64)) false)),(.d (.sl ((a2.params).map aD) false)),(.d (.int .i64 (IntKind.wrap .i64 (a2.steps + 1))))]]) (more:=[.box b4 [(.d (.int .i64 a3.Kind)),(.d (.int .i64 a3.N)),(.d (.str a3.Tag)),(.d (.str a3.Text)),(.d (.sl ((a3.aL).map ax) false)),(.d (.sl ((a3.Kids).map aH) false))]]) rfl (H16.sl [1,0] rfl rfl) rfl (aC rfl rfl) (jB E (bJ n) ih n _ _ _ hzz70 b1) (.cons (.refl _) (.cons (.refl _) .nil)) (fun _ _ S72 H73=>?_)
    exact ⟨_,_,rfl,H73.weaken (List.nil_sublist _)⟩
   replace h:=jW h
   refine ae.jX (ins:=[.box b1 [(.d (.sl ((a2.state).map (D.int .i64)) false)),(.d (.sl ((a2.params).map aD) false)),(.d (.int .i64 (IntKind.wrap .i64 (a2.steps + 1))))]]) (more:=[.box b4 [(.d (.int .i64 a3.Kind)),(.d (.int .i64 a3.N)),(.d (.str a3.Tag)),(.d (.str a3.Text)),(.d (.sl ((a3.aL).map ax) false)),(.d (.sl ((a3.Kids).map aH) false))]]) (H16.sl [1,0] rfl rfl) rfl (aC rfl rfl) (jB E (bJ n) ih n _ _ _ hzz70 b1) (.cons (.refl _) (.cons (.refl _) .nil)) rfl ?_
   rintro _ S74 _ ⟨rfl,rfl⟩ H75
   replace H75:Has B0 S74 [.box b1 [(.d (.sl ((x71.2.state).map (D.int .i64)) false)),(.d (.sl ((x71.2.params).map aD) false)),(.d (.int .i64 x71.2.steps))],.box b4 [(.d (.int .i64 a3.Kind)),(.d (.int .i64 a3.N)),(.d (.str a3.Tag)),(.d (.str a3.Text)),(.d (.sl ((a3.aL).map ax) false)),(.d (.sl ((a3.Kids).map aH) false))]]:=H75
   refine ae.val rfl (aj rfl) rfl ?_
   refine ae.nil ?_
   have hr:=Option.some.inj h
   subst hr
   exact ay.ret ⟨_,rfl,rfl,_,_,_,.refl _,(.refl _),⟨rfl,rfl⟩,H75.sl [0] rfl rfl⟩
  replace h:=dm hb69 h
  refine ay.skip ?_
  refine ay.seq ?_
  refine ay.region E.obj rfl ?_
  refine ae.val rfl (ai rfl fE nK rfl) rfl ?_
  refine ae.val rfl (au H16 (i:=0) rfl rfl (aA mE rfl)) rfl ?_
  refine ae.val rfl (az rfl rfl bH) rfl ?_
  refine ae.val rfl (ai rfl fE nK rfl) rfl ?_
  refine ae.val rfl (au H16 (i:=0) rfl rfl (aA mE rfl)) rfl ?_
  obtain ⟨z76,hzz76,h⟩:=bind_some h
  rcases z76 with _ | x77
  ·
   replace h:=jY h
   subst h
   refine ae.thrown (ins:=[]) (more:=[.box b4 [(.d (.int .i64 a3.Kind)),(.d (.int .i64 a3.N)),(.d (.str a3.Tag)),(.d (.str a3.Text)),(.d (.sl ((a3.aL).map ax) false)),(.d (.sl ((a3.Kids).map aH) false))],.box b1 [(.d (.sl ((a2.state).map (D.int .i64)) false)),(.d (.sl ((a2.params).map aD) false)),(.d (.int .i64 (IntKind.wrap .i64 (a2.steps + 1))))]]) rfl (H16.sl [0,1] rfl rfl) rfl (aC rfl rfl) (bQ E n _ _ _ _ hzz76 ) (.cons (.refl _) (.cons (.refl _) (.cons (.refl _) .nil))) (fun _ _ S78 H79=>?_)
   exact ⟨_,_,rfl,H79.weaken (List.nil_sublist _)⟩
  replace h:=jW h
  refine ae.jX (ins:=[]) (more:=[.box b4 [(.d (.int .i64 a3.Kind)),(.d (.int .i64 a3.N)),(.d (.str a3.Tag)),(.d (.str a3.Text)),(.d (.sl ((a3.aL).map ax) false)),(.d (.sl ((a3.Kids).map aH) false))],.box b1 [(.d (.sl ((a2.state).map (D.int .i64)) false)),(.d (.sl ((a2.params).map aD) false)),(.d (.int .i64 (IntKind.wrap .i64 (a2.steps + 1))))]]) (H16.sl [0,1] rfl rfl) rfl (aC rfl rfl) (bQ E n _ _ _ _ hzz76 ) (.cons (.refl _) (.cons (.refl _) (.cons (.refl _) .nil))) rfl ?_
  rintro _ S80 _ ⟨rfl,rfl⟩ H81
  replace H81:Has B0 S80 [.box b4 [(.d (.int .i64 a3.Kind)),(.d (.int .i64 a3.N)),(.d (.str a3.Tag)),(.d (.str a3.Text)),(.d (.sl ((a3.aL).map ax) false)),(.d (.sl ((a3.Kids).map aH) false))],.box b1 [(.d (.sl ((a2.state).map (D.int .i64)) false)),(.d (.sl ((a2.params).map aD) false)),(.d (.int .i64 (IntKind.wrap .i64 (a2.steps + 1))))]]:=H81
  refine ae.nil ?_
  refine ay.seq ?_
  refine ay.region E.obj rfl ?_
  refine ae.val rfl (bG (cs:=[(.d (.str [111,117,116,108,101,116])),(.d (.str [])),(.d (.str [])),(.d .aT),(.d .aT)]) gH rfl (bP) (dz rfl rfl rfl rfl rfl)) rfl ?_
  refine ae.less (Less.agg' (d:=av (Tree.mk [111,117,116,108,101,116] [] [] [] [])) (ak.eq rfl (ak.eq rfl (ak.eq rfl (ak.bY rfl (.aT false) rfl rfl (ak.bY rfl (.aT false) rfl rfl .nil))))) ((Tree.eq _).trans rfl)) ?_
  refine ae.val rfl (aW (vs:=[(.d (av (Tree.mk [111,117,116,108,101,116] [] [] [] [])))]) (ds:=[(av (Tree.mk [111,117,116,108,101,116] [] [] [] []))]) qa jH gm gH di rfl (by decide) (.cons rfl (Tree.len _) .nil) rfl (by intro d hd; simp only [List.mem_cons,List.not_mem_nil,or_false] at hd; rcases hd with rfl <;> exact Tree.agg _) rfl) rfl ?_
  refine ae.val rfl (aj rfl) rfl ?_
  refine ae.nil ?_
  have hr:=Option.some.inj h
  subst hr
  exact ay.ret ⟨_,rfl,rfl,_,_,_,.refl _,wJ,⟨rfl,rfl⟩,H81.sl [1] rfl rfl⟩
set_option maxRecDepth 20000 in
set_option maxHeartbeats 4000000 in
theorem ng (n:Nat) (a2:aF) (a5:aY) (a7:Tree) (r:(Option (aF × Tree))) (h:iX n a2 a5 a7=some r) (b1:Nat) (b3:Nat) (b4:Nat) (b6:Nat):dW R cfg.P 70 30 [.ptr b1 0 0,.ptr b4 0 0,.ptr b6 0 0] [.box b1 [(.ptr b3 0 0)],.box b3 [(.d (.sl ((a2.state).map (D.int .i64)) false)),(.d (.sl ((a2.params).map aD) false)),(.d (.int .i64 a2.steps))],.box b4 [(.d (.int .i64 a5.Kind)),(.d (.int .i64 a5.N)),(.d (.str a5.Tag)),(.d (.str a5.Text)),(.d (.sl ((a5.aL).map ax) false)),(.d (.sl ((a5.Kids).map aH) false))],.box b6 [(.d (.str a7.Tag)),(.d (.str a7.Key)),(.d (.str a7.Text)),(.d (.sl ((a7.aL).map ax) false)),(.d (.sl ((a7.Kids).map av) false))]] r (fun r v l=>v=.tup []∧l=[.box b1 [.ptr b3 0 0],.box b3 [.d (.sl ((r.1.state).map (D.int .i64)) false),.d (.sl ((r.1.params).map aD) false),.d (.int .i64 r.1.steps)],.box b4 [.d (.int .i64 a5.Kind),.d (.int .i64 a5.N),.d (.str a5.Tag),.d (.str a5.Text),.d (.sl ((a5.aL).map ax) false),.d (.sl ((a5.Kids).map aH) false)],.box b6 [.d (.str r.2.Tag),.d (.str r.2.Key),.d (.str r.2.Text),.d (.sl ((r.2.aL).map ax) false),.d (.sl ((r.2.Kids).map av) false)]]):=by
 unfold iX at h
 refine dW.of_wp (C:=cfg) Tryd.func30 rfl zF rfl (fun B0 S0 H0=>?_)
 replace H0:Has B0 S0 [.box b1 [(.ptr b3 0 0)],.box b3 [(.d (.sl ((a2.state).map (D.int .i64)) false)),(.d (.sl ((a2.params).map aD) false)),(.d (.int .i64 a2.steps))],.box b4 [(.d (.int .i64 a5.Kind)),(.d (.int .i64 a5.N)),(.d (.str a5.Tag)),(.d (.str a5.Text)),(.d (.sl ((a5.aL).map ax) false)),(.d (.sl ((a5.Kids).map aH) false))],.box b6 [(.d (.str a7.Tag)),(.d (.str a7.Key)),(.d (.str a7.Text)),(.d (.sl ((a7.aL).map ax) false)),(.d (.sl ((a7.Kids).map av) false))]]:=H0
 refine ay.seq ?_
 refine ay.region E.obj rfl ?_
 refine ae.val rfl (au H0 (i:=0) rfl rfl (aA zQ rfl)) rfl ?_
 refine ae.val rfl (au H0 (i:=2) rfl rfl (bq j4 iq rfl)) rfl ?_
 refine ae.less (Less.agg' (d:=aH a5) (ak.eq rfl (ak.eq rfl (ak.eq rfl (ak.eq rfl (ak.eq rfl (ak.eq rfl .nil)))))) ((aY.eq _).trans rfl)) ?_
 obtain ⟨z8,hzz8,h⟩:=bind_some h
 rcases z8 with _ | x9
 ·
  replace h:=jY h
  subst h
  refine ae.thrown (ins:=[.box b3 [(.d (.sl ((a2.state).map (D.int .i64)) false)),(.d (.sl ((a2.params).map aD) false)),(.d (.int .i64 a2.steps))]]) (more:=[.box b1 [(.ptr b3 0 0)],.box b4 [(.d (.int .i64 a5.Kind)),(.d (.int .i64 a5.N)),(.d (.str a5.Tag)),(.d (.str a5.Text)),(.d (.sl ((a5.aL).map ax) false)),(.d (.sl ((a5.Kids).map aH) false))],.box b6 [(.d (.str a7.Tag)),(.d (.str a7.Key)),(.d (.str a7.Text)),(.d (.sl ((a7.aL).map ax) false)),(.d (.sl ((a7.Kids).map av) false))]]) rfl (H0.sl [1,0,2,3] rfl rfl) rfl (aC rfl rfl) (gY E n _ _ _ hzz8 b3) (.cons (.refl _) (.cons (.refl _) .nil)) (fun _ _ S10 H11=>?_)
  exact ⟨_,_,rfl,H11.weaken (List.nil_sublist _)⟩
 replace h:=jW h
 refine ae.jX (ins:=[.box b3 [(.d (.sl ((a2.state).map (D.int .i64)) false)),(.d (.sl ((a2.params).map aD) false)),(.d (.int .i64 a2.steps))]]) (more:=[.box b1 [(.ptr b3 0 0)],.box b4 [(.d (.int .i64 a5.Kind)),(.d (.int .i64 a5.N)),(.d (.str a5.Tag)),(.d (.str a5.Text)),(.d (.sl ((a5.aL).map ax) false)),(.d (.sl ((a5.Kids).map aH) false))],.box b6 [(.d (.str a7.Tag)),(.d (.str a7.Key)),(.d (.str a7.Text)),(.d (.sl ((a7.aL).map ax) false)),(.d (.sl ((a7.Kids).map av) false))]]) (H0.sl [1,0,2,3] rfl rfl) rfl (aC rfl rfl) (gY E n _ _ _ hzz8 b3) (.cons (.refl _) (.cons (.refl _) .nil)) rfl ?_
 rintro _ S12 _ ⟨rfl,rfl⟩ H13
 replace H13:Has B0 S12 [.box b3 [(.d (.sl ((x9.2.state).map (D.int .i64)) false)),(.d (.sl ((x9.2.params).map aD) false)),(.d (.int .i64 x9.2.steps))],.box b1 [(.ptr b3 0 0)],.box b4 [(.d (.int .i64 a5.Kind)),(.d (.int .i64 a5.N)),(.d (.str a5.Tag)),(.d (.str a5.Text)),(.d (.sl ((a5.aL).map ax) false)),(.d (.sl ((a5.Kids).map aH) false))],.box b6 [(.d (.str a7.Tag)),(.d (.str a7.Key)),(.d (.str a7.Text)),(.d (.sl ((a7.aL).map ax) false)),(.d (.sl ((a7.Kids).map av) false))]]:=H13
 refine ae.val rfl (aj rfl) rfl ?_
 refine ae.nil ?_
 refine ay.seq ?_
 refine ay.region E.obj rfl ?_
 refine ae.val rfl (ah rfl) rfl ?_
 refine ae.val rfl (aZ rfl pR) rfl ?_
 refine ae.val rfl (az rfl rfl bH) rfl ?_
 refine ae.val rfl (ah rfl) rfl ?_
 obtain ⟨z15,hzz15,h⟩:=bind_some h
 refine ae.bz 6 16 (.d (.bool z15)) ?_ ?_
 ·
  rcases Bool.eq_false_or_eq_true ((((x9.1).length:Int) == 1)) with hB14 | hB14
  ·
   refine ae.bool hB14 ?_
   replace hzz15:=dn hB14 hzz15
   refine ae.val rfl (ah rfl) rfl ?_
   obtain ⟨z16,hzz16,hzz15⟩:=bind_some hzz15
   refine ae.val rfl (bU rfl rfl (dC (enc:=av) hzz16 jH jV ((Tree.len _).trans di.symm))) rfl ?_
   refine ae.val rfl (nS rfl ll lK rfl) rfl ?_
   refine ae.val rfl (bC rfl (by rw [Tree.cells]; exact qF lU rfl)) rfl ?_
   refine ae.val rfl (az rfl rfl gy) rfl ?_
   refine ae.val rfl (aB (b:=true) rfl rfl) rfl ?_
   cases hzz15
   exact ae.nil ⟨_,rfl,(aa.put (aa.push rfl (aa.push rfl (aa.push rfl (aa.push rfl (aa.push rfl (aa.put (.refl _) (Less.eq (by rw [hB14])))))))) (.refl _))⟩
  refine ae.bool hB14 ?_
  refine ae.no rfl rfl ?_
  refine ae.no rfl rfl ?_
  refine ae.no rfl rfl ?_
  refine ae.no rfl rfl ?_
  refine ae.no rfl rfl ?_
  refine ae.val rfl (aB (b:=false) rfl rfl) rfl ?_
  replace hzz15:=dm hB14 hzz15
  cases hzz15
  exact ae.nil ⟨_,rfl,(aa.put (aa.push rfl (aa.push rfl (aa.push rfl (aa.push rfl (aa.push rfl (aa.put (.refl _) (Less.eq (by rw [hB14])))))))) (.refl _))⟩
 refine ae.val rfl (ah rfl) rfl ?_
 obtain ⟨z18,hzz18,h⟩:=bind_some h
 refine ae.bz 5 22 (.d (.bool z18)) ?_ ?_
 ·
  rcases Bool.eq_false_or_eq_true (z15) with hB17 | hB17
  ·
   refine ae.bool hB17 ?_
   replace hzz18:=dn hB17 hzz18
   refine ae.val rfl (ah rfl) rfl ?_
   obtain ⟨z19,hzz19,hzz18⟩:=bind_some hzz18
   refine ae.val rfl (bU rfl rfl (dC (enc:=av) hzz19 jH jV ((Tree.len _).trans di.symm))) rfl ?_
   refine ae.val rfl (bC rfl (Tree.fV gm di)) rfl ?_
   obtain ⟨z20,hzz20,hzz18⟩:=bind_some hzz18
   refine ae.ret rfl (aC rfl rfl) (pJ E _ _ _ hzz20 _ _ (aM.eq .nil)) rfl ?_
   refine ae.val rfl (aB (b:=true) rfl rfl) rfl ?_
   cases hzz18
   exact ae.nil ⟨_,rfl,(aa.put (aa.push rfl (aa.push rfl (aa.push rfl (aa.push rfl (aa.put (.refl _) (Less.eq (by rw [hB17]))))))) (.refl _))⟩
  refine ae.bool hB17 ?_
  refine ae.no rfl rfl ?_
  refine ae.no rfl rfl ?_
  refine ae.no rfl rfl ?_
  refine ae.no rfl rfl ?_
  refine ae.val rfl (aB (b:=false) rfl rfl) rfl ?_
  replace hzz18:=dm hB17 hzz18
  cases hzz18
  exact ae.nil ⟨_,rfl,(aa.put (aa.push rfl (aa.push rfl (aa.push rfl (aa.push rfl (aa.put (.refl _) (Less.eq (by rw [hB17]))))))) (.refl _))⟩
 refine ae.val rfl (ah rfl) rfl ?_
 refine ae.val rfl (aZ rfl pR) rfl ?_
 obtain ⟨z21,hzz21,h⟩:=bind_some h
 rcases z21 with _ | x22
 ·
  replace h:=jY h
  subst h
  refine ae.thrown (ins:=[]) (more:=[.box b3 [(.d (.sl ((x9.2.state).map (D.int .i64)) false)),(.d (.sl ((x9.2.params).map aD) false)),(.d (.int .i64 x9.2.steps))],.box b1 [(.ptr b3 0 0)],.box b4 [(.d (.int .i64 a5.Kind)),(.d (.int .i64 a5.N)),(.d (.str a5.Tag)),(.d (.str a5.Text)),(.d (.sl ((a5.aL).map ax) false)),(.d (.sl ((a5.Kids).map aH) false))],.box b6 [(.d (.str a7.Tag)),(.d (.str a7.Key)),(.d (.str a7.Text)),(.d (.sl ((a7.aL).map ax) false)),(.d (.sl ((a7.Kids).map av) false))]]) rfl (H13.sl [0,1,2,3] rfl rfl) rfl (aC rfl rfl) (bQ E n _ _ _ _ hzz21 ) (.cons (.refl _) (.cons (.refl _) (.cons (.refl _) .nil))) (fun _ _ S23 H24=>?_)
  exact ⟨_,_,rfl,H24.weaken (List.nil_sublist _)⟩
 replace h:=jW h
 refine ae.jX (ins:=[]) (more:=[.box b3 [(.d (.sl ((x9.2.state).map (D.int .i64)) false)),(.d (.sl ((x9.2.params).map aD) false)),(.d (.int .i64 x9.2.steps))],.box b1 [(.ptr b3 0 0)],.box b4 [(.d (.int .i64 a5.Kind)),(.d (.int .i64 a5.N)),(.d (.str a5.Tag)),(.d (.str a5.Text)),(.d (.sl ((a5.aL).map ax) false)),(.d (.sl ((a5.Kids).map aH) false))],.box b6 [(.d (.str a7.Tag)),(.d (.str a7.Key)),(.d (.str a7.Text)),(.d (.sl ((a7.aL).map ax) false)),(.d (.sl ((a7.Kids).map av) false))]]) (H13.sl [0,1,2,3] rfl rfl) rfl (aC rfl rfl) (bQ E n _ _ _ _ hzz21 ) (.cons (.refl _) (.cons (.refl _) (.cons (.refl _) .nil))) rfl ?_
 rintro _ S25 _ ⟨rfl,rfl⟩ H26
 replace H26:Has B0 S25 [.box b3 [(.d (.sl ((x9.2.state).map (D.int .i64)) false)),(.d (.sl ((x9.2.params).map aD) false)),(.d (.int .i64 x9.2.steps))],.box b1 [(.ptr b3 0 0)],.box b4 [(.d (.int .i64 a5.Kind)),(.d (.int .i64 a5.N)),(.d (.str a5.Tag)),(.d (.str a5.Text)),(.d (.sl ((a5.aL).map ax) false)),(.d (.sl ((a5.Kids).map aH) false))],.box b6 [(.d (.str a7.Tag)),(.d (.str a7.Key)),(.d (.str a7.Text)),(.d (.sl ((a7.aL).map ax) false)),(.d (.sl ((a7.Kids).map av) false))]]:=H26
 refine ae.nil ?_
 refine ay.region E.obj rfl ?_
 refine ae.val rfl (ah rfl) rfl ?_
 obtain ⟨z27,hzz27,h⟩:=bind_some h
 refine ae.val rfl (bU rfl rfl (dC (enc:=av) hzz27 jH jV ((Tree.len _).trans di.symm))) rfl ?_
 refine ae.val rfl (bC rfl (Tree.fV gm di)) rfl ?_
 refine ae.store H26 (i:=3) rfl rfl rfl rfl (Tree.bB _) rfl di rfl jV rfl rfl rfl (fun S28 H29=>?_)
 refine ae.nil ?_
 have hr:=Option.some.inj h
 subst hr
 exact ⟨_,rfl,rfl,_,_,_,.refl _,(.refl _),⟨rfl,rfl⟩,H29.sl [1,0,2,3] rfl rfl⟩
set_option maxRecDepth 20000 in
set_option maxHeartbeats 4000000 in
theorem kF (n:Nat) (a1:aY) (a2:(List Int)) (a3:(List fM)) (r:(Tree × Int)) (h:iO n a1 a2 a3=some r):dB R cfg.P 9 [(aH a1),(.sl ((a2).map (D.int .i64)) false),(.sl ((a3).map aD) false)] (.tup [.d (av r.1),.d (.int .i64 r.2)]):=by
 unfold iO at h
 refine dB.of_wp E.obj.toObjOk (C:=cfg) Tryd.func9 rfl AO rfl ?_
 have H0:Has aO aO []:=Has.pure
 refine ay.seq ?_
 refine ay.region E.obj rfl ?_
 refine ae.box H0 rfl rfl rfl (aY.bB _) rfl (fun b4 S5 H6=>?_)
 refine ae.alloc H6 rfl tJ gH rfl rfl (fun b7 S8 H9=>?_)
 refine ae.val rfl (aj rfl) rfl ?_
 refine ae.nil ?_
 refine ay.seq ?_
 refine ay.region E.obj rfl ?_
 refine ae.alloc H9 rfl tJ gH rfl rfl (fun b10 S11 H12=>?_)
 refine ae.nil ?_
 refine ay.seq ?_
 refine ay.region E.obj rfl ?_
 refine ae.val rfl (ah rfl) rfl ?_
 refine ae.val rfl (ah rfl) rfl ?_
 refine ae.val rfl (bG (cs:=[(.d (.sl ((a2).map (D.int .i64)) false)),(.d (.sl ((a3).map aD) false)),(.d (.int .i64 0))]) zM rfl (ow) (dz rfl rfl rfl rfl (dz rfl rfl rfl rfl rfl))) rfl ?_
 refine ae.less (Less.agg' (d:=gT (aF.mk a2 a3 0)) (ak.eq rfl (ak.eq rfl (ak.eq rfl .nil))) ((aF.eq _).trans rfl)) ?_
 refine ae.box H12 rfl rfl rfl (aF.bB _) rfl (fun b13 S14 H15=>?_)
 refine ae.alloc H15 rfl zw zm rfl rfl (fun b16 S17 H18=>?_)
 refine ae.store H18 (i:=0) rfl rfl rfl rfl rfl rfl zD rfl zl rfl rfl rfl (fun S19 H20=>?_)
 refine ae.nil ?_
 refine ay.seq ?_
 obtain ⟨SC1,hwC1,HC1⟩:=H20.xz (i:=2) (cs':=[(.d (.str [])),(.d (.str [])),(.d (.str [])),(.d (.sl (([]).map ax) false)),(.d (.sl (([]).map av) false))]) rfl (.cons (.refl _) (.cons (.refl _) (.cons (.refl _) (.cons xZ (.cons xZ .nil)))))
 refine ay.dH hwC1 ?_
 refine ay.region E.obj rfl ?_
 refine ae.val rfl (jf rfl) rfl ?_
 obtain ⟨z21,hzz21,h⟩:=bind_some h
 refine ae.zG (ins:=[.box b16 [(.ptr b13 0 0)],.box b13 [(.d (.sl (((aF.mk a2 a3 0).state).map (D.int .i64)) false)),(.d (.sl (((aF.mk a2 a3 0).params).map aD) false)),(.d (.int .i64 (aF.mk a2 a3 0).steps))],.box b4 [(.d (.int .i64 a1.Kind)),(.d (.int .i64 a1.N)),(.d (.str a1.Tag)),(.d (.str a1.Text)),(.d (.sl ((a1.aL).map ax) false)),(.d (.sl ((a1.Kids).map aH) false))],.box b10 [(.d (.str [])),(.d (.str [])),(.d (.str [])),(.d (.sl (([]).map ax) false)),(.d (.sl (([]).map av) false))]]) (more:=[.box b7 [(.d (.str [])),(.d (.str [])),(.d (.str [])),(.d .aT),(.d .aT)]]) (HC1.sl [0,1,4,2,3] rfl rfl) rfl (aC rfl rfl) (sF E (ng E n _ _ _ _ hzz21 b16 b13 b4 b10)) (.cons (.refl _) .nil) rfl ?_
 rintro v22 S23 l24 hr25 H26
 rcases z21 with _ | x28
 ·
  obtain ⟨rfl,nt29,na30,hv27⟩:=hr25
  replace hv27:v22=.tup [.d (eu (bM.mk 6 nt29 na30)),.d (.bool false)]:=hv27
  subst hv27
  replace h:=zI h
  replace H26:Has aO S23 [.box b7 [(.d (.str [])),(.d (.str [])),(.d (.str [])),(.d .aT),(.d .aT)]]:=H26
  refine ae.val rfl (ah rfl) rfl ?_
  refine ae.val rfl (bD rfl rfl) rfl ?_
  refine ae.val rfl (bD rfl rfl) rfl ?_
  refine ae.alloc H26 rfl xn vg rfl rfl (fun b31 S32 H33=>?_)
  refine ae.store H33 (i:=0) rfl rfl rfl rfl (bM.bB _) rfl tX rfl wL rfl rfl rfl (fun S34 H35=>?_)
  refine ae.val rfl (aj rfl) rfl ?_
  refine ae.nil ?_
  refine ay.seq ?_
  refine ay.seq ?_
  refine ay.region E.obj rfl ?_
  refine ae.val rfl (ah rfl) rfl ?_
  refine ae.val rfl (dU rfl) rfl ?_
  refine ae.nil ?_
  refine ay.cond rfl (fun hb=>?_) (fun hb=>?_)
  ·
   refine ay.seq ?_
   refine ay.pE E.obj uG AJ [(6,none),(7,some 4)] (by kernel_rfl) [3] (by decide) [some (.d (av (Tree.mk [] [] [] [] []))),some (.ptr b31 0 0),some (.d (.int .i64 6)),none,none] ?_
   refine ⟨[0,1,2],by kernel_rfl,?_,_,_,rfl,rfl,.step ?_⟩
   ·
    refine .cons rfl rfl rfl (.step ?_) ?_
    ·
     refine ae.val rfl (bG (cs:=[(.d (.str [])),(.d (.str [])),(.d (.str [])),(.d .aT),(.d .aT)]) gH rfl (bP) rfl) rfl ?_
     refine ae.less (Less.agg' (d:=av (Tree.mk [] [] [] [] [])) (ak.eq rfl (ak.eq rfl (ak.eq rfl (ak.bY rfl (.aT false) rfl rfl (ak.bY rfl (.aT false) rfl rfl .nil))))) ((Tree.eq _).trans rfl)) ?_
     exact ae.nil ⟨_,_,rfl,fun _ ht=>by cases ht; exact ⟨rfl,.refl _⟩⟩
    refine .v rfl rfl rfl rfl (ai rfl wu yI rfl) ?_
    refine .v rfl rfl rfl rfl (au H35 (i:=0) rfl rfl (aA yC rfl)) ?_
    exact .nil
   refine ae.store H35 (i:=1) rfl rfl rfl rfl (Tree.bB _) rfl di rfl jV rfl rfl rfl (fun S38 H39=>?_)
   refine ae.nil ⟨_,.any,_,rfl,(fun _ ht=>by cases ht),_,(.o (.o (.o (.w .any (.w (.d (.int .i64 6)) .nil))))),(fun _ ht=>by cases ht),?_⟩
   refine ⟨[1,2,4],by kernel_rfl,?_,_,rfl,?_⟩
   ·
    refine .v rfl rfl rfl rfl (ai rfl wu yI rfl) ?_
    refine .v rfl rfl rfl rfl (au H39 (i:=0) rfl rfl (aA yC rfl)) ?_
    refine .v rfl rfl rfl rfl (aj rfl) ?_
    exact .nil
   have hr:=Option.some.inj h
   subst hr
   exact ay.ret ⟨_,nA H39 (i:=1) rfl rfl rfl (bq gm di rfl) rfl,rfl,xX (aM.seq (aM.sO (d:=av (Tree.mk [] [] [] [] [])) (ak.eq rfl (ak.eq rfl (ak.eq rfl (ak.eq rfl (ak.eq rfl .nil))))) ((Tree.eq _).trans rfl)) (aM.eq .nil))⟩
  cases hb
 obtain ⟨_,⟨rfl,rfl⟩,hv27⟩:=hr25
 replace hv27:v22=.tup [.d (eu (bM.mk 0 [] 0)),.d (.bool true)]:=hv27
 subst hv27
 replace h:=zL h
 replace H26:Has aO S23 [.box b16 [(.ptr b13 0 0)],.box b13 [(.d (.sl ((x28.1.state).map (D.int .i64)) false)),(.d (.sl ((x28.1.params).map aD) false)),(.d (.int .i64 x28.1.steps))],.box b4 [(.d (.int .i64 a1.Kind)),(.d (.int .i64 a1.N)),(.d (.str a1.Tag)),(.d (.str a1.Text)),(.d (.sl ((a1.aL).map ax) false)),(.d (.sl ((a1.Kids).map aH) false))],.box b10 [(.d (.str x28.2.Tag)),(.d (.str x28.2.Key)),(.d (.str x28.2.Text)),(.d (.sl ((x28.2.aL).map ax) false)),(.d (.sl ((x28.2.Kids).map av) false))],.box b7 [(.d (.str [])),(.d (.str [])),(.d (.str [])),(.d .aT),(.d .aT)]]:=H26
 refine ae.val rfl (ah rfl) rfl ?_
 refine ae.val rfl (bD rfl rfl) rfl ?_
 refine ae.val rfl (bD rfl rfl) rfl ?_
 refine ae.alloc H26 rfl xn vg rfl rfl (fun b40 S41 H42=>?_)
 refine ae.store H42 (i:=0) rfl rfl rfl rfl (bM.bB _) rfl tX rfl wL rfl rfl rfl (fun S43 H44=>?_)
 refine ae.val rfl (aj rfl) rfl ?_
 refine ae.nil ?_
 refine ay.seq ?_
 refine ay.seq ?_
 refine ay.region E.obj rfl ?_
 refine ae.val rfl (ah rfl) rfl ?_
 refine ae.val rfl (dU rfl) rfl ?_
 refine ae.nil ?_
 refine ay.cond rfl (fun hb=>?_) (fun hb=>?_)
 ·
  cases hb
 refine ay.skip ?_
 refine ay.seq ?_
 refine ay.region E.obj rfl ?_
 refine ae.val rfl (au H44 (i:=4) rfl rfl (bq gm di rfl)) rfl ?_
 refine ae.less (Less.agg' (d:=av x28.2) (ak.eq rfl (ak.eq rfl (ak.eq rfl (ak.eq rfl (ak.eq rfl .nil))))) ((Tree.eq _).trans rfl)) ?_
 refine ae.store H44 (i:=5) rfl rfl rfl rfl (Tree.bB _) rfl di rfl jV rfl rfl rfl (fun S45 H46=>?_)
 refine ae.val rfl (aj rfl) rfl ?_
 refine ae.nil ?_
 have hr:=Option.some.inj h
 subst hr
 exact ay.ret ⟨_,nA H46 (i:=5) rfl rfl rfl (bq gm di rfl) rfl,rfl,xX (aM.seq (aM.sO (d:=av x28.2) (ak.eq rfl (ak.eq rfl (ak.eq rfl (ak.eq rfl (ak.eq rfl .nil))))) ((Tree.eq _).trans rfl)) (aM.eq .nil))⟩
set_option maxRecDepth 20000 in
set_option maxHeartbeats 4000000 in
theorem gZ (n:Nat) (a1:(List Attr)) (a2:(List Attr)) (r:Bool) (h:dE n a1 a2=some r):dB R cfg.P 33 [(.sl ((a1).map ax) false),(.sl ((a2).map ax) false)] (.d (.bool r)):=by
 unfold dE at h
 refine dB.of_wp E.obj.toObjOk (C:=cfg) Tryd.func33 rfl zB rfl ?_
 have H0:Has aO aO []:=Has.pure
 refine ay.seq ?_
 refine ay.region E.obj rfl ?_
 refine ae.val rfl (aj rfl) rfl ?_
 refine ae.nil ?_
 refine ay.seq ?_
 refine ay.seq ?_
 refine ay.region E.obj rfl ?_
 refine ae.val rfl (ah rfl) rfl ?_
 refine ae.val rfl (aZ rfl vQ) rfl ?_
 refine ae.val rfl (ah rfl) rfl ?_
 refine ae.val rfl (aZ rfl vQ) rfl ?_
 refine ae.val rfl (az rfl rfl sZ) rfl ?_
 refine ae.nil ?_
 refine ay.cond rfl (fun hb3=>?_) (fun hb3=>?_)
 ·
  replace h:=dn hb3 h
  refine ay.seq ?_
  refine ay.region E.obj rfl ?_
  refine ae.val rfl (aj rfl) rfl ?_
  refine ae.nil ?_
  have hr:=Option.some.inj h
  subst hr
  exact ay.ret ⟨_,rfl,rfl,gp (aM.eq .nil)⟩
 replace h:=dm hb3 h
 refine ay.skip ?_
 refine ay.seq ?_
 refine ay.seq ?_
 refine ay.region E.obj rfl ?_
 refine ae.val rfl (aj rfl) rfl ?_
 refine ae.nil ?_
 refine ay.block ?_
 refine kS.start (B:=aO) (α:=Int) (fun k a=>aV a1 a2 k a=some r) (fun a=>[(0,(.d (.sl ((a1).map ax) false))),(1,(.d (.sl ((a2).map ax) false))),(5,(.d (.int .i64 a)))]) (fun a=>[]) ?_ ?_ n ⟨0,_,_,aO,.refl _ _,.refl _,(aa.r rfl (aa.r rfl (aa.r rfl aa.nil))),H0.sl [] rfl rfl,h⟩
 ·
  intro a h; simp [aV] at h
 intro k12 x11 S9 H10 h
 replace h:aV a1 a2 (k12 + 1) x11=some r:=h
 replace H10:Has aO S9 []:=H10
 unfold aV at h
 refine ay.seq ?_
 refine ay.seq ?_
 refine ay.region E.obj rfl ?_
 refine ae.val rfl (ah rfl) rfl ?_
 refine ae.val rfl (ah rfl) rfl ?_
 refine ae.val rfl (aZ rfl vQ) rfl ?_
 refine ae.val rfl (az rfl rfl dh) rfl ?_
 refine ae.nil ?_
 refine ay.cond rfl (fun hb13=>?_) (fun hb13=>?_)
 ·
  replace h:=dn hb13 h
  refine ay.skip ?_
  refine ay.seq ?_
  refine ay.block ?_
  refine ay.seq ?_
  obtain ⟨z14,hzz14,h⟩:=bind_some h
  obtain ⟨z15,hzz15,h⟩:=bind_some h
  refine ay.pE E.obj uG AB [(0,none),(1,none),(5,none),(25,some 8)] (by kernel_rfl) [] (by decide) [some (.d (.sl ((a1).map ax) false)),some (.d (.int .i64 x11)),some (.eptr (ax z14) 0),some (.d (ax z14)),some (.d (.sl ((a2).map ax) false)),some (.d (.int .i64 x11)),some (.eptr (ax z15) 0),some (.d (ax z15)),some (.d (.bool (!(Attr.beq z14 z15))))] ?_
  refine ⟨[0,1,2,3,4,5,6,7,8],by kernel_rfl,?_,_,rfl,?_⟩
  ·
   refine .v rfl rfl rfl rfl (ah rfl) ?_
   refine .v rfl rfl rfl rfl (ah rfl) ?_
   refine .v rfl rfl rfl rfl (bU rfl rfl (dC (enc:=ax) hzz14 ug vR ((Attr.len _).trans lY.symm))) ?_
   refine .v rfl rfl rfl rfl (bC rfl (Attr.fV xg lY)) ?_
   refine .v rfl rfl rfl rfl (ah rfl) ?_
   refine .v rfl rfl rfl rfl (ah rfl) ?_
   refine .v rfl rfl rfl rfl (bU rfl rfl (dC (enc:=ax) hzz15 ug vR ((Attr.len _).trans lY.symm))) ?_
   refine .v rfl rfl rfl rfl (bC rfl (Attr.fV xg lY)) ?_
   refine .v rfl rfl rfl rfl (az rfl rfl (uF (Attr.eq _) (Attr.eq _) (yV _ _))) ?_
   exact .nil
  refine ay.cond rfl (fun hb16=>?_) (fun hb16=>?_)
  ·
   replace h:=dn hb16 h
   refine ay.seq ?_
   refine ay.region E.obj rfl ?_
   refine ae.val rfl (aj rfl) rfl ?_
   refine ae.nil ?_
   have hr:=Option.some.inj h
   subst hr
   exact ay.ret ⟨_,rfl,rfl,gp (aM.eq .nil)⟩
  replace h:=dm hb16 h
  refine ay.skip ?_
  refine ay.region E.obj rfl ?_
  refine ae.val rfl (ah rfl) rfl ?_
  refine ae.val rfl (az rfl rfl bT) rfl ?_
  refine ae.val rfl (aj rfl) rfl ?_
  refine ae.nil ?_
  exact ⟨(IntKind.wrap .i64 (x11 + 1)),_,_,S9,.refl _ _,.refl _,(aa.r rfl (aa.r rfl (aa.r rfl aa.nil))),H10.sl [] rfl rfl,h⟩
 replace h:=dm hb13 h
 refine ay.exit ?_
 refine ay.seq ?_
 refine ay.region E.obj rfl ?_
 refine ae.val rfl (aj rfl) rfl ?_
 refine ae.nil ?_
 have hr:=Option.some.inj h
 subst hr
 exact ay.ret ⟨_,rfl,rfl,gp (aM.eq .nil)⟩
set_option maxRecDepth 20000 in
set_option maxHeartbeats 4000000 in
theorem gN:∀ (n:Nat) (a1:Tree) (a2:Tree) (r:Bool),bS n a1 a2=some r→dB R cfg.P 10 [(av a1),(av a2)] (.d (.bool r))
 | 0,a1,a2,r,h=>by simp [bS] at h
 | n + 1,a1,a2,r,h=>by
  have ih:=gN n
  unfold bS at h
  refine dB.of_wp E.obj.toObjOk (C:=cfg) Tryd.func10 rfl zT rfl ?_
  have H0:Has aO aO []:=Has.pure
  refine ay.seq ?_
  refine ay.region E.obj rfl ?_
  refine ae.box H0 rfl rfl rfl (Tree.bB _) rfl (fun b3 S4 H5=>?_)
  refine ae.box H5 rfl rfl rfl (Tree.bB _) rfl (fun b6 S7 H8=>?_)
  refine ae.val rfl (aj rfl) rfl ?_
  refine ae.nil ?_
  refine ay.seq ?_
  refine ay.seq ?_
  refine ay.region E.obj rfl ?_
  refine ae.val rfl (ai rfl ll lK rfl) rfl ?_
  refine ae.val rfl (au H8 (i:=1) rfl rfl (aA lU rfl)) rfl ?_
  refine ae.val rfl (ai rfl ll lK rfl) rfl ?_
  refine ae.val rfl (au H8 (i:=0) rfl rfl (aA lU rfl)) rfl ?_
  refine ae.val rfl (az rfl rfl gy) rfl ?_
  refine ae.val rfl (ah rfl) rfl ?_
  refine ae.bz 6 17 (.d (.bool ((!(a1.Tag == a2.Tag)) || (!(a1.Key == a2.Key))))) ?_ ?_
  ·
   rcases Bool.eq_false_or_eq_true ((!(a1.Tag == a2.Tag))) with hB9 | hB9
   ·
    refine ae.bool hB9 ?_
    refine ae.no rfl rfl ?_
    refine ae.no rfl rfl ?_
    refine ae.no rfl rfl ?_
    refine ae.no rfl rfl ?_
    refine ae.no rfl rfl ?_
    refine ae.val rfl (aB (b:=true) rfl rfl) rfl ?_
    exact ae.nil ⟨_,rfl,(aa.put (aa.push rfl (aa.push rfl (aa.push rfl (aa.push rfl (aa.push rfl (aa.put (.refl _) (Less.eq (by rw [hB9])))))))) (Less.eq (by rw [hB9]; rw [Bool.true_or])))⟩
   refine ae.bool hB9 ?_
   refine ae.val rfl (ai rfl oO lK rfl) rfl ?_
   refine ae.val rfl (au H8 (i:=1) rfl rfl (aA lU rfl)) rfl ?_
   refine ae.val rfl (ai rfl oO lK rfl) rfl ?_
   refine ae.val rfl (au H8 (i:=0) rfl rfl (aA lU rfl)) rfl ?_
   refine ae.val rfl (az rfl rfl gy) rfl ?_
   refine ae.val rfl (aB (b:=false) rfl rfl) rfl ?_
   exact ae.nil ⟨_,rfl,(aa.put (aa.push rfl (aa.push rfl (aa.push rfl (aa.push rfl (aa.push rfl (aa.put (.refl _) (Less.eq (by rw [hB9])))))))) (Less.eq (by rw [hB9]; rw [Bool.false_or])))⟩
  refine ae.val rfl (ah rfl) rfl ?_
  refine ae.bz 6 24 (.d (.bool (((!(a1.Tag == a2.Tag)) || (!(a1.Key == a2.Key))) || (!(a1.Text == a2.Text))))) ?_ ?_
  ·
   rcases Bool.eq_false_or_eq_true (((!(a1.Tag == a2.Tag)) || (!(a1.Key == a2.Key)))) with hB10 | hB10
   ·
    refine ae.bool hB10 ?_
    refine ae.no rfl rfl ?_
    refine ae.no rfl rfl ?_
    refine ae.no rfl rfl ?_
    refine ae.no rfl rfl ?_
    refine ae.no rfl rfl ?_
    refine ae.val rfl (aB (b:=true) rfl rfl) rfl ?_
    exact ae.nil ⟨_,rfl,(aa.put (aa.push rfl (aa.push rfl (aa.push rfl (aa.push rfl (aa.push rfl (aa.put (.refl _) (Less.eq (by rw [hB10])))))))) (Less.eq (by rw [hB10]; rw [Bool.true_or])))⟩
   refine ae.bool hB10 ?_
   refine ae.val rfl (ai rfl rU lK rfl) rfl ?_
   refine ae.val rfl (au H8 (i:=1) rfl rfl (aA lU rfl)) rfl ?_
   refine ae.val rfl (ai rfl rU lK rfl) rfl ?_
   refine ae.val rfl (au H8 (i:=0) rfl rfl (aA lU rfl)) rfl ?_
   refine ae.val rfl (az rfl rfl gy) rfl ?_
   refine ae.val rfl (aB (b:=false) rfl rfl) rfl ?_
   exact ae.nil ⟨_,rfl,(aa.put (aa.push rfl (aa.push rfl (aa.push rfl (aa.push rfl (aa.push rfl (aa.put (.refl _) (Less.eq (by rw [hB10])))))))) (Less.eq (by rw [hB10]; rw [Bool.false_or])))⟩
  refine ae.val rfl (ah rfl) rfl ?_
  obtain ⟨z12,hzz12,h⟩:=bind_some h
  refine ae.bz 7 32 (.d (.bool z12)) ?_ ?_
  ·
   rcases Bool.eq_false_or_eq_true ((((!(a1.Tag == a2.Tag)) || (!(a1.Key == a2.Key))) || (!(a1.Text == a2.Text)))) with hB11 | hB11
   ·
    refine ae.bool hB11 ?_
    refine ae.no rfl rfl ?_
    refine ae.no rfl rfl ?_
    refine ae.no rfl rfl ?_
    refine ae.no rfl rfl ?_
    refine ae.no rfl rfl ?_
    refine ae.no rfl rfl ?_
    refine ae.val rfl (aB (b:=true) rfl rfl) rfl ?_
    replace hzz12:=dn hB11 hzz12
    cases hzz12
    exact ae.nil ⟨_,rfl,(aa.put (aa.push rfl (aa.push rfl (aa.push rfl (aa.push rfl (aa.push rfl (aa.push rfl (aa.put (.refl _) (Less.eq (by rw [hB11]))))))))) (.refl _))⟩
   refine ae.bool hB11 ?_
   replace hzz12:=dm hB11 hzz12
   refine ae.val rfl (ai rfl oQ uw rfl) rfl ?_
   refine ae.val rfl (au H8 (i:=1) rfl rfl (aA uM rfl)) rfl ?_
   refine ae.val rfl (ai rfl oQ uw rfl) rfl ?_
   refine ae.val rfl (au H8 (i:=0) rfl rfl (aA uM rfl)) rfl ?_
   obtain ⟨z13,hzz13,hzz12⟩:=bind_some hzz12
   refine ae.ret rfl (aC rfl rfl) (gZ E _ _ _ _ hzz13 _ _ (aM.eq (aM.eq .nil))) rfl ?_
   refine ae.val rfl (dU rfl) rfl ?_
   refine ae.val rfl (aB (b:=false) rfl rfl) rfl ?_
   cases hzz12
   exact ae.nil ⟨_,rfl,(aa.put (aa.push rfl (aa.push rfl (aa.push rfl (aa.push rfl (aa.push rfl (aa.push rfl (aa.put (.refl _) (Less.eq (by rw [hB11]))))))))) (.refl _))⟩
  refine ae.val rfl (ah rfl) rfl ?_
  refine ae.bz 8 41 (.d (.bool (z12 || (((a1.Kids).length:Int) != ((a2.Kids).length:Int))))) ?_ ?_
  ·
   rcases Bool.eq_false_or_eq_true (z12) with hB14 | hB14
   ·
    refine ae.bool hB14 ?_
    refine ae.no rfl rfl ?_
    refine ae.no rfl rfl ?_
    refine ae.no rfl rfl ?_
    refine ae.no rfl rfl ?_
    refine ae.no rfl rfl ?_
    refine ae.no rfl rfl ?_
    refine ae.no rfl rfl ?_
    refine ae.val rfl (aB (b:=true) rfl rfl) rfl ?_
    exact ae.nil ⟨_,rfl,(aa.put (aa.push rfl (aa.push rfl (aa.push rfl (aa.push rfl (aa.push rfl (aa.push rfl (aa.push rfl (aa.put (.refl _) (Less.eq (by rw [hB14])))))))))) (Less.eq (by rw [hB14]; rw [Bool.true_or])))⟩
   refine ae.bool hB14 ?_
   refine ae.val rfl (ai rfl jk qh rfl) rfl ?_
   refine ae.val rfl (au H8 (i:=1) rfl rfl (aA p9 rfl)) rfl ?_
   refine ae.val rfl (aZ rfl pR) rfl ?_
   refine ae.val rfl (ai rfl jk qh rfl) rfl ?_
   refine ae.val rfl (au H8 (i:=0) rfl rfl (aA p9 rfl)) rfl ?_
   refine ae.val rfl (aZ rfl pR) rfl ?_
   refine ae.val rfl (az rfl rfl sZ) rfl ?_
   refine ae.val rfl (aB (b:=false) rfl rfl) rfl ?_
   exact ae.nil ⟨_,rfl,(aa.put (aa.push rfl (aa.push rfl (aa.push rfl (aa.push rfl (aa.push rfl (aa.push rfl (aa.push rfl (aa.put (.refl _) (Less.eq (by rw [hB14])))))))))) (Less.eq (by rw [hB14]; rw [Bool.false_or])))⟩
  refine ae.nil ?_
  refine ay.cond rfl (fun hb15=>?_) (fun hb15=>?_)
  ·
   replace h:=dn hb15 h
   refine ay.seq ?_
   refine ay.region E.obj rfl ?_
   refine ae.val rfl (aj rfl) rfl ?_
   refine ae.nil ?_
   have hr:=Option.some.inj h
   subst hr
   exact ay.ret ⟨_,rfl,rfl,gp (aM.eq .nil)⟩
  replace h:=dm hb15 h
  refine ay.skip ?_
  refine ay.seq ?_
  refine ay.seq ?_
  refine ay.region E.obj rfl ?_
  refine ae.val rfl (ai rfl jk qh rfl) rfl ?_
  refine ae.val rfl (au H8 (i:=1) rfl rfl (aA p9 rfl)) rfl ?_
  refine ae.val rfl (aZ rfl pR) rfl ?_
  refine ae.val rfl (ah rfl) rfl ?_
  refine ae.nil ?_
  refine ay.block ?_
  refine kS.start (B:=aO) (α:=Int) (fun k a=>bO (bS n) a1 a2 k a=some r) (fun a=>[(2,(.ptr b3 0 0)),(3,(.ptr b6 0 0)),(44,(.d (.int .i64 ((a1.Kids).length:Int)))),(45,(.d (.int .i64 a)))]) (fun a=>[.box b6 [(.d (.str a2.Tag)),(.d (.str a2.Key)),(.d (.str a2.Text)),(.d (.sl ((a2.aL).map ax) false)),(.d (.sl ((a2.Kids).map av) false))],.box b3 [(.d (.str a1.Tag)),(.d (.str a1.Key)),(.d (.str a1.Text)),(.d (.sl ((a1.aL).map ax) false)),(.d (.sl ((a1.Kids).map av) false))]]) ?_ ?_ n ⟨0,_,_,S7,.refl _ _,.refl _,(aa.r rfl (aa.r rfl (aa.r rfl (aa.r rfl aa.nil)))),H8.sl [0,1] rfl rfl,h⟩
  ·
   intro a h; simp [bO] at h
  intro k24 x23 S21 H22 h
  replace h:bO (bS n) a1 a2 (k24 + 1) x23=some r:=h
  replace H22:Has aO S21 [.box b6 [(.d (.str a2.Tag)),(.d (.str a2.Key)),(.d (.str a2.Text)),(.d (.sl ((a2.aL).map ax) false)),(.d (.sl ((a2.Kids).map av) false))],.box b3 [(.d (.str a1.Tag)),(.d (.str a1.Key)),(.d (.str a1.Text)),(.d (.sl ((a1.aL).map ax) false)),(.d (.sl ((a1.Kids).map av) false))]]:=H22
  unfold bO at h
  refine ay.seq ?_
  refine ay.region E.obj rfl ?_
  refine ae.val rfl (az rfl rfl dh) rfl ?_
  refine ae.nil ?_
  refine ay.seq ?_
  refine ay.cond rfl (fun hb25=>?_) (fun hb25=>?_)
  ·
   replace h:=dn hb25 h
   refine ay.skip ?_
   refine ay.seq ?_
   refine ay.block ?_
   refine ay.seq ?_
   refine ay.region E.obj rfl ?_
   refine ae.val rfl (ah rfl) rfl ?_
   refine ae.val rfl (aj rfl) rfl ?_
   refine ae.nil ?_
   refine ay.seq ?_
   obtain ⟨z26,hzz26,h⟩:=bind_some h
   obtain ⟨z27,hzz27,h⟩:=bind_some h
   obtain ⟨z28,hzz28,h⟩:=bind_some h
   refine ay.pE E.obj uG AR [(2,none),(3,none),(44,none),(45,none),(59,some 11)] (by kernel_rfl) [] (by decide) [some (.ptr b3 0 4),some (.d (.sl ((a1.Kids).map av) false)),some (.d (.int .i64 x23)),some (.eptr (av z26) 0),some (.d (av z26)),some (.ptr b6 0 4),some (.d (.sl ((a2.Kids).map av) false)),some (.d (.int .i64 x23)),some (.eptr (av z27) 0),some (.d (av z27)),some (.d (.bool z28)),some (.d (.bool (!z28)))] ?_
   refine ⟨[0,1,2,3,4,5,6,7,8,9,10,11],by kernel_rfl,?_,_,rfl,?_⟩
   ·
    refine .v rfl rfl rfl rfl (ai rfl jk qh rfl) ?_
    refine .v rfl rfl rfl rfl (au H22 (i:=1) rfl rfl (aA p9 rfl)) ?_
    refine .v rfl rfl rfl rfl (ah rfl) ?_
    refine .v rfl rfl rfl rfl (bU rfl rfl (dC (enc:=av) hzz26 jH jV ((Tree.len _).trans di.symm))) ?_
    refine .v rfl rfl rfl rfl (bC rfl (Tree.fV gm di)) ?_
    refine .v rfl rfl rfl rfl (ai rfl jk qh rfl) ?_
    refine .v rfl rfl rfl rfl (au H22 (i:=0) rfl rfl (aA p9 rfl)) ?_
    refine .v rfl rfl rfl rfl (ah rfl) ?_
    refine .v rfl rfl rfl rfl (bU rfl rfl (dC (enc:=av) hzz27 jH jV ((Tree.len _).trans di.symm))) ?_
    refine .v rfl rfl rfl rfl (bC rfl (Tree.fV gm di)) ?_
    refine .cons rfl rfl rfl (.step ?_) ?_
    ·
     refine ae.ret rfl (aC rfl rfl) (ih _ _ _ hzz28 _ _ (aM.eq (aM.eq .nil))) rfl ?_
     exact ae.nil ⟨_,_,rfl,fun _ ht=>by cases ht; exact ⟨rfl,.refl _⟩⟩
    refine .v rfl rfl rfl rfl (dU rfl) ?_
    exact .nil
   refine ay.cond rfl (fun hb29=>?_) (fun hb29=>?_)
   ·
    replace h:=dn hb29 h
    refine ay.seq ?_
    refine ay.region E.obj rfl ?_
    refine ae.val rfl (aj rfl) rfl ?_
    refine ae.nil ?_
    have hr:=Option.some.inj h
    subst hr
    exact ay.ret ⟨_,rfl,rfl,gp (aM.eq .nil)⟩
   replace h:=dm hb29 h
   refine ay.skip ?_
   refine ay.region E.obj rfl ?_
   refine ae.val rfl (az rfl rfl bT) rfl ?_
   refine ae.val rfl (ah rfl) rfl ?_
   refine ae.nil ?_
   exact ⟨(IntKind.wrap .i64 (x23 + 1)),_,_,S21,.refl _ _,.refl _,(aa.r rfl (aa.r rfl (aa.r rfl (aa.r rfl aa.nil)))),H22.sl [0,1] rfl rfl,h⟩
  replace h:=dm hb25 h
  refine ay.exit ?_
  refine ay.seq ?_
  refine ay.region E.obj rfl ?_
  refine ae.val rfl (aj rfl) rfl ?_
  refine ae.nil ?_
  have hr:=Option.some.inj h
  subst hr
  exact ay.ret ⟨_,rfl,rfl,gp (aM.eq .nil)⟩
set_option maxRecDepth 20000 in
set_option maxHeartbeats 4000000 in
theorem kU:∀ (n:Nat) (a1:aY) (r:(Int × Int)),fC n a1=some r→dB R cfg.P 34 [(aH a1)] (.tup [.d (.int .i64 r.1),.d (.int .i64 r.2)])
 | 0,a1,r,h=>by simp [fC] at h
 | n + 1,a1,r,h=>by
  have ih:=kU n
  unfold fC at h
  refine dB.of_wp E.obj.toObjOk (C:=cfg) Tryd.func34 rfl Al rfl ?_
  have H0:Has aO aO []:=Has.pure
  refine ay.seq ?_
  refine ay.region E.obj rfl ?_
  refine ae.box H0 rfl rfl rfl (aY.bB _) rfl (fun b2 S3 H4=>?_)
  refine ae.val rfl (aj rfl) rfl ?_
  refine ae.val rfl (aj rfl) rfl ?_
  refine ae.nil ?_
  refine ay.seq ?_
  refine ay.region E.obj rfl ?_
  refine ae.val rfl (aj rfl) rfl ?_
  refine ae.val rfl (aj rfl) rfl ?_
  refine ae.nil ?_
  refine ay.seq ?_
  refine ay.seq ?_
  refine ay.region E.obj rfl ?_
  refine ae.val rfl (ai rfl jN rA rfl) rfl ?_
  refine ae.val rfl (au H4 (i:=0) rfl rfl (aA qV rfl)) rfl ?_
  refine ae.val rfl (aZ rfl xm) rfl ?_
  refine ae.val rfl (ah rfl) rfl ?_
  refine ae.nil ?_
  refine ay.block ?_
  refine kS.start (B:=aO) (α:=Int × Int × Int) (fun k a=>dL (fC n) a1 k a.1 a.2.1 a.2.2=some r) (fun a=>[(4,(.d (.int .i64 a.1))),(5,(.d (.int .i64 a.2.1))),(11,(.d (.sl ((a1.Kids).map aH) false))),(12,(.d (.int .i64 ((a1.Kids).length:Int)))),(13,(.d (.int .i64 a.2.2)))]) (fun a=>[]) ?_ ?_ n ⟨⟨1,0,0⟩,_,_,S3,.refl _ _,.refl _,(aa.r rfl (aa.r rfl (aa.r rfl (aa.r rfl (aa.r rfl aa.nil))))),H4.sl [] rfl rfl,h⟩
  ·
   intro a h; simp [dL] at h
  intro k17 a S12 H13 h
  obtain ⟨x14,x15,x16⟩:=a
  replace h:dL (fC n) a1 (k17 + 1) x14 x15 x16=some r:=h
  replace H13:Has aO S12 []:=H13
  unfold dL at h
  refine ay.seq ?_
  refine ay.region E.obj rfl ?_
  refine ae.val rfl (az rfl rfl dh) rfl ?_
  refine ae.nil ?_
  refine ay.seq ?_
  refine ay.cond rfl (fun hb18=>?_) (fun hb18=>?_)
  ·
   replace h:=dn hb18 h
   refine ay.skip ?_
   refine ay.seq ?_
   refine ay.block ?_
   refine ay.seq ?_
   refine ay.region E.obj rfl ?_
   obtain ⟨z19,hzz19,h⟩:=bind_some h
   refine ae.val rfl (bU rfl rfl (dC (enc:=aH) hzz19 vG ui ((aY.len _).trans iq.symm))) rfl ?_
   refine ae.val rfl (bC rfl (aY.fV j4 iq)) rfl ?_
   refine ae.alloc H13 rfl xE pz rfl rfl (fun b20 S21 H22=>?_)
   refine ae.store H22 (i:=0) rfl rfl rfl rfl (aY.bB _) rfl iq rfl ui rfl rfl rfl (fun S23 H24=>?_)
   refine ae.nil ?_
   refine ay.seq ?_
   refine ay.region E.obj rfl ?_
   refine ae.val rfl (au H24 (i:=0) rfl rfl (bq j4 iq rfl)) rfl ?_
   refine ae.less (Less.agg' (d:=aH z19) (ak.eq rfl (ak.eq rfl (ak.eq rfl (ak.eq rfl (ak.eq rfl (ak.eq rfl .nil)))))) ((aY.eq _).trans rfl)) ?_
   obtain ⟨z25,hzz25,h⟩:=bind_some h
   refine ae.ret rfl (aC rfl rfl) (ih _ _ hzz25 _ _ (aM.eq .nil)) rfl ?_
   refine ae.val rfl (ah rfl) rfl ?_
   refine ae.val rfl (bD rfl rfl) rfl ?_
   refine ae.val rfl (bD rfl rfl) rfl ?_
   refine ae.val rfl (aj rfl) rfl ?_
   refine ae.val rfl (aj rfl) rfl ?_
   refine ae.nil ?_
   refine ay.region E.obj rfl ?_
   refine ae.val rfl (ah rfl) rfl ?_
   refine ae.val rfl (ah rfl) rfl ?_
   refine ae.val rfl (az rfl rfl bT) rfl ?_
   refine ae.val rfl (ah rfl) rfl ?_
   refine ae.val rfl (ah rfl) rfl ?_
   refine ae.val rfl (pF rfl rfl) rfl ?_
   refine ae.val rfl (aj rfl) rfl ?_
   refine ae.val rfl (aj rfl) rfl ?_
   refine ae.nil ?_
   refine ay.region E.obj rfl ?_
   refine ae.val rfl (az rfl rfl bT) rfl ?_
   refine ae.val rfl (ah rfl) rfl ?_
   refine ae.nil ?_
   exact ⟨⟨(IntKind.wrap .i64 (x14 + z25.1)),(q9 x15 z25.2),(IntKind.wrap .i64 (x16 + 1))⟩,_,_,S23,.refl _ _,.refl _,(aa.r rfl (aa.r rfl (aa.r rfl (aa.r rfl (aa.r rfl aa.nil))))),H24.sl [] rfl rfl,h⟩
  replace h:=dm hb18 h
  refine ay.exit ?_
  refine ay.seq ?_
  refine ay.region E.obj rfl ?_
  refine ae.val rfl (ah rfl) rfl ?_
  refine ae.val rfl (ah rfl) rfl ?_
  refine ae.val rfl (az rfl rfl bT) rfl ?_
  refine ae.val rfl (aj rfl) rfl ?_
  refine ae.val rfl (aj rfl) rfl ?_
  refine ae.nil ?_
  have hr:=Option.some.inj h
  subst hr
  exact ay.ret ⟨_,rfl,rfl,xX (vs:=[(.d (.int .i64 x14)),(.d (.int .i64 (IntKind.wrap .i64 (x15 + 1))))]) (ds:=[(.int .i64 x14),(.int .i64 (IntKind.wrap .i64 (x15 + 1)))]) (aM.eq (aM.eq .nil))⟩
set_option maxRecDepth 20000 in
set_option maxHeartbeats 4000000 in
theorem kY:∀ (n:Nat) (a1:aY) (a2:Int) (a3:Bool) (r:Bool),dJ n a1 a2 a3=some r→dB R cfg.P 35 [(aH a1),(.int .i64 a2),(.bool a3)] (.d (.bool r))
 | 0,a1,a2,a3,r,h=>by simp [dJ] at h
 | n + 1,a1,a2,a3,r,h=>by
  have ih:=kY n
  unfold dJ at h
  refine dB.of_wp E.obj.toObjOk (C:=cfg) Tryd.func35 rfl zS rfl ?_
  have H0:Has aO aO []:=Has.pure
  refine ay.seq ?_
  refine ay.region E.obj rfl ?_
  refine ae.box H0 rfl rfl rfl (aY.bB _) rfl (fun b4 S5 H6=>?_)
  refine ae.val rfl (aj rfl) rfl ?_
  refine ae.nil ?_
  refine ay.seq ?_
  refine ay.region E.obj rfl ?_
  refine ae.val rfl (ai rfl oM nK rfl) rfl ?_
  refine ae.val rfl (au H6 (i:=0) rfl rfl (aA mE rfl)) rfl ?_
  refine ae.val rfl (az rfl rfl oG) rfl ?_
  refine ae.val rfl (ah rfl) rfl ?_
  refine ae.bz 5 19 (.d (.bool ((decide (0 ≤ a1.N)) && (decide (a1.N < a2))))) ?_ ?_
  ·
   rcases Bool.eq_false_or_eq_true ((decide (0 ≤ a1.N))) with hB7 | hB7
   ·
    refine ae.bool hB7 ?_
    refine ae.val rfl (ai rfl oM nK rfl) rfl ?_
    refine ae.val rfl (au H6 (i:=0) rfl rfl (aA mE rfl)) rfl ?_
    refine ae.val rfl (ah rfl) rfl ?_
    refine ae.val rfl (az rfl rfl dh) rfl ?_
    refine ae.val rfl (aB (b:=true) rfl rfl) rfl ?_
    exact ae.nil ⟨_,rfl,(aa.put (aa.push rfl (aa.push rfl (aa.push rfl (aa.push rfl (aa.put (.refl _) (Less.eq (by rw [hB7]))))))) (Less.eq (by rw [hB7]; rw [Bool.true_and])))⟩
   refine ae.bool hB7 ?_
   refine ae.no rfl rfl ?_
   refine ae.no rfl rfl ?_
   refine ae.no rfl rfl ?_
   refine ae.no rfl rfl ?_
   refine ae.val rfl (aB (b:=false) rfl rfl) rfl ?_
   exact ae.nil ⟨_,rfl,(aa.put (aa.push rfl (aa.push rfl (aa.push rfl (aa.push rfl (aa.put (.refl _) (Less.eq (by rw [hB7]))))))) (Less.eq (by rw [hB7]; rw [Bool.false_and])))⟩
  refine ae.val rfl (aj rfl) rfl ?_
  refine ae.nil ?_
  refine ay.seq ?_
  refine ay.region E.obj rfl ?_
  refine ae.val rfl (ai rfl fE nK rfl) rfl ?_
  refine ae.val rfl (au H6 (i:=0) rfl rfl (aA mE rfl)) rfl ?_
  refine ae.val rfl (az rfl rfl bH) rfl ?_
  refine ae.val rfl (ah rfl) rfl ?_
  refine ae.bz 4 27 (.d (.bool ((a1.Kind == 1) || (a1.Kind == 5)))) ?_ ?_
  ·
   rcases Bool.eq_false_or_eq_true ((a1.Kind == 1)) with hB8 | hB8
   ·
    refine ae.bool hB8 ?_
    refine ae.no rfl rfl ?_
    refine ae.no rfl rfl ?_
    refine ae.no rfl rfl ?_
    refine ae.val rfl (aB (b:=true) rfl rfl) rfl ?_
    exact ae.nil ⟨_,rfl,(aa.put (aa.push rfl (aa.push rfl (aa.push rfl (aa.put (.refl _) (Less.eq (by rw [hB8])))))) (Less.eq (by rw [hB8]; rw [Bool.true_or])))⟩
   refine ae.bool hB8 ?_
   refine ae.val rfl (ai rfl fE nK rfl) rfl ?_
   refine ae.val rfl (au H6 (i:=0) rfl rfl (aA mE rfl)) rfl ?_
   refine ae.val rfl (az rfl rfl bH) rfl ?_
   refine ae.val rfl (aB (b:=false) rfl rfl) rfl ?_
   exact ae.nil ⟨_,rfl,(aa.put (aa.push rfl (aa.push rfl (aa.push rfl (aa.put (.refl _) (Less.eq (by rw [hB8])))))) (Less.eq (by rw [hB8]; rw [Bool.false_or])))⟩
  refine ae.val rfl (ah rfl) rfl ?_
  refine ae.bz 4 32 (.d (.bool (((a1.Kind == 1) || (a1.Kind == 5)) || (a1.Kind == 6)))) ?_ ?_
  ·
   rcases Bool.eq_false_or_eq_true (((a1.Kind == 1) || (a1.Kind == 5))) with hB9 | hB9
   ·
    refine ae.bool hB9 ?_
    refine ae.no rfl rfl ?_
    refine ae.no rfl rfl ?_
    refine ae.no rfl rfl ?_
    refine ae.val rfl (aB (b:=true) rfl rfl) rfl ?_
    exact ae.nil ⟨_,rfl,(aa.put (aa.push rfl (aa.push rfl (aa.push rfl (aa.put (.refl _) (Less.eq (by rw [hB9])))))) (Less.eq (by rw [hB9]; rw [Bool.true_or])))⟩
   refine ae.bool hB9 ?_
   refine ae.val rfl (ai rfl fE nK rfl) rfl ?_
   refine ae.val rfl (au H6 (i:=0) rfl rfl (aA mE rfl)) rfl ?_
   refine ae.val rfl (az rfl rfl bH) rfl ?_
   refine ae.val rfl (aB (b:=false) rfl rfl) rfl ?_
   exact ae.nil ⟨_,rfl,(aa.put (aa.push rfl (aa.push rfl (aa.push rfl (aa.put (.refl _) (Less.eq (by rw [hB9])))))) (Less.eq (by rw [hB9]; rw [Bool.false_or])))⟩
  refine ae.val rfl (aj rfl) rfl ?_
  refine ae.nil ?_
  refine ay.seq ?_
  refine ay.block ?_
  refine ay.seq ?_
  refine ay.region E.obj rfl ?_
  refine ae.val rfl (ai rfl fE nK rfl) rfl ?_
  refine ae.val rfl (au H6 (i:=0) rfl rfl (aA mE rfl)) rfl ?_
  refine ae.val rfl (az rfl rfl dh) rfl ?_
  refine ae.val rfl (ah rfl) rfl ?_
  refine ae.bz 4 41 (.d (.bool ((decide (a1.Kind < 1)) || (decide (7 < a1.Kind))))) ?_ ?_
  ·
   rcases Bool.eq_false_or_eq_true ((decide (a1.Kind < 1))) with hB10 | hB10
   ·
    refine ae.bool hB10 ?_
    refine ae.no rfl rfl ?_
    refine ae.no rfl rfl ?_
    refine ae.no rfl rfl ?_
    refine ae.val rfl (aB (b:=true) rfl rfl) rfl ?_
    exact ae.nil ⟨_,rfl,(aa.put (aa.push rfl (aa.push rfl (aa.push rfl (aa.put (.refl _) (Less.eq (by rw [hB10])))))) (Less.eq (by rw [hB10]; rw [Bool.true_or])))⟩
   refine ae.bool hB10 ?_
   refine ae.val rfl (ai rfl fE nK rfl) rfl ?_
   refine ae.val rfl (au H6 (i:=0) rfl rfl (aA mE rfl)) rfl ?_
   refine ae.val rfl (az rfl rfl iH) rfl ?_
   refine ae.val rfl (aB (b:=false) rfl rfl) rfl ?_
   exact ae.nil ⟨_,rfl,(aa.put (aa.push rfl (aa.push rfl (aa.push rfl (aa.put (.refl _) (Less.eq (by rw [hB10])))))) (Less.eq (by rw [hB10]; rw [Bool.false_or])))⟩
  refine ae.val rfl (ah rfl) rfl ?_
  refine ae.bz 9 51 (.d (.bool (((decide (a1.Kind < 1)) || (decide (7 < a1.Kind))) || ((!(((a1.Kind == 1) || (a1.Kind == 5)) || (a1.Kind == 6))) && (decide (0 < ((a1.Kids).length:Int))))))) ?_ ?_
  ·
   rcases Bool.eq_false_or_eq_true (((decide (a1.Kind < 1)) || (decide (7 < a1.Kind)))) with hB11 | hB11
   ·
    refine ae.bool hB11 ?_
    refine ae.no rfl rfl ?_
    refine ae.no rfl rfl ?_
    refine ae.no rfl rfl ?_
    refine ae.no rfl rfl ?_
    refine ae.no rfl rfl ?_
    refine ae.no rfl rfl ?_
    refine ae.no rfl rfl ?_
    refine ae.no rfl rfl ?_
    refine ae.val rfl (aB (b:=true) rfl rfl) rfl ?_
    exact ae.nil ⟨_,rfl,(aa.put (aa.push rfl (aa.push rfl (aa.push rfl (aa.push rfl (aa.push rfl (aa.push rfl (aa.push rfl (aa.push rfl (aa.put (.refl _) (Less.eq (by rw [hB11]))))))))))) (Less.eq (by rw [hB11]; rw [Bool.true_or])))⟩
   refine ae.bool hB11 ?_
   refine ae.val rfl (ah rfl) rfl ?_
   refine ae.val rfl (dU rfl) rfl ?_
   refine ae.val rfl (ah rfl) rfl ?_
   refine ae.bz 5 50 (.d (.bool ((!(((a1.Kind == 1) || (a1.Kind == 5)) || (a1.Kind == 6))) && (decide (0 < ((a1.Kids).length:Int)))))) ?_ ?_
   ·
    rcases Bool.eq_false_or_eq_true ((!(((a1.Kind == 1) || (a1.Kind == 5)) || (a1.Kind == 6)))) with hB12 | hB12
    ·
     refine ae.bool hB12 ?_
     refine ae.val rfl (ai rfl jN rA rfl) rfl ?_
     refine ae.val rfl (au H6 (i:=0) rfl rfl (aA qV rfl)) rfl ?_
     refine ae.val rfl (aZ rfl xm) rfl ?_
     refine ae.val rfl (az rfl rfl iH) rfl ?_
     refine ae.val rfl (aB (b:=true) rfl rfl) rfl ?_
     exact ae.nil ⟨_,rfl,(aa.put (aa.push rfl (aa.push rfl (aa.push rfl (aa.push rfl (aa.put (.refl _) (Less.eq (by rw [hB12]))))))) (Less.eq (by rw [hB12]; rw [Bool.true_and])))⟩
    refine ae.bool hB12 ?_
    refine ae.no rfl rfl ?_
    refine ae.no rfl rfl ?_
    refine ae.no rfl rfl ?_
    refine ae.no rfl rfl ?_
    refine ae.val rfl (aB (b:=false) rfl rfl) rfl ?_
    exact ae.nil ⟨_,rfl,(aa.put (aa.push rfl (aa.push rfl (aa.push rfl (aa.push rfl (aa.put (.refl _) (Less.eq (by rw [hB12]))))))) (Less.eq (by rw [hB12]; rw [Bool.false_and])))⟩
   refine ae.val rfl (aB (b:=false) rfl rfl) rfl ?_
   exact ae.nil ⟨_,rfl,(aa.put (aa.push rfl (aa.push rfl (aa.push rfl (aa.push rfl (aa.put (.refl _) (Less.eq (by rw [hB11]))))))) (Less.eq (by rw [hB11]; rw [Bool.false_or])))⟩
  refine ae.val rfl (aj rfl) rfl ?_
  refine ae.nil ?_
  refine ay.cond rfl (fun hb13=>?_) (fun hb13=>?_)
  ·
   replace h:=dn hb13 h
   refine ay.seq ?_
   refine ay.region E.obj rfl ?_
   refine ae.val rfl (aj rfl) rfl ?_
   refine ae.nil ?_
   have hr:=Option.some.inj h
   subst hr
   exact ay.ret ⟨_,rfl,rfl,gp (aM.eq .nil)⟩
  replace h:=dm hb13 h
  refine ay.join (B:=aO) (α:=Bool) (fun a=>eH n (dJ n) a1 a2 a3 a=some r) (fun a=>[(1,(.d (.int .i64 a2))),(2,(.d (.bool a3))),(3,(.ptr b4 0 0)),(7,(.d (.bool ((decide (0 ≤ a1.N)) && (decide (a1.N < a2)))))),(52,(.d (.bool a)))]) (fun a=>[.box b4 [(.d (.int .i64 a1.Kind)),(.d (.int .i64 a1.N)),(.d (.str a1.Tag)),(.d (.str a1.Text)),(.d (.sl ((a1.aL).map ax) false)),(.d (.sl ((a1.Kids).map aH) false))]]) ?_ ?_
  ·
   intro x16 S14 H15 h
   replace h:eH n (dJ n) a1 a2 a3 x16=some r:=h
   replace H15:Has aO S14 [.box b4 [(.d (.int .i64 a1.Kind)),(.d (.int .i64 a1.N)),(.d (.str a1.Tag)),(.d (.str a1.Text)),(.d (.sl ((a1.aL).map ax) false)),(.d (.sl ((a1.Kids).map aH) false))]]:=H15
   unfold eH at h
   refine ay.cond rfl (fun hb18=>?_) (fun hb18=>?_)
   ·
    replace h:=dn hb18 h
    refine ay.seq ?_
    refine ay.region E.obj rfl ?_
    refine ae.val rfl (aj rfl) rfl ?_
    refine ae.nil ?_
    have hr:=Option.some.inj h
    subst hr
    exact ay.ret ⟨_,rfl,rfl,gp (aM.eq .nil)⟩
   replace h:=dm hb18 h
   refine ay.seq ?_
   refine ay.region E.obj rfl ?_
   refine ae.val rfl (ai rfl fE nK rfl) rfl ?_
   refine ae.val rfl (au H15 (i:=0) rfl rfl (aA mE rfl)) rfl ?_
   refine ae.val rfl (az rfl rfl bH) rfl ?_
   refine ae.val rfl (ah rfl) rfl ?_
   refine ae.bz 4 70 (.d (.bool ((a1.Kind == 3) || (a1.Kind == 5)))) ?_ ?_
   ·
    rcases Bool.eq_false_or_eq_true ((a1.Kind == 3)) with hB19 | hB19
    ·
     refine ae.bool hB19 ?_
     refine ae.no rfl rfl ?_
     refine ae.no rfl rfl ?_
     refine ae.no rfl rfl ?_
     refine ae.val rfl (aB (b:=true) rfl rfl) rfl ?_
     exact ae.nil ⟨_,rfl,(aa.put (aa.push rfl (aa.push rfl (aa.push rfl (aa.put (.refl _) (Less.eq (by rw [hB19])))))) (Less.eq (by rw [hB19]; rw [Bool.true_or])))⟩
    refine ae.bool hB19 ?_
    refine ae.val rfl (ai rfl fE nK rfl) rfl ?_
    refine ae.val rfl (au H15 (i:=0) rfl rfl (aA mE rfl)) rfl ?_
    refine ae.val rfl (az rfl rfl bH) rfl ?_
    refine ae.val rfl (aB (b:=false) rfl rfl) rfl ?_
    exact ae.nil ⟨_,rfl,(aa.put (aa.push rfl (aa.push rfl (aa.push rfl (aa.put (.refl _) (Less.eq (by rw [hB19])))))) (Less.eq (by rw [hB19]; rw [Bool.false_or])))⟩
   refine ae.val rfl (ah rfl) rfl ?_
   refine ae.bz 4 75 (.d (.bool (((a1.Kind == 3) || (a1.Kind == 5)) || (a1.Kind == 6)))) ?_ ?_
   ·
    rcases Bool.eq_false_or_eq_true (((a1.Kind == 3) || (a1.Kind == 5))) with hB20 | hB20
    ·
     refine ae.bool hB20 ?_
     refine ae.no rfl rfl ?_
     refine ae.no rfl rfl ?_
     refine ae.no rfl rfl ?_
     refine ae.val rfl (aB (b:=true) rfl rfl) rfl ?_
     exact ae.nil ⟨_,rfl,(aa.put (aa.push rfl (aa.push rfl (aa.push rfl (aa.put (.refl _) (Less.eq (by rw [hB20])))))) (Less.eq (by rw [hB20]; rw [Bool.true_or])))⟩
    refine ae.bool hB20 ?_
    refine ae.val rfl (ai rfl fE nK rfl) rfl ?_
    refine ae.val rfl (au H15 (i:=0) rfl rfl (aA mE rfl)) rfl ?_
    refine ae.val rfl (az rfl rfl bH) rfl ?_
    refine ae.val rfl (aB (b:=false) rfl rfl) rfl ?_
    exact ae.nil ⟨_,rfl,(aa.put (aa.push rfl (aa.push rfl (aa.push rfl (aa.put (.refl _) (Less.eq (by rw [hB20])))))) (Less.eq (by rw [hB20]; rw [Bool.false_or])))⟩
   refine ae.val rfl (ah rfl) rfl ?_
   refine ae.bz 3 79 (.d (.bool ((((a1.Kind == 3) || (a1.Kind == 5)) || (a1.Kind == 6)) && (!((decide (0 ≤ a1.N)) && (decide (a1.N < a2))))))) ?_ ?_
   ·
    rcases Bool.eq_false_or_eq_true ((((a1.Kind == 3) || (a1.Kind == 5)) || (a1.Kind == 6))) with hB21 | hB21
    ·
     refine ae.bool hB21 ?_
     refine ae.val rfl (ah rfl) rfl ?_
     refine ae.val rfl (dU rfl) rfl ?_
     refine ae.val rfl (aB (b:=true) rfl rfl) rfl ?_
     exact ae.nil ⟨_,rfl,(aa.put (aa.push rfl (aa.push rfl (aa.put (.refl _) (Less.eq (by rw [hB21]))))) (Less.eq (by rw [hB21]; rw [Bool.true_and])))⟩
    refine ae.bool hB21 ?_
    refine ae.no rfl rfl ?_
    refine ae.no rfl rfl ?_
    refine ae.val rfl (aB (b:=false) rfl rfl) rfl ?_
    exact ae.nil ⟨_,rfl,(aa.put (aa.push rfl (aa.push rfl (aa.put (.refl _) (Less.eq (by rw [hB21]))))) (Less.eq (by rw [hB21]; rw [Bool.false_and])))⟩
   refine ae.val rfl (aj rfl) rfl ?_
   refine ae.nil ?_
   refine ay.cond rfl (fun hb22=>?_) (fun hb22=>?_)
   ·
    replace h:=dn hb22 h
    refine ay.seq ?_
    refine ay.region E.obj rfl ?_
    refine ae.val rfl (aj rfl) rfl ?_
    refine ae.nil ?_
    have hr:=Option.some.inj h
    subst hr
    exact ay.ret ⟨_,rfl,rfl,gp (aM.eq .nil)⟩
   replace h:=dm hb22 h
   refine ay.skip ?_
   refine ay.seq ?_
   refine ay.region E.obj rfl ?_
   refine ae.val rfl (ah rfl) rfl ?_
   refine ae.val rfl (ah rfl) rfl ?_
   refine ae.bz 4 85 (.d (.bool (a3 || (a1.Kind == 5)))) ?_ ?_
   ·
    rcases Bool.eq_false_or_eq_true (a3) with hB23 | hB23
    ·
     refine ae.bool hB23 ?_
     refine ae.no rfl rfl ?_
     refine ae.no rfl rfl ?_
     refine ae.no rfl rfl ?_
     refine ae.val rfl (aB (b:=true) rfl rfl) rfl ?_
     exact ae.nil ⟨_,rfl,(aa.put (aa.push rfl (aa.push rfl (aa.push rfl (aa.put (.refl _) (Less.eq (by rw [hB23])))))) (Less.eq (by rw [hB23]; rw [Bool.true_or])))⟩
    refine ae.bool hB23 ?_
    refine ae.val rfl (ai rfl fE nK rfl) rfl ?_
    refine ae.val rfl (au H15 (i:=0) rfl rfl (aA mE rfl)) rfl ?_
    refine ae.val rfl (az rfl rfl bH) rfl ?_
    refine ae.val rfl (aB (b:=false) rfl rfl) rfl ?_
    exact ae.nil ⟨_,rfl,(aa.put (aa.push rfl (aa.push rfl (aa.push rfl (aa.put (.refl _) (Less.eq (by rw [hB23])))))) (Less.eq (by rw [hB23]; rw [Bool.false_or])))⟩
   refine ae.val rfl (ah rfl) rfl ?_
   refine ae.bz 4 90 (.d (.bool ((a3 || (a1.Kind == 5)) || (a1.Kind == 6)))) ?_ ?_
   ·
    rcases Bool.eq_false_or_eq_true ((a3 || (a1.Kind == 5))) with hB24 | hB24
    ·
     refine ae.bool hB24 ?_
     refine ae.no rfl rfl ?_
     refine ae.no rfl rfl ?_
     refine ae.no rfl rfl ?_
     refine ae.val rfl (aB (b:=true) rfl rfl) rfl ?_
     exact ae.nil ⟨_,rfl,(aa.put (aa.push rfl (aa.push rfl (aa.push rfl (aa.put (.refl _) (Less.eq (by rw [hB24])))))) (Less.eq (by rw [hB24]; rw [Bool.true_or])))⟩
    refine ae.bool hB24 ?_
    refine ae.val rfl (ai rfl fE nK rfl) rfl ?_
    refine ae.val rfl (au H15 (i:=0) rfl rfl (aA mE rfl)) rfl ?_
    refine ae.val rfl (az rfl rfl bH) rfl ?_
    refine ae.val rfl (aB (b:=false) rfl rfl) rfl ?_
    exact ae.nil ⟨_,rfl,(aa.put (aa.push rfl (aa.push rfl (aa.push rfl (aa.put (.refl _) (Less.eq (by rw [hB24])))))) (Less.eq (by rw [hB24]; rw [Bool.false_or])))⟩
   refine ae.val rfl (aj rfl) rfl ?_
   refine ae.nil ?_
   refine ay.seq ?_
   refine ay.seq ?_
   refine ay.region E.obj rfl ?_
   refine ae.val rfl (ai rfl jN rA rfl) rfl ?_
   refine ae.val rfl (au H15 (i:=0) rfl rfl (aA qV rfl)) rfl ?_
   refine ae.val rfl (aZ rfl xm) rfl ?_
   refine ae.val rfl (ah rfl) rfl ?_
   refine ae.nil ?_
   refine ay.block ?_
   refine kS.start (B:=aO) (α:=Int) (fun k a=>dN (dJ n) a1 a2 a3 k a=some r) (fun a=>[(1,(.d (.int .i64 a2))),(2,(.d (.bool ((a3 || (a1.Kind == 5)) || (a1.Kind == 6))))),(92,(.d (.sl ((a1.Kids).map aH) false))),(93,(.d (.int .i64 ((a1.Kids).length:Int)))),(94,(.d (.int .i64 a)))]) (fun a=>[]) ?_ ?_ n ⟨0,_,_,S14,.refl _ _,.refl _,(aa.r rfl (aa.r rfl (aa.r rfl (aa.r rfl (aa.r rfl aa.nil))))),H15.sl [] rfl rfl,h⟩
   ·
    intro a h; simp [dN] at h
   intro k33 x32 S30 H31 h
   replace h:dN (dJ n) a1 a2 a3 (k33 + 1) x32=some r:=h
   replace H31:Has aO S30 []:=H31
   unfold dN at h
   refine ay.seq ?_
   refine ay.region E.obj rfl ?_
   refine ae.val rfl (az rfl rfl dh) rfl ?_
   refine ae.nil ?_
   refine ay.seq ?_
   refine ay.cond rfl (fun hb34=>?_) (fun hb34=>?_)
   ·
    replace h:=dn hb34 h
    refine ay.skip ?_
    refine ay.seq ?_
    refine ay.block ?_
    refine ay.seq ?_
    refine ay.region E.obj rfl ?_
    obtain ⟨z35,hzz35,h⟩:=bind_some h
    refine ae.val rfl (bU rfl rfl (dC (enc:=aH) hzz35 vG ui ((aY.len _).trans iq.symm))) rfl ?_
    refine ae.val rfl (bC rfl (aY.fV j4 iq)) rfl ?_
    refine ae.alloc H31 rfl xE pz rfl rfl (fun b36 S37 H38=>?_)
    refine ae.store H38 (i:=0) rfl rfl rfl rfl (aY.bB _) rfl iq rfl ui rfl rfl rfl (fun S39 H40=>?_)
    refine ae.nil ?_
    refine ay.seq ?_
    refine ay.region E.obj rfl ?_
    refine ae.val rfl (au H40 (i:=0) rfl rfl (bq j4 iq rfl)) rfl ?_
    refine ae.less (Less.agg' (d:=aH z35) (ak.eq rfl (ak.eq rfl (ak.eq rfl (ak.eq rfl (ak.eq rfl (ak.eq rfl .nil)))))) ((aY.eq _).trans rfl)) ?_
    refine ae.val rfl (ah rfl) rfl ?_
    refine ae.val rfl (ah rfl) rfl ?_
    obtain ⟨z41,hzz41,h⟩:=bind_some h
    refine ae.ret rfl (aC rfl rfl) (ih _ _ _ _ hzz41 _ _ (aM.eq (aM.eq (aM.eq .nil)))) rfl ?_
    refine ae.val rfl (dU rfl) rfl ?_
    refine ae.nil ?_
    refine ay.cond rfl (fun hb42=>?_) (fun hb42=>?_)
    ·
     replace h:=dn hb42 h
     refine ay.seq ?_
     refine ay.region E.obj rfl ?_
     refine ae.val rfl (aj rfl) rfl ?_
     refine ae.nil ?_
     have hr:=Option.some.inj h
     subst hr
     exact ay.ret ⟨_,rfl,rfl,gp (aM.eq .nil)⟩
    replace h:=dm hb42 h
    refine ay.skip ?_
    refine ay.region E.obj rfl ?_
    refine ae.val rfl (az rfl rfl bT) rfl ?_
    refine ae.val rfl (ah rfl) rfl ?_
    refine ae.nil ?_
    exact ⟨(IntKind.wrap .i64 (x32 + 1)),_,_,S39,.refl _ _,.refl _,(aa.r rfl (aa.r rfl (aa.r rfl (aa.r rfl (aa.r rfl aa.nil))))),H40.sl [] rfl rfl,h⟩
   replace h:=dm hb34 h
   refine ay.exit ?_
   refine ay.seq ?_
   refine ay.region E.obj rfl ?_
   refine ae.val rfl (aj rfl) rfl ?_
   refine ae.nil ?_
   have hr:=Option.some.inj h
   subst hr
   exact ay.ret ⟨_,rfl,rfl,gp (aM.eq .nil)⟩
  refine ay.seq ?_
  refine ay.region E.obj rfl ?_
  refine ae.val rfl (ai rfl mO lK rfl) rfl ?_
  refine ae.val rfl (au H6 (i:=0) rfl rfl (aA lU rfl)) rfl ?_
  refine ae.val rfl (az rfl rfl iw) rfl ?_
  refine ae.val rfl (aj rfl) rfl ?_
  refine ae.nil ?_
  refine ay.cond rfl (fun hb43=>?_) (fun hb43=>?_)
  ·
   replace h:=dn hb43 h
   refine ay.skip ?_
   exact ⟨(a1.Tag == [111,117,116,108,101,116]),_,_,S5,.refl _ _,.refl _,(aa.r rfl (aa.r rfl (aa.r rfl (aa.r rfl (aa.r rfl aa.nil))))),H6.sl [0] rfl rfl,h⟩
  replace h:=dm hb43 h
  refine ay.region E.obj rfl ?_
  refine ae.val rfl (ai rfl fE nK rfl) rfl ?_
  refine ae.val rfl (au H6 (i:=0) rfl rfl (aA mE rfl)) rfl ?_
  refine ae.val rfl (az rfl rfl bH) rfl ?_
  refine ae.val rfl (ah rfl) rfl ?_
  refine ae.bz 2 61 (.d (.bool ((a1.Kind == 7) && a3))) ?_ ?_
  ·
   rcases Bool.eq_false_or_eq_true ((a1.Kind == 7)) with hB44 | hB44
   ·
    refine ae.bool hB44 ?_
    refine ae.val rfl (ah rfl) rfl ?_
    refine ae.val rfl (aB (b:=true) rfl rfl) rfl ?_
    exact ae.nil ⟨_,rfl,(aa.put (aa.push rfl (aa.put (.refl _) (Less.eq (by rw [hB44])))) (Less.eq (by rw [hB44]; rw [Bool.true_and])))⟩
   refine ae.bool hB44 ?_
   refine ae.no rfl rfl ?_
   refine ae.val rfl (aB (b:=false) rfl rfl) rfl ?_
   exact ae.nil ⟨_,rfl,(aa.put (aa.push rfl (aa.put (.refl _) (Less.eq (by rw [hB44])))) (Less.eq (by rw [hB44]; rw [Bool.false_and])))⟩
  refine ae.val rfl (aj rfl) rfl ?_
  refine ae.nil ?_
  exact ⟨((a1.Kind == 7) && a3),_,_,S5,.refl _ _,.refl _,(aa.r rfl (aa.r rfl (aa.r rfl (aa.r rfl (aa.r rfl aa.nil))))),H6.sl [0] rfl rfl,h⟩
set_option maxRecDepth 20000 in
set_option maxHeartbeats 4000000 in
theorem lg (n:Nat) (a1:aY) (a2:Int) (r:Bool) (h:jQ n a1 a2=some r):dB R cfg.P 11 [(aH a1),(.int .i64 a2)] (.d (.bool r)):=by
 unfold jQ at h
 refine dB.of_wp E.obj.toObjOk (C:=cfg) Tryd.func11 rfl zR rfl ?_
 have H0:Has aO aO []:=Has.pure
 refine ay.seq ?_
 refine ay.region E.obj rfl ?_
 refine ae.box H0 rfl rfl rfl (aY.bB _) rfl (fun b3 S4 H5=>?_)
 refine ae.val rfl (aj rfl) rfl ?_
 refine ae.nil ?_
 refine ay.seq ?_
 refine ay.region E.obj rfl ?_
 refine ae.val rfl (au H5 (i:=0) rfl rfl (bq j4 iq rfl)) rfl ?_
 refine ae.less (Less.agg' (d:=aH a1) (ak.eq rfl (ak.eq rfl (ak.eq rfl (ak.eq rfl (ak.eq rfl (ak.eq rfl .nil)))))) ((aY.eq _).trans rfl)) ?_
 obtain ⟨z6,hzz6,h⟩:=bind_some h
 refine ae.ret rfl (aC rfl rfl) (kU E _ _ _ hzz6 _ _ (aM.eq .nil)) rfl ?_
 refine ae.val rfl (ah rfl) rfl ?_
 refine ae.val rfl (bD rfl rfl) rfl ?_
 refine ae.val rfl (bD rfl rfl) rfl ?_
 refine ae.val rfl (aj rfl) rfl ?_
 refine ae.val rfl (aj rfl) rfl ?_
 refine ae.nil ?_
 refine ay.seq ?_
 refine ay.region E.obj rfl ?_
 refine ae.val rfl (ai rfl fE nK rfl) rfl ?_
 refine ae.val rfl (au H5 (i:=0) rfl rfl (aA mE rfl)) rfl ?_
 refine ae.val rfl (az rfl rfl bH) rfl ?_
 refine ae.val rfl (ah rfl) rfl ?_
 refine ae.bz 3 18 (.d (.bool ((a1.Kind == 1) && (decide (z6.1 ≤ 60))))) ?_ ?_
 ·
  rcases Bool.eq_false_or_eq_true ((a1.Kind == 1)) with hB7 | hB7
  ·
   refine ae.bool hB7 ?_
   refine ae.val rfl (ah rfl) rfl ?_
   refine ae.val rfl (az rfl rfl gV) rfl ?_
   refine ae.val rfl (aB (b:=true) rfl rfl) rfl ?_
   exact ae.nil ⟨_,rfl,(aa.put (aa.push rfl (aa.push rfl (aa.put (.refl _) (Less.eq (by rw [hB7]))))) (Less.eq (by rw [hB7]; rw [Bool.true_and])))⟩
  refine ae.bool hB7 ?_
  refine ae.no rfl rfl ?_
  refine ae.no rfl rfl ?_
  refine ae.val rfl (aB (b:=false) rfl rfl) rfl ?_
  exact ae.nil ⟨_,rfl,(aa.put (aa.push rfl (aa.push rfl (aa.put (.refl _) (Less.eq (by rw [hB7]))))) (Less.eq (by rw [hB7]; rw [Bool.false_and])))⟩
 refine ae.val rfl (ah rfl) rfl ?_
 refine ae.bz 3 22 (.d (.bool (((a1.Kind == 1) && (decide (z6.1 ≤ 60))) && (decide (z6.2 ≤ 12))))) ?_ ?_
 ·
  rcases Bool.eq_false_or_eq_true (((a1.Kind == 1) && (decide (z6.1 ≤ 60)))) with hB8 | hB8
  ·
   refine ae.bool hB8 ?_
   refine ae.val rfl (ah rfl) rfl ?_
   refine ae.val rfl (az rfl rfl gV) rfl ?_
   refine ae.val rfl (aB (b:=true) rfl rfl) rfl ?_
   exact ae.nil ⟨_,rfl,(aa.put (aa.push rfl (aa.push rfl (aa.put (.refl _) (Less.eq (by rw [hB8]))))) (Less.eq (by rw [hB8]; rw [Bool.true_and])))⟩
  refine ae.bool hB8 ?_
  refine ae.no rfl rfl ?_
  refine ae.no rfl rfl ?_
  refine ae.val rfl (aB (b:=false) rfl rfl) rfl ?_
  exact ae.nil ⟨_,rfl,(aa.put (aa.push rfl (aa.push rfl (aa.put (.refl _) (Less.eq (by rw [hB8]))))) (Less.eq (by rw [hB8]; rw [Bool.false_and])))⟩
 refine ae.val rfl (ah rfl) rfl ?_
 obtain ⟨z10,hzz10,h⟩:=bind_some h
 refine ae.bz 4 27 (.d (.bool z10)) ?_ ?_
 ·
  rcases Bool.eq_false_or_eq_true ((((a1.Kind == 1) && (decide (z6.1 ≤ 60))) && (decide (z6.2 ≤ 12)))) with hB9 | hB9
  ·
   refine ae.bool hB9 ?_
   replace hzz10:=dn hB9 hzz10
   refine ae.val rfl (au H5 (i:=0) rfl rfl (bq j4 iq rfl)) rfl ?_
   refine ae.less (Less.agg' (d:=aH a1) (ak.eq rfl (ak.eq rfl (ak.eq rfl (ak.eq rfl (ak.eq rfl (ak.eq rfl .nil)))))) ((aY.eq _).trans rfl)) ?_
   refine ae.val rfl (ah rfl) rfl ?_
   obtain ⟨z11,hzz11,hzz10⟩:=bind_some hzz10
   refine ae.ret rfl (aC rfl rfl) (kY E _ _ _ _ _ hzz11 _ _ (aM.eq (aM.eq (aM.eq .nil)))) rfl ?_
   refine ae.val rfl (aB (b:=true) rfl rfl) rfl ?_
   cases hzz10
   exact ae.nil ⟨_,rfl,(aa.put (aa.push rfl (aa.push rfl (aa.push rfl (aa.put (.refl _) (Less.eq (by rw [hB9])))))) (.refl _))⟩
  refine ae.bool hB9 ?_
  refine ae.no rfl rfl ?_
  refine ae.no rfl rfl ?_
  refine ae.no rfl rfl ?_
  refine ae.val rfl (aB (b:=false) rfl rfl) rfl ?_
  replace hzz10:=dm hB9 hzz10
  cases hzz10
  exact ae.nil ⟨_,rfl,(aa.put (aa.push rfl (aa.push rfl (aa.push rfl (aa.put (.refl _) (Less.eq (by rw [hB9])))))) (.refl _))⟩
 refine ae.val rfl (aj rfl) rfl ?_
 refine ae.nil ?_
 have hr:=Option.some.inj h
 subst hr
 exact ay.ret ⟨_,rfl,rfl,gp (aM.eq .nil)⟩
set_option maxRecDepth 20000 in
set_option maxHeartbeats 4000000 in
theorem qi (n:Nat)  (r:Bool) (h:eD n  = some r):dB R cfg.P 3 [] (.d (.bool r)):=by
 unfold eD at h
 refine dB.of_wp E.obj.toObjOk (C:=cfg) Tryd.func3 rfl AY rfl ?_
 have H0:Has aO aO []:=Has.pure
 refine ay.seq ?_
 refine ay.region E.obj rfl ?_
 refine ae.val rfl (aj rfl) rfl ?_
 refine ae.nil ?_
 refine ay.seq ?_
 refine ay.region E.obj rfl ?_
 refine ae.val rfl (bG (cs:=[(.d (.int .i64 3)),(.d (.int .i64 1)),(.d (.str [])),(.d (.str [])),(.d .aT),(.d .aT)]) pz rfl (fQ) (dz rfl rfl rfl rfl (dz rfl rfl rfl rfl rfl))) rfl ?_
 refine ae.less (Less.agg' (d:=aH (aY.mk 3 1 [] [] [] [])) (ak.eq rfl (ak.eq rfl (ak.eq rfl (ak.eq rfl (ak.bY rfl (.aT false) rfl rfl (ak.bY rfl (.aT false) rfl rfl .nil)))))) ((aY.eq _).trans rfl)) ?_
 refine ae.val rfl (aW (vs:=[(.d (aH (aY.mk 3 1 [] [] [] [])))]) (ds:=[(aH (aY.mk 3 1 [] [] [] []))]) yu vG j4 pz iq rfl (by decide) (.cons rfl (aY.len _) .nil) rfl (by intro d hd; simp only [List.mem_cons,List.not_mem_nil,or_false] at hd; rcases hd with rfl <;> exact aY.agg _) rfl) rfl ?_
 refine ae.val rfl (bG (cs:=[(.d (.int .i64 1)),(.d (.int .i64 0)),(.d (.str [108,105])),(.d (.str [])),(.d .aT),(.d (.sl (([(aY.mk 3 1 [] [] [] [])]).map aH) true))]) pz rfl (fQ) (dz rfl rfl rfl rfl (dz rfl rfl rfl rfl (dz rfl rfl rfl rfl rfl)))) rfl ?_
 refine ae.less (Less.agg' (d:=aH (aY.mk 1 0 [108,105] [] [] [(aY.mk 3 1 [] [] [] [])])) (ak.eq rfl (ak.eq rfl (ak.eq rfl (ak.eq rfl (ak.bY rfl (.aT false) rfl rfl (ak.bY rfl (.gF _ _) rfl rfl .nil)))))) ((aY.eq _).trans rfl)) ?_
 refine ae.val rfl (aW (vs:=[(.d (aH (aY.mk 1 0 [108,105] [] [] [(aY.mk 3 1 [] [] [] [])])))]) (ds:=[(aH (aY.mk 1 0 [108,105] [] [] [(aY.mk 3 1 [] [] [] [])]))]) yu vG j4 pz iq rfl (by decide) (.cons rfl (aY.len _) .nil) rfl (by intro d hd; simp only [List.mem_cons,List.not_mem_nil,or_false] at hd; rcases hd with rfl <;> exact aY.agg _) rfl) rfl ?_
 refine ae.val rfl (bG (cs:=[(.d (.int .i64 6)),(.d (.int .i64 0)),(.d (.str [])),(.d (.str [])),(.d .aT),(.d (.sl (([(aY.mk 1 0 [108,105] [] [] [(aY.mk 3 1 [] [] [] [])])]).map aH) true))]) pz rfl (fQ) (dz rfl rfl rfl rfl (dz rfl rfl rfl rfl rfl))) rfl ?_
 refine ae.less (Less.agg' (d:=aH (aY.mk 6 0 [] [] [] [(aY.mk 1 0 [108,105] [] [] [(aY.mk 3 1 [] [] [] [])])])) (ak.eq rfl (ak.eq rfl (ak.eq rfl (ak.eq rfl (ak.bY rfl (.aT false) rfl rfl (ak.bY rfl (.gF _ _) rfl rfl .nil)))))) ((aY.eq _).trans rfl)) ?_
 refine ae.val rfl (aW (vs:=[(.d (aH (aY.mk 6 0 [] [] [] [(aY.mk 1 0 [108,105] [] [] [(aY.mk 3 1 [] [] [] [])])])))]) (ds:=[(aH (aY.mk 6 0 [] [] [] [(aY.mk 1 0 [108,105] [] [] [(aY.mk 3 1 [] [] [] [])])]))]) yu vG j4 pz iq rfl (by decide) (.cons rfl (aY.len _) .nil) rfl (by intro d hd; simp only [List.mem_cons,List.not_mem_nil,or_false] at hd; rcases hd with rfl <;> exact aY.agg _) rfl) rfl ?_
 refine ae.val rfl (bG (cs:=[(.d (.int .i64 1)),(.d (.int .i64 0)),(.d (.str [117,108])),(.d (.str [])),(.d .aT),(.d (.sl (([(aY.mk 6 0 [] [] [] [(aY.mk 1 0 [108,105] [] [] [(aY.mk 3 1 [] [] [] [])])])]).map aH) true))]) pz rfl (fQ) (dz rfl rfl rfl rfl (dz rfl rfl rfl rfl (dz rfl rfl rfl rfl rfl)))) rfl ?_
 refine ae.less (Less.agg' (d:=aH (aY.mk 1 0 [117,108] [] [] [(aY.mk 6 0 [] [] [] [(aY.mk 1 0 [108,105] [] [] [(aY.mk 3 1 [] [] [] [])])])])) (ak.eq rfl (ak.eq rfl (ak.eq rfl (ak.eq rfl (ak.bY rfl (.aT false) rfl rfl (ak.bY rfl (.gF _ _) rfl rfl .nil)))))) ((aY.eq _).trans rfl)) ?_
 refine ae.alloc H0 rfl xE pz rfl rfl (fun b1 S2 H3=>?_)
 refine ae.store H3 (i:=0) rfl rfl rfl rfl (aY.bB _) rfl iq rfl ui rfl rfl rfl (fun S4 H5=>?_)
 refine ae.nil ?_
 refine ay.seq ?_
 refine ay.region E.obj rfl ?_
 refine ae.val rfl (au H5 (i:=0) rfl rfl (bq j4 iq rfl)) rfl ?_
 refine ae.less (Less.agg' (d:=aH (aY.mk 1 0 [117,108] [] [] [(aY.mk 6 0 [] [] [] [(aY.mk 1 0 [108,105] [] [] [(aY.mk 3 1 [] [] [] [])])])])) (ak.eq rfl (ak.eq rfl (ak.eq rfl (ak.eq rfl (ak.eq rfl (ak.eq rfl .nil)))))) ((aY.eq _).trans rfl)) ?_
 refine ae.val rfl (aW (vs:=[(.d (.int .i64 2)),(.d (.int .i64 7))]) (ds:=[(.int .i64 2),(.int .i64 7)]) yO yc mE Aq za rfl (by decide) (.cons rfl rfl (.cons rfl rfl .nil)) rfl (by intro d hd; simp only [List.mem_cons,List.not_mem_nil,or_false] at hd; rcases hd with rfl | rfl <;> rfl) rfl) rfl ?_
 obtain ⟨z6,hzz6,h⟩:=bind_some h
 refine ae.ret rfl (aC rfl rfl) (kF E _ _ _ _ _ hzz6 _ _ (aM.eq (aM.bY rfl (.gF _ _) (aM.bY rfl (.aT false) .nil)))) rfl ?_
 refine ae.val rfl (ah rfl) rfl ?_
 refine ae.val rfl (bD rfl rfl) rfl ?_
 refine ae.val rfl (bD rfl rfl) rfl ?_
 refine ae.alloc H5 rfl tJ gH rfl rfl (fun b7 S8 H9=>?_)
 refine ae.store H9 (i:=0) rfl rfl rfl rfl (Tree.bB _) rfl di rfl jV rfl rfl rfl (fun S10 H11=>?_)
 refine ae.val rfl (aj rfl) rfl ?_
 refine ae.nil ?_
 refine ay.seq ?_
 refine ay.region E.obj rfl ?_
 refine ae.val rfl (au H11 (i:=1) rfl rfl (bq j4 iq rfl)) rfl ?_
 refine ae.less (Less.agg' (d:=aH (aY.mk 1 0 [117,108] [] [] [(aY.mk 6 0 [] [] [] [(aY.mk 1 0 [108,105] [] [] [(aY.mk 3 1 [] [] [] [])])])])) (ak.eq rfl (ak.eq rfl (ak.eq rfl (ak.eq rfl (ak.eq rfl (ak.eq rfl .nil)))))) ((aY.eq _).trans rfl)) ?_
 refine ae.val rfl (aW (vs:=[(.d (.int .i64 99)),(.d (.int .i64 7))]) (ds:=[(.int .i64 99),(.int .i64 7)]) yO yc mE Aq za rfl (by decide) (.cons rfl rfl (.cons rfl rfl .nil)) rfl (by intro d hd; simp only [List.mem_cons,List.not_mem_nil,or_false] at hd; rcases hd with rfl | rfl <;> rfl) rfl) rfl ?_
 obtain ⟨z12,hzz12,h⟩:=bind_some h
 refine ae.ret rfl (aC rfl rfl) (kF E _ _ _ _ _ hzz12 _ _ (aM.eq (aM.bY rfl (.gF _ _) (aM.bY rfl (.aT false) .nil)))) rfl ?_
 refine ae.val rfl (ah rfl) rfl ?_
 refine ae.val rfl (bD rfl rfl) rfl ?_
 refine ae.val rfl (bD rfl rfl) rfl ?_
 refine ae.alloc H11 rfl tJ gH rfl rfl (fun b13 S14 H15=>?_)
 refine ae.store H15 (i:=0) rfl rfl rfl rfl (Tree.bB _) rfl di rfl jV rfl rfl rfl (fun S16 H17=>?_)
 refine ae.val rfl (aj rfl) rfl ?_
 refine ae.nil ?_
 refine ay.seq ?_
 refine ay.region E.obj rfl ?_
 refine ae.val rfl (bG (cs:=[(.d (.str [])),(.d (.str [])),(.d (.str [55])),(.d .aT),(.d .aT)]) gH rfl (bP) (dz rfl rfl rfl rfl rfl)) rfl ?_
 refine ae.less (Less.agg' (d:=av (Tree.mk [] [] [55] [] [])) (ak.eq rfl (ak.eq rfl (ak.eq rfl (ak.bY rfl (.aT false) rfl rfl (ak.bY rfl (.aT false) rfl rfl .nil))))) ((Tree.eq _).trans rfl)) ?_
 refine ae.val rfl (aW (vs:=[(.d (av (Tree.mk [] [] [55] [] [])))]) (ds:=[(av (Tree.mk [] [] [55] [] []))]) qa jH gm gH di rfl (by decide) (.cons rfl (Tree.len _) .nil) rfl (by intro d hd; simp only [List.mem_cons,List.not_mem_nil,or_false] at hd; rcases hd with rfl <;> exact Tree.agg _) rfl) rfl ?_
 refine ae.val rfl (aj rfl) rfl ?_
 refine ae.nil ?_
 refine ay.seq ?_
 refine ay.region E.obj rfl ?_
 refine ae.val rfl (ah rfl) rfl ?_
 refine ae.val rfl (az rfl rfl bH) rfl ?_
 refine ae.val rfl (ah rfl) rfl ?_
 obtain ⟨z19,hzz19,h⟩:=bind_some h
 refine ae.bz 9 39 (.d (.bool z19)) ?_ ?_
 ·
  rcases Bool.eq_false_or_eq_true ((z6.2 == 0)) with hB18 | hB18
  ·
   refine ae.bool hB18 ?_
   replace hzz19:=dn hB18 hzz19
   refine ae.val rfl (au H17 (i:=1) rfl rfl (bq gm di rfl)) rfl ?_
   refine ae.less (Less.agg' (d:=av z6.1) (ak.eq rfl (ak.eq rfl (ak.eq rfl (ak.eq rfl (ak.eq rfl .nil))))) ((Tree.eq _).trans rfl)) ?_
   refine ae.val rfl (ah rfl) rfl ?_
   refine ae.val rfl (bG (cs:=[(.d (.str [108,105])),(.d (.str [48])),(.d (.str [])),(.d .aT),(.d (.sl (([(Tree.mk [] [] [55] [] [])]).map av) true))]) gH rfl (bP) (dz rfl rfl rfl rfl (dz rfl rfl rfl rfl (dz rfl rfl rfl rfl rfl)))) rfl ?_
   refine ae.less (Less.agg' (d:=av (Tree.mk [108,105] [48] [] [] [(Tree.mk [] [] [55] [] [])])) (ak.eq rfl (ak.eq rfl (ak.eq rfl (ak.bY rfl (.aT false) rfl rfl (ak.bY rfl (.gF _ _) rfl rfl .nil))))) ((Tree.eq _).trans rfl)) ?_
   refine ae.val rfl (ah rfl) rfl ?_
   refine ae.val rfl (bG (cs:=[(.d (.str [108,105])),(.d (.str [49])),(.d (.str [])),(.d .aT),(.d (.sl (([(Tree.mk [] [] [55] [] [])]).map av) true))]) gH rfl (bP) (dz rfl rfl rfl rfl (dz rfl rfl rfl rfl (dz rfl rfl rfl rfl rfl)))) rfl ?_
   refine ae.less (Less.agg' (d:=av (Tree.mk [108,105] [49] [] [] [(Tree.mk [] [] [55] [] [])])) (ak.eq rfl (ak.eq rfl (ak.eq rfl (ak.bY rfl (.aT false) rfl rfl (ak.bY rfl (.gF _ _) rfl rfl .nil))))) ((Tree.eq _).trans rfl)) ?_
   refine ae.val rfl (aW (vs:=[(.d (av (Tree.mk [108,105] [48] [] [] [(Tree.mk [] [] [55] [] [])]))),(.d (av (Tree.mk [108,105] [49] [] [] [(Tree.mk [] [] [55] [] [])])))]) (ds:=[(av (Tree.mk [108,105] [48] [] [] [(Tree.mk [] [] [55] [] [])])),(av (Tree.mk [108,105] [49] [] [] [(Tree.mk [] [] [55] [] [])]))]) qa jH gm gH di rfl (by decide) (.cons rfl (Tree.len _) (.cons rfl (Tree.len _) .nil)) rfl (by intro d hd; simp only [List.mem_cons,List.not_mem_nil,or_false] at hd; rcases hd with rfl | rfl <;> exact Tree.agg _) rfl) rfl ?_
   refine ae.val rfl (bG (cs:=[(.d (.str [117,108])),(.d (.str [])),(.d (.str [])),(.d .aT),(.d (.sl (([(Tree.mk [108,105] [48] [] [] [(Tree.mk [] [] [55] [] [])]),(Tree.mk [108,105] [49] [] [] [(Tree.mk [] [] [55] [] [])])]).map av) true))]) gH rfl (bP) (dz rfl rfl rfl rfl (dz rfl rfl rfl rfl rfl))) rfl ?_
   refine ae.less (Less.agg' (d:=av (Tree.mk [117,108] [] [] [] [(Tree.mk [108,105] [48] [] [] [(Tree.mk [] [] [55] [] [])]),(Tree.mk [108,105] [49] [] [] [(Tree.mk [] [] [55] [] [])])])) (ak.eq rfl (ak.eq rfl (ak.eq rfl (ak.bY rfl (.aT false) rfl rfl (ak.bY rfl (.gF _ _) rfl rfl .nil))))) ((Tree.eq _).trans rfl)) ?_
   obtain ⟨z20,hzz20,hzz19⟩:=bind_some hzz19
   refine ae.ret rfl (aC rfl rfl) (gN E _ _ _ _ hzz20 _ _ (aM.eq (aM.eq .nil))) rfl ?_
   refine ae.val rfl (aB (b:=true) rfl rfl) rfl ?_
   cases hzz19
   exact ae.nil ⟨_,rfl,(aa.put (aa.push rfl (aa.push rfl (aa.push rfl (aa.push rfl (aa.push rfl (aa.push rfl (aa.push rfl (aa.push rfl (aa.put (.refl _) (Less.eq (by rw [hB18]))))))))))) (.refl _))⟩
  refine ae.bool hB18 ?_
  refine ae.no rfl rfl ?_
  refine ae.no rfl rfl ?_
  refine ae.no rfl rfl ?_
  refine ae.no rfl rfl ?_
  refine ae.no rfl rfl ?_
  refine ae.no rfl rfl ?_
  refine ae.no rfl rfl ?_
  refine ae.no rfl rfl ?_
  refine ae.val rfl (aB (b:=false) rfl rfl) rfl ?_
  replace hzz19:=dm hB18 hzz19
  cases hzz19
  exact ae.nil ⟨_,rfl,(aa.put (aa.push rfl (aa.push rfl (aa.push rfl (aa.push rfl (aa.push rfl (aa.push rfl (aa.push rfl (aa.push rfl (aa.put (.refl _) (Less.eq (by rw [hB18]))))))))))) (.refl _))⟩
 refine ae.val rfl (ah rfl) rfl ?_
 refine ae.bz 3 43 (.d (.bool (z19 && (z12.2 == 6)))) ?_ ?_
 ·
  rcases Bool.eq_false_or_eq_true (z19) with hB21 | hB21
  ·
   refine ae.bool hB21 ?_
   refine ae.val rfl (ah rfl) rfl ?_
   refine ae.val rfl (az rfl rfl bH) rfl ?_
   refine ae.val rfl (aB (b:=true) rfl rfl) rfl ?_
   exact ae.nil ⟨_,rfl,(aa.put (aa.push rfl (aa.push rfl (aa.put (.refl _) (Less.eq (by rw [hB21]))))) (Less.eq (by rw [hB21]; rw [Bool.true_and])))⟩
  refine ae.bool hB21 ?_
  refine ae.no rfl rfl ?_
  refine ae.no rfl rfl ?_
  refine ae.val rfl (aB (b:=false) rfl rfl) rfl ?_
  exact ae.nil ⟨_,rfl,(aa.put (aa.push rfl (aa.push rfl (aa.put (.refl _) (Less.eq (by rw [hB21]))))) (Less.eq (by rw [hB21]; rw [Bool.false_and])))⟩
 refine ae.val rfl (ah rfl) rfl ?_
 obtain ⟨z23,hzz23,h⟩:=bind_some h
 refine ae.bz 3 47 (.d (.bool z23)) ?_ ?_
 ·
  rcases Bool.eq_false_or_eq_true ((z19 && (z12.2 == 6))) with hB22 | hB22
  ·
   refine ae.bool hB22 ?_
   replace hzz23:=dn hB22 hzz23
   refine ae.val rfl (au H17 (i:=2) rfl rfl (bq j4 iq rfl)) rfl ?_
   refine ae.less (Less.agg' (d:=aH (aY.mk 1 0 [117,108] [] [] [(aY.mk 6 0 [] [] [] [(aY.mk 1 0 [108,105] [] [] [(aY.mk 3 1 [] [] [] [])])])])) (ak.eq rfl (ak.eq rfl (ak.eq rfl (ak.eq rfl (ak.eq rfl (ak.eq rfl .nil)))))) ((aY.eq _).trans rfl)) ?_
   obtain ⟨z24,hzz24,hzz23⟩:=bind_some hzz23
   refine ae.ret rfl (aC rfl rfl) (lg E _ _ _ _ hzz24 _ _ (aM.eq (aM.eq .nil))) rfl ?_
   refine ae.val rfl (aB (b:=true) rfl rfl) rfl ?_
   cases hzz23
   exact ae.nil ⟨_,rfl,(aa.put (aa.push rfl (aa.push rfl (aa.put (.refl _) (Less.eq (by rw [hB22]))))) (.refl _))⟩
  refine ae.bool hB22 ?_
  refine ae.no rfl rfl ?_
  refine ae.no rfl rfl ?_
  refine ae.val rfl (aB (b:=false) rfl rfl) rfl ?_
  replace hzz23:=dm hB22 hzz23
  cases hzz23
  exact ae.nil ⟨_,rfl,(aa.put (aa.push rfl (aa.push rfl (aa.put (.refl _) (Less.eq (by rw [hB22]))))) (.refl _))⟩
 refine ae.val rfl (ah rfl) rfl ?_
 obtain ⟨z26,hzz26,h⟩:=bind_some h
 refine ae.bz 4 52 (.d (.bool z26)) ?_ ?_
 ·
  rcases Bool.eq_false_or_eq_true (z23) with hB25 | hB25
  ·
   refine ae.bool hB25 ?_
   replace hzz26:=dn hB25 hzz26
   refine ae.val rfl (au H17 (i:=2) rfl rfl (bq j4 iq rfl)) rfl ?_
   refine ae.less (Less.agg' (d:=aH (aY.mk 1 0 [117,108] [] [] [(aY.mk 6 0 [] [] [] [(aY.mk 1 0 [108,105] [] [] [(aY.mk 3 1 [] [] [] [])])])])) (ak.eq rfl (ak.eq rfl (ak.eq rfl (ak.eq rfl (ak.eq rfl (ak.eq rfl .nil)))))) ((aY.eq _).trans rfl)) ?_
   obtain ⟨z27,hzz27,hzz26⟩:=bind_some hzz26
   refine ae.ret rfl (aC rfl rfl) (lg E _ _ _ _ hzz27 _ _ (aM.eq (aM.eq .nil))) rfl ?_
   refine ae.val rfl (dU rfl) rfl ?_
   refine ae.val rfl (aB (b:=true) rfl rfl) rfl ?_
   cases hzz26
   exact ae.nil ⟨_,rfl,(aa.put (aa.push rfl (aa.push rfl (aa.push rfl (aa.put (.refl _) (Less.eq (by rw [hB25])))))) (.refl _))⟩
  refine ae.bool hB25 ?_
  refine ae.no rfl rfl ?_
  refine ae.no rfl rfl ?_
  refine ae.no rfl rfl ?_
  refine ae.val rfl (aB (b:=false) rfl rfl) rfl ?_
  replace hzz26:=dm hB25 hzz26
  cases hzz26
  exact ae.nil ⟨_,rfl,(aa.put (aa.push rfl (aa.push rfl (aa.push rfl (aa.put (.refl _) (Less.eq (by rw [hB25])))))) (.refl _))⟩
 refine ae.val rfl (aj rfl) rfl ?_
 refine ae.nil ?_
 have hr:=Option.some.inj h
 subst hr
 exact ay.ret ⟨_,rfl,rfl,gp (aM.eq .nil)⟩
end
end Pr
end Go.Ev

namespace Go.Ev
namespace Pr
set_option maxRecDepth 100000 in
theorem xL:eD 10000=some true:=by decide +kernel
end Pr
end Go.Ev

namespace Go.Ev
noncomputable section
open Go.Shelf Go.RowKit Go.Proofs
set_option linter.unusedVariables false
set_option linter.unusedSimpArgs false
theorem qQ:∀ (k u:Nat),u < 10 ^ k→wo k u=if k=0 then [] else Lib.decDigits u
 | 0,u,h=>rfl
 | k + 1,u,h=>by
  rw [wo,Lib.decDigits,if_neg (Nat.succ_ne_zero k)]
  by_cases hu:u < 10
  ·
   rw [if_pos hu,dif_pos hu]
  ·
   rw [if_neg hu,dif_neg hu]
   have hk:k ≠ 0:=fun q=>by subst q; simp at h; omega
   rw [qQ k (u / 10) (by rw [Nat.pow_succ] at h; omega),if_neg hk]
theorem vX {n:Int} (h0:-9223372036854775808 ≤ n) (h1:n ≤ 9223372036854775807):uW n=Lib.itoa n:=by
 unfold uW Lib.itoa
 rw [qQ 20 _ (by omega),qQ 20 _ (by omega),if_neg (show ¬ (20=0) by decide),if_neg (show ¬ (20=0) by decide)]
def ko:List D→Option AV
 | [.int .i64 x]=>if -9223372036854775808 ≤ x∧x ≤ 9223372036854775807 then some (.d (.str (uW x))) else none
 | _=>none
def yh (g:Nat) (k:IntKind) (zs:List Int) (w:World) (fr:Nat→Nat→Prop):Prop:=(∃ el fz,w.heap[g]? = some (.cells (zs.map fun z=>Value.int k z).toArray el fz))∧∀ o,¬ fr g o
theorem zf (g:Nat) (k:IntKind) (zs:List Int):wF (yh g k zs):=fun w w' fr fr' h _ hb=>by
 obtain ⟨⟨el,fz,h1⟩,h2⟩:=h
 have hlt:g < w.heap.size:=by
  rcases Nat.lt_or_ge g w.heap.size with q | q
  ·
   exact q
  ·
   rw [Array.getElem?_eq_none q] at h1; cases h1
 obtain ⟨a,b⟩:=hb g hlt h2
 exact ⟨⟨el,fz,a.trans h1⟩,b⟩
theorem y8 {P:Program} {name:String} {g:Nat} {k:IntKind} {zs:List Int} {w:World} {fr:Nat→Nat→Prop} (hg:P.globalNamed name=some g) (h:yh g k zs w fr):Lib.TabIs P w name k zs:=by
 obtain ⟨⟨el,fz,h1⟩,_⟩:=h
 unfold Lib.TabIs World.var?
 rw [hg]
 show (match w.heap[g]? with | some (.cells cs _ _)=>some cs | _=>none)=_
 rw [h1]
theorem zb {P:Program} {name:String} {g:Nat} {k:IntKind} {zs:List Int} {w:World} (hg:P.globalNamed name=some g) (h:Lib.TabIs P w name k zs):yh g k zs w (fun _ _=>False):=by
 unfold Lib.TabIs World.var? at h
 rw [hg] at h
 have h':(match w.heap[g]? with | some (.cells cs _ _)=>some cs | _=>none)=some (zs.map fun z=>Value.int k z).toArray:=h
 refine ⟨?_,fun o q=>q⟩
 cases hh:w.heap[g]? with
 | none=>rw [hh] at h'; cases h'
 | some o =>
  rw [hh] at h'
  cases o with
  | cells cs el fz=>simp only [Option.some.injEq] at h'; subst h'; exact ⟨el,fz,rfl⟩
  | _=>cases h'
theorem xV {R:aR} (hR:ObjOk R) {P:Program} {ρ:Ren} (L:LaysM.n171 P ρ)
  (hG:∀ w fr,R.G w fr→Lib.TabIs P w "internal/strconv.uint64pow10" .u64 Lib.pow10Tab):oV R P (ρ.f 171) (gJ ko):=by
 refine nD hR (fun ds v h=>?_) ⟨_,L.f171,rfl,by show ¬ ("strconv.Itoa" = "runtime.NumGoroutine"); decide⟩ (fun ds v h w fr us hGw hfr hl hr=>?_)
 ·
  unfold ko at h
  split at h
  ·
   split at h
   ·
    simp only [Option.some.injEq] at h; subst h; rfl
   ·
    cases h
  ·
   cases h
 ·
  unfold ko at h
  split at h
  ·
   rename_i x
   split at h
   ·
    rename_i hc
    simp only [Option.some.injEq] at h; subst h
    match us,hl with
    | [u0],_ =>
    have a0:=(hr 0 _ _ rfl rfl).val rfl
    cases a0
    refine (Any.strconv_Itoa L x hc.1 hc.2 w (hG w fr hGw)).mono (fun e w' hp=>?_)
    obtain ⟨rfl,k,os,rfl⟩:=hp
    refine ⟨Lib.below_grow _ w (Nat.le_refl _) k os,_,rfl,fun cx S _=>.d _ _ ?_⟩
    rw [vX hc.1 hc.2]
    exact u6 _ cx.fr (Lib.itoa x)
   ·
    cases h
  ·
   cases h
theorem yB {n:Nat} {x:Int} {r:List UInt8} (h:strconv_Itoa n x=some r):ko [.int .i64 x]=some (.d (.str r)):=by
 unfold strconv_Itoa at h
 unfold ko
 split at h
 ·
  rename_i hc; cases h
  simp only [hc,and_self,if_true]
 ·
  cases h
end
end Go.Ev

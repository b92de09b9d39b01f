import Derived.Test.YtbjneeknddapfaaPartC
import Derived.Test.YtbjneeknddapfaaProg
import Derived.WalkKit
import Derived.ProofKit
namespace Go.Ev
theorem vz {C:fA} {ρ:Operand→Option AV} {S:St} {x:Operand} {g:Nat} {xs:Array Operand} {ts:Array Nat} {args:List AV} (hx:ρ x=some (.fn g [])) (ha:gq ρ xs.toList=some args):oper C ρ S (.call { callee:=.value x,args:=xs,argTypes:=ts })=some (.call g args):=by
 simp only [oper,hx,ha,List.append_nil]
theorem aj.r {t:Nat} {x:AV} {e2 e:Env} (h:AL.get e t=some x) (k:aj e2 e):aj ((t,x) :: e2) e:=.cons h (.refl _) k
theorem wV.o {x:AV} {a b:List (Option AV)} (k:wV a b):wV (some x :: a) (some x :: b):=.old (.refl _) k
theorem RL.v {R:bN} {C:fA} {nt:Nat} {ops:Array Oper} {srcs:List Src} {e0:Env} {ws:List (Option AV)} {S:St} {i:Nat} {o:Oper} {x:AV} {e:Env} {os:List Nat} (ho:ops[i]? = some o) (hx:ws[i]? = some (some x)) (he:nW ws e0 (srcs.getD i [])=some e) (hw:bO ops e o=some true) (h:oper C (bK e) S o.op=some (.val x S)) (k:RL R C nt ops srcs e0 ws S os):RL R C nt ops srcs e0 ws S (i :: os):=.cons ho hx he (.val hw h (.refl _)) k
theorem Has.sl {B S:St} {l:List bA} (h:Has B S l) (is:List Nat) (hn:decide is.Nodup=true) {l':List bA} (hl:is.map (fun i=>l[i]?)=l'.map some):Has B S l':=h.K6 is (of_decide_eq_true hn) hl
namespace Pr
set_option linter.unusedVariables false
set_option linter.unusedSimpArgs false
open Go.Proofs
noncomputable def cfg:fA:={ P:=Try.prog,good:=fun _=>true,rowT:=fun _=>false,prim:=fun _ _ _=>none,objT:=fun _=>none,hasPrim:=fun _=>false }
noncomputable def Bc:fA:={ cfg with rowT:=fun t=>Nat.beq t 31 || Nat.beq t 85 }
noncomputable def pX:fA:={ cfg with rowT:=fun t=>Nat.beq t 31 }
theorem CV:eZ cfg.P 90 0=some (0,4):=by kernel_rfl
theorem JY:Nat.beq (aK cfg.P 4) 0=false:=by kernel_rfl
theorem K9:aK cfg.P 4=1:=by kernel_rfl
theorem KT:(dV cfg.P 4).isSome=true:=by kernel_rfl
theorem sH:eZ cfg.P 87 1=some (1,31):=by kernel_rfl
theorem qd:Nat.beq (aK cfg.P 31) 0=false:=by kernel_rfl
theorem tC:dV cfg.P 31=some false:=by kernel_rfl
theorem jh:(aZ cfg.P 31).isSome=true:=by kernel_rfl
theorem kF:cfg.P.follows .mixedOrders=true:=by kernel_rfl
theorem jH:eZ cfg.P 87 0=some (0,85):=by kernel_rfl
theorem rq:Nat.beq (aK cfg.P 85) 0=false:=by kernel_rfl
theorem rY:dV cfg.P 85=some false:=by kernel_rfl
theorem Gh:dV cfg.P 90=some true:=by kernel_rfl
theorem oh:aK cfg.P 90=7:=by kernel_rfl
theorem E9:Bc.rowT 85=true:=by kernel_rfl
theorem wh:aZ cfg.P 85=some 90:=by kernel_rfl
theorem rQ:(dV cfg.P 90).isSome=true:=by kernel_rfl
theorem DK:zeroOf cfg.P 90=some (.agg [.bool false,.str [],.str [],.str [],.aT,.aT,.int .i64 0]):=by kernel_rfl
theorem Ie:iA Bc 85=true:=by kernel_rfl
theorem J6:bytesOf cfg.P 90=112:=by kernel_rfl
theorem Io:eF Bc 90=true:=by kernel_rfl
theorem Kk:aK cfg.P 85=1:=by kernel_rfl
theorem JU:(dV cfg.P 85).isSome=true:=by kernel_rfl
theorem Gb:(aZ cfg.P 85).isSome=true:=by kernel_rfl
theorem dX:aZ cfg.P 31=some 3:=by kernel_rfl
theorem oP:(dV cfg.P 3).isSome=true:=by kernel_rfl
theorem jA:aK cfg.P 3=1:=by kernel_rfl
theorem nG:dV cfg.P 3=some false:=by kernel_rfl
theorem vY:(cfg.P.underlying 3).isSome=true:=by kernel_rfl
theorem G7:aK cfg.P 31=1:=by kernel_rfl
theorem GY:(dV cfg.P 31).isSome=true:=by kernel_rfl
theorem Kc:(Try.f58.name == "runtime.NumGoroutine")=false:=by kernel_rfl
theorem Kt:(Try.f28.name == "runtime.NumGoroutine")=false:=by kernel_rfl
theorem JK:(Try.f13.name == "runtime.NumGoroutine")=false:=by kernel_rfl
theorem Kj:zeroOf cfg.P 87=some (.agg [.aT,.aT]):=by kernel_rfl
theorem Ki:(Try.f12.name == "runtime.NumGoroutine")=false:=by kernel_rfl
theorem KO:dV cfg.P 4=some false:=by kernel_rfl
theorem KH:(Try.f59.name == "runtime.NumGoroutine")=false:=by kernel_rfl
theorem KN:(Try.f64.name == "runtime.NumGoroutine")=false:=by kernel_rfl
theorem IP:cfg.P.underlying 31=some (.slice 3):=by kernel_rfl
theorem AU:cfg.rowT 31=false:=by kernel_rfl
theorem FY:iA cfg 31=true:=by kernel_rfl
theorem F9:bytesOf cfg.P 3=8:=by kernel_rfl
theorem Jw:eF cfg 3=true:=by kernel_rfl
theorem GM:uZ pX 31 0=false:=by kernel_rfl
theorem nP:pX.rowT 31=true:=by kernel_rfl
theorem xq:iA pX 31=true:=by kernel_rfl
theorem Ao:eF pX 3=true:=by kernel_rfl
theorem qb:cfg.P.underlying 91=some (.pointer 90):=by kernel_rfl
theorem mq:eZ cfg.P 90 5=some (5,31):=by kernel_rfl
theorem KI:(Try.f19.name == "runtime.NumGoroutine")=false:=by kernel_rfl
theorem JZ:(Try.f66.name == "runtime.NumGoroutine")=false:=by kernel_rfl
theorem Jm:cfg.P.underlying 36=some (.slice 54):=by kernel_rfl
theorem En:aK cfg.P 54=2:=by kernel_rfl
theorem IX:cfg.rowT 36=false:=by kernel_rfl
theorem G8:aZ cfg.P 36=some 54:=by kernel_rfl
theorem Ik:dV cfg.P 54=some true:=by kernel_rfl
theorem Ku:iA cfg 36=true:=by kernel_rfl
theorem JN:bytesOf cfg.P 54=32:=by kernel_rfl
theorem KG:eF cfg 54=true:=by kernel_rfl
theorem uf:cfg.objT 39=none:=by kernel_rfl
theorem jM:zeroOf cfg.P 39=some (.agg [.str [],.str [],.str [],.aT,.aT]):=by kernel_rfl
theorem Jh:cfg.objT 90=none:=by kernel_rfl
theorem xu:eZ cfg.P 90 1=some (1,9):=by kernel_rfl
theorem sK:Nat.beq (aK cfg.P 9) 0=false:=by kernel_rfl
theorem rZ:dV cfg.P 9=some false:=by kernel_rfl
theorem Fy:eZ cfg.P 90 2=some (2,9):=by kernel_rfl
theorem CB:eZ cfg.P 90 3=some (3,9):=by kernel_rfl
theorem CK:eZ cfg.P 90 4=some (4,36):=by kernel_rfl
theorem Ct:Nat.beq (aK cfg.P 36) 0=false:=by kernel_rfl
theorem DN:dV cfg.P 36=some false:=by kernel_rfl
theorem dF:aK cfg.P 39=5:=by kernel_rfl
theorem lJ:(dV cfg.P 39).isSome=true:=by kernel_rfl
theorem iq:eZ cfg.P 39 4=some (4,37):=by kernel_rfl
theorem nX:Nat.beq (aK cfg.P 37) 0=false:=by kernel_rfl
theorem qz:dV cfg.P 37=some false:=by kernel_rfl
theorem yj:cfg.rowT 37=false:=by kernel_rfl
theorem qc:aZ cfg.P 37=some 39:=by kernel_rfl
theorem ig:dV cfg.P 39=some true:=by kernel_rfl
theorem Gf:iA cfg 37=true:=by kernel_rfl
theorem GV:bytesOf cfg.P 39=96:=by kernel_rfl
theorem GU:eF cfg 39=true:=by kernel_rfl
theorem HZ:aK cfg.P 37=1:=by kernel_rfl
theorem IA:(dV cfg.P 37).isSome=true:=by kernel_rfl
theorem JW:(Try.f65.name == "runtime.NumGoroutine")=false:=by kernel_rfl
theorem Km:(Try.f21.name == "runtime.NumGoroutine")=false:=by kernel_rfl
theorem Kz:(Try.f25.name == "runtime.NumGoroutine")=false:=by kernel_rfl
theorem IJ:(aZ cfg.P 58).isSome=true:=by kernel_rfl
theorem Jo:aZ cfg.P 58=some 9:=by kernel_rfl
theorem Ky:(dV cfg.P 9).isSome=true:=by kernel_rfl
theorem Kq:aK cfg.P 9=1:=by kernel_rfl
theorem KQ:sI cfg.P 9=true:=by kernel_rfl
theorem Ke:(Try.f38.name == "runtime.NumGoroutine")=false:=by kernel_rfl
theorem qj:eZ cfg.P 90 6=some (6,3):=by kernel_rfl
theorem Hl:Nat.beq (aK cfg.P 3) 0=false:=by kernel_rfl
theorem JC:(Try.f60.name == "runtime.NumGoroutine")=false:=by kernel_rfl
theorem Ka:(Try.f84.name == "runtime.NumGoroutine")=false:=by kernel_rfl
theorem ED:zeroOf cfg.P 3=some (.int .i64 0):=by kernel_rfl
theorem J4:(Try.f85.name == "runtime.NumGoroutine")=false:=by kernel_rfl
theorem JJ:(Try.f61.name == "runtime.NumGoroutine")=false:=by kernel_rfl
theorem JO:(Try.f14.name == "runtime.NumGoroutine")=false:=by kernel_rfl
theorem KJ:aK cfg.P 36=1:=by kernel_rfl
theorem Kh:(dV cfg.P 36).isSome=true:=by kernel_rfl
theorem JM:(Try.f29.name == "runtime.NumGoroutine")=false:=by kernel_rfl
theorem nN:eZ cfg.P 39 0=some (0,9):=by kernel_rfl
theorem zG:eZ cfg.P 39 2=some (2,9):=by kernel_rfl
theorem uE:eZ cfg.P 39 1=some (1,9):=by kernel_rfl
theorem zI:eZ cfg.P 39 3=some (3,36):=by kernel_rfl
theorem zo:(aZ cfg.P 37).isSome=true:=by kernel_rfl
theorem KC:(Try.f39.name == "runtime.NumGoroutine")=false:=by kernel_rfl
theorem Kb:(Try.f31.name == "runtime.NumGoroutine")=false:=by kernel_rfl
theorem I6:cfg.objT 109=none:=by kernel_rfl
theorem Ho:zeroOf cfg.P 109=some (.agg [.str [],.str []]):=by kernel_rfl
theorem Hg:aK cfg.P 109=2:=by kernel_rfl
theorem Jr:(dV cfg.P 109).isSome=true:=by kernel_rfl
theorem Ja:dV cfg.P 109=some true:=by kernel_rfl
theorem JD:(Try.f80.name == "runtime.NumGoroutine")=false:=by kernel_rfl
theorem qN:nS pX 107=some (109,31):=by kernel_rfl
theorem Fa:pX.objT 39=none:=by kernel_rfl
theorem Ia:zeroOf cfg.P 31=some (.aT):=by kernel_rfl
theorem JF:(Try.f44.name == "runtime.NumGoroutine")=false:=by kernel_rfl
theorem Kl:(Try.f15.name == "runtime.NumGoroutine")=false:=by kernel_rfl
theorem JB:(Try.f63.name == "runtime.NumGoroutine")=false:=by kernel_rfl
theorem JE:(Try.f16.name == "runtime.NumGoroutine")=false:=by kernel_rfl
theorem Kg:(Try.f17.name == "runtime.NumGoroutine")=false:=by kernel_rfl
theorem J2:(Try.f22.name == "runtime.NumGoroutine")=false:=by kernel_rfl
theorem JR:(Try.f46.name == "runtime.NumGoroutine")=false:=by kernel_rfl
theorem J3:(Try.f73.name == "runtime.NumGoroutine")=false:=by kernel_rfl
theorem GL:nS cfg 30=some (3,3):=by kernel_rfl
theorem J5:cfg.P.underlying 3=some (.int .i64):=by kernel_rfl
theorem JQ:(Try.f74.name == "runtime.NumGoroutine")=false:=by kernel_rfl
theorem JP:(Try.f40.name == "runtime.NumGoroutine")=false:=by kernel_rfl
theorem Ij:(aZ cfg.P 36).isSome=true:=by kernel_rfl
theorem Jl:(dV cfg.P 54).isSome=true:=by kernel_rfl
theorem Kv:(Try.f75.name == "runtime.NumGoroutine")=false:=by kernel_rfl
theorem KA:(Try.f41.name == "runtime.NumGoroutine")=false:=by kernel_rfl
theorem JL:(Try.f18.name == "runtime.NumGoroutine")=false:=by kernel_rfl
theorem GH:cfg.P.underlying 23=some (.pointer 87):=by kernel_rfl
theorem J7:(Try.f42.name == "runtime.NumGoroutine")=false:=by kernel_rfl
theorem KS:(Try.f6.name == "runtime.NumGoroutine")=false:=by kernel_rfl
theorem qi:oper.P_place cfg 90=some (rW [(0,1),(1,1),(2,1),(3,1),(4,1),(5,1),(6,1)]):=nY (by kernel_rfl)
theorem xC:oper.P_place cfg 87=some (rW [(0,1),(1,1)]):=nY (by kernel_rfl)
theorem dY:oper.P_place cfg 39=some (rW [(0,1),(1,1),(2,1),(3,1),(4,1)]):=nY (by kernel_rfl)
theorem vV:oper.P_place cfg 109=some (rW [(0,1),(1,1)]):=nY (by kernel_rfl)
theorem uu:oper.P_place pX 90=some (rW [(0,1),(1,1),(2,1),(3,1),(4,1),(5,1),(6,1)]):=nY (by kernel_rfl)
theorem Ic (x y:aS):AV.eqv cfg.P 109 (.d (.agg [(.str x.tag),(.str x.key)])) (.d (.agg [(.str y.tag),(.str y.key)]))=some (aS.beq x y) :=
 BA (by kernel_rfl) Try.underlying109 (by kernel_rfl) (by kernel_rfl)
theorem Jj (x y:Attr):AV.eqv cfg.P 54 (.d (.agg [(.str x.Name),(.str x.Value)])) (.d (.agg [(.str y.Name),(.str y.Value)]))=some (Attr.beq x y) :=
 BA (by kernel_rfl) Try.underlying54 (by kernel_rfl) (by kernel_rfl)
theorem IG (x y:aS):aS.beq x y=(x == y):=by
 rw [Bool.eq_iff_iff]
 cases x; cases y
 simp [aS.beq]
theorem xK:p9 cfg.P 109 aL where
 eq:=fun a b=>by rw [aS.eq,aS.eq,← I9 (by kernel_rfl),Ic,IG]
 same:=fun a=>by rw [aS.eq]; simp [D.same,D.lD]
 ok:=fun a=>by rw [aS.eq]; exact zK Try.underlying109 rfl (by kernel_rfl)
def La:List Src:=[[(0,none)],[(0,none)],[(17,some 1)],[(18,some 2)],[(19,some 3)],[(3,none)],[(21,some 5)],[(20,some 4),(22,some 6)],[(16,some 0)],[(24,some 8)],[(23,some 7),(25,some 9)]]
def KU:List Src:=[[(0,none)],[(47,some 0)],[(48,some 1)],[(49,some 2)],[(6,none)],[(51,some 4)],[(3,none)],[(50,some 3),(52,some 5)],[(53,some 6),(54,some 7)]]
def KZ:List Src:=[[(5,none)],[(17,some 0)],[(5,none)],[(19,some 2)],[(5,none)],[(21,some 4)],[(5,none)],[(23,some 6)],[(24,some 7)],[(18,some 1),(20,some 3),(22,some 5),(25,some 8)],[],[(6,some 10),(26,some 9)]]
def K8:List Src:=[[(6,none)],[(34,some 0)],[(0,none)],[(8,none)],[(36,some 2),(37,some 3)],[(38,some 4)],[(35,some 1),(39,some 5)],[(6,none)],[(40,some 6),(41,some 7)]]
def KP:List Src:=[[(0,none)],[(5,none)],[(17,some 0),(18,some 1)],[(19,some 2)],[(1,none)],[(5,none)],[(21,some 4),(22,some 5)],[(23,some 6)],[(20,some 3),(24,some 7)]]
def KY:List Src:=[[(3,none)],[(16,some 0)],[(0,none)],[(4,none)],[(18,some 2),(19,some 3)],[(20,some 4)],[(0,none)],[(4,none)],[(22,some 6),(23,some 7)],[(24,some 8)],[(25,some 9)],[(26,some 10)],[(21,some 5),(27,some 11)],[(28,some 12)],[(29,some 13)],[(17,some 1),(30,some 14)],[(3,none)],[(31,some 15),(32,some 16)]]
def KW:List Src:=[[(0,none)],[(1,none)],[(20,some 0),(21,some 1)],[(0,none)],[(2,none)],[(23,some 3),(24,some 4)],[(22,some 2),(25,some 5)],[(26,some 6)]]
def KX:List Src:=[[(0,none)],[(19,some 0)],[(20,some 1)],[(21,some 2)],[(4,none)],[(23,some 4)],[(24,some 5)],[(25,some 6)],[(26,some 7)],[(22,some 3),(27,some 8)],[(28,some 9)]]
def K3:List Src:=[[(9,none)],[(9,none)],[(44,some 1)],[(45,some 2)],[(46,some 3)],[(3,none)],[(9,none)],[(49,some 6)],[(50,some 7)],[(51,some 8)],[(52,some 9)],[(48,some 5),(53,some 10)],[(54,some 11)],[(2,none)],[(56,some 13)],[(47,some 4),(55,some 12),(57,some 14)],[(43,some 0)],[(59,some 16)],[(58,some 15),(60,some 17)]]
def K4:List Src:=[[(5,none)],[(7,none)],[(21,some 1)],[(5,none)],[(7,none)],[(24,some 4)],[(23,some 3),(25,some 5)],[(6,none)],[(27,some 7)],[(26,some 6),(28,some 8)],[(20,some 0),(22,some 2),(29,some 9)]]
def JA:List Src:=[[(5,none)],[(10,none)],[(54,some 1)],[(11,none)],[(56,some 3)],[(53,some 0),(55,some 2),(57,some 4)]]
def JV:List Src:=[[(0,none)],[(3,some 0)],[(4,some 1)],[(5,some 2)],[(6,some 3)],[(0,none)],[(8,some 5)],[(9,some 6)],[(10,some 7)],[(11,some 8)],[(7,some 4),(12,some 9)],[(13,some 10)]]
def Kw:List Src:=[[(0,none)],[(9,none)],[(53,some 0),(54,some 1)],[(5,none)],[(56,some 3)],[(55,some 2),(57,some 4)],[(58,some 5)]]
def JS:List Src:=[[(0,none)],[(9,none)],[(10,none)],[(13,none)],[(108,some 2),(109,some 3)],[(110,some 4)],[(107,some 1),(111,some 5)],[(112,some 6)],[(14,none)],[(106,some 0),(113,some 7),(114,some 8)]]
def KD:List Src:=[[(2,none)],[(48,some 0)],[(5,none)],[(49,some 1),(50,some 2)],[(51,some 3)],[(3,none)],[(53,some 5)],[(5,none)],[(54,some 6),(55,some 7)],[(56,some 8)],[(52,some 4),(57,some 9)],[(58,some 10)]]
def BB:List Src:=[[(4,none)],[(32,some 0)],[(33,some 1)],[(6,none),(34,some 2)],[(34,some 2),(35,some 3)],[(36,some 4)],[(5,none),(37,some 5)],[(38,some 6),(37,some 5)],[(39,some 7),(37,some 5)],[(37,some 5),(40,some 8)],[(41,some 9)],[(7,none),(42,some 10)],[(43,some 11),(42,some 10)],[(44,some 12),(42,some 10)],[(42,some 10),(45,some 13)],[(46,some 14)],[(5,none),(47,some 15)],[(48,some 16),(47,some 15)],[(49,some 17),(47,some 15)],[(7,none),(47,some 15)],[(51,some 19),(47,some 15)],[(52,some 20),(47,some 15)],[(50,some 18),(53,some 21),(47,some 15)],[(47,some 15),(54,some 22)],[(55,some 23)],[(5,none),(56,some 24)],[(57,some 25),(56,some 24)],[(58,some 26),(56,some 24)],[(7,none),(56,some 24)],[(60,some 28),(56,some 24)],[(61,some 29),(56,some 24)],[(59,some 27),(62,some 30),(56,some 24)],[(56,some 24),(63,some 31)],[(64,some 32)],[(1,none),(65,some 33)],[(4,none),(65,some 33)],[(66,some 34),(67,some 35),(65,some 33)],[(68,some 36),(65,some 33)],[(65,some 33),(69,some 37)],[(70,some 38)],[(1,none),(71,some 39)],[(72,some 40),(71,some 39)],[(73,some 41),(71,some 39)],[(71,some 39),(74,some 42)],[(75,some 43)]]
def EX:List Src:=[[(18,none)],[(103,some 0)],[(17,none),(104,some 1)],[(7,none),(104,some 1)],[(105,some 2),(106,some 3),(104,some 1)],[(104,some 1),(107,some 4)],[(108,some 5)],[(10,none),(109,some 6)],[(16,none),(109,some 6)],[(110,some 7),(111,some 8),(109,some 6)],[(11,none),(109,some 6)],[(16,none),(109,some 6)],[(113,some 10),(114,some 11),(109,some 6)],[(112,some 9),(115,some 12),(109,some 6)],[(109,some 6),(116,some 13)],[(117,some 14)],[(11,none),(118,some 15)],[(119,some 16),(118,some 15)],[(1,none),(118,some 15)],[(121,some 18),(118,some 15)],[(122,some 19),(118,some 15)],[(120,some 17),(123,some 20),(118,some 15)],[(118,some 15),(124,some 21)],[(125,some 22)],[(126,some 23)],[(126,some 23),(127,some 24)],[(128,some 25)]]
structure IV (R:bN):Prop where
 obj:lG R cfg
 insp:Aa R cfg.P 62 lV
section
variable {R:bN} (E:IV R)
include E
theorem rM:lG R Bc:=⟨E.obj.toObjOk,E.obj.new⟩
theorem dN:lG R pX:=⟨E.obj.toObjOk,E.obj.new⟩
set_option maxRecDepth 20000 in
set_option maxHeartbeats 4000000 in
theorem qD (n:Nat) (a2:ax) (a6:aA) (r:(Int × ax)) (h:je n a2 a6=some r) (b1:Nat) (v3:AV) (ws4:List (List AV)) (w5:AV):df R cfg.P 58 [.ptr b1 0 0,.d (dB a6)] [.box b1 [v3,w5],ay ae ah.kids 7 5 v3 ws4 a2.l none,aG w5 a2.freed] (fun v l=>v=.d (.int .i64 r.1)∧∃ dv0 dws0 dw0,l=[.box b1 [dv0,dw0],ay ae ah.kids 7 5 dv0 dws0 r.2.l none,aG dw0 r.2.freed]):=by
 unfold je at h
 refine df.of_wp (C:=Bc) Try.func58 rfl Kc rfl (fun B0 S0 H0=>?_)
 replace H0:Has B0 S0 [.box b1 [v3,w5],ay ae ah.kids 7 5 v3 ws4 a2.l none,aG w5 a2.freed]:=H0
 refine aB.seq ?_
 refine aB.region (rM E) rfl ?_
 refine ai.box H0 rfl rfl rfl (aA.fD _) rfl (fun b7 S8 H9=>?_)
 refine ai.val rfl (ak rfl) rfl ?_
 refine ai.nil ?_
 refine aB.seq ?_
 refine aB.region (rM E) rfl ?_
 refine ai.val rfl (aD rfl CV JY rfl) rfl ?_
 refine ai.store H9 (i:=0) rfl rfl rfl rfl rfl rfl K9 rfl KT rfl rfl rfl (fun S10 H11=>?_)
 refine ai.nil ?_
 refine aB.seq ?_
 refine aB.region (rM E) rfl ?_
 refine ai.val rfl (aa rfl) rfl ?_
 refine ai.val rfl (bz rfl) rfl ?_
 refine ai.val rfl (aD rfl sH qd rfl) rfl ?_
 refine ai.val rfl (aI H11 (i:=1) rfl rfl (aR tC rfl)) rfl ?_
 refine ai.val rfl (jy H11 (i:=3) rfl rfl jh) rfl ?_
 refine ai.val rfl (aH rfl rfl iP) rfl ?_
 refine ai.val rfl (ak rfl) rfl ?_
 refine ai.nil ?_
 refine aB.seq ?_
 refine aB.seq ?_
 refine aB.region (rM E) rfl ?_
 refine ai.val rfl (aa rfl) rfl ?_
 refine ai.val rfl (aH rfl rfl dG) rfl ?_
 refine ai.nil ?_
 refine aB.cond rfl (fun hb12=>?_) (fun hb12=>?_)
 ·
  replace h:=dK hb12 h
  refine aB.seq ?_
  obtain ⟨z17,hzz17,h⟩:=bind_some h
  refine aB.gQ (rM E) kF La [(0,none)] (by kernel_rfl) [6,7,10] (by decide) [some (.ptr b1 0 0),some (.ptr b1 0 0),some (.ptr b1 0 0),some (.ptr b1 0 0),some v3,some (.d (dB (aA.mk true a6.tag a6.key a6.text a6.attrs a6.parent))),none,none,none,none,none] ?_
  refine ⟨[0,1,2,3,4,5],by kernel_rfl,?_,_,_,rfl,rfl,.step ?_⟩
  ·
   refine .v rfl rfl rfl rfl (aa rfl) ?_
   refine .v rfl rfl rfl rfl (aa rfl) ?_
   refine .v rfl rfl rfl rfl (bz rfl) ?_
   refine .v rfl rfl rfl rfl (aD rfl jH rq rfl) ?_
   refine .v rfl rfl rfl rfl (aI H11 (i:=1) rfl rfl (aR rY rfl)) ?_
   refine .cons rfl rfl rfl (.step ?_) ?_
   ·
    refine ai.val rfl (aI H11 (i:=0) rfl rfl (bX Gh oh rfl)) rfl ?_
    refine ai.less (Less.agg' (d:=dB (aA.mk true a6.tag a6.key a6.text a6.attrs a6.parent)) (aC.eq rfl (aC.eq rfl (aC.eq rfl (aC.eq rfl (aC.eq rfl (aC.eq rfl (aC.eq rfl .nil))))))) ((aA.eq _).trans rfl)) ?_
    exact ai.nil ⟨_,_,rfl,fun _ ht=>by cases ht; exact ⟨rfl,.refl _⟩⟩
   exact .nil
  refine ai.nU (vs:=[(.d (dB (aA.mk true a6.tag a6.key a6.text a6.attrs a6.parent)))]) (cs:=[[(.d (.bool (aA.mk true a6.tag a6.key a6.text a6.attrs a6.parent).lives)),(.d (.str (aA.mk true a6.tag a6.key a6.text a6.attrs a6.parent).tag)),(.d (.str (aA.mk true a6.tag a6.key a6.text a6.attrs a6.parent).key)),(.d (.str (aA.mk true a6.tag a6.key a6.text a6.attrs a6.parent).text)),(.d (.sl (((aA.mk true a6.tag a6.key a6.text a6.attrs a6.parent).attrs).map az) false)),(.d .aT),(.d (.int .i64 (aA.mk true a6.tag a6.key a6.text a6.attrs a6.parent).parent))]]) H11 rfl E9 wh rQ DK oh rfl (by decide) (.cons (FN (aA.fD _)) rfl .nil) rfl rfl rfl (fun v26 S27 H28=>?_)
  have H29:Has B0 S27 [fF 7 1 v26 [(.d (.bool (aA.mk true a6.tag a6.key a6.text a6.attrs a6.parent).lives)),(.d (.str (aA.mk true a6.tag a6.key a6.text a6.attrs a6.parent).tag)),(.d (.str (aA.mk true a6.tag a6.key a6.text a6.attrs a6.parent).key)),(.d (.str (aA.mk true a6.tag a6.key a6.text a6.attrs a6.parent).text)),(.d (.sl (((aA.mk true a6.tag a6.key a6.text a6.attrs a6.parent).attrs).map az) false)),(.d .aT),(.d (.int .i64 (aA.mk true a6.tag a6.key a6.text a6.attrs a6.parent).parent))],.box b7 [(.d (.bool true)),(.d (.str a6.tag)),(.d (.str a6.key)),(.d (.str a6.text)),(.d (.sl ((a6.attrs).map az) false)),(.d .aT),(.d (.int .i64 a6.parent))],.box b1 [v3,w5],ay ae ah.kids 7 5 v3 ws4 a2.l none,aG w5 a2.freed]:=H28.sl [0,1,2,3,4] rfl rfl
  refine ai.nil ⟨_,_,_,rfl,(fun _ ht=>by cases ht; rfl),[some (.ptr b1 0 0),some (.ptr b1 0 0),some (.ptr b1 0 0),some (.ptr b1 0 0),some v3,some (.d (dB (aA.mk true a6.tag a6.key a6.text a6.attrs a6.parent))),some v26,none,none,none,none],(.o (.o (.o (.o (.o (.o (.new (.new (.new (.new (.new .nil))))))))))),(fun _ ht=>by cases ht; exact ⟨_,rfl,.refl _⟩),?_⟩
  refine ⟨[0,1,2,3,4],by kernel_rfl,?_,_,_,rfl,rfl,.step ?_⟩
  ·
   refine .v rfl rfl rfl rfl (aa rfl) ?_
   refine .v rfl rfl rfl rfl (aa rfl) ?_
   refine .v rfl rfl rfl rfl (bz rfl) ?_
   refine .v rfl rfl rfl rfl (aD rfl jH rq rfl) ?_
   refine .v rfl rfl rfl rfl (aI H29 (i:=2) rfl rfl (aR rY rfl)) ?_
   exact .nil
  have H30:Has B0 S27 ([fF 7 1 v26 [(.d (.bool (aA.mk true a6.tag a6.key a6.text a6.attrs a6.parent).lives)),(.d (.str (aA.mk true a6.tag a6.key a6.text a6.attrs a6.parent).tag)),(.d (.str (aA.mk true a6.tag a6.key a6.text a6.attrs a6.parent).key)),(.d (.str (aA.mk true a6.tag a6.key a6.text a6.attrs a6.parent).text)),(.d (.sl (((aA.mk true a6.tag a6.key a6.text a6.attrs a6.parent).attrs).map az) false)),(.d .aT),(.d (.int .i64 (aA.mk true a6.tag a6.key a6.text a6.attrs a6.parent).parent))],ay ae ah.kids 7 5 v3 ws4 a2.l none] ++ [.box b7 [(.d (.bool true)),(.d (.str a6.tag)),(.d (.str a6.key)),(.d (.str a6.text)),(.d (.sl ((a6.attrs).map az) false)),(.d .aT),(.d (.int .i64 a6.parent))],.box b1 [v3,w5],aG w5 a2.freed]):=H29.sl [0,3,1,2,4] rfl rfl
  replace H30:Has B0 S27 [fF 7 1 v26 [(.d (.bool (aA.mk true a6.tag a6.key a6.text a6.attrs a6.parent).lives)),(.d (.str (aA.mk true a6.tag a6.key a6.text a6.attrs a6.parent).tag)),(.d (.str (aA.mk true a6.tag a6.key a6.text a6.attrs a6.parent).key)),(.d (.str (aA.mk true a6.tag a6.key a6.text a6.attrs a6.parent).text)),(.d (.sl (((aA.mk true a6.tag a6.key a6.text a6.attrs a6.parent).attrs).map az) false)),(.d .aT),(.d (.int .i64 (aA.mk true a6.tag a6.key a6.text a6.attrs a6.parent).parent))],ay ae ah.kids 7 5 v3 ws4 a2.l none,.box b7 [(.d (.bool true)),(.d (.str a6.tag)),(.d (.str a6.key)),(.d (.str a6.text)),(.d (.sl ((a6.attrs).map az) false)),(.d .aT),(.d (.int .i64 a6.parent))],.box b1 [v3,w5],aG w5 a2.freed]:=H30
  refine ai.Cc (z:=(ah.mk (aA.mk true a6.tag a6.key a6.text a6.attrs a6.parent).lives (aA.mk true a6.tag a6.key a6.text a6.attrs a6.parent).tag (aA.mk true a6.tag a6.key a6.text a6.attrs a6.parent).key (aA.mk true a6.tag a6.key a6.text a6.attrs a6.parent).text (aA.mk true a6.tag a6.key a6.text a6.attrs a6.parent).attrs [] (aA.mk true a6.tag a6.key a6.text a6.attrs a6.parent).parent)) H30 rfl rfl rfl E9 Ie wh oh hzz17 J6 rfl Io ⟨rfl,rfl,rfl,(.cons (.refl _) (.cons (.refl _) (.cons (.refl _) (.cons (.refl _) (.cons (.refl _) (.cons (Less.any _) (.cons (.refl _) .nil)))))))⟩ rfl rfl rfl (fun v31 ws32 S33 H34=>?_)
  have H35:Has B0 S33 [.box b7 [(.d (.bool true)),(.d (.str a6.tag)),(.d (.str a6.key)),(.d (.str a6.text)),(.d (.sl ((a6.attrs).map az) false)),(.d .aT),(.d (.int .i64 a6.parent))],.box b1 [v3,w5],ay ae ah.kids 7 5 v31 ws32 z17 none,aG w5 a2.freed]:=H34.sl [1,2,0,3] rfl rfl
  refine ai.nil ⟨_,_,_,rfl,(fun _ ht=>by cases ht; rfl),[some (.ptr b1 0 0),some (.ptr b1 0 0),some (.ptr b1 0 0),some (.ptr b1 0 0),some v3,some (.d (dB (aA.mk true a6.tag a6.key a6.text a6.attrs a6.parent))),some v26,some v31,some (.ptr b1 0 0),some (.ptr b1 0 0),none],(.o (.o (.o (.o (.o (.o (.o (.new (.new (.new (.new .nil))))))))))),(fun _ ht=>by cases ht; exact ⟨_,rfl,.refl _⟩),?_⟩
  refine ⟨[0,8,9],by kernel_rfl,?_,_,_,rfl,rfl,.step ?_⟩
  ·
   refine .v rfl rfl rfl rfl (aa rfl) ?_
   refine .v rfl rfl rfl rfl (bz rfl) ?_
   refine .v rfl rfl rfl rfl (aD rfl jH rq rfl) ?_
   exact .nil
  refine ai.store H35 (i:=1) rfl rfl rfl rfl (xz H35 (i:=2) rfl).2 rfl Kk (xz H35 (i:=2) rfl).1 JU rfl rfl rfl (fun S36 H37=>?_)
  refine ai.nil ⟨_,.any,_,rfl,(fun _ ht=>by cases ht),[some (.ptr b1 0 0),some (.ptr b1 0 0),some (.ptr b1 0 0),some (.ptr b1 0 0),some v3,some (.d (dB (aA.mk true a6.tag a6.key a6.text a6.attrs a6.parent))),some v26,some v31,some (.ptr b1 0 0),some (.ptr b1 0 0),some .any],(.o (.o (.o (.o (.o (.o (.o (.o (.o (.o (.new .nil))))))))))),(fun _ ht=>by cases ht),?_⟩
  refine ⟨[],by kernel_rfl,?_,_,rfl,?_⟩
  ·
   exact .nil
  refine aB.seq ?_
  refine aB.region (rM E) rfl ?_
  refine ai.val rfl (aa rfl) rfl ?_
  refine ai.val rfl (bz rfl) rfl ?_
  refine ai.val rfl (aD rfl jH rq rfl) rfl ?_
  refine ai.val rfl (aI H37 (i:=1) rfl rfl (aR rY rfl)) rfl ?_
  refine ai.val rfl (qQ H37 (i:=2) rfl rfl Gb) rfl ?_
  refine ai.val rfl (ak rfl) rfl ?_
  refine ai.nil ?_
  have hr:=Option.some.inj h
  subst hr
  exact aB.ret ⟨_,rfl,rfl,_,_,_,.refl _,(.refl _),⟨rfl,v31,ws32,w5,rfl⟩,H37.sl [1,2,3] rfl rfl⟩
 ·
  replace h:=dJ hb12 h
  refine aB.skip ?_
  refine aB.seq ?_
  refine aB.region (rM E) rfl ?_
  refine ai.val rfl (aa rfl) rfl ?_
  refine ai.val rfl (bz rfl) rfl ?_
  refine ai.val rfl (aD rfl sH qd rfl) rfl ?_
  refine ai.val rfl (aI H11 (i:=1) rfl rfl (aR tC rfl)) rfl ?_
  refine ai.val rfl (aa rfl) rfl ?_
  obtain ⟨z38,hzz38,h⟩:=bind_some h
  refine ai.val rfl (qJ H11 (q:=3) rfl hzz38 rfl rfl dX oP jA) rfl ?_
  refine ai.val rfl (pz H11 (q:=3) rfl hzz38 rfl nG) rfl ?_
  refine ai.val rfl (ak rfl) rfl ?_
  refine ai.nil ?_
  refine aB.seq ?_
  refine aB.region (rM E) rfl ?_
  refine ai.val rfl (aa rfl) rfl ?_
  refine ai.val rfl (aa rfl) rfl ?_
  refine ai.val rfl (bz rfl) rfl ?_
  refine ai.val rfl (aD rfl sH qd rfl) rfl ?_
  refine ai.val rfl (aI H11 (i:=1) rfl rfl (aR tC rfl)) rfl ?_
  refine ai.val rfl (aa rfl) rfl ?_
  obtain ⟨z39,hzz39,h⟩:=bind_some h
  have H40:Has B0 S10 ([aG w5 a2.freed] ++ [.box b7 [(.d (.bool true)),(.d (.str a6.tag)),(.d (.str a6.key)),(.d (.str a6.text)),(.d (.sl ((a6.attrs).map az) false)),(.d .aT),(.d (.int .i64 a6.parent))],.box b1 [v3,w5],ay ae ah.kids 7 5 v3 ws4 a2.l none]):=H11.sl [3,0,1,2] rfl rfl
  replace H40:Has B0 S10 [aG w5 a2.freed,.box b7 [(.d (.bool true)),(.d (.str a6.tag)),(.d (.str a6.key)),(.d (.str a6.text)),(.d (.sl ((a6.attrs).map az) false)),(.d .aT),(.d (.int .i64 a6.parent))],.box b1 [v3,w5],ay ae ah.kids 7 5 v3 ws4 a2.l none]:=H40
  refine ai.Ib H40 rfl rfl rfl dX vY jA hzz39 rfl (fun w41 H42=>?_)
  have H43:Has B0 S10 [.box b7 [(.d (.bool true)),(.d (.str a6.tag)),(.d (.str a6.key)),(.d (.str a6.text)),(.d (.sl ((a6.attrs).map az) false)),(.d .aT),(.d (.int .i64 a6.parent))],.box b1 [v3,w5],ay ae ah.kids 7 5 v3 ws4 a2.l none,aG w41 z39]:=H42.sl [1,2,3,0] rfl rfl
  refine ai.val rfl (bz rfl) rfl ?_
  refine ai.val rfl (aD rfl sH qd rfl) rfl ?_
  refine ai.store H43 (i:=1) rfl rfl rfl rfl (qP H43 (i:=3) rfl).2 rfl G7 (qP H43 (i:=3) rfl).1 GY rfl rfl rfl (fun S44 H45=>?_)
  refine ai.nil ?_
  refine aB.seq ?_
  obtain ⟨z46,hzz46,h⟩:=bind_some h
  refine aB.gQ (rM E) kF KU [(6,none)] (by kernel_rfl) [8] (by decide) [some (.ptr b1 0 0),some (.ptr b1 0 0),some (.ptr b1 0 0),some v3,some (.d (.int .i64 z38)),some (.d (.int .i64 (IntKind.wrap .i64 (z38 - 1)))),some (.d (dB (aA.mk true a6.tag a6.key a6.text a6.attrs a6.parent))),some (bu v3 (Int.toNat (IntKind.wrap .i64 (z38 - 1))) 0),none] ?_
  refine ⟨[0,1,2,3,4,5,6,7],by kernel_rfl,?_,_,_,rfl,rfl,.step ?_⟩
  ·
   refine .v rfl rfl rfl rfl (aa rfl) ?_
   refine .v rfl rfl rfl rfl (bz rfl) ?_
   refine .v rfl rfl rfl rfl (aD rfl jH rq rfl) ?_
   refine .v rfl rfl rfl rfl (aI H45 (i:=1) rfl rfl (aR rY rfl)) ?_
   refine .v rfl rfl rfl rfl (aa rfl) ?_
   refine .v rfl rfl rfl rfl (aH rfl rfl iP) ?_
   refine .cons rfl rfl rfl (.step ?_) ?_
   ·
    refine ai.val rfl (aI H45 (i:=0) rfl rfl (bX Gh oh rfl)) rfl ?_
    refine ai.less (Less.agg' (d:=dB (aA.mk true a6.tag a6.key a6.text a6.attrs a6.parent)) (aC.eq rfl (aC.eq rfl (aC.eq rfl (aC.eq rfl (aC.eq rfl (aC.eq rfl (aC.eq rfl .nil))))))) ((aA.eq _).trans rfl)) ?_
    exact ai.nil ⟨_,_,rfl,fun _ ht=>by cases ht; exact ⟨rfl,.refl _⟩⟩
   refine .v rfl rfl rfl rfl (fJ H45 (i:=2) rfl hzz46 rfl rfl wh rQ oh) ?_
   exact .nil
  have H55:Has B0 S44 ([ay ae ah.kids 7 5 v3 ws4 a2.l none] ++ [.box b7 [(.d (.bool true)),(.d (.str a6.tag)),(.d (.str a6.key)),(.d (.str a6.text)),(.d (.sl ((a6.attrs).map az) false)),(.d .aT),(.d (.int .i64 a6.parent))],.box b1 [v3,w41],aG w41 z39]):=H45.sl [2,0,1,3] rfl rfl
  replace H55:Has B0 S44 [ay ae ah.kids 7 5 v3 ws4 a2.l none,.box b7 [(.d (.bool true)),(.d (.str a6.tag)),(.d (.str a6.key)),(.d (.str a6.text)),(.d (.sl ((a6.attrs).map az) false)),(.d .aT),(.d (.int .i64 a6.parent))],.box b1 [v3,w41],aG w41 z39]:=H55
  refine ai.xn (z':=(ah.mk (aA.mk true a6.tag a6.key a6.text a6.attrs a6.parent).lives (aA.mk true a6.tag a6.key a6.text a6.attrs a6.parent).tag (aA.mk true a6.tag a6.key a6.text a6.attrs a6.parent).key (aA.mk true a6.tag a6.key a6.text a6.attrs a6.parent).text (aA.mk true a6.tag a6.key a6.text a6.attrs a6.parent).attrs [] (aA.mk true a6.tag a6.key a6.text a6.attrs a6.parent).parent)) H55 rfl hzz46 (.inl rfl) rfl rfl (aA.fD _) rfl oh rQ rfl rfl rfl (.cons (.refl _) (.cons (.refl _) (.cons (.refl _) (.cons (.refl _) (.cons (.refl _) (.cons (Less.any _) (.cons (.refl _) .nil))))))) rfl rfl (fun ws54 S52 H53=>?_)
  have H56:Has B0 S52 [.box b7 [(.d (.bool true)),(.d (.str a6.tag)),(.d (.str a6.key)),(.d (.str a6.text)),(.d (.sl ((a6.attrs).map az) false)),(.d .aT),(.d (.int .i64 a6.parent))],.box b1 [v3,w41],ay ae ah.kids 7 5 v3 ws54 (jI a2.l (IntKind.wrap .i64 (z38 - 1)) (ah.mk (aA.mk true a6.tag a6.key a6.text a6.attrs a6.parent).lives (aA.mk true a6.tag a6.key a6.text a6.attrs a6.parent).tag (aA.mk true a6.tag a6.key a6.text a6.attrs a6.parent).key (aA.mk true a6.tag a6.key a6.text a6.attrs a6.parent).text (aA.mk true a6.tag a6.key a6.text a6.attrs a6.parent).attrs [] (aA.mk true a6.tag a6.key a6.text a6.attrs a6.parent).parent)) none,aG w41 z39]:=H53.sl [1,2,0,3] rfl rfl
  refine ai.nil ⟨_,.any,_,rfl,(fun _ ht=>by cases ht),[some (.ptr b1 0 0),some (.ptr b1 0 0),some (.ptr b1 0 0),some v3,some (.d (.int .i64 z38)),some (.d (.int .i64 (IntKind.wrap .i64 (z38 - 1)))),some (.d (dB (aA.mk true a6.tag a6.key a6.text a6.attrs a6.parent))),some (bu v3 (Int.toNat (IntKind.wrap .i64 (z38 - 1))) 0),some .any],(.o (.o (.o (.o (.o (.o (.o (.o (.new .nil))))))))),(fun _ ht=>by cases ht),?_⟩
  refine ⟨[],by kernel_rfl,?_,_,rfl,?_⟩
  ·
   exact .nil
  refine aB.seq ?_
  refine aB.region (rM E) rfl ?_
  refine ai.val rfl (aa rfl) rfl ?_
  refine ai.val rfl (ak rfl) rfl ?_
  refine ai.nil ?_
  have hr:=Option.some.inj h
  subst hr
  exact aB.ret ⟨_,rfl,rfl,_,_,_,.refl _,(.refl _),⟨rfl,v3,ws54,w41,rfl⟩,H56.sl [1,2,3] rfl rfl⟩
set_option maxRecDepth 20000 in
set_option maxHeartbeats 4000000 in
theorem pY (n:Nat) (a2:ax) (a6:Str) (r:(Int × ax)) (h:jr n a2 a6=some r) (b1:Nat) (v3:AV) (ws4:List (List AV)) (w5:AV):df R cfg.P 28 [.ptr b1 0 0,.d (.str a6)] [.box b1 [v3,w5],ay ae ah.kids 7 5 v3 ws4 a2.l none,aG w5 a2.freed] (fun v l=>v=.d (.int .i64 r.1)∧∃ dv0 dws0 dw0,l=[.box b1 [dv0,dw0],ay ae ah.kids 7 5 dv0 dws0 r.2.l none,aG dw0 r.2.freed]):=by
 unfold jr at h
 refine df.of_wp (C:=cfg) Try.func28 rfl Kt rfl (fun B0 S0 H0=>?_)
 replace H0:Has B0 S0 [.box b1 [v3,w5],ay ae ah.kids 7 5 v3 ws4 a2.l none,aG w5 a2.freed]:=H0
 refine aB.seq ?_
 refine aB.region E.obj rfl ?_
 refine ai.val rfl (ak rfl) rfl ?_
 refine ai.nil ?_
 refine aB.seq ?_
 refine aB.region E.obj rfl ?_
 refine ai.val rfl (aa rfl) rfl ?_
 refine ai.val rfl (aa rfl) rfl ?_
 refine ai.val rfl (eB (cs:=[(.d (.bool false)),(.d (.str [])),(.d (.str [])),(.d (.str a6)),(.d .aT),(.d .aT),(.d (.int .i64 0))]) DK rfl (qi) (ja rfl rfl rfl rfl rfl)) rfl ?_
 refine ai.less (Less.agg' (d:=dB (aA.mk false [] [] a6 [] 0)) (aC.eq rfl (aC.eq rfl (aC.eq rfl (aC.eq rfl (aC.iY rfl (.aT false) rfl rfl (aC.eq rfl (aC.eq rfl .nil))))))) ((aA.eq _).trans rfl)) ?_
 obtain ⟨z7,hzz7,h⟩:=bind_some h
 refine ai.fw (ins:=[.box b1 [v3,w5],ay ae ah.kids 7 5 v3 ws4 a2.l none,aG w5 a2.freed]) (more:=[]) (H0.sl [0,1,2] rfl rfl) rfl (aJ rfl rfl) (qD E n _ _ _ hzz7 b1 v3 ws4 w5) (.cons (.refl _) (.cons (.refl _) .nil)) rfl ?_
 rintro _ S11 _ ⟨rfl,v8,ws9,w10,rfl⟩ H12
 have H13:Has B0 S11 [.box b1 [v8,w10],ay ae ah.kids 7 5 v8 ws9 z7.2.l none,aG w10 z7.2.freed]:=H12.sl [0,1,2] rfl rfl
 refine ai.val rfl (ak rfl) rfl ?_
 refine ai.nil ?_
 have hr:=Option.some.inj h
 subst hr
 exact aB.ret ⟨_,rfl,rfl,_,_,_,.refl _,(.refl _),⟨rfl,v8,ws9,w10,rfl⟩,H13.sl [0,1,2] rfl rfl⟩
set_option maxRecDepth 20000 in
set_option maxHeartbeats 4000000 in
theorem mo (n:Nat) (a2:ax) (a6:Str) (a7:Str) (r:(Int × ax)) (h:gm n a2 a6 a7=some r) (b1:Nat) (v3:AV) (ws4:List (List AV)) (w5:AV):df R cfg.P 13 [.ptr b1 0 0,.d (.str a6),.d (.str a7)] [.box b1 [v3,w5],ay ae ah.kids 7 5 v3 ws4 a2.l none,aG w5 a2.freed] (fun v l=>v=.d (.int .i64 r.1)∧∃ dv0 dws0 dw0,l=[.box b1 [dv0,dw0],ay ae ah.kids 7 5 dv0 dws0 r.2.l none,aG dw0 r.2.freed]):=by
 unfold gm at h
 refine df.of_wp (C:=cfg) Try.func13 rfl JK rfl (fun B0 S0 H0=>?_)
 replace H0:Has B0 S0 [.box b1 [v3,w5],ay ae ah.kids 7 5 v3 ws4 a2.l none,aG w5 a2.freed]:=H0
 refine aB.seq ?_
 refine aB.region E.obj rfl ?_
 refine ai.val rfl (ak rfl) rfl ?_
 refine ai.nil ?_
 refine aB.seq ?_
 refine aB.seq ?_
 refine aB.region E.obj rfl ?_
 refine ai.val rfl (aa rfl) rfl ?_
 refine ai.val rfl (aH rfl rfl kQ) rfl ?_
 refine ai.nil ?_
 refine aB.cond rfl (fun hb8=>?_) (fun hb8=>?_)
 ·
  replace h:=dK hb8 h
  refine aB.seq ?_
  refine aB.region E.obj rfl ?_
  refine ai.val rfl (aa rfl) rfl ?_
  obtain ⟨z9,hzz9,h⟩:=bind_some h
  refine ai.fw (ins:=[.box b1 [v3,w5],ay ae ah.kids 7 5 v3 ws4 a2.l none,aG w5 a2.freed]) (more:=[]) (H0.sl [0,1,2] rfl rfl) rfl (aJ rfl rfl) (pY E n _ _ _ hzz9 b1 v3 ws4 w5) (.cons (.refl _) (.cons (.refl _) .nil)) rfl ?_
  rintro _ S13 _ ⟨rfl,v10,ws11,w12,rfl⟩ H14
  have H15:Has B0 S13 [.box b1 [v10,w12],ay ae ah.kids 7 5 v10 ws11 z9.2.l none,aG w12 z9.2.freed]:=H14.sl [0,1,2] rfl rfl
  refine ai.val rfl (ak rfl) rfl ?_
  refine ai.nil ?_
  have hr:=Option.some.inj h
  subst hr
  exact aB.ret ⟨_,rfl,rfl,_,_,_,.refl _,(.refl _),⟨rfl,v10,ws11,w12,rfl⟩,H15.sl [0,1,2] rfl rfl⟩
 ·
  replace h:=dJ hb8 h
  refine aB.skip ?_
  refine aB.seq ?_
  refine aB.region E.obj rfl ?_
  refine ai.val rfl (aa rfl) rfl ?_
  refine ai.val rfl (aa rfl) rfl ?_
  refine ai.val rfl (aa rfl) rfl ?_
  refine ai.val rfl (eB (cs:=[(.d (.bool false)),(.d (.str a6)),(.d (.str a7)),(.d (.str [])),(.d .aT),(.d .aT),(.d (.int .i64 0))]) DK rfl (qi) (ja rfl rfl rfl rfl (ja rfl rfl rfl rfl rfl))) rfl ?_
  refine ai.less (Less.agg' (d:=dB (aA.mk false a6 a7 [] [] 0)) (aC.eq rfl (aC.eq rfl (aC.eq rfl (aC.eq rfl (aC.iY rfl (.aT false) rfl rfl (aC.eq rfl (aC.eq rfl .nil))))))) ((aA.eq _).trans rfl)) ?_
  obtain ⟨z16,hzz16,h⟩:=bind_some h
  refine ai.fw (ins:=[.box b1 [v3,w5],ay ae ah.kids 7 5 v3 ws4 a2.l none,aG w5 a2.freed]) (more:=[]) (H0.sl [0,1,2] rfl rfl) rfl (aJ rfl rfl) (qD E n _ _ _ hzz16 b1 v3 ws4 w5) (.cons (.refl _) (.cons (.refl _) .nil)) rfl ?_
  rintro _ S20 _ ⟨rfl,v17,ws18,w19,rfl⟩ H21
  have H22:Has B0 S20 [.box b1 [v17,w19],ay ae ah.kids 7 5 v17 ws18 z16.2.l none,aG w19 z16.2.freed]:=H21.sl [0,1,2] rfl rfl
  refine ai.val rfl (ak rfl) rfl ?_
  refine ai.nil ?_
  have hr:=Option.some.inj h
  subst hr
  exact aB.ret ⟨_,rfl,rfl,_,_,_,.refl _,(.refl _),⟨rfl,v17,ws18,w19,rfl⟩,H22.sl [0,1,2] rfl rfl⟩
set_option maxRecDepth 20000 in
set_option maxHeartbeats 4000000 in
theorem wK (n:Nat)  (r:(Option ax)) (h:qR n  = some r):df R cfg.P 12 [] [] (fun v l=>match r with | none=>v=.d .nilp∧l=[] | some x=>∃ b dv dws dw,v=.ptr b 0 0∧l=[] ++ [.box b [dv,dw],ay ae ah.kids 7 5 dv dws x.l none,aG dw x.freed]):=by
 unfold qR at h
 refine df.of_wp (C:=cfg) Try.func12 rfl Ki rfl (fun B0 S0 H0=>?_)
 replace H0:Has B0 S0 []:=H0
 refine aB.seq ?_
 refine aB.region E.obj rfl ?_
 refine ai.val rfl (ak rfl) rfl ?_
 refine ai.nil ?_
 refine aB.seq ?_
 refine aB.region E.obj rfl ?_
 refine ai.val rfl (eB (cs:=[(.d .aT),(.d .aT)]) Kj rfl (xC) rfl) rfl ?_
 refine ai.box H0 rfl rfl rfl rfl rfl (fun b1 S2 H3=>?_)
 have H4:=H3.FL
 have H5:=Has.GZ ae ah.kids 7 5 rfl H4
 have H6:Has B0 S2 [.box b1 [(.d .aT),(.d .aT)],ay ae ah.kids 7 5 (.d .aT) [] [] none,aG (.d .aT) []]:=H5.sl [2,0,1] rfl rfl
 refine ai.val rfl (ak rfl) rfl ?_
 refine ai.nil ?_
 refine aB.seq ?_
 refine aB.region E.obj rfl ?_
 refine ai.val rfl (aa rfl) rfl ?_
 obtain ⟨z7,hzz7,h⟩:=bind_some h
 refine ai.fw (ins:=[.box b1 [(.d .aT),(.d .aT)],ay ae ah.kids 7 5 (.d .aT) [] [] none,aG (.d .aT) []]) (more:=[]) (H6.sl [0,1,2] rfl rfl) rfl (aJ rfl rfl) (mo E n _ _ _ _ hzz7 b1 (.d .aT) [] (.d .aT)) (.cons (.refl _) (.cons (.refl _) (.cons (.refl _) .nil))) rfl ?_
 rintro _ S11 _ ⟨rfl,v8,ws9,w10,rfl⟩ H12
 have H13:Has B0 S11 [.box b1 [v8,w10],ay ae ah.kids 7 5 v8 ws9 z7.2.l none,aG w10 z7.2.freed]:=H12.sl [0,1,2] rfl rfl
 refine ai.nil ?_
 refine aB.seq ?_
 refine aB.region E.obj rfl ?_
 refine ai.val rfl (aa rfl) rfl ?_
 refine ai.val rfl (ak rfl) rfl ?_
 refine ai.nil ?_
 have hr:=Option.some.inj h
 subst hr
 exact aB.ret ⟨_,rfl,rfl,_,_,_,.refl _,(.refl _),⟨_,v8,ws9,w10,rfl,rfl⟩,H13.sl [0,1,2] rfl rfl⟩
set_option maxRecDepth 20000 in
set_option maxHeartbeats 4000000 in
theorem fK (n:Nat) (a2:ax) (a6:Int) (r:Bool) (h:fE n a2 a6=some r) (b1:Nat) (v3:AV) (ws4:List (List AV)) (w5:AV):df R cfg.P 59 [.ptr b1 0 0,.d (.int .i64 a6)] [.box b1 [v3,w5],ay ae ah.kids 7 5 v3 ws4 a2.l none,aG w5 a2.freed] (fun v l=>v=(bif r then bu v3 (Int.toNat (IntKind.wrap .i64 (a6 - 1))) 0 else .d .nilp)∧l=[.box b1 [v3,w5],ay ae ah.kids 7 5 v3 ws4 a2.l none,aG w5 a2.freed]):=by
 unfold fE at h
 refine df.of_wp (C:=cfg) Try.func59 rfl KH rfl (fun B0 S0 H0=>?_)
 replace H0:Has B0 S0 [.box b1 [v3,w5],ay ae ah.kids 7 5 v3 ws4 a2.l none,aG w5 a2.freed]:=H0
 refine aB.seq ?_
 refine aB.region E.obj rfl ?_
 refine ai.val rfl (ak rfl) rfl ?_
 refine ai.nil ?_
 refine aB.seq ?_
 refine aB.seq ?_
 refine aB.region E.obj rfl ?_
 refine ai.val rfl (aa rfl) rfl ?_
 refine ai.val rfl (aH rfl rfl dG) rfl ?_
 refine ai.val rfl (aa rfl) rfl ?_
 refine ai.jG 8 15 (.d (.bool ((decide (a6 < 1)) || (decide (((a2.l).length:Int) < a6))))) ?_ ?_
 ·
  rcases Bool.eq_false_or_eq_true ((decide (a6 < 1))) with hB7 | hB7
  ·
   refine ai.bool hB7 ?_
   refine ai.no rfl rfl ?_
   refine ai.no rfl rfl ?_
   refine ai.no rfl rfl ?_
   refine ai.no rfl rfl ?_
   refine ai.no rfl rfl ?_
   refine ai.no rfl rfl ?_
   refine ai.no rfl rfl ?_
   refine ai.val rfl (aF (b:=true) rfl rfl) rfl ?_
   exact ai.nil ⟨_,rfl,(aj.put (aj.push rfl (aj.push rfl (aj.push rfl (aj.push rfl (aj.push rfl (aj.push rfl (aj.push rfl (aj.put (.refl _) (Less.eq (by rw [hB7])))))))))) (Less.eq (by rw [hB7]; rw [Bool.true_or])))⟩
  ·
   refine ai.bool hB7 ?_
   refine ai.val rfl (aa rfl) rfl ?_
   refine ai.val rfl (aa rfl) rfl ?_
   refine ai.val rfl (bz rfl) rfl ?_
   refine ai.val rfl (aD rfl jH rq rfl) rfl ?_
   refine ai.val rfl (aI H0 (i:=0) rfl rfl (aR rY rfl)) rfl ?_
   refine ai.val rfl (qQ H0 (i:=1) rfl rfl Gb) rfl ?_
   refine ai.val rfl (aH rfl rfl EE) rfl ?_
   refine ai.val rfl (aF (b:=false) rfl rfl) rfl ?_
   exact ai.nil ⟨_,rfl,(aj.put (aj.push rfl (aj.push rfl (aj.push rfl (aj.push rfl (aj.push rfl (aj.push rfl (aj.push rfl (aj.put (.refl _) (Less.eq (by rw [hB7])))))))))) (Less.eq (by rw [hB7]; rw [Bool.false_or])))⟩
 ·
  refine ai.val rfl (aa rfl) rfl ?_
  obtain ⟨z9,hzz9,h⟩:=bind_some h
  refine ai.jG 11 27 (.d (.bool z9)) ?_ ?_
  ·
   rcases Bool.eq_false_or_eq_true (((decide (a6 < 1)) || (decide (((a2.l).length:Int) < a6)))) with hB8 | hB8
   ·
    refine ai.bool hB8 ?_
    refine ai.no rfl rfl ?_
    refine ai.no rfl rfl ?_
    refine ai.no rfl rfl ?_
    refine ai.no rfl rfl ?_
    refine ai.no rfl rfl ?_
    refine ai.no rfl rfl ?_
    refine ai.no rfl rfl ?_
    refine ai.no rfl rfl ?_
    refine ai.no rfl rfl ?_
    refine ai.no rfl rfl ?_
    refine ai.val rfl (aF (b:=true) rfl rfl) rfl ?_
    replace hzz9:=dK hB8 hzz9
    cases hzz9
    exact ai.nil ⟨_,rfl,(aj.put (aj.push rfl (aj.push rfl (aj.push rfl (aj.push rfl (aj.push rfl (aj.push rfl (aj.push rfl (aj.push rfl (aj.push rfl (aj.push rfl (aj.put (.refl _) (Less.eq (by rw [hB8]))))))))))))) (.refl _))⟩
   ·
    refine ai.bool hB8 ?_
    replace hzz9:=dJ hB8 hzz9
    refine ai.val rfl (aa rfl) rfl ?_
    refine ai.val rfl (bz rfl) rfl ?_
    refine ai.val rfl (aD rfl jH rq rfl) rfl ?_
    refine ai.val rfl (aI H0 (i:=0) rfl rfl (aR rY rfl)) rfl ?_
    refine ai.val rfl (aa rfl) rfl ?_
    refine ai.val rfl (aH rfl rfl iP) rfl ?_
    obtain ⟨z10,hzz10,hzz9⟩:=bind_some hzz9
    refine ai.val rfl (fJ H0 (i:=1) rfl hzz10 rfl rfl wh rQ oh) rfl ?_
    refine ai.val rfl (bg H0 (i:=1) rfl hzz10 rfl CV JY rfl) rfl ?_
    refine ai.jo H0 rfl (q:=1) rfl hzz10 rfl KO rfl rfl rfl ?_
    refine ai.val rfl (qF rfl) rfl ?_
    refine ai.val rfl (aF (b:=false) rfl rfl) rfl ?_
    cases hzz9
    exact ai.nil ⟨_,rfl,(aj.put (aj.push rfl (aj.push rfl (aj.push rfl (aj.push rfl (aj.push rfl (aj.push rfl (aj.push rfl (aj.push rfl (aj.push rfl (aj.push rfl (aj.put (.refl _) (Less.eq (by rw [hB8]))))))))))))) (.refl _))⟩
  ·
   refine ai.nil ?_
   refine aB.cond rfl (fun hb11=>?_) (fun hb11=>?_)
   ·
    replace h:=dK hb11 h
    refine aB.seq ?_
    refine aB.region E.obj rfl ?_
    refine ai.val rfl (ak rfl) rfl ?_
    refine ai.nil ?_
    have hr:=Option.some.inj h
    subst hr
    exact aB.ret ⟨_,rfl,rfl,_,_,_,.refl _,(.refl _),⟨rfl,rfl⟩,H0.sl [0,1,2] rfl rfl⟩
   ·
    replace h:=dJ hb11 h
    refine aB.skip ?_
    refine aB.seq ?_
    refine aB.region E.obj rfl ?_
    refine ai.val rfl (aa rfl) rfl ?_
    refine ai.val rfl (bz rfl) rfl ?_
    refine ai.val rfl (aD rfl jH rq rfl) rfl ?_
    refine ai.val rfl (aI H0 (i:=0) rfl rfl (aR rY rfl)) rfl ?_
    refine ai.val rfl (aa rfl) rfl ?_
    refine ai.val rfl (aH rfl rfl iP) rfl ?_
    obtain ⟨z12,hzz12,h⟩:=bind_some h
    refine ai.val rfl (fJ H0 (i:=1) rfl hzz12 rfl rfl wh rQ oh) rfl ?_
    refine ai.val rfl (ak rfl) rfl ?_
    refine ai.nil ?_
    have hr:=Option.some.inj h
    subst hr
    exact aB.ret ⟨_,rfl,rfl,_,_,_,.refl _,(.refl _),⟨rfl,rfl⟩,H0.sl [0,1,2] rfl rfl⟩
theorem l7 (n:Nat) (a1:List Int) (r:List Int) (h:gB n a1=some r) (w:AV):df R cfg.P 64 [w] [aG w a1] (fun v l=>l=[.row 1 v ((r).map (D.int .i64)),aG w a1]):=by
 unfold gB at h
 refine df.of_wp (C:=pX) Try.func64 rfl KN rfl (fun B0 S0 H0=>?_)
 refine aB.seq ?_
 refine aB.region (dN E) rfl ?_
 refine ai.val rfl (ak rfl) rfl ?_
 refine ai.nil ?_
 refine aB.seq ?_
 refine aB.seq ?_
 refine aB.region (dN E) rfl ?_
 refine ai.val rfl (aa rfl) rfl ?_
 refine ai.EZ H0 rfl rfl rfl IP rfl (fun bb hbb hbn=>?_)
 refine ai.nil ?_
 refine aB.cond rfl (fun hb=>?_) (fun hb=>?_)
 ·
  have e:=hbb hb
  subst e
  have hr:=(kY h).2
  subst hr
  refine aB.seq ?_
  refine aB.region (dN E) rfl ?_
  refine ai.val rfl (ak rfl) rfl ?_
  refine ai.nil ?_
  exact aB.ret ⟨_,rfl,rfl,_,_,_,.refl _,.refl _,rfl,H0.Jb 1⟩
 ·
  refine aB.skip ?_
  refine aB.seq ?_
  refine aB.region (dN E) rfl ?_
  refine ai.val rfl (tq GM dX nG) rfl ?_
  refine ai.val rfl (aa rfl) rfl ?_
  refine ai.FI H0 rfl (hbn hb) rfl rfl nP xq dX jA h F9 rfl Ao rfl (fun v2 S2 H2=>?_)
  refine ai.val rfl (ak rfl) rfl ?_
  refine ai.nil ?_
  exact aB.ret ⟨_,rfl,rfl,_,_,_,.refl _,.refl _,rfl,H2⟩
set_option maxRecDepth 20000 in
set_option maxHeartbeats 4000000 in
theorem iQ (n:Nat) (a2:ax) (a6:Int) (r:(List Int)) (h:gy n a2 a6=some r) (b1:Nat) (v3:AV) (ws4:List (List AV)) (w5:AV):df R cfg.P 19 [.ptr b1 0 0,.d (.int .i64 a6)] [.box b1 [v3,w5],ay ae ah.kids 7 5 v3 ws4 a2.l none,aG w5 a2.freed] (fun v l=>v=.d (.sl ((r).map (D.int .i64)) false)∧l=[.box b1 [v3,w5],ay ae ah.kids 7 5 v3 ws4 a2.l none,aG w5 a2.freed]):=by
 unfold gy at h
 refine df.of_wp (C:=cfg) Try.func19 rfl KI rfl (fun B0 S0 H0=>?_)
 replace H0:Has B0 S0 [.box b1 [v3,w5],ay ae ah.kids 7 5 v3 ws4 a2.l none,aG w5 a2.freed]:=H0
 refine aB.seq ?_
 refine aB.region E.obj rfl ?_
 refine ai.val rfl (ak rfl) rfl ?_
 refine ai.nil ?_
 refine aB.seq ?_
 refine aB.region E.obj rfl ?_
 refine ai.val rfl (aa rfl) rfl ?_
 refine ai.val rfl (aa rfl) rfl ?_
 obtain ⟨z7,hzz7,h⟩:=bind_some h
 refine ai.fw (ins:=[.box b1 [v3,w5],ay ae ah.kids 7 5 v3 ws4 a2.l none,aG w5 a2.freed]) (more:=[]) (H0.sl [0,1,2] rfl rfl) rfl (aJ rfl rfl) (fK E n _ _ _ hzz7 b1 v3 ws4 w5) (.cons (.refl _) (.cons (.refl _) .nil)) rfl ?_
 rintro v8 S9 l10 hr11 H12
 rcases z7 with _ | _
 ·
  obtain ⟨rfl,rfl⟩:=hr11
  replace h:=dJ rfl h
  replace H12:Has B0 S9 [.box b1 [v3,w5],ay ae ah.kids 7 5 v3 ws4 a2.l none,aG w5 a2.freed]:=H12
  have H13:Has B0 S9 [.box b1 [v3,w5],ay ae ah.kids 7 5 v3 ws4 a2.l none,aG w5 a2.freed]:=H12.sl [0,1,2] rfl rfl
  refine ai.val rfl (ak rfl) rfl ?_
  refine ai.nil ?_
  refine aB.seq ?_
  refine aB.seq ?_
  refine aB.region E.obj rfl ?_
  refine ai.val rfl (aa rfl) rfl ?_
  refine ai.val rfl (aH rfl rfl (kC qb)) rfl ?_
  refine ai.nil ?_
  refine aB.cond rfl (fun hb=>?_) (fun hb=>?_)
  ·
   refine aB.seq ?_
   refine aB.region E.obj rfl ?_
   refine ai.val rfl (ak rfl) rfl ?_
   refine ai.nil ?_
   have hr:=Option.some.inj h
   subst hr
   exact aB.ret ⟨_,rfl,rfl,_,_,_,.refl _,Ip,⟨rfl,rfl⟩,H13.sl [0,1,2] rfl rfl⟩
  ·
   cases hb
 ·
  obtain ⟨rfl,rfl⟩:=hr11
  replace h:=dK rfl h
  have H14:Has B0 S9 [.box b1 [v3,w5],ay ae ah.kids 7 5 v3 ws4 a2.l none,aG w5 a2.freed]:=H12.sl [0,1,2] rfl rfl
  refine ai.val rfl (ak rfl) rfl ?_
  refine ai.nil ?_
  refine aB.seq ?_
  refine aB.seq ?_
  refine aB.region E.obj rfl ?_
  refine ai.val rfl (aa rfl) rfl ?_
  obtain ⟨z15,hzz15,h⟩:=bind_some h
  refine ai.val rfl (kD H14 (q:=1) rfl hzz15 rfl rfl qb) rfl ?_
  refine ai.nil ?_
  refine aB.cond rfl (fun hb=>?_) (fun hb=>?_)
  ·
   cases hb
  ·
   refine aB.skip ?_
   refine aB.seq ?_
   refine aB.region E.obj rfl ?_
   refine ai.val rfl (aa rfl) rfl ?_
   refine ai.val rfl (bG H14 (q:=1) rfl hzz15 rfl) rfl ?_
   refine ai.val rfl (bg H14 (i:=1) rfl hzz15 rfl mq qd rfl) rfl ?_
   refine ai.val rfl (fO H14 (i:=1) rfl hzz15 rfl tC) rfl ?_
   obtain ⟨z16,hzz16,h⟩:=bind_some h
   have H17:Has B0 S9 ([ay ae ah.kids 7 5 v3 ws4 a2.l none] ++ [.box b1 [v3,w5],aG w5 a2.freed]):=H14.sl [1,0,2] rfl rfl
   replace H17:Has B0 S9 [ay ae ah.kids 7 5 v3 ws4 a2.l none,.box b1 [v3,w5],aG w5 a2.freed]:=H17
   have H18:=Has.take H17 (dC hzz15).2
   have H19:Has B0 S9 [aG (gX 5 ws4 (Int.toNat (IntKind.wrap .i64 (a6 - 1)))) z15.kids,.box b1 [v3,w5],ay ae ah.kids 7 5 v3 ws4 a2.l (some (Int.toNat (IntKind.wrap .i64 (a6 - 1)))),aG w5 a2.freed]:=H18.sl [0,2,1,3] rfl rfl
   refine ai.fw (ins:=[aG (gX 5 ws4 (Int.toNat (IntKind.wrap .i64 (a6 - 1)))) z15.kids]) (more:=[.box b1 [v3,w5],ay ae ah.kids 7 5 v3 ws4 a2.l (some (Int.toNat (IntKind.wrap .i64 (a6 - 1)))),aG w5 a2.freed]) (H19.sl [0,1,2,3] rfl rfl) rfl (aJ rfl rfl) (l7 E n _ _ hzz16 _) (.cons (.refl _) .nil) rfl ?_
   rintro v20 S21 _ rfl H22
   have H23:Has B0 S21 [.row 1 v20 ((z16).map (D.int .i64)),aG (gX 5 ws4 (Int.toNat (IntKind.wrap .i64 (a6 - 1)))) z15.kids,.box b1 [v3,w5],ay ae ah.kids 7 5 v3 ws4 a2.l (some (Int.toNat (IntKind.wrap .i64 (a6 - 1)))),aG w5 a2.freed]:=H22.sl [0,1,2,3,4] rfl rfl
   have H24:Has B0 S21 ([aG (gX 5 ws4 (Int.toNat (IntKind.wrap .i64 (a6 - 1)))) z15.kids,ay ae ah.kids 7 5 v3 ws4 a2.l (some (Int.toNat (IntKind.wrap .i64 (a6 - 1))))] ++ [.row 1 v20 ((z16).map (D.int .i64)),.box b1 [v3,w5],aG w5 a2.freed]):=H23.sl [1,3,0,2,4] rfl rfl
   replace H24:Has B0 S21 [aG (gX 5 ws4 (Int.toNat (IntKind.wrap .i64 (a6 - 1)))) z15.kids,ay ae ah.kids 7 5 v3 ws4 a2.l (some (Int.toNat (IntKind.wrap .i64 (a6 - 1)))),.row 1 v20 ((z16).map (D.int .i64)),.box b1 [v3,w5],aG w5 a2.freed]:=H24
   have H25:=Has.IE H24 (dC hzz15).2
   have H26:Has B0 S21 [.row 1 v20 ((z16).map (D.int .i64)),.box b1 [v3,w5],ay ae ah.kids 7 5 v3 ws4 a2.l none,aG w5 a2.freed]:=H25.sl [1,2,0,3] rfl rfl
   refine ai.val rfl (ak rfl) rfl ?_
   refine ai.nil ?_
   obtain ⟨SF1,HF1,hgF1⟩:=H26.freeze E.obj.toObjOk (i:=0) (l':=[.box b1 [v3,w5],ay ae ah.kids 7 5 v3 ws4 a2.l none,aG w5 a2.freed]) rfl (.same (.same (.same .nil)))
   refine aB.ghost (hgF1 _ _ [(0,(.ptr b1 0 0)),(1,(.d (.int .i64 a6))),(4,(.d (.sl ((z16).map (D.int .i64)) false))),(5,(bu v3 (Int.toNat (IntKind.wrap .i64 (a6 - 1))) 0)),(6,(.ptr b1 0 0)),(7,(.d (.int .i64 a6))),(8,(bu v3 (Int.toNat (IntKind.wrap .i64 (a6 - 1))) 0)),(9,(bu v3 (Int.toNat (IntKind.wrap .i64 (a6 - 1))) 0)),(10,(.d (.bool false))),(11,(bu v3 (Int.toNat (IntKind.wrap .i64 (a6 - 1))) 0)),(12,(bu v3 (Int.toNat (IntKind.wrap .i64 (a6 - 1))) 0)),(13,(bu v3 (Int.toNat (IntKind.wrap .i64 (a6 - 1))) 5)),(14,(gX 5 ws4 (Int.toNat (IntKind.wrap .i64 (a6 - 1))))),(15,(.d (.sl ((z16).map (D.int .i64)) false)))] (.cons rfl (.refl _) (.cons rfl (.refl _) (.it rfl (.cons rfl (.refl _) (.cons rfl (.refl _) (.cons rfl (.refl _) (.cons rfl (.refl _) (.cons rfl (.refl _) (.cons rfl (.refl _) (.cons rfl (.refl _) (.cons rfl (.refl _) (.cons rfl (.refl _) (.cons rfl (.refl _) (.it rfl .nil))))))))))))))) ?_
   have hr:=Option.some.inj h
   subst hr
   exact aB.ret ⟨_,rfl,rfl,_,_,_,.refl _,(.refl _),⟨rfl,rfl⟩,HF1.sl [0,1,2] rfl rfl⟩
theorem eu (n:Nat) (a1:(List Attr)) (r:(List Attr)) (h:bT n a1=some r):ib R cfg.P 66 [(.sl ((a1).map az) false)] (.d (.sl ((r).map az) false)):=by
 unfold bT at h
 refine ib.of_wp E.obj.toObjOk (C:=cfg) Try.func66 rfl JZ rfl ?_
 have H0:Has aM aM []:=Has.pure
 refine aB.seq ?_
 refine aB.region E.obj rfl ?_
 refine ai.val rfl (ak rfl) rfl ?_
 refine ai.nil ?_
 refine aB.seq ?_
 refine aB.seq ?_
 refine aB.region E.obj rfl ?_
 refine ai.val rfl (aa rfl) rfl ?_
 refine ai.I5 rfl rfl rfl Jm rfl (fun bb hbb=>?_)
 refine ai.nil ?_
 refine aB.cond rfl (fun hb=>?_) (fun hb=>?_)
 ·
  have e:=map_nil (hbb hb)
  subst e
  have hr:=(kY h).2
  subst hr
  refine aB.seq ?_
  refine aB.region E.obj rfl ?_
  refine ai.val rfl (ak rfl) rfl ?_
  refine ai.nil ?_
  exact aB.ret ⟨_,rfl,rfl,mW (bM.iY rfl (.aT false) .nil)⟩
 ·
  refine aB.skip ?_
  refine aB.seq ?_
  refine aB.region E.obj rfl ?_
  refine ai.val rfl (uy IX G8 Ik) rfl ?_
  refine ai.val rfl (aa rfl) rfl ?_
  have H1:=H0.Hy (([]:(List Attr)).map az)
  refine ai.append (xs:=([]:(List Attr)).map az) (ys:=(a1).map az) (zs:=(r).map az) H1 rfl rfl rfl (i:=0) rfl rfl IX Ku G8 (jw (enc:=az) h) JN rfl (dP (enc:=az) (fun z=>(Attr.len z).trans En.symm) _) (dP (enc:=az) (fun z=>(Attr.len z).trans En.symm) _) KG rfl (pG h) (fun v2 S2 H2=>?_)
  refine ai.val rfl (ak rfl) rfl ?_
  refine ai.nil ?_
  exact aB.ret ⟨_,rfl,rfl,mW (bM.grow H2 (i:=0) rfl .nil)⟩
set_option maxRecDepth 20000 in
set_option maxHeartbeats 4000000 in
theorem pV:∀ (n:Nat) (a2:ax) (a6:Int) (r:Tree),fu n a2 a6=some r→∀ (b1:Nat) (v3:AV) (ws4:List (List AV)) (w5:AV),df R cfg.P 65 [.ptr b1 0 0,.d (.int .i64 a6)] [.box b1 [v3,w5],ay ae ah.kids 7 5 v3 ws4 a2.l none,aG w5 a2.freed] (fun v l=>v=.d (au r)∧l=[.box b1 [v3,w5],ay ae ah.kids 7 5 v3 ws4 a2.l none,aG w5 a2.freed])
 | 0,a2,a6,r,h,b1,v3,ws4,w5=>by simp [fu] at h
 | n + 1,a2,a6,r,h,b1,v3,ws4,w5=>by
  have ih:=pV n
  unfold fu at h
  refine df.of_wp (C:=cfg) Try.func65 rfl JW rfl (fun B0 S0 H0=>?_)
  replace H0:Has B0 S0 [.box b1 [v3,w5],ay ae ah.kids 7 5 v3 ws4 a2.l none,aG w5 a2.freed]:=H0
  refine aB.seq ?_
  refine aB.region E.obj rfl ?_
  refine ai.alloc H0 rfl uf jM rfl rfl (fun b7 S8 H9=>?_)
  refine ai.nil ?_
  refine aB.seq ?_
  refine aB.region E.obj rfl ?_
  refine ai.val rfl (aa rfl) rfl ?_
  refine ai.val rfl (bz rfl) rfl ?_
  refine ai.val rfl (aD rfl jH rq rfl) rfl ?_
  refine ai.val rfl (aI H9 (i:=1) rfl rfl (aR rY rfl)) rfl ?_
  refine ai.val rfl (aa rfl) rfl ?_
  refine ai.val rfl (aH rfl rfl iP) rfl ?_
  obtain ⟨z10,hzz10,h⟩:=bind_some h
  refine ai.val rfl (fJ H9 (i:=2) rfl hzz10 rfl rfl wh rQ oh) rfl ?_
  refine ai.yP (cs:=[(.d (.bool z10.lives)),(.d (.str z10.tag)),(.d (.str z10.key)),(.d (.str z10.text)),(.d (.sl ((z10.attrs).map az) false)),(gX 5 ws4 (Int.toNat (IntKind.wrap .i64 (a6 - 1)))),(.d (.int .i64 z10.parent))]) H9 rfl (q:=2) rfl hzz10 rfl Gh oh rfl rfl ?_
  refine ai.alloc H9 rfl Jh DK rfl rfl (fun b11 S12 H13=>?_)
  refine ai.store H13 (i:=0) rfl rfl rfl rfl (vk _) rfl oh (vg _) rQ rfl rfl rfl (fun S14 H15=>?_)
  refine ai.nil ?_
  refine aB.seq ?_
  obtain ⟨z16,hzz16,h⟩:=bind_some h
  refine aB.gQ E.obj kF KZ [(0,none),(4,none),(5,none),(6,some 10)] (by kernel_rfl) [10,11] (by decide) [some (.ptr b11 0 1),some (.d (.str z10.tag)),some (.ptr b11 0 2),some (.d (.str z10.key)),some (.ptr b11 0 3),some (.d (.str z10.text)),some (.ptr b11 0 4),some (.d (.sl ((z10.attrs).map az) false)),some (.d (.sl ((z16).map az) false)),some (Ev.eY [(.d (.str z10.tag)),(.d (.str z10.key)),(.d (.str z10.text)),(.d (.sl ((z16).map az) false)),(.d .aT)]),none,none] ?_
  refine ⟨[0,1,2,3,4,5,6,7,8,9],by kernel_rfl,?_,_,_,rfl,rfl,.step ?_⟩
  ·
   refine .v rfl rfl rfl rfl (aD rfl xu sK rfl) ?_
   refine .v rfl rfl rfl rfl (aI H15 (i:=0) rfl rfl (aR rZ rfl)) ?_
   refine .v rfl rfl rfl rfl (aD rfl Fy sK rfl) ?_
   refine .v rfl rfl rfl rfl (aI H15 (i:=0) rfl rfl (aR rZ rfl)) ?_
   refine .v rfl rfl rfl rfl (aD rfl CB sK rfl) ?_
   refine .v rfl rfl rfl rfl (aI H15 (i:=0) rfl rfl (aR rZ rfl)) ?_
   refine .v rfl rfl rfl rfl (aD rfl CK Ct rfl) ?_
   refine .v rfl rfl rfl rfl (aI H15 (i:=0) rfl rfl (aR DN rfl)) ?_
   refine .cons rfl rfl rfl (.step ?_) ?_
   ·
    refine ai.ret rfl (aJ rfl rfl) (eu E _ _ _ hzz16 _ _ (bM.eq .nil)) rfl ?_
    exact ai.nil ⟨_,_,rfl,fun _ ht=>by cases ht; exact ⟨rfl,.refl _⟩⟩
   refine .v rfl rfl rfl rfl (eB (cs:=[(.d (.str z10.tag)),(.d (.str z10.key)),(.d (.str z10.text)),(.d (.sl ((z16).map az) false)),(.d .aT)]) jM rfl (dY) (ja rfl rfl rfl rfl (ja rfl rfl rfl rfl (ja rfl rfl rfl rfl (ja rfl rfl rfl rfl rfl))))) ?_
   exact .nil
  refine ai.alloc H15 rfl uf jM rfl rfl (fun b22 S23 H24=>?_)
  refine ai.nil ⟨_,_,_,rfl,(fun _ ht=>by cases ht; rfl),[some (.ptr b11 0 1),some (.d (.str z10.tag)),some (.ptr b11 0 2),some (.d (.str z10.key)),some (.ptr b11 0 3),some (.d (.str z10.text)),some (.ptr b11 0 4),some (.d (.sl ((z10.attrs).map az) false)),some (.d (.sl ((z16).map az) false)),some (Ev.eY [(.d (.str z10.tag)),(.d (.str z10.key)),(.d (.str z10.text)),(.d (.sl ((z16).map az) false)),(.d .aT)]),some (.ptr b22 0 0),none],(.o (.o (.o (.o (.o (.o (.o (.o (.o (.o (.new (.new .nil)))))))))))),(fun _ ht=>by cases ht; exact ⟨_,rfl,.refl _⟩),?_⟩
  refine ⟨[0,1,2,3,4,5,6,7,8,9],by kernel_rfl,?_,_,_,rfl,rfl,.step ?_⟩
  ·
   refine .v rfl rfl rfl rfl (aD rfl xu sK rfl) ?_
   refine .v rfl rfl rfl rfl (aI H24 (i:=1) rfl rfl (aR rZ rfl)) ?_
   refine .v rfl rfl rfl rfl (aD rfl Fy sK rfl) ?_
   refine .v rfl rfl rfl rfl (aI H24 (i:=1) rfl rfl (aR rZ rfl)) ?_
   refine .v rfl rfl rfl rfl (aD rfl CB sK rfl) ?_
   refine .v rfl rfl rfl rfl (aI H24 (i:=1) rfl rfl (aR rZ rfl)) ?_
   refine .v rfl rfl rfl rfl (aD rfl CK Ct rfl) ?_
   refine .v rfl rfl rfl rfl (aI H24 (i:=1) rfl rfl (aR DN rfl)) ?_
   refine .cons rfl rfl rfl (.step ?_) ?_
   ·
    refine ai.ret rfl (aJ rfl rfl) (eu E _ _ _ hzz16 _ _ (bM.eq .nil)) rfl ?_
    exact ai.nil ⟨_,_,rfl,fun _ ht=>by cases ht; exact ⟨rfl,.refl _⟩⟩
   refine .v rfl rfl rfl rfl (eB (cs:=[(.d (.str z10.tag)),(.d (.str z10.key)),(.d (.str z10.text)),(.d (.sl ((z16).map az) false)),(.d .aT)]) jM rfl (dY) (ja rfl rfl rfl rfl (ja rfl rfl rfl rfl (ja rfl rfl rfl rfl (ja rfl rfl rfl rfl rfl))))) ?_
   exact .nil
  refine ai.store H24 (i:=0) rfl rfl rfl rfl rfl rfl dF rfl lJ rfl rfl rfl (fun S25 H26=>?_)
  refine ai.nil ⟨_,.any,_,rfl,(fun _ ht=>by cases ht),[some (.ptr b11 0 1),some (.d (.str z10.tag)),some (.ptr b11 0 2),some (.d (.str z10.key)),some (.ptr b11 0 3),some (.d (.str z10.text)),some (.ptr b11 0 4),some (.d (.sl ((z10.attrs).map az) false)),some (.d (.sl ((z16).map az) false)),some (Ev.eY [(.d (.str z10.tag)),(.d (.str z10.key)),(.d (.str z10.text)),(.d (.sl ((z16).map az) false)),(.d .aT)]),some (.ptr b22 0 0),some .any],(.o (.o (.o (.o (.o (.o (.o (.o (.o (.o (.o (.new .nil)))))))))))),(fun _ ht=>by cases ht),?_⟩
  refine ⟨[],by kernel_rfl,?_,_,rfl,?_⟩
  ·
   exact .nil
  refine aB.seq ?_
  refine aB.seq ?_
  refine aB.region E.obj rfl ?_
  refine ai.val rfl (aD rfl mq qd rfl) rfl ?_
  refine ai.val rfl (aI H26 (i:=1) rfl rfl (aR tC rfl)) rfl ?_
  have H27:Has B0 S25 ([ay ae ah.kids 7 5 v3 ws4 a2.l none] ++ [.box b22 [(.d (.str z10.tag)),(.d (.str z10.key)),(.d (.str z10.text)),(.d (.sl ((z16).map az) false)),(.d .aT)],.box b11 [(.d (.bool z10.lives)),(.d (.str z10.tag)),(.d (.str z10.key)),(.d (.str z10.text)),(.d (.sl ((z10.attrs).map az) false)),(gX 5 ws4 (Int.toNat (IntKind.wrap .i64 (a6 - 1)))),(.d (.int .i64 z10.parent))],.box b7 [(.d (.str [])),(.d (.str [])),(.d (.str [])),(.d .aT),(.d .aT)],.box b1 [v3,w5],aG w5 a2.freed]):=H26.sl [4,0,1,2,3,5] rfl rfl
  replace H27:Has B0 S25 [ay ae ah.kids 7 5 v3 ws4 a2.l none,.box b22 [(.d (.str z10.tag)),(.d (.str z10.key)),(.d (.str z10.text)),(.d (.sl ((z16).map az) false)),(.d .aT)],.box b11 [(.d (.bool z10.lives)),(.d (.str z10.tag)),(.d (.str z10.key)),(.d (.str z10.text)),(.d (.sl ((z10.attrs).map az) false)),(gX 5 ws4 (Int.toNat (IntKind.wrap .i64 (a6 - 1)))),(.d (.int .i64 z10.parent))],.box b7 [(.d (.str [])),(.d (.str [])),(.d (.str [])),(.d .aT),(.d .aT)],.box b1 [v3,w5],aG w5 a2.freed]:=H27
  have H28:=Has.take H27 (dC hzz10).2
  refine ai.val rfl (jy H28 (i:=0) rfl rfl jh) rfl ?_
  refine ai.val rfl (aa rfl) rfl ?_
  refine ai.nil ?_
  refine aB.block ?_
  have H68:=H26.Cq
  refine o9.start (B:=B0) (α:=(List Tree) × AV × Int) (fun k a=>dR (fu n) a2 z10 z16 k a.1 a.2.2=some r) (fun a=>[(0,(.ptr b1 0 0)),(4,(.ptr b7 0 0)),(6,(.ptr b22 0 0)),(28,(gX 5 ws4 (Int.toNat (IntKind.wrap .i64 (a6 - 1))))),(29,(.d (.int .i64 ((z10.kids).length:Int)))),(30,(.d (.int .i64 a.2.2)))]) (fun a=>[.box b22 [(.d (.str z10.tag)),(.d (.str z10.key)),(.d (.str z10.text)),(.d (.sl ((z16).map az) false)),a.2.1],.box b7 [(.d (.str [])),(.d (.str [])),(.d (.str [])),(.d .aT),(.d .aT)],.grow a.2.1 ((a.1).map au),.box b1 [v3,w5],ay ae ah.kids 7 5 v3 ws4 a2.l none,aG w5 a2.freed]) ?_ ?_ n ⟨⟨[],(.d .aT),0⟩,_,_,S25,.refl _ _,.refl _,(aj.r rfl (aj.r rfl (aj.r rfl (aj.r rfl (aj.r rfl (aj.r rfl aj.nil)))))),H68.sl [1,3,0,4,5,6] rfl rfl,h⟩
  ·
   intro a h; simp [dR] at h
  ·
   intro k41 a S36 H37 h
   obtain ⟨x38,v39,x40⟩:=a
   replace h:dR (fu n) a2 z10 z16 (k41 + 1) x38 x40=some r:=h
   replace H37:Has B0 S36 [.box b22 [(.d (.str z10.tag)),(.d (.str z10.key)),(.d (.str z10.text)),(.d (.sl ((z16).map az) false)),v39],.box b7 [(.d (.str [])),(.d (.str [])),(.d (.str [])),(.d .aT),(.d .aT)],.grow v39 ((x38).map au),.box b1 [v3,w5],ay ae ah.kids 7 5 v3 ws4 a2.l none,aG w5 a2.freed]:=H37
   unfold dR at h
   refine aB.seq ?_
   refine aB.region E.obj rfl ?_
   refine ai.val rfl (aH rfl rfl dG) rfl ?_
   refine ai.nil ?_
   refine aB.seq ?_
   refine aB.cond rfl (fun hb42=>?_) (fun hb42=>?_)
   ·
    replace h:=dK hb42 h
    refine aB.skip ?_
    refine aB.seq ?_
    refine aB.block ?_
    refine aB.seq ?_
    refine aB.region E.obj rfl ?_
    obtain ⟨z43,hzz43,h⟩:=bind_some h
    have H44:Has B0 S36 ([ay ae ah.kids 7 5 v3 ws4 a2.l none] ++ [.box b22 [(.d (.str z10.tag)),(.d (.str z10.key)),(.d (.str z10.text)),(.d (.sl ((z16).map az) false)),v39],.box b7 [(.d (.str [])),(.d (.str [])),(.d (.str [])),(.d .aT),(.d .aT)],.grow v39 ((x38).map au),.box b1 [v3,w5],aG w5 a2.freed]):=H37.sl [4,0,1,2,3,5] rfl rfl
    replace H44:Has B0 S36 [ay ae ah.kids 7 5 v3 ws4 a2.l none,.box b22 [(.d (.str z10.tag)),(.d (.str z10.key)),(.d (.str z10.text)),(.d (.sl ((z16).map az) false)),v39],.box b7 [(.d (.str [])),(.d (.str [])),(.d (.str [])),(.d .aT),(.d .aT)],.grow v39 ((x38).map au),.box b1 [v3,w5],aG w5 a2.freed]:=H44
    have H45:=Has.take H44 (dC hzz10).2
    refine ai.val rfl (qJ H45 (q:=0) rfl hzz43 rfl rfl dX oP jA) rfl ?_
    have H46:Has B0 S36 ([ay ae ah.kids 7 5 v3 ws4 a2.l none] ++ [.box b22 [(.d (.str z10.tag)),(.d (.str z10.key)),(.d (.str z10.text)),(.d (.sl ((z16).map az) false)),v39],.box b7 [(.d (.str [])),(.d (.str [])),(.d (.str [])),(.d .aT),(.d .aT)],.grow v39 ((x38).map au),.box b1 [v3,w5],aG w5 a2.freed]):=H37.sl [4,0,1,2,3,5] rfl rfl
    replace H46:Has B0 S36 [ay ae ah.kids 7 5 v3 ws4 a2.l none,.box b22 [(.d (.str z10.tag)),(.d (.str z10.key)),(.d (.str z10.text)),(.d (.sl ((z16).map az) false)),v39],.box b7 [(.d (.str [])),(.d (.str [])),(.d (.str [])),(.d .aT),(.d .aT)],.grow v39 ((x38).map au),.box b1 [v3,w5],aG w5 a2.freed]:=H46
    have H47:=Has.take H46 (dC hzz10).2
    refine ai.val rfl (pz H47 (q:=0) rfl hzz43 rfl nG) rfl ?_
    refine ai.val rfl (ak rfl) rfl ?_
    refine ai.nil ?_
    obtain ⟨z48,hzz48,h⟩:=bind_some h
    obtain ⟨z52,hzz52,h⟩:=bind_some h
    refine aB.gQ E.obj kF K8 [(0,none),(4,none),(6,none),(28,none),(29,none),(30,none)] (by kernel_rfl) [4,6,8] (by decide) [some (.ptr b22 0 4),some v39,some (.ptr b1 0 0),some (.d (.int .i64 z43)),none,none,none,none,none] ?_
    refine ⟨[0,1,2,3],by kernel_rfl,?_,_,_,rfl,rfl,.step ?_⟩
    ·
     refine .v rfl rfl rfl rfl (aD rfl iq nX rfl) ?_
     refine .v rfl rfl rfl rfl (aI H37 (i:=0) rfl rfl (aR qz rfl)) ?_
     refine .v rfl rfl rfl rfl (aa rfl) ?_
     refine .v rfl rfl rfl rfl (aa rfl) ?_
     exact .nil
    refine ai.fw (ins:=[.box b1 [v3,w5],ay ae ah.kids 7 5 v3 ws4 a2.l none,aG w5 a2.freed]) (more:=[.box b22 [(.d (.str z10.tag)),(.d (.str z10.key)),(.d (.str z10.text)),(.d (.sl ((z16).map az) false)),v39],.box b7 [(.d (.str [])),(.d (.str [])),(.d (.str [])),(.d .aT),(.d .aT)],.grow v39 ((x38).map au)]) (H37.sl [3,4,5,0,1,2] rfl rfl) rfl (aJ rfl rfl) (ih _ _ _ hzz48 b1 v3 ws4 w5) (.cons (.refl _) (.cons (.refl _) .nil)) rfl ?_
    rintro _ S58 _ ⟨rfl,rfl⟩ H59
    have H60:Has B0 S58 [.box b22 [(.d (.str z10.tag)),(.d (.str z10.key)),(.d (.str z10.text)),(.d (.sl ((z16).map az) false)),v39],.box b7 [(.d (.str [])),(.d (.str [])),(.d (.str [])),(.d .aT),(.d .aT)],.grow v39 ((x38).map au),.box b1 [v3,w5],ay ae ah.kids 7 5 v3 ws4 a2.l none,aG w5 a2.freed]:=H59.sl [3,4,5,0,1,2] rfl rfl
    refine ai.nil ⟨_,_,_,rfl,(fun _ ht=>by cases ht; rfl),[some (.ptr b22 0 4),some v39,some (.ptr b1 0 0),some (.d (.int .i64 z43)),some (.d (au z48)),some (.d (.sl (([z48]).map au) true)),none,none,none],(.o (.o (.o (.o (.new (.new (.new (.new (.new .nil))))))))),(fun _ ht=>by cases ht; exact ⟨_,rfl,.refl _⟩),?_⟩
    refine ⟨[0,1,5],by kernel_rfl,?_,_,_,rfl,rfl,.step ?_⟩
    ·
     refine .v rfl rfl rfl rfl (aD rfl iq nX rfl) ?_
     refine .v rfl rfl rfl rfl (aI H60 (i:=0) rfl rfl (aR qz rfl)) ?_
     refine .v rfl rfl rfl rfl (dO (vs:=[(.d (au z48))]) (ds:=[(au z48)]) yj qc ig jM dF rfl (by decide) (.cons rfl (Tree.len _) .nil) rfl (by intro d hd; simp only [List.mem_cons,List.not_mem_nil,or_false] at hd; rcases hd with rfl <;> exact Tree.agg _) rfl) ?_
     exact .nil
    refine ai.append (xs:=(x38).map au) (ys:=([z48]).map au) (zs:=(z52).map au) H60 rfl rfl rfl (i:=2) rfl rfl yj Gf qc (jw hzz52) GV rfl (dP (enc:=au) (fun z=>(Tree.len z).trans dF.symm) _) (dP (enc:=au) (fun z=>(Tree.len z).trans dF.symm) _) GU rfl (pG hzz52) (fun v61 S62 H63=>?_)
    refine ai.nil ⟨_,_,_,rfl,(fun _ ht=>by cases ht; rfl),[some (.ptr b22 0 4),some v39,some (.ptr b1 0 0),some (.d (.int .i64 z43)),some (.d (au z48)),some (.d (.sl (([z48]).map au) true)),some v61,some (.ptr b22 0 4),none],(.o (.o (.o (.o (.o (.o (.new (.new (.new .nil))))))))),(fun _ ht=>by cases ht; exact ⟨_,rfl,.refl _⟩),?_⟩
    refine ⟨[7],by kernel_rfl,?_,_,_,rfl,rfl,.step ?_⟩
    ·
     refine .v rfl rfl rfl rfl (aD rfl iq nX rfl) ?_
     exact .nil
    refine ai.store H63 (i:=0) rfl rfl rfl rfl (oL (H63.at (i:=2) rfl)).2.2.2.2 rfl HZ (oL (H63.at (i:=2) rfl)).2.2.2.1 IA rfl rfl rfl (fun S64 H65=>?_)
    refine ai.nil ⟨_,.any,_,rfl,(fun _ ht=>by cases ht),[some (.ptr b22 0 4),some v39,some (.ptr b1 0 0),some (.d (.int .i64 z43)),some (.d (au z48)),some (.d (.sl (([z48]).map au) true)),some v61,some (.ptr b22 0 4),some .any],(.o (.o (.o (.o (.o (.o (.o (.o (.new .nil))))))))),(fun _ ht=>by cases ht),?_⟩
    refine ⟨[],by kernel_rfl,?_,_,rfl,?_⟩
    ·
     exact .nil
    refine aB.region E.obj rfl ?_
    refine ai.val rfl (aH rfl rfl dZ) rfl ?_
    refine ai.val rfl (aa rfl) rfl ?_
    refine ai.nil ?_
    exact ⟨⟨z52,v61,(IntKind.wrap .i64 (x40 + 1))⟩,_,_,S64,.refl _ _,.refl _,(aj.r rfl (aj.r rfl (aj.r rfl (aj.r rfl (aj.r rfl (aj.r rfl aj.nil)))))),H65.sl [0,1,2,3,4,5] rfl rfl,h⟩
   ·
    replace h:=dJ hb42 h
    refine aB.exit ?_
    refine aB.seq ?_
    refine aB.region E.obj rfl ?_
    refine ai.val rfl (aI H37 (i:=0) rfl rfl (bX ig dF rfl)) rfl ?_
    refine ai.less (Less.agg' (d:=au (Tree.mk z10.tag z10.key z10.text z16 x38)) (aC.eq rfl (aC.eq rfl (aC.eq rfl (aC.eq rfl (aC.grow H37 (i:=2) rfl .nil))))) ((Tree.eq _).trans rfl)) ?_
    refine ai.store H37 (i:=1) rfl rfl rfl rfl (Tree.fD _) rfl dF rfl lJ rfl rfl rfl (fun S66 H67=>?_)
    refine ai.nil ?_
    have hr:=Option.some.inj h
    subst hr
    exact aB.ret ⟨_,(nM H67 (i:=1) rfl rfl rfl (bX ig dF rfl)),rfl,_,_,_,.refl _,(Less.agg' (d:=au (Tree.mk z10.tag z10.key z10.text z16 x38)) (aC.eq rfl (aC.eq rfl (aC.eq rfl (aC.eq rfl (aC.eq rfl .nil))))) ((Tree.eq _).trans rfl)),⟨rfl,rfl⟩,H67.sl [3,4,5] rfl rfl⟩
set_option maxRecDepth 20000 in
set_option maxHeartbeats 4000000 in
theorem lL (n:Nat) (a2:ax) (a6:Int) (r:(Tree × Bool)) (h:iJ n a2 a6=some r) (b1:Nat) (v3:AV) (ws4:List (List AV)) (w5:AV):df R cfg.P 21 [.ptr b1 0 0,.d (.int .i64 a6)] [.box b1 [v3,w5],ay ae ah.kids 7 5 v3 ws4 a2.l none,aG w5 a2.freed] (fun v l=>v=.tup [.d (au r.1),.d (.bool r.2)]∧l=[.box b1 [v3,w5],ay ae ah.kids 7 5 v3 ws4 a2.l none,aG w5 a2.freed]):=by
 unfold iJ at h
 refine df.of_wp (C:=cfg) Try.func21 rfl Km rfl (fun B0 S0 H0=>?_)
 replace H0:Has B0 S0 [.box b1 [v3,w5],ay ae ah.kids 7 5 v3 ws4 a2.l none,aG w5 a2.freed]:=H0
 refine aB.seq ?_
 refine aB.region E.obj rfl ?_
 refine ai.alloc H0 rfl uf jM rfl rfl (fun b7 S8 H9=>?_)
 refine ai.val rfl (ak rfl) rfl ?_
 refine ai.nil ?_
 refine aB.seq ?_
 refine aB.seq ?_
 refine aB.region E.obj rfl ?_
 refine ai.val rfl (aa rfl) rfl ?_
 refine ai.val rfl (aa rfl) rfl ?_
 obtain ⟨z10,hzz10,h⟩:=bind_some h
 refine ai.fw (ins:=[.box b1 [v3,w5],ay ae ah.kids 7 5 v3 ws4 a2.l none,aG w5 a2.freed]) (more:=[.box b7 [(.d (.str [])),(.d (.str [])),(.d (.str [])),(.d .aT),(.d .aT)]]) (H9.sl [1,2,3,0] rfl rfl) rfl (aJ rfl rfl) (fK E n _ _ _ hzz10 b1 v3 ws4 w5) (.cons (.refl _) (.cons (.refl _) .nil)) rfl ?_
 rintro v11 S12 l13 hr14 H15
 rcases z10 with _ | _
 ·
  obtain ⟨rfl,rfl⟩:=hr14
  replace h:=dJ rfl h
  replace H15:Has B0 S12 [.box b1 [v3,w5],ay ae ah.kids 7 5 v3 ws4 a2.l none,aG w5 a2.freed,.box b7 [(.d (.str [])),(.d (.str [])),(.d (.str [])),(.d .aT),(.d .aT)]]:=H15
  have H16:Has B0 S12 [.box b7 [(.d (.str [])),(.d (.str [])),(.d (.str [])),(.d .aT),(.d .aT)],.box b1 [v3,w5],ay ae ah.kids 7 5 v3 ws4 a2.l none,aG w5 a2.freed]:=H15.sl [3,0,1,2] rfl rfl
  refine ai.val rfl (aH rfl rfl (kC qb)) rfl ?_
  refine ai.nil ?_
  refine aB.cond rfl (fun hb=>?_) (fun hb=>?_)
  ·
   refine aB.seq ?_
   refine aB.region E.obj rfl ?_
   refine ai.val rfl (eB (cs:=[(.d (.str [])),(.d (.str [])),(.d (.str [])),(.d .aT),(.d .aT)]) jM rfl (dY) rfl) rfl ?_
   refine ai.less (Less.agg' (d:=au (Tree.mk [] [] [] [] [])) (aC.eq rfl (aC.eq rfl (aC.eq rfl (aC.iY rfl (.aT false) rfl rfl (aC.iY rfl (.aT false) rfl rfl .nil))))) ((Tree.eq _).trans rfl)) ?_
   refine ai.store H16 (i:=0) rfl rfl rfl rfl (Tree.fD _) rfl dF rfl lJ rfl rfl rfl (fun S17 H18=>?_)
   refine ai.val rfl (ak rfl) rfl ?_
   refine ai.nil ?_
   have hr:=Option.some.inj h
   subst hr
   exact aB.ret ⟨_,(u7 H18 (i:=0) rfl rfl rfl (bX ig dF rfl) rfl),rfl,_,_,_,.refl _,(Less.Je (Less.agg' (d:=au (Tree.mk [] [] [] [] [])) (aC.eq rfl (aC.eq rfl (aC.eq rfl (aC.eq rfl (aC.eq rfl .nil))))) ((Tree.eq _).trans rfl)) (.refl _)),⟨rfl,rfl⟩,H18.sl [1,2,3] rfl rfl⟩
  ·
   cases hb
 ·
  obtain ⟨rfl,rfl⟩:=hr14
  replace h:=dK rfl h
  have H19:Has B0 S12 [.box b7 [(.d (.str [])),(.d (.str [])),(.d (.str [])),(.d .aT),(.d .aT)],.box b1 [v3,w5],ay ae ah.kids 7 5 v3 ws4 a2.l none,aG w5 a2.freed]:=H15.sl [3,0,1,2] rfl rfl
  obtain ⟨z20,hzz20,h⟩:=bind_some h
  refine ai.val rfl (kD H19 (q:=2) rfl hzz20 rfl rfl qb) rfl ?_
  refine ai.nil ?_
  refine aB.cond rfl (fun hb=>?_) (fun hb=>?_)
  ·
   cases hb
  ·
   refine aB.skip ?_
   refine aB.seq ?_
   refine aB.region E.obj rfl ?_
   refine ai.val rfl (aa rfl) rfl ?_
   refine ai.val rfl (aa rfl) rfl ?_
   obtain ⟨z21,hzz21,h⟩:=bind_some h
   refine ai.fw (ins:=[.box b1 [v3,w5],ay ae ah.kids 7 5 v3 ws4 a2.l none,aG w5 a2.freed]) (more:=[.box b7 [(.d (.str [])),(.d (.str [])),(.d (.str [])),(.d .aT),(.d .aT)]]) (H19.sl [1,2,3,0] rfl rfl) rfl (aJ rfl rfl) (pV E n _ _ _ hzz21 b1 v3 ws4 w5) (.cons (.refl _) (.cons (.refl _) .nil)) rfl ?_
   rintro _ S22 _ ⟨rfl,rfl⟩ H23
   have H24:Has B0 S22 [.box b7 [(.d (.str [])),(.d (.str [])),(.d (.str [])),(.d .aT),(.d .aT)],.box b1 [v3,w5],ay ae ah.kids 7 5 v3 ws4 a2.l none,aG w5 a2.freed]:=H23.sl [3,0,1,2] rfl rfl
   refine ai.store H24 (i:=0) rfl rfl rfl rfl (Tree.fD _) rfl dF rfl lJ rfl rfl rfl (fun S25 H26=>?_)
   refine ai.val rfl (ak rfl) rfl ?_
   refine ai.nil ?_
   have hr:=Option.some.inj h
   subst hr
   exact aB.ret ⟨_,(u7 H26 (i:=0) rfl rfl rfl (bX ig dF rfl) rfl),rfl,_,_,_,.refl _,(Less.Je (Less.agg' (d:=au z21) (aC.eq rfl (aC.eq rfl (aC.eq rfl (aC.eq rfl (aC.eq rfl .nil))))) ((Tree.eq _).trans rfl)) (.refl _)),⟨rfl,rfl⟩,H26.sl [1,2,3] rfl rfl⟩
set_option maxRecDepth 20000 in
set_option maxHeartbeats 4000000 in
theorem il (n:Nat) (a1:(List Int)) (a2:(List Int)) (r:Bool) (h:fT n a1 a2=some r):ib R cfg.P 25 [(.sl ((a1).map (D.int .i64)) false),(.sl ((a2).map (D.int .i64)) false)] (.d (.bool r)):=by
 unfold fT at h
 refine ib.of_wp E.obj.toObjOk (C:=cfg) Try.func25 rfl Kz rfl ?_
 have H0:Has aM aM []:=Has.pure
 refine aB.seq ?_
 refine aB.region E.obj rfl ?_
 refine ai.val rfl (ak rfl) rfl ?_
 refine ai.nil ?_
 refine aB.seq ?_
 refine aB.seq ?_
 refine aB.region E.obj rfl ?_
 refine ai.val rfl (aa rfl) rfl ?_
 refine ai.val rfl (bF rfl jh) rfl ?_
 refine ai.val rfl (aa rfl) rfl ?_
 refine ai.val rfl (bF rfl jh) rfl ?_
 refine ai.val rfl (aH rfl rfl lF) rfl ?_
 refine ai.nil ?_
 refine aB.cond rfl (fun hb3=>?_) (fun hb3=>?_)
 ·
  replace h:=dK hb3 h
  refine aB.seq ?_
  refine aB.region E.obj rfl ?_
  refine ai.val rfl (ak rfl) rfl ?_
  refine ai.nil ?_
  have hr:=Option.some.inj h
  subst hr
  exact aB.ret ⟨_,rfl,rfl,mW (bM.eq .nil)⟩
 ·
  replace h:=dJ hb3 h
  refine aB.skip ?_
  refine aB.seq ?_
  refine aB.seq ?_
  refine aB.region E.obj rfl ?_
  refine ai.val rfl (ak rfl) rfl ?_
  refine ai.nil ?_
  refine aB.block ?_
  refine o9.start (B:=aM) (α:=Int) (fun k a=>bP a1 a2 k a=some r) (fun a=>[(0,(.d (.sl ((a1).map (D.int .i64)) false))),(1,(.d (.sl ((a2).map (D.int .i64)) false))),(5,(.d (.int .i64 a)))]) (fun a=>[]) ?_ ?_ n ⟨0,_,_,aM,.refl _ _,.refl _,(aj.r rfl (aj.r rfl (aj.r rfl aj.nil))),H0.sl [] rfl rfl,h⟩
  ·
   intro a h; simp [bP] at h
  ·
   intro k12 x11 S9 H10 h
   replace h:bP a1 a2 (k12 + 1) x11=some r:=h
   replace H10:Has aM S9 []:=H10
   unfold bP at h
   refine aB.seq ?_
   refine aB.seq ?_
   refine aB.region E.obj rfl ?_
   refine ai.val rfl (aa rfl) rfl ?_
   refine ai.val rfl (aa rfl) rfl ?_
   refine ai.val rfl (bF rfl jh) rfl ?_
   refine ai.val rfl (aH rfl rfl dG) rfl ?_
   refine ai.nil ?_
   refine aB.cond rfl (fun hb13=>?_) (fun hb13=>?_)
   ·
    replace h:=dK hb13 h
    refine aB.skip ?_
    refine aB.seq ?_
    refine aB.block ?_
    refine aB.seq ?_
    obtain ⟨z14,hzz14,h⟩:=bind_some h
    obtain ⟨z15,hzz15,h⟩:=bind_some h
    refine aB.gQ E.obj kF KP [(0,none),(1,none),(5,none),(25,some 8)] (by kernel_rfl) [] (by decide) [some (.d (.sl ((a1).map (D.int .i64)) false)),some (.d (.int .i64 x11)),some (.eptr (.int .i64 z14) 0),some (.d (.int .i64 z14)),some (.d (.sl ((a2).map (D.int .i64)) false)),some (.d (.int .i64 x11)),some (.eptr (.int .i64 z15) 0),some (.d (.int .i64 z15)),some (.d (.bool (z14 != z15)))] ?_
    refine ⟨[0,1,2,3,4,5,6,7,8],by kernel_rfl,?_,_,rfl,?_⟩
    ·
     refine .v rfl rfl rfl rfl (aa rfl) ?_
     refine .v rfl rfl rfl rfl (aa rfl) ?_
     refine .v rfl rfl rfl rfl (bE rfl rfl (bW (enc:=(D.int .i64)) hzz14 dX oP (((fun _=>rfl) _).trans jA.symm))) ?_
     refine .v rfl rfl rfl rfl (aY rfl (bL nG rfl)) ?_
     refine .v rfl rfl rfl rfl (aa rfl) ?_
     refine .v rfl rfl rfl rfl (aa rfl) ?_
     refine .v rfl rfl rfl rfl (bE rfl rfl (bW (enc:=(D.int .i64)) hzz15 dX oP (((fun _=>rfl) _).trans jA.symm))) ?_
     refine .v rfl rfl rfl rfl (aY rfl (bL nG rfl)) ?_
     refine .v rfl rfl rfl rfl (aH rfl rfl lF) ?_
     exact .nil
    refine aB.cond rfl (fun hb16=>?_) (fun hb16=>?_)
    ·
     replace h:=dK hb16 h
     refine aB.seq ?_
     refine aB.region E.obj rfl ?_
     refine ai.val rfl (ak rfl) rfl ?_
     refine ai.nil ?_
     have hr:=Option.some.inj h
     subst hr
     exact aB.ret ⟨_,rfl,rfl,mW (bM.eq .nil)⟩
    ·
     replace h:=dJ hb16 h
     refine aB.skip ?_
     refine aB.region E.obj rfl ?_
     refine ai.val rfl (aa rfl) rfl ?_
     refine ai.val rfl (aH rfl rfl dZ) rfl ?_
     refine ai.val rfl (ak rfl) rfl ?_
     refine ai.nil ?_
     exact ⟨(IntKind.wrap .i64 (x11 + 1)),_,_,S9,.refl _ _,.refl _,(aj.r rfl (aj.r rfl (aj.r rfl aj.nil))),H10.sl [] rfl rfl,h⟩
   ·
    replace h:=dJ hb13 h
    refine aB.exit ?_
    refine aB.seq ?_
    refine aB.region E.obj rfl ?_
    refine ai.val rfl (ak rfl) rfl ?_
    refine ai.nil ?_
    have hr:=Option.some.inj h
    subst hr
    exact aB.ret ⟨_,rfl,rfl,mW (bM.eq .nil)⟩
set_option maxRecDepth 20000 in
set_option maxHeartbeats 4000000 in
theorem iN (n:Nat) (a1:(List Str)) (r:Tree) (h:dz n a1=some r):ib R cfg.P 38 [(.sl ((a1).map D.str) false)] (.d (au r)):=by
 unfold dz at h
 refine ib.of_wp E.obj.toObjOk (C:=cfg) Try.func38 rfl Ke rfl ?_
 have H0:Has aM aM []:=Has.pure
 refine aB.seq ?_
 refine aB.region E.obj rfl ?_
 refine ai.alloc H0 rfl uf jM rfl rfl (fun b2 S3 H4=>?_)
 refine ai.nil ?_
 refine aB.seq ?_
 refine aB.region E.obj rfl ?_
 refine ai.val rfl (eB (cs:=[(.d (.str [112])),(.d (.str [])),(.d (.str [])),(.d .aT),(.d .aT)]) jM rfl (dY) (ja rfl rfl rfl rfl rfl)) rfl ?_
 refine ai.alloc H4 rfl uf jM rfl rfl (fun b5 S6 H7=>?_)
 refine ai.store H7 (i:=0) rfl rfl rfl rfl rfl rfl dF rfl lJ rfl rfl rfl (fun S8 H9=>?_)
 refine ai.nil ?_
 refine aB.seq ?_
 refine aB.seq ?_
 refine aB.region E.obj rfl ?_
 refine ai.val rfl (ak rfl) rfl ?_
 refine ai.nil ?_
 refine aB.block ?_
 have H52:=H9.Cq
 refine o9.start (B:=aM) (α:=(List Tree) × AV × Int) (fun k a=>aX a1 k a.1 a.2.2=some r) (fun a=>[(0,(.d (.sl ((a1).map D.str) false))),(2,(.ptr b2 0 0)),(3,(.ptr b5 0 0)),(4,(.d (.int .i64 a.2.2)))]) (fun a=>[.box b5 [(.d (.str [112])),(.d (.str [])),(.d (.str [])),(.d .aT),a.2.1],.box b2 [(.d (.str [])),(.d (.str [])),(.d (.str [])),(.d .aT),(.d .aT)],.grow a.2.1 ((a.1).map au)]) ?_ ?_ n ⟨⟨[],(.d .aT),0⟩,_,_,S8,.refl _ _,.refl _,(aj.r rfl (aj.r rfl (aj.r rfl (aj.r rfl aj.nil)))),H52.sl [1,2,0] rfl rfl,h⟩
 ·
  intro a h; simp [aX] at h
 ·
  intro k22 a S17 H18 h
  obtain ⟨x19,v20,x21⟩:=a
  replace h:aX a1 (k22 + 1) x19 x21=some r:=h
  replace H18:Has aM S17 [.box b5 [(.d (.str [112])),(.d (.str [])),(.d (.str [])),(.d .aT),v20],.box b2 [(.d (.str [])),(.d (.str [])),(.d (.str [])),(.d .aT),(.d .aT)],.grow v20 ((x19).map au)]:=H18
  unfold aX at h
  refine aB.seq ?_
  refine aB.seq ?_
  refine aB.region E.obj rfl ?_
  refine ai.val rfl (aa rfl) rfl ?_
  refine ai.val rfl (aa rfl) rfl ?_
  refine ai.val rfl (bF rfl IJ) rfl ?_
  refine ai.val rfl (aH rfl rfl dG) rfl ?_
  refine ai.val rfl (aa rfl) rfl ?_
  refine ai.jG 3 13 (.d (.bool ((decide (x21 < ((a1).length:Int))) && (decide (x21 < 9))))) ?_ ?_
  ·
   rcases Bool.eq_false_or_eq_true ((decide (x21 < ((a1).length:Int)))) with hB23 | hB23
   ·
    refine ai.bool hB23 ?_
    refine ai.val rfl (aa rfl) rfl ?_
    refine ai.val rfl (aH rfl rfl dG) rfl ?_
    refine ai.val rfl (aF (b:=true) rfl rfl) rfl ?_
    exact ai.nil ⟨_,rfl,(aj.put (aj.push rfl (aj.push rfl (aj.put (.refl _) (Less.eq (by rw [hB23]))))) (Less.eq (by rw [hB23]; rw [Bool.true_and])))⟩
   ·
    refine ai.bool hB23 ?_
    refine ai.no rfl rfl ?_
    refine ai.no rfl rfl ?_
    refine ai.val rfl (aF (b:=false) rfl rfl) rfl ?_
    exact ai.nil ⟨_,rfl,(aj.put (aj.push rfl (aj.push rfl (aj.put (.refl _) (Less.eq (by rw [hB23]))))) (Less.eq (by rw [hB23]; rw [Bool.false_and])))⟩
  ·
   refine ai.nil ?_
   refine aB.cond rfl (fun hb24=>?_) (fun hb24=>?_)
   ·
    replace h:=dK hb24 h
    refine aB.skip ?_
    refine aB.join (B:=aM) (α:=(List Tree) × AV) (fun a=>bS x21 (aX a1 k22) a.1=some r) (fun a=>[(0,(.d (.sl ((a1).map D.str) false))),(2,(.ptr b2 0 0)),(3,(.ptr b5 0 0)),(4,(.d (.int .i64 x21)))]) (fun a=>[.box b5 [(.d (.str [112])),(.d (.str [])),(.d (.str [])),(.d .aT),a.2],.box b2 [(.d (.str [])),(.d (.str [])),(.d (.str [])),(.d .aT),(.d .aT)],.grow a.2 ((a.1).map au)]) ?_ ?_
    ·
     intro a S25 H26 h
     obtain ⟨x27,v28⟩:=a
     replace h:bS x21 (aX a1 k22) x27=some r:=h
     replace H26:Has aM S25 [.box b5 [(.d (.str [112])),(.d (.str [])),(.d (.str [])),(.d .aT),v28],.box b2 [(.d (.str [])),(.d (.str [])),(.d (.str [])),(.d .aT),(.d .aT)],.grow v28 ((x27).map au)]:=H26
     unfold bS at h
     refine aB.region E.obj rfl ?_
     refine ai.val rfl (aa rfl) rfl ?_
     refine ai.val rfl (aH rfl rfl dZ) rfl ?_
     refine ai.val rfl (ak rfl) rfl ?_
     refine ai.nil ?_
     exact ⟨⟨x27,v28,(IntKind.wrap .i64 (x21 + 1))⟩,_,_,S25,.refl _ _,.refl _,(aj.r rfl (aj.r rfl (aj.r rfl (aj.r rfl aj.nil)))),H26.sl [0,1,2] rfl rfl,h⟩
    ·
     refine aB.block ?_
     refine aB.seq ?_
     obtain ⟨z30,hzz30,h⟩:=bind_some h
     obtain ⟨z31,hzz31,h⟩:=bind_some h
     obtain ⟨z32,hzz32,h⟩:=bind_some h
     refine aB.gQ E.obj kF KY [(0,none),(2,none),(3,none),(4,none)] (by kernel_rfl) [15,17] (by decide) [some (.ptr b5 0 4),some v20,some (.d (.sl ((a1).map D.str) false)),some (.d (.int .i64 x21)),some (.eptr (.str z30) 0),some (.d (.str z30)),some (.d (.sl ((a1).map D.str) false)),some (.d (.int .i64 x21)),some (.eptr (.str z30) 0),some (.d (.str z30)),some (.d (.int .i64 ((z30).length:Int))),some (.d (.int .i64 (jl ((z30).length:Int) 9))),some (.d (.str z31)),some (.d (au (Tree.mk [] [] z31 [] []))),some (.d (.sl (([(Tree.mk [] [] z31 [] [])]).map au) true)),none,none,none] ?_
     refine ⟨[0,1,2,3,4,5,6,7,8,9,10,11,12,13,14],by kernel_rfl,?_,_,_,rfl,rfl,.step ?_⟩
     ·
      refine .v rfl rfl rfl rfl (aD rfl iq nX rfl) ?_
      refine .v rfl rfl rfl rfl (aI H18 (i:=0) rfl rfl (aR qz rfl)) ?_
      refine .v rfl rfl rfl rfl (aa rfl) ?_
      refine .v rfl rfl rfl rfl (aa rfl) ?_
      refine .v rfl rfl rfl rfl (bE rfl rfl (bW (enc:=D.str) hzz30 Jo Ky (((fun _=>rfl) _).trans Kq.symm))) ?_
      refine .v rfl rfl rfl rfl (aY rfl (bL rZ rfl)) ?_
      refine .v rfl rfl rfl rfl (aa rfl) ?_
      refine .v rfl rfl rfl rfl (aa rfl) ?_
      refine .v rfl rfl rfl rfl (bE rfl rfl (bW (enc:=D.str) hzz30 Jo Ky (((fun _=>rfl) _).trans Kq.symm))) ?_
      refine .v rfl rfl rfl rfl (aY rfl (bL rZ rfl)) ?_
      refine .v rfl rfl rfl rfl (kr rfl (Ej KQ) rfl) ?_
      refine .v rfl rfl rfl rfl (oF rfl rfl) ?_
      refine .v rfl rfl rfl rfl (AJ rfl rfl KQ hzz31) ?_
      refine .cons rfl rfl rfl (.step ?_) ?_
      ·
       refine ai.val rfl (eB (cs:=[(.d (.str [])),(.d (.str [])),(.d (.str z31)),(.d .aT),(.d .aT)]) jM rfl (dY) (ja rfl rfl rfl rfl rfl)) rfl ?_
       refine ai.less (Less.agg' (d:=au (Tree.mk [] [] z31 [] [])) (aC.eq rfl (aC.eq rfl (aC.eq rfl (aC.iY rfl (.aT false) rfl rfl (aC.iY rfl (.aT false) rfl rfl .nil))))) ((Tree.eq _).trans rfl)) ?_
       exact ai.nil ⟨_,_,rfl,fun _ ht=>by cases ht; exact ⟨rfl,.refl _⟩⟩
      refine .v rfl rfl rfl rfl (dO (vs:=[(.d (au (Tree.mk [] [] z31 [] [])))]) (ds:=[(au (Tree.mk [] [] z31 [] []))]) yj qc ig jM dF rfl (by decide) (.cons rfl (Tree.len _) .nil) rfl (by intro d hd; simp only [List.mem_cons,List.not_mem_nil,or_false] at hd; rcases hd with rfl <;> exact Tree.agg _) rfl) ?_
      exact .nil
     refine ai.append (xs:=(x19).map au) (ys:=([(Tree.mk [] [] z31 [] [])]).map au) (zs:=(z32).map au) H18 rfl rfl rfl (i:=2) rfl rfl yj Gf qc (jw hzz32) GV rfl (dP (enc:=au) (fun z=>(Tree.len z).trans dF.symm) _) (dP (enc:=au) (fun z=>(Tree.len z).trans dF.symm) _) GU rfl (pG hzz32) (fun v38 S39 H40=>?_)
     refine ai.nil ⟨_,_,_,rfl,(fun _ ht=>by cases ht; rfl),[some (.ptr b5 0 4),some v20,some (.d (.sl ((a1).map D.str) false)),some (.d (.int .i64 x21)),some (.eptr (.str z30) 0),some (.d (.str z30)),some (.d (.sl ((a1).map D.str) false)),some (.d (.int .i64 x21)),some (.eptr (.str z30) 0),some (.d (.str z30)),some (.d (.int .i64 ((z30).length:Int))),some (.d (.int .i64 (jl ((z30).length:Int) 9))),some (.d (.str z31)),some (.d (au (Tree.mk [] [] z31 [] []))),some (.d (.sl (([(Tree.mk [] [] z31 [] [])]).map au) true)),some v38,some (.ptr b5 0 4),none],(.o (.o (.o (.o (.o (.o (.o (.o (.o (.o (.o (.o (.o (.o (.o (.new (.new (.new .nil)))))))))))))))))),(fun _ ht=>by cases ht; exact ⟨_,rfl,.refl _⟩),?_⟩
     refine ⟨[16],by kernel_rfl,?_,_,_,rfl,rfl,.step ?_⟩
     ·
      refine .v rfl rfl rfl rfl (aD rfl iq nX rfl) ?_
      exact .nil
     refine ai.store H40 (i:=0) rfl rfl rfl rfl (oL (H40.at (i:=2) rfl)).2.2.2.2 rfl HZ (oL (H40.at (i:=2) rfl)).2.2.2.1 IA rfl rfl rfl (fun S41 H42=>?_)
     refine ai.nil ⟨_,.any,_,rfl,(fun _ ht=>by cases ht),[some (.ptr b5 0 4),some v20,some (.d (.sl ((a1).map D.str) false)),some (.d (.int .i64 x21)),some (.eptr (.str z30) 0),some (.d (.str z30)),some (.d (.sl ((a1).map D.str) false)),some (.d (.int .i64 x21)),some (.eptr (.str z30) 0),some (.d (.str z30)),some (.d (.int .i64 ((z30).length:Int))),some (.d (.int .i64 (jl ((z30).length:Int) 9))),some (.d (.str z31)),some (.d (au (Tree.mk [] [] z31 [] []))),some (.d (.sl (([(Tree.mk [] [] z31 [] [])]).map au) true)),some v38,some (.ptr b5 0 4),some .any],(.o (.o (.o (.o (.o (.o (.o (.o (.o (.o (.o (.o (.o (.o (.o (.o (.o (.new .nil)))))))))))))))))),(fun _ ht=>by cases ht),?_⟩
     refine ⟨[],by kernel_rfl,?_,_,rfl,?_⟩
     ·
      exact .nil
     refine aB.seq ?_
     refine aB.region E.obj rfl ?_
     refine ai.val rfl (aa rfl) rfl ?_
     refine ai.val rfl (aH rfl rfl bD) rfl ?_
     refine ai.nil ?_
     refine aB.cond rfl (fun hb43=>?_) (fun hb43=>?_)
     ·
      replace h:=dK hb43 h
      refine aB.region E.obj rfl ?_
      refine ai.val rfl (aD rfl iq nX rfl) rfl ?_
      refine ai.val rfl (aI H42 (i:=0) rfl rfl (aR qz rfl)) rfl ?_
      refine ai.val rfl (eB (cs:=[(.d (.str [98,114])),(.d (.str [])),(.d (.str [])),(.d .aT),(.d .aT)]) jM rfl (dY) (ja rfl rfl rfl rfl rfl)) rfl ?_
      refine ai.less (Less.agg' (d:=au (Tree.mk [98,114] [] [] [] [])) (aC.eq rfl (aC.eq rfl (aC.eq rfl (aC.iY rfl (.aT false) rfl rfl (aC.iY rfl (.aT false) rfl rfl .nil))))) ((Tree.eq _).trans rfl)) ?_
      refine ai.val rfl (dO (vs:=[(.d (au (Tree.mk [98,114] [] [] [] [])))]) (ds:=[(au (Tree.mk [98,114] [] [] [] []))]) yj qc ig jM dF rfl (by decide) (.cons rfl (Tree.len _) .nil) rfl (by intro d hd; simp only [List.mem_cons,List.not_mem_nil,or_false] at hd; rcases hd with rfl <;> exact Tree.agg _) rfl) rfl ?_
      obtain ⟨z44,hzz44,h⟩:=bind_some h
      refine ai.append (xs:=(z32).map au) (ys:=([(Tree.mk [98,114] [] [] [] [])]).map au) (zs:=(z44).map au) H42 rfl rfl rfl (i:=2) rfl rfl yj Gf qc (jw hzz44) GV rfl (dP (enc:=au) (fun z=>(Tree.len z).trans dF.symm) _) (dP (enc:=au) (fun z=>(Tree.len z).trans dF.symm) _) GU rfl (pG hzz44) (fun v45 S46 H47=>?_)
      refine ai.val rfl (aD rfl iq nX rfl) rfl ?_
      refine ai.store H47 (i:=0) rfl rfl rfl rfl (oL (H47.at (i:=2) rfl)).2.2.2.2 rfl HZ (oL (H47.at (i:=2) rfl)).2.2.2.1 IA rfl rfl rfl (fun S48 H49=>?_)
      refine ai.nil ?_
      exact ⟨⟨z44,v45⟩,_,_,S48,.refl _ _,.refl _,(aj.r rfl (aj.r rfl (aj.r rfl (aj.r rfl aj.nil)))),H49.sl [0,1,2] rfl rfl,h⟩
     ·
      replace h:=dJ hb43 h
      refine aB.skip ?_
      exact ⟨⟨z32,v38⟩,_,_,S41,.refl _ _,.refl _,(aj.r rfl (aj.r rfl (aj.r rfl (aj.r rfl aj.nil)))),H42.sl [0,1,2] rfl rfl,h⟩
   ·
    replace h:=dJ hb24 h
    refine aB.exit ?_
    refine aB.seq ?_
    refine aB.region E.obj rfl ?_
    refine ai.val rfl (aI H18 (i:=0) rfl rfl (bX ig dF rfl)) rfl ?_
    refine ai.less (Less.agg' (d:=au (Tree.mk [112] [] [] [] x19)) (aC.eq rfl (aC.eq rfl (aC.eq rfl (aC.iY rfl (.aT false) rfl rfl (aC.grow H18 (i:=2) rfl .nil))))) ((Tree.eq _).trans rfl)) ?_
    refine ai.store H18 (i:=1) rfl rfl rfl rfl (Tree.fD _) rfl dF rfl lJ rfl rfl rfl (fun S50 H51=>?_)
    refine ai.nil ?_
    have hr:=Option.some.inj h
    subst hr
    exact aB.ret ⟨_,nM H51 (i:=1) rfl rfl rfl (bX ig dF rfl),rfl,mW (bM.Bj (d:=au (Tree.mk [112] [] [] [] x19)) (aC.eq rfl (aC.eq rfl (aC.eq rfl (aC.eq rfl (aC.eq rfl .nil))))) ((Tree.eq _).trans rfl))⟩
set_option maxRecDepth 20000 in
set_option maxHeartbeats 4000000 in
theorem tY (n:Nat) (a2:ax) (a6:Int) (a7:Int) (r:Bool) (h:jm n a2 a6 a7=some r) (b1:Nat) (v3:AV) (ws4:List (List AV)) (w5:AV):df R cfg.P 60 [.ptr b1 0 0,.d (.int .i64 a6),.d (.int .i64 a7)] [.box b1 [v3,w5],ay ae ah.kids 7 5 v3 ws4 a2.l none,aG w5 a2.freed] (fun v l=>v=.d (.bool r)∧l=[.box b1 [v3,w5],ay ae ah.kids 7 5 v3 ws4 a2.l none,aG w5 a2.freed]):=by
 unfold jm at h
 refine df.of_wp (C:=cfg) Try.func60 rfl JC rfl (fun B0 S0 H0=>?_)
 replace H0:Has B0 S0 [.box b1 [v3,w5],ay ae ah.kids 7 5 v3 ws4 a2.l none,aG w5 a2.freed]:=H0
 refine aB.seq ?_
 refine aB.region E.obj rfl ?_
 refine ai.val rfl (ak rfl) rfl ?_
 refine ai.nil ?_
 refine aB.seq ?_
 refine aB.block ?_
 refine o9.start (B:=B0) (α:=Int) (fun k a=>dA a2 a7 k a=some r) (fun a=>[(0,(.ptr b1 0 0)),(1,(.d (.int .i64 a))),(2,(.d (.int .i64 a7)))]) (fun a=>[.box b1 [v3,w5],ay ae ah.kids 7 5 v3 ws4 a2.l none,aG w5 a2.freed]) ?_ ?_ n ⟨a6,_,_,S0,.refl _ _,.refl _,(aj.r rfl (aj.r rfl (aj.r rfl aj.nil))),H0.sl [0,1,2] rfl rfl,h⟩
 ·
  intro a h; simp [dA] at h
 ·
  intro k16 x15 S13 H14 h
  replace h:dA a2 a7 (k16 + 1) x15=some r:=h
  replace H14:Has B0 S13 [.box b1 [v3,w5],ay ae ah.kids 7 5 v3 ws4 a2.l none,aG w5 a2.freed]:=H14
  unfold dA at h
  refine aB.seq ?_
  refine aB.seq ?_
  refine aB.region E.obj rfl ?_
  refine ai.val rfl (aa rfl) rfl ?_
  refine ai.val rfl (aH rfl rfl lF) rfl ?_
  refine ai.val rfl (aa rfl) rfl ?_
  refine ai.jG 4 13 (.d (.bool ((x15 != 0) && (x15 != a7)))) ?_ ?_
  ·
   rcases Bool.eq_false_or_eq_true ((x15 != 0)) with hB17 | hB17
   ·
    refine ai.bool hB17 ?_
    refine ai.val rfl (aa rfl) rfl ?_
    refine ai.val rfl (aa rfl) rfl ?_
    refine ai.val rfl (aH rfl rfl lF) rfl ?_
    refine ai.val rfl (aF (b:=true) rfl rfl) rfl ?_
    exact ai.nil ⟨_,rfl,(aj.put (aj.push rfl (aj.push rfl (aj.push rfl (aj.put (.refl _) (Less.eq (by rw [hB17])))))) (Less.eq (by rw [hB17]; rw [Bool.true_and])))⟩
   ·
    refine ai.bool hB17 ?_
    refine ai.no rfl rfl ?_
    refine ai.no rfl rfl ?_
    refine ai.no rfl rfl ?_
    refine ai.val rfl (aF (b:=false) rfl rfl) rfl ?_
    exact ai.nil ⟨_,rfl,(aj.put (aj.push rfl (aj.push rfl (aj.push rfl (aj.put (.refl _) (Less.eq (by rw [hB17])))))) (Less.eq (by rw [hB17]; rw [Bool.false_and])))⟩
  ·
   refine ai.nil ?_
   refine aB.cond rfl (fun hb18=>?_) (fun hb18=>?_)
   ·
    replace h:=dK hb18 h
    refine aB.skip ?_
    refine aB.block ?_
    refine aB.region E.obj rfl ?_
    refine ai.val rfl (aa rfl) rfl ?_
    refine ai.val rfl (bz rfl) rfl ?_
    refine ai.val rfl (aD rfl jH rq rfl) rfl ?_
    refine ai.val rfl (aI H14 (i:=0) rfl rfl (aR rY rfl)) rfl ?_
    refine ai.val rfl (aa rfl) rfl ?_
    refine ai.val rfl (aH rfl rfl iP) rfl ?_
    obtain ⟨z19,hzz19,h⟩:=bind_some h
    refine ai.val rfl (fJ H14 (i:=1) rfl hzz19 rfl rfl wh rQ oh) rfl ?_
    refine ai.val rfl (bg H14 (i:=1) rfl hzz19 rfl qj Hl rfl) rfl ?_
    refine ai.jo H14 rfl (q:=1) rfl hzz19 rfl nG rfl rfl rfl ?_
    refine ai.val rfl (ak rfl) rfl ?_
    refine ai.nil ?_
    exact ⟨z19.parent,_,_,S13,.refl _ _,.refl _,(aj.r rfl (aj.r rfl (aj.r rfl aj.nil))),H14.sl [0,1,2] rfl rfl,h⟩
   ·
    replace h:=dJ hb18 h
    refine aB.exit ?_
    refine aB.seq ?_
    refine aB.region E.obj rfl ?_
    refine ai.val rfl (aa rfl) rfl ?_
    refine ai.val rfl (aa rfl) rfl ?_
    refine ai.val rfl (aH rfl rfl bD) rfl ?_
    refine ai.val rfl (ak rfl) rfl ?_
    refine ai.nil ?_
    have hr:=Option.some.inj h
    subst hr
    exact aB.ret ⟨_,rfl,rfl,_,_,_,.refl _,(.refl _),⟨rfl,rfl⟩,H14.sl [0,1,2] rfl rfl⟩
set_option maxRecDepth 20000 in
set_option maxHeartbeats 4000000 in
theorem mV (n:Nat) (a1:(List Int)) (a2:Int) (r:Int) (h:eG n a1 a2=some r):ib R cfg.P 84 [(.sl ((a1).map (D.int .i64)) false),(.int .i64 a2)] (.d (.int .i64 r)):=by
 unfold eG at h
 refine ib.of_wp E.obj.toObjOk (C:=cfg) Try.func84 rfl Ka rfl ?_
 have H0:Has aM aM []:=Has.pure
 refine aB.seq ?_
 refine aB.region E.obj rfl ?_
 refine ai.val rfl (ak rfl) rfl ?_
 refine ai.nil ?_
 refine aB.seq ?_
 refine aB.seq ?_
 refine aB.region E.obj rfl ?_
 refine ai.val rfl (aa rfl) rfl ?_
 refine ai.val rfl (bF rfl jh) rfl ?_
 refine ai.val rfl (aa rfl) rfl ?_
 refine ai.nil ?_
 refine aB.block ?_
 refine o9.start (B:=aM) (α:=Int) (fun k a=>bI a1 a2 k a=some r) (fun a=>[(0,(.d (.sl ((a1).map (D.int .i64)) false))),(1,(.d (.int .i64 a2))),(7,(.d (.int .i64 ((a1).length:Int)))),(8,(.d (.int .i64 a)))]) (fun a=>[]) ?_ ?_ n ⟨0,_,_,aM,.refl _ _,.refl _,(aj.r rfl (aj.r rfl (aj.r rfl (aj.r rfl aj.nil)))),H0.sl [] rfl rfl,h⟩
 ·
  intro a h; simp [bI] at h
 ·
  intro k11 x10 S8 H9 h
  replace h:bI a1 a2 (k11 + 1) x10=some r:=h
  replace H9:Has aM S8 []:=H9
  unfold bI at h
  refine aB.seq ?_
  refine aB.region E.obj rfl ?_
  refine ai.val rfl (aH rfl rfl dG) rfl ?_
  refine ai.nil ?_
  refine aB.seq ?_
  refine aB.cond rfl (fun hb12=>?_) (fun hb12=>?_)
  ·
   replace h:=dK hb12 h
   refine aB.skip ?_
   refine aB.seq ?_
   refine aB.block ?_
   refine aB.seq ?_
   refine aB.region E.obj rfl ?_
   refine ai.val rfl (aa rfl) rfl ?_
   refine ai.val rfl (ak rfl) rfl ?_
   refine ai.nil ?_
   refine aB.seq ?_
   refine aB.region E.obj rfl ?_
   refine ai.val rfl (aa rfl) rfl ?_
   refine ai.val rfl (aa rfl) rfl ?_
   refine ai.val rfl (aa rfl) rfl ?_
   obtain ⟨z13,hzz13,h⟩:=bind_some h
   refine ai.val rfl (bE rfl rfl (bW (enc:=(D.int .i64)) hzz13 dX oP (((fun _=>rfl) _).trans jA.symm))) rfl ?_
   refine ai.val rfl (aY rfl (bL nG rfl)) rfl ?_
   refine ai.val rfl (aH rfl rfl bD) rfl ?_
   refine ai.nil ?_
   refine aB.cond rfl (fun hb14=>?_) (fun hb14=>?_)
   ·
    replace h:=dK hb14 h
    refine aB.seq ?_
    refine aB.region E.obj rfl ?_
    refine ai.val rfl (aa rfl) rfl ?_
    refine ai.val rfl (ak rfl) rfl ?_
    refine ai.nil ?_
    have hr:=Option.some.inj h
    subst hr
    exact aB.ret ⟨_,rfl,rfl,mW (bM.eq .nil)⟩
   ·
    replace h:=dJ hb14 h
    refine aB.skip ?_
    refine aB.region E.obj rfl ?_
    refine ai.val rfl (aH rfl rfl dZ) rfl ?_
    refine ai.val rfl (aa rfl) rfl ?_
    refine ai.nil ?_
    exact ⟨(IntKind.wrap .i64 (x10 + 1)),_,_,S8,.refl _ _,.refl _,(aj.r rfl (aj.r rfl (aj.r rfl (aj.r rfl aj.nil)))),H9.sl [] rfl rfl,h⟩
  ·
   replace h:=dJ hb12 h
   refine aB.exit ?_
   refine aB.seq ?_
   refine aB.region E.obj rfl ?_
   refine ai.val rfl (ak rfl) rfl ?_
   refine ai.nil ?_
   have hr:=Option.some.inj h
   subst hr
   exact aB.ret ⟨_,rfl,rfl,mW (bM.eq .nil)⟩
set_option maxRecDepth 20000 in
set_option maxHeartbeats 4000000 in
theorem mP (n:Nat) (a1:(List Int)) (a3:Int) (a4:Int) (r:(List Int)) (h:eD n a1 a3 a4=some r) (w2:AV):df R cfg.P 85 [w2,.d (.int .i64 a3),.d (.int .i64 a4)] [aG w2 a1] (fun v l=>l=[aG v r]):=by
 unfold eD at h
 refine df.of_wp (C:=cfg) Try.func85 rfl J4 rfl (fun B0 S0 H0=>?_)
 replace H0:Has B0 S0 [aG w2 a1]:=H0
 refine aB.seq ?_
 refine aB.region E.obj rfl ?_
 refine ai.val rfl (ak rfl) rfl ?_
 refine ai.nil ?_
 refine aB.seq ?_
 refine aB.region E.obj rfl ?_
 refine ai.val rfl (aa rfl) rfl ?_
 refine ai.val rfl (aa rfl) rfl ?_
 refine ai.val rfl (aa rfl) rfl ?_
 refine ai.val rfl (aa rfl) rfl ?_
 refine ai.val rfl (jy H0 (i:=0) rfl rfl jh) rfl ?_
 obtain ⟨z5,hzz5,h⟩:=bind_some h
 refine ai.val rfl (DX H0 (q:=0) rfl rfl rfl rfl rfl dX vY jA (CJ hzz5)) rfl ?_
 refine ai.nil ?_
 refine aB.seq ?_
 refine aB.seq ?_
 refine aB.region E.obj rfl ?_
 refine ai.val rfl (aa rfl) rfl ?_
 refine ai.val rfl (aa rfl) rfl ?_
 refine ai.val rfl (aH rfl rfl bD) rfl ?_
 refine ai.nil ?_
 refine aB.cond rfl (fun hb6=>?_) (fun hb6=>?_)
 ·
  replace h:=dK hb6 h
  refine aB.seq ?_
  refine aB.region E.obj rfl ?_
  refine ai.val rfl (aa rfl) rfl ?_
  refine ai.val rfl (ak rfl) rfl ?_
  refine ai.nil ?_
  have hr:=Option.some.inj h
  subst hr
  exact aB.ret ⟨_,rfl,rfl,_,_,_,.refl _,(.refl _),rfl,H0.sl [0] rfl rfl⟩
 ·
  replace h:=dJ hb6 h
  refine aB.skip ?_
  refine aB.seq ?_
  refine aB.region E.obj rfl ?_
  refine ai.val rfl (aa rfl) rfl ?_
  refine ai.val rfl (jy H0 (i:=0) rfl rfl jh) rfl ?_
  refine ai.val rfl (ak rfl) rfl ?_
  refine ai.nil ?_
  refine aB.seq ?_
  refine aB.gQ E.obj kF KW [(0,some 7),(7,none)] (by kernel_rfl) [6] (by decide) [some w2,some (.d (.int .i64 a3)),some (kI w2 (Int.toNat a3)),some w2,some (.d (.int .i64 a4)),some (lX w2 (Int.toNat a4)),none,none] ?_
  refine ⟨[0,1,2,3,4,5],by kernel_rfl,?_,_,_,rfl,rfl,.step ?_⟩
  ·
   refine .v rfl rfl rfl rfl (aa rfl) ?_
   refine .v rfl rfl rfl rfl (aa rfl) ?_
   refine .v rfl rfl rfl rfl (CZ H0 (q:=0) rfl rfl rfl dX vY jA (CJ hzz5)) ?_
   refine .v rfl rfl rfl rfl (aa rfl) ?_
   refine .v rfl rfl rfl rfl (aa rfl) ?_
   refine .v rfl rfl rfl rfl (zQ H0 (q:=0) rfl rfl rfl dX vY jA (CJ hzz5)) ?_
   exact .nil
  have H12:Has B0 S0 ([aG w2 a1] ++ []):=H0.sl [0] rfl rfl
  replace H12:Has B0 S0 [aG w2 a1]:=H12
  refine ai.Hw H12 rfl rfl rfl FY dX jA hzz5 rfl (fun S13 H14 hroom15=>?_)
  have H16:Has B0 S13 [aG (kI w2 (z5).length) z5]:=H14.sl [0] rfl rfl
  refine ai.nil ⟨_,_,_,rfl,(fun _ ht=>by cases ht; rfl),[some w2,some (.d (.int .i64 a3)),some (kI w2 (Int.toNat a3)),some w2,some (.d (.int .i64 a4)),some (lX w2 (Int.toNat a4)),some (kI w2 (z5).length),some (kI w2 (z5).length)],(.o (.o (.o (.o (.o (.o (.new (.new .nil)))))))),(fun _ ht=>by cases ht; exact ⟨_,rfl,.refl _⟩),?_⟩
  refine ⟨[7],by kernel_rfl,?_,_,rfl,?_⟩
  ·
   refine .v rfl rfl rfl rfl (ak rfl) ?_
   exact .nil
  refine aB.seq ?_
  refine aB.region E.obj rfl ?_
  refine ai.val rfl (aa rfl) rfl ?_
  refine ai.val rfl (aa rfl) rfl ?_
  refine ai.val rfl (jy H16 (i:=0) rfl rfl jh) rfl ?_
  refine ai.val rfl (aa rfl) rfl ?_
  refine ai.val rfl (Bz H16 (q:=0) rfl rfl rfl rfl dX vY jA (Int.natCast_nonneg _) hroom15) rfl ?_
  have H17:Has B0 S13 ([aG (kI w2 (z5).length) z5] ++ []):=H16.sl [0] rfl rfl
  replace H17:Has B0 S13 [aG (kI w2 (z5).length) z5]:=H17
  refine ai.FU (jj:=_) H17 rfl rfl dX ED rfl hroom15 (fun S18 H19=>?_)
  have H20:Has B0 S18 [aG (kI w2 (z5).length) z5]:=H19.sl [0] rfl rfl
  refine ai.nil ?_
  refine aB.seq ?_
  refine aB.region E.obj rfl ?_
  refine ai.val rfl (aa rfl) rfl ?_
  refine ai.val rfl (ak rfl) rfl ?_
  refine ai.nil ?_
  have hr:=Option.some.inj h
  subst hr
  exact aB.ret ⟨_,rfl,rfl,_,_,_,.refl _,(.refl _),rfl,H20.sl [0] rfl rfl⟩
set_option maxRecDepth 20000 in
set_option maxHeartbeats 4000000 in
theorem oz (n:Nat) (a2:ax) (a6:Int) (r:ax) (h:iW n a2 a6=some r) (b1:Nat) (v3:AV) (ws4:List (List AV)) (w5:AV):df R cfg.P 61 [.ptr b1 0 0,.d (.int .i64 a6)] [.box b1 [v3,w5],ay ae ah.kids 7 5 v3 ws4 a2.l none,aG w5 a2.freed] (fun v l=>v=.tup []∧∃ dws0 dw0,l=[.box b1 [v3,dw0],ay ae ah.kids 7 5 v3 dws0 r.l none,aG dw0 r.freed]):=by
 unfold iW at h
 refine df.of_wp (C:=cfg) Try.func61 rfl JJ rfl (fun B0 S0 H0=>?_)
 replace H0:Has B0 S0 [.box b1 [v3,w5],ay ae ah.kids 7 5 v3 ws4 a2.l none,aG w5 a2.freed]:=H0
 refine aB.seq ?_
 refine aB.region E.obj rfl ?_
 refine ai.val rfl (aa rfl) rfl ?_
 refine ai.val rfl (bz rfl) rfl ?_
 refine ai.val rfl (aD rfl jH rq rfl) rfl ?_
 refine ai.val rfl (aI H0 (i:=0) rfl rfl (aR rY rfl)) rfl ?_
 refine ai.val rfl (aa rfl) rfl ?_
 refine ai.val rfl (aH rfl rfl iP) rfl ?_
 obtain ⟨z7,hzz7,h⟩:=bind_some h
 refine ai.val rfl (fJ H0 (i:=1) rfl hzz7 rfl rfl wh rQ oh) rfl ?_
 refine ai.val rfl (ak rfl) rfl ?_
 refine ai.nil ?_
 refine aB.seq ?_
 refine aB.seq ?_
 refine aB.region E.obj rfl ?_
 refine ai.val rfl (aa rfl) rfl ?_
 refine ai.val rfl (bG H0 (q:=1) rfl hzz7 rfl) rfl ?_
 refine ai.val rfl (bg H0 (i:=1) rfl hzz7 rfl qj Hl rfl) rfl ?_
 refine ai.jo H0 rfl (q:=1) rfl hzz7 rfl nG rfl rfl rfl ?_
 refine ai.val rfl (aH rfl rfl bD) rfl ?_
 refine ai.nil ?_
 refine aB.cond rfl (fun hb8=>?_) (fun hb8=>?_)
 ·
  replace h:=dK hb8 h
  have hr:=Option.some.inj h
  subst hr
  exact aB.ret ⟨_,rfl,rfl,_,_,_,.refl _,(.refl _),⟨rfl,ws4,w5,rfl⟩,H0.sl [0,1,2] rfl rfl⟩
 ·
  replace h:=dJ hb8 h
  refine aB.skip ?_
  refine aB.seq ?_
  obtain ⟨z9,hzz9,h⟩:=bind_some h
  refine aB.gQ E.obj kF KX [(1,none),(4,none),(5,some 10)] (by kernel_rfl) [] (by decide) [some (.ptr b1 0 0),some (.ptr b1 0 0),some (.ptr b1 0 0),some v3,some (bu v3 (Int.toNat (IntKind.wrap .i64 (a6 - 1))) 0),some (bu v3 (Int.toNat (IntKind.wrap .i64 (a6 - 1))) 0),some (bu v3 (Int.toNat (IntKind.wrap .i64 (a6 - 1))) 6),some (.d (.int .i64 z7.parent)),some (.d (.int .i64 (IntKind.wrap .i64 (z7.parent - 1)))),some (bu v3 (Int.toNat (IntKind.wrap .i64 (z7.parent - 1))) 0),some (bu v3 (Int.toNat (IntKind.wrap .i64 (z7.parent - 1))) 0)] ?_
  refine ⟨[0,1,2,3,4,5,6,7,8,9,10],by kernel_rfl,?_,_,rfl,?_⟩
  ·
   refine .v rfl rfl rfl rfl (aa rfl) ?_
   refine .v rfl rfl rfl rfl (bz rfl) ?_
   refine .v rfl rfl rfl rfl (aD rfl jH rq rfl) ?_
   refine .v rfl rfl rfl rfl (aI H0 (i:=0) rfl rfl (aR rY rfl)) ?_
   refine .v rfl rfl rfl rfl (aa rfl) ?_
   refine .v rfl rfl rfl rfl (bG H0 (q:=1) rfl hzz7 rfl) ?_
   refine .v rfl rfl rfl rfl (bg H0 (i:=1) rfl hzz7 rfl qj Hl rfl) ?_
   refine .cons rfl rfl rfl (.step ?_) ?_
   ·
    refine ai.jo H0 rfl (q:=1) rfl hzz7 rfl nG rfl rfl rfl ?_
    exact ai.nil ⟨_,_,rfl,fun _ ht=>by cases ht; exact ⟨rfl,.refl _⟩⟩
   refine .v rfl rfl rfl rfl (aH rfl rfl iP) ?_
   refine .v rfl rfl rfl rfl (fJ H0 (i:=1) rfl hzz9 rfl rfl wh rQ oh) ?_
   refine .v rfl rfl rfl rfl (ak rfl) ?_
   exact .nil
  refine aB.seq ?_
  refine aB.region E.obj rfl ?_
  refine ai.val rfl (aa rfl) rfl ?_
  obtain ⟨z10,hzz10,h⟩:=bind_some h
  refine ai.val rfl (bG H0 (q:=1) rfl hzz10 rfl) rfl ?_
  refine ai.val rfl (bg H0 (i:=1) rfl hzz10 rfl mq qd rfl) rfl ?_
  refine ai.val rfl (fO H0 (i:=1) rfl hzz10 rfl tC) rfl ?_
  refine ai.val rfl (aa rfl) rfl ?_
  obtain ⟨z11,hzz11,h⟩:=bind_some h
  have H12:Has B0 S0 ([ay ae ah.kids 7 5 v3 ws4 a2.l none] ++ [.box b1 [v3,w5],aG w5 a2.freed]):=H0.sl [1,0,2] rfl rfl
  replace H12:Has B0 S0 [ay ae ah.kids 7 5 v3 ws4 a2.l none,.box b1 [v3,w5],aG w5 a2.freed]:=H12
  have H13:=Has.take H12 (dC hzz10).2
  refine ai.JI E.obj.toObjOk rfl (aJ rfl rfl) (mV E n _ _ _ hzz11) rfl (.cons (Ci.K5 H13 (q:=0) rfl) (.cons (.less (.refl _)) .nil)) rfl ?_
  refine ai.val rfl (ak rfl) rfl ?_
  refine ai.nil ?_
  refine aB.seq ?_
  refine aB.region E.obj rfl ?_
  refine ai.val rfl (aa rfl) rfl ?_
  refine ai.val rfl (aa rfl) rfl ?_
  refine ai.val rfl (bG H0 (q:=1) rfl hzz10 rfl) rfl ?_
  refine ai.val rfl (bg H0 (i:=1) rfl hzz10 rfl mq qd rfl) rfl ?_
  refine ai.val rfl (fO H0 (i:=1) rfl hzz10 rfl tC) rfl ?_
  refine ai.val rfl (aa rfl) rfl ?_
  refine ai.val rfl (aa rfl) rfl ?_
  refine ai.val rfl (aH rfl rfl dZ) rfl ?_
  obtain ⟨z14,hzz14,h⟩:=bind_some h
  have H15:Has B0 S0 ([ay ae ah.kids 7 5 v3 ws4 a2.l none] ++ [.box b1 [v3,w5],aG w5 a2.freed]):=H0.sl [1,0,2] rfl rfl
  replace H15:Has B0 S0 [ay ae ah.kids 7 5 v3 ws4 a2.l none,.box b1 [v3,w5],aG w5 a2.freed]:=H15
  have H16:=Has.take H15 (dC hzz10).2
  have H17:Has B0 S0 [aG (gX 5 ws4 (Int.toNat (IntKind.wrap .i64 (z7.parent - 1)))) z10.kids,.box b1 [v3,w5],ay ae ah.kids 7 5 v3 ws4 a2.l (some (Int.toNat (IntKind.wrap .i64 (z7.parent - 1)))),aG w5 a2.freed]:=H16.sl [0,2,1,3] rfl rfl
  refine ai.fw (ins:=[aG (gX 5 ws4 (Int.toNat (IntKind.wrap .i64 (z7.parent - 1)))) z10.kids]) (more:=[.box b1 [v3,w5],ay ae ah.kids 7 5 v3 ws4 a2.l (some (Int.toNat (IntKind.wrap .i64 (z7.parent - 1)))),aG w5 a2.freed]) (H17.sl [0,1,2,3] rfl rfl) rfl (aJ rfl rfl) (mP E n _ _ _ _ hzz14 _) (.cons (.refl _) (.cons (.refl _) (.cons (.refl _) .nil))) rfl ?_
  rintro v18 S19 _ rfl H20
  have H21:Has B0 S19 [aG v18 z14,.box b1 [v3,w5],ay ae ah.kids 7 5 v3 ws4 a2.l (some (Int.toNat (IntKind.wrap .i64 (z7.parent - 1)))),aG w5 a2.freed]:=H20.sl [0,1,2,3] rfl rfl
  refine ai.val rfl (bG H21 (q:=2) rfl hzz10 rfl) rfl ?_
  refine ai.val rfl (bg H21 (i:=2) rfl hzz10 rfl mq qd rfl) rfl ?_
  have H25:Has B0 S19 ([aG v18 z14,ay ae ah.kids 7 5 v3 ws4 a2.l (some (Int.toNat (IntKind.wrap .i64 (z7.parent - 1))))] ++ [.box b1 [v3,w5],aG w5 a2.freed]):=H21.sl [0,2,1,3] rfl rfl
  replace H25:Has B0 S19 [aG v18 z14,ay ae ah.kids 7 5 v3 ws4 a2.l (some (Int.toNat (IntKind.wrap .i64 (z7.parent - 1)))),.box b1 [v3,w5],aG w5 a2.freed]:=H25
  refine ai.xY (z':=(ah.mk z10.lives z10.tag z10.key z10.text z10.attrs z14 z10.parent)) (c:=.sl ((z14).map (D.int .i64)) false) H25 rfl hzz10 (.inr rfl) rfl rfl G7 GY rfl rfl rfl (fun ws24 S22 H23=>?_)
  have H26:Has B0 S22 [.box b1 [v3,w5],ay ae ah.kids 7 5 v3 ws24 (jI a2.l (IntKind.wrap .i64 (z7.parent - 1)) (ah.mk z10.lives z10.tag z10.key z10.text z10.attrs z14 z10.parent)) none,aG w5 a2.freed]:=H23.sl [1,0,2] rfl rfl
  refine ai.nil ?_
  refine aB.region E.obj rfl ?_
  refine ai.val rfl (aa rfl) rfl ?_
  obtain ⟨z27,hzz27,h⟩:=bind_some h
  refine ai.val rfl (bG H26 (q:=1) rfl hzz27 rfl) rfl ?_
  refine ai.val rfl (bg H26 (i:=1) rfl hzz27 rfl qj Hl rfl) rfl ?_
  have H31:Has B0 S22 ([ay ae ah.kids 7 5 v3 ws24 (jI a2.l (IntKind.wrap .i64 (z7.parent - 1)) (ah.mk z10.lives z10.tag z10.key z10.text z10.attrs z14 z10.parent)) none] ++ [.box b1 [v3,w5],aG w5 a2.freed]):=H26.sl [1,0,2] rfl rfl
  replace H31:Has B0 S22 [ay ae ah.kids 7 5 v3 ws24 (jI a2.l (IntKind.wrap .i64 (z7.parent - 1)) (ah.mk z10.lives z10.tag z10.key z10.text z10.attrs z14 z10.parent)) none,.box b1 [v3,w5],aG w5 a2.freed]:=H31
  refine ai.pO (z':=(ah.mk z27.lives z27.tag z27.key z27.text z27.attrs z27.kids 0)) H31 rfl hzz27 rfl rfl rfl rfl (.refl _) jA oP rfl rfl rfl rfl rfl (fun ws30 S28 H29=>?_)
  have H32:Has B0 S28 [.box b1 [v3,w5],ay ae ah.kids 7 5 v3 ws30 (jI (jI a2.l (IntKind.wrap .i64 (z7.parent - 1)) (ah.mk z10.lives z10.tag z10.key z10.text z10.attrs z14 z10.parent)) (IntKind.wrap .i64 (a6 - 1)) (ah.mk z27.lives z27.tag z27.key z27.text z27.attrs z27.kids 0)) none,aG w5 a2.freed]:=H29.sl [1,0,2] rfl rfl
  refine ai.nil ?_
  have hr:=Option.some.inj h
  subst hr
  exact ⟨_,rfl,rfl,_,_,_,.refl _,(.refl _),⟨rfl,ws30,w5,rfl⟩,H32.sl [0,1,2] rfl rfl⟩
set_option maxRecDepth 20000 in
set_option maxHeartbeats 4000000 in
theorem kG (n:Nat) (a2:ax) (a6:Int) (a7:Int) (a8:Int) (r:(Bool × ax)) (h:eH n a2 a6 a7 a8=some r) (b1:Nat) (v3:AV) (ws4:List (List AV)) (w5:AV):df R cfg.P 14 [.ptr b1 0 0,.d (.int .i64 a6),.d (.int .i64 a7),.d (.int .i64 a8)] [.box b1 [v3,w5],ay ae ah.kids 7 5 v3 ws4 a2.l none,aG w5 a2.freed] (fun v l=>v=.d (.bool r.1)∧∃ dws0 dw0,l=[.box b1 [v3,dw0],ay ae ah.kids 7 5 v3 dws0 r.2.l none,aG dw0 r.2.freed]):=by
 unfold eH at h
 refine df.of_wp (C:=pX) Try.func14 rfl JO rfl (fun B0 S0 H0=>?_)
 replace H0:Has B0 S0 [.box b1 [v3,w5],ay ae ah.kids 7 5 v3 ws4 a2.l none,aG w5 a2.freed]:=H0
 refine aB.seq ?_
 refine aB.region (dN E) rfl ?_
 refine ai.val rfl (ak rfl) rfl ?_
 refine ai.nil ?_
 refine aB.seq ?_
 refine aB.region (dN E) rfl ?_
 refine ai.val rfl (aa rfl) rfl ?_
 refine ai.val rfl (aa rfl) rfl ?_
 obtain ⟨z9,hzz9,h⟩:=bind_some h
 refine ai.fw (ins:=[.box b1 [v3,w5],ay ae ah.kids 7 5 v3 ws4 a2.l none,aG w5 a2.freed]) (more:=[]) (H0.sl [0,1,2] rfl rfl) rfl (aJ rfl rfl) (fK E n _ _ _ hzz9 b1 v3 ws4 w5) (.cons (.refl _) (.cons (.refl _) .nil)) rfl ?_
 rintro v10 S11 l12 hr13 H14
 rcases z9 with _ | _
 ·
  obtain ⟨rfl,rfl⟩:=hr13
  replace h:=dJ rfl h
  replace H14:Has B0 S11 [.box b1 [v3,w5],ay ae ah.kids 7 5 v3 ws4 a2.l none,aG w5 a2.freed]:=H14
  have H15:Has B0 S11 [.box b1 [v3,w5],ay ae ah.kids 7 5 v3 ws4 a2.l none,aG w5 a2.freed]:=H14.sl [0,1,2] rfl rfl
  refine ai.val rfl (aa rfl) rfl ?_
  refine ai.val rfl (aa rfl) rfl ?_
  obtain ⟨z16,hzz16,h⟩:=bind_some h
  refine ai.fw (ins:=[.box b1 [v3,w5],ay ae ah.kids 7 5 v3 ws4 a2.l none,aG w5 a2.freed]) (more:=[]) (H15.sl [0,1,2] rfl rfl) rfl (aJ rfl rfl) (fK E n _ _ _ hzz16 b1 v3 ws4 w5) (.cons (.refl _) (.cons (.refl _) .nil)) rfl ?_
  rintro v17 S18 l19 hr20 H21
  rcases z16 with _ | _
  ·
   obtain ⟨rfl,rfl⟩:=hr20
   replace h:=dJ rfl h
   replace H21:Has B0 S18 [.box b1 [v3,w5],ay ae ah.kids 7 5 v3 ws4 a2.l none,aG w5 a2.freed]:=H21
   have H22:Has B0 S18 [.box b1 [v3,w5],ay ae ah.kids 7 5 v3 ws4 a2.l none,aG w5 a2.freed]:=H21.sl [0,1,2] rfl rfl
   refine ai.val rfl (ak rfl) rfl ?_
   refine ai.val rfl (ak rfl) rfl ?_
   refine ai.nil ?_
   refine aB.seq ?_
   refine aB.seq ?_
   refine aB.region (dN E) rfl ?_
   refine ai.val rfl (aa rfl) rfl ?_
   refine ai.val rfl (aH rfl rfl (kC qb)) rfl ?_
   refine ai.val rfl (aa rfl) rfl ?_
   refine ai.no rfl rfl ?_
   refine ai.no rfl rfl ?_
   refine ai.val rfl (aF (b:=true) rfl rfl) rfl ?_
   refine ai.val rfl (aa rfl) rfl ?_
   refine ai.no rfl rfl ?_
   refine ai.no rfl rfl ?_
   refine ai.no rfl rfl ?_
   refine ai.no rfl rfl ?_
   refine ai.no rfl rfl ?_
   refine ai.val rfl (aF (b:=true) rfl rfl) rfl ?_
   refine ai.val rfl (aa rfl) rfl ?_
   refine ai.no rfl rfl ?_
   refine ai.no rfl rfl ?_
   refine ai.val rfl (aF (b:=true) rfl rfl) rfl ?_
   refine ai.val rfl (aa rfl) rfl ?_
   refine ai.no rfl rfl ?_
   refine ai.no rfl rfl ?_
   refine ai.no rfl rfl ?_
   refine ai.no rfl rfl ?_
   refine ai.val rfl (aF (b:=true) rfl rfl) rfl ?_
   refine ai.nil ?_
   refine aB.cond rfl (fun hb=>?_) (fun hb=>?_)
   ·
    refine aB.seq ?_
    refine aB.region (dN E) rfl ?_
    refine ai.val rfl (ak rfl) rfl ?_
    refine ai.nil ?_
    have hr:=Option.some.inj h
    subst hr
    exact aB.ret ⟨_,rfl,rfl,_,_,_,.refl _,(.refl _),⟨rfl,ws4,w5,rfl⟩,H22.sl [0,1,2] rfl rfl⟩
   ·
    cases hb
  ·
   obtain ⟨rfl,rfl⟩:=hr20
   replace h:=dK rfl h
   have H23:Has B0 S18 [.box b1 [v3,w5],ay ae ah.kids 7 5 v3 ws4 a2.l none,aG w5 a2.freed]:=H21.sl [0,1,2] rfl rfl
   refine ai.val rfl (ak rfl) rfl ?_
   refine ai.val rfl (ak rfl) rfl ?_
   refine ai.nil ?_
   refine aB.seq ?_
   refine aB.seq ?_
   refine aB.region (dN E) rfl ?_
   refine ai.val rfl (aa rfl) rfl ?_
   refine ai.val rfl (aH rfl rfl (kC qb)) rfl ?_
   refine ai.val rfl (aa rfl) rfl ?_
   refine ai.no rfl rfl ?_
   refine ai.no rfl rfl ?_
   refine ai.val rfl (aF (b:=true) rfl rfl) rfl ?_
   refine ai.val rfl (aa rfl) rfl ?_
   refine ai.no rfl rfl ?_
   refine ai.no rfl rfl ?_
   refine ai.no rfl rfl ?_
   refine ai.no rfl rfl ?_
   refine ai.no rfl rfl ?_
   refine ai.val rfl (aF (b:=true) rfl rfl) rfl ?_
   refine ai.val rfl (aa rfl) rfl ?_
   refine ai.no rfl rfl ?_
   refine ai.no rfl rfl ?_
   refine ai.val rfl (aF (b:=true) rfl rfl) rfl ?_
   refine ai.val rfl (aa rfl) rfl ?_
   refine ai.no rfl rfl ?_
   refine ai.no rfl rfl ?_
   refine ai.no rfl rfl ?_
   refine ai.no rfl rfl ?_
   refine ai.val rfl (aF (b:=true) rfl rfl) rfl ?_
   refine ai.nil ?_
   refine aB.cond rfl (fun hb=>?_) (fun hb=>?_)
   ·
    refine aB.seq ?_
    refine aB.region (dN E) rfl ?_
    refine ai.val rfl (ak rfl) rfl ?_
    refine ai.nil ?_
    have hr:=Option.some.inj h
    subst hr
    exact aB.ret ⟨_,rfl,rfl,_,_,_,.refl _,(.refl _),⟨rfl,ws4,w5,rfl⟩,H23.sl [0,1,2] rfl rfl⟩
   ·
    cases hb
 ·
  obtain ⟨rfl,rfl⟩:=hr13
  replace h:=dK rfl h
  have H24:Has B0 S11 [.box b1 [v3,w5],ay ae ah.kids 7 5 v3 ws4 a2.l none,aG w5 a2.freed]:=H14.sl [0,1,2] rfl rfl
  refine ai.val rfl (aa rfl) rfl ?_
  refine ai.val rfl (aa rfl) rfl ?_
  obtain ⟨z25,hzz25,h⟩:=bind_some h
  refine ai.fw (ins:=[.box b1 [v3,w5],ay ae ah.kids 7 5 v3 ws4 a2.l none,aG w5 a2.freed]) (more:=[]) (H24.sl [0,1,2] rfl rfl) rfl (aJ rfl rfl) (fK E n _ _ _ hzz25 b1 v3 ws4 w5) (.cons (.refl _) (.cons (.refl _) .nil)) rfl ?_
  rintro v26 S27 l28 hr29 H30
  rcases z25 with _ | _
  ·
   obtain ⟨rfl,rfl⟩:=hr29
   replace h:=dJ rfl h
   replace H30:Has B0 S27 [.box b1 [v3,w5],ay ae ah.kids 7 5 v3 ws4 a2.l none,aG w5 a2.freed]:=H30
   have H31:Has B0 S27 [.box b1 [v3,w5],ay ae ah.kids 7 5 v3 ws4 a2.l none,aG w5 a2.freed]:=H30.sl [0,1,2] rfl rfl
   refine ai.val rfl (ak rfl) rfl ?_
   refine ai.val rfl (ak rfl) rfl ?_
   refine ai.nil ?_
   refine aB.seq ?_
   refine aB.seq ?_
   refine aB.region (dN E) rfl ?_
   refine ai.val rfl (aa rfl) rfl ?_
   obtain ⟨z32,hzz32,h⟩:=bind_some h
   refine ai.val rfl (kD H31 (q:=1) rfl hzz32 rfl rfl qb) rfl ?_
   refine ai.val rfl (aa rfl) rfl ?_
   refine ai.val rfl (aa rfl) rfl ?_
   refine ai.val rfl (aH rfl rfl (kC qb)) rfl ?_
   refine ai.val rfl (aF (b:=false) rfl rfl) rfl ?_
   refine ai.val rfl (aa rfl) rfl ?_
   refine ai.no rfl rfl ?_
   refine ai.no rfl rfl ?_
   refine ai.no rfl rfl ?_
   refine ai.no rfl rfl ?_
   refine ai.no rfl rfl ?_
   refine ai.val rfl (aF (b:=true) rfl rfl) rfl ?_
   refine ai.val rfl (aa rfl) rfl ?_
   refine ai.no rfl rfl ?_
   refine ai.no rfl rfl ?_
   refine ai.val rfl (aF (b:=true) rfl rfl) rfl ?_
   refine ai.val rfl (aa rfl) rfl ?_
   refine ai.no rfl rfl ?_
   refine ai.no rfl rfl ?_
   refine ai.no rfl rfl ?_
   refine ai.no rfl rfl ?_
   refine ai.val rfl (aF (b:=true) rfl rfl) rfl ?_
   refine ai.nil ?_
   refine aB.cond rfl (fun hb=>?_) (fun hb=>?_)
   ·
    refine aB.seq ?_
    refine aB.region (dN E) rfl ?_
    refine ai.val rfl (ak rfl) rfl ?_
    refine ai.nil ?_
    have hr:=Option.some.inj h
    subst hr
    exact aB.ret ⟨_,rfl,rfl,_,_,_,.refl _,(.refl _),⟨rfl,ws4,w5,rfl⟩,H31.sl [0,1,2] rfl rfl⟩
   ·
    cases hb
  ·
   obtain ⟨rfl,rfl⟩:=hr29
   replace h:=dK rfl h
   have H33:Has B0 S27 [.box b1 [v3,w5],ay ae ah.kids 7 5 v3 ws4 a2.l none,aG w5 a2.freed]:=H30.sl [0,1,2] rfl rfl
   refine ai.val rfl (ak rfl) rfl ?_
   refine ai.val rfl (ak rfl) rfl ?_
   refine ai.nil ?_
   refine aB.seq ?_
   refine aB.seq ?_
   refine aB.region (dN E) rfl ?_
   refine ai.val rfl (aa rfl) rfl ?_
   obtain ⟨z34,hzz34,h⟩:=bind_some h
   refine ai.val rfl (kD H33 (q:=1) rfl hzz34 rfl rfl qb) rfl ?_
   refine ai.val rfl (aa rfl) rfl ?_
   refine ai.val rfl (aa rfl) rfl ?_
   obtain ⟨z35,hzz35,h⟩:=bind_some h
   refine ai.val rfl (kD H33 (q:=1) rfl hzz35 rfl rfl qb) rfl ?_
   refine ai.val rfl (aF (b:=false) rfl rfl) rfl ?_
   refine ai.val rfl (aa rfl) rfl ?_
   refine ai.val rfl (aa rfl) rfl ?_
   refine ai.val rfl (bG H33 (q:=1) rfl hzz34 rfl) rfl ?_
   refine ai.val rfl (bg H33 (i:=1) rfl hzz34 rfl xu sK rfl) rfl ?_
   refine ai.jo H33 rfl (q:=1) rfl hzz34 rfl rZ rfl rfl rfl ?_
   refine ai.val rfl (aH rfl rfl kQ) rfl ?_
   refine ai.val rfl (aF (b:=false) rfl rfl) rfl ?_
   refine ai.val rfl (aa rfl) rfl ?_
   refine ai.jG 3 33 (.d (.bool ((z34.tag == []) || (a7 == 1)))) ?_ ?_
   ·
    rcases Bool.eq_false_or_eq_true ((z34.tag == [])) with hB36 | hB36
    ·
     refine ai.bool hB36 ?_
     refine ai.no rfl rfl ?_
     refine ai.no rfl rfl ?_
     refine ai.val rfl (aF (b:=true) rfl rfl) rfl ?_
     exact ai.nil ⟨_,rfl,(aj.put (aj.push rfl (aj.push rfl (aj.put (.refl _) (Less.eq (by rw [hB36]))))) (Less.eq (by rw [hB36]; rw [Bool.true_or])))⟩
    ·
     refine ai.bool hB36 ?_
     refine ai.val rfl (aa rfl) rfl ?_
     refine ai.val rfl (aH rfl rfl bD) rfl ?_
     refine ai.val rfl (aF (b:=false) rfl rfl) rfl ?_
     exact ai.nil ⟨_,rfl,(aj.put (aj.push rfl (aj.push rfl (aj.put (.refl _) (Less.eq (by rw [hB36]))))) (Less.eq (by rw [hB36]; rw [Bool.false_or])))⟩
   ·
    refine ai.val rfl (aa rfl) rfl ?_
    rcases Bool.eq_false_or_eq_true (((z34.tag == []) || (a7 == 1))) with hB37 | hB37
    ·
     replace h:=dK hB37 h
     refine ai.bool hB37 ?_
     refine ai.no rfl rfl ?_
     refine ai.no rfl rfl ?_
     refine ai.no rfl rfl ?_
     refine ai.no rfl rfl ?_
     refine ai.val rfl (aF (b:=true) rfl rfl) rfl ?_
     refine ai.nil ?_
     refine aB.cond rfl (fun hb=>?_) (fun hb=>?_)
     ·
      refine aB.seq ?_
      refine aB.region (dN E) rfl ?_
      refine ai.val rfl (ak rfl) rfl ?_
      refine ai.nil ?_
      have hr:=Option.some.inj h
      subst hr
      exact aB.ret ⟨_,rfl,rfl,_,_,_,.refl _,(.refl _),⟨rfl,ws4,w5,rfl⟩,H33.sl [0,1,2] rfl rfl⟩
     ·
      cases hb
    ·
     replace h:=dJ hB37 h
     refine ai.bool hB37 ?_
     refine ai.val rfl (aa rfl) rfl ?_
     refine ai.val rfl (aa rfl) rfl ?_
     refine ai.val rfl (aa rfl) rfl ?_
     obtain ⟨z38,hzz38,h⟩:=bind_some h
     refine ai.fw (ins:=[.box b1 [v3,w5],ay ae ah.kids 7 5 v3 ws4 a2.l none,aG w5 a2.freed]) (more:=[]) (H33.sl [0,1,2] rfl rfl) rfl (aJ rfl rfl) (tY E n _ _ _ _ hzz38 b1 v3 ws4 w5) (.cons (.refl _) (.cons (.refl _) (.cons (.refl _) .nil))) rfl ?_
     rintro _ S39 _ ⟨rfl,rfl⟩ H40
     have H41:Has B0 S39 [.box b1 [v3,w5],ay ae ah.kids 7 5 v3 ws4 a2.l none,aG w5 a2.freed]:=H40.sl [0,1,2] rfl rfl
     refine ai.val rfl (aF (b:=false) rfl rfl) rfl ?_
     refine ai.nil ?_
     refine aB.cond rfl (fun hb42=>?_) (fun hb42=>?_)
     ·
      replace h:=dK hb42 h
      refine aB.seq ?_
      refine aB.region (dN E) rfl ?_
      refine ai.val rfl (ak rfl) rfl ?_
      refine ai.nil ?_
      have hr:=Option.some.inj h
      subst hr
      exact aB.ret ⟨_,rfl,rfl,_,_,_,.refl _,(.refl _),⟨rfl,ws4,w5,rfl⟩,H41.sl [0,1,2] rfl rfl⟩
     ·
      replace h:=dJ hb42 h
      refine aB.skip ?_
      refine aB.seq ?_
      refine aB.region (dN E) rfl ?_
      refine ai.val rfl (aa rfl) rfl ?_
      refine ai.val rfl (aa rfl) rfl ?_
      obtain ⟨z43,hzz43,h⟩:=bind_some h
      refine ai.fw (ins:=[.box b1 [v3,w5],ay ae ah.kids 7 5 v3 ws4 a2.l none,aG w5 a2.freed]) (more:=[]) (H41.sl [0,1,2] rfl rfl) rfl (aJ rfl rfl) (oz E n _ _ _ hzz43 b1 v3 ws4 w5) (.cons (.refl _) (.cons (.refl _) .nil)) rfl ?_
      rintro _ S46 _ ⟨rfl,ws44,w45,rfl⟩ H47
      have H48:Has B0 S46 [.box b1 [v3,w45],ay ae ah.kids 7 5 v3 ws44 z43.l none,aG w45 z43.freed]:=H47.sl [0,1,2] rfl rfl
      refine ai.nil ?_
      refine aB.seq ?_
      obtain ⟨z49,hzz49,h⟩:=bind_some h
      obtain ⟨z56,hzz56,h⟩:=bind_some h
      refine aB.gQ (dN E) kF K3 [(1,none),(10,none)] (by kernel_rfl) [14,15,18] (by decide) [some (bu v3 (Int.toNat (IntKind.wrap .i64 (a6 - 1))) 0),some (bu v3 (Int.toNat (IntKind.wrap .i64 (a6 - 1))) 0),some (bu v3 (Int.toNat (IntKind.wrap .i64 (a6 - 1))) 0),some (bu v3 (Int.toNat (IntKind.wrap .i64 (a6 - 1))) 5),some (gX 5 ws44 (Int.toNat (IntKind.wrap .i64 (a6 - 1)))),some (.d (.int .i64 a8)),some (bu v3 (Int.toNat (IntKind.wrap .i64 (a6 - 1))) 0),some (bu v3 (Int.toNat (IntKind.wrap .i64 (a6 - 1))) 0),some (bu v3 (Int.toNat (IntKind.wrap .i64 (a6 - 1))) 5),some (gX 5 ws44 (Int.toNat (IntKind.wrap .i64 (a6 - 1)))),some (.d (.int .i64 ((z49.kids).length:Int))),some (.d (.int .i64 (jl a8 ((z49.kids).length:Int)))),some (.d (.int .i64 (sP 0 (jl a8 ((z49.kids).length:Int))))),some (.d (.int .i64 a7)),none,none,none,none,none] ?_
      refine ⟨[0,1,2,3,4,5,6,7,8,9,10,11,12,13],by kernel_rfl,?_,_,_,rfl,rfl,.step ?_⟩
      ·
       refine .v rfl rfl rfl rfl (aa rfl) ?_
       refine .v rfl rfl rfl rfl (aa rfl) ?_
       refine .v rfl rfl rfl rfl (bG H48 (q:=1) rfl hzz49 rfl) ?_
       refine .v rfl rfl rfl rfl (bg H48 (i:=1) rfl hzz49 rfl mq qd rfl) ?_
       refine .v rfl rfl rfl rfl (fO H48 (i:=1) rfl hzz49 rfl tC) ?_
       refine .v rfl rfl rfl rfl (aa rfl) ?_
       refine .v rfl rfl rfl rfl (aa rfl) ?_
       refine .v rfl rfl rfl rfl (bG H48 (q:=1) rfl hzz49 rfl) ?_
       refine .v rfl rfl rfl rfl (bg H48 (i:=1) rfl hzz49 rfl mq qd rfl) ?_
       refine .v rfl rfl rfl rfl (fO H48 (i:=1) rfl hzz49 rfl tC) ?_
       refine .cons rfl rfl rfl (.step ?_) ?_
       ·
        have H69:Has B0 S46 ([ay ae ah.kids 7 5 v3 ws44 z43.l none] ++ [.box b1 [v3,w45],aG w45 z43.freed]):=H48.sl [1,0,2] rfl rfl
        replace H69:Has B0 S46 [ay ae ah.kids 7 5 v3 ws44 z43.l none,.box b1 [v3,w45],aG w45 z43.freed]:=H69
        have H70:=Has.take H69 (dC hzz49).2
        refine ai.val rfl (jy H70 (i:=0) rfl rfl jh) rfl ?_
        exact ai.nil ⟨_,_,rfl,fun _ ht=>by cases ht; exact ⟨rfl,.refl _⟩⟩
       refine .v rfl rfl rfl rfl (oF rfl rfl) ?_
       refine .v rfl rfl rfl rfl (wQ rfl rfl) ?_
       refine .v rfl rfl rfl rfl (aa rfl) ?_
       exact .nil
      refine ai.nU (vs:=[(.d (.int .i64 a7))]) (cs:=[[(.d (.int .i64 a7))]]) H48 rfl nP dX oP ED jA rfl (by decide) (.cons rfl rfl .nil) rfl rfl rfl (fun v69 S70 H71=>?_)
      have H72:Has B0 S70 [fF 1 1 v69 [(.d (.int .i64 a7))],.box b1 [v3,w45],ay ae ah.kids 7 5 v3 ws44 z43.l none,aG w45 z43.freed]:=H71.sl [0,1,2,3] rfl rfl
      refine ai.nil ⟨_,_,_,rfl,(fun _ ht=>by cases ht; rfl),[some (bu v3 (Int.toNat (IntKind.wrap .i64 (a6 - 1))) 0),some (bu v3 (Int.toNat (IntKind.wrap .i64 (a6 - 1))) 0),some (bu v3 (Int.toNat (IntKind.wrap .i64 (a6 - 1))) 0),some (bu v3 (Int.toNat (IntKind.wrap .i64 (a6 - 1))) 5),some (gX 5 ws44 (Int.toNat (IntKind.wrap .i64 (a6 - 1)))),some (.d (.int .i64 a8)),some (bu v3 (Int.toNat (IntKind.wrap .i64 (a6 - 1))) 0),some (bu v3 (Int.toNat (IntKind.wrap .i64 (a6 - 1))) 0),some (bu v3 (Int.toNat (IntKind.wrap .i64 (a6 - 1))) 5),some (gX 5 ws44 (Int.toNat (IntKind.wrap .i64 (a6 - 1)))),some (.d (.int .i64 ((z49.kids).length:Int))),some (.d (.int .i64 (jl a8 ((z49.kids).length:Int)))),some (.d (.int .i64 (sP 0 (jl a8 ((z49.kids).length:Int))))),some (.d (.int .i64 a7)),some v69,none,none,none,none],(.o (.o (.o (.o (.o (.o (.o (.o (.o (.o (.o (.o (.o (.o (.new (.new (.new (.new (.new .nil))))))))))))))))))),(fun _ ht=>by cases ht; exact ⟨_,rfl,.refl _⟩),?_⟩
      refine ⟨[0,1,2,3,4,5,6,7,8,9,10,11,12],by kernel_rfl,?_,_,_,rfl,rfl,.step ?_⟩
      ·
       refine .v rfl rfl rfl rfl (aa rfl) ?_
       refine .v rfl rfl rfl rfl (aa rfl) ?_
       refine .v rfl rfl rfl rfl (bG H72 (q:=2) rfl hzz49 rfl) ?_
       refine .v rfl rfl rfl rfl (bg H72 (i:=2) rfl hzz49 rfl mq qd rfl) ?_
       refine .v rfl rfl rfl rfl (fO H72 (i:=2) rfl hzz49 rfl tC) ?_
       refine .v rfl rfl rfl rfl (aa rfl) ?_
       refine .v rfl rfl rfl rfl (aa rfl) ?_
       refine .v rfl rfl rfl rfl (bG H72 (q:=2) rfl hzz49 rfl) ?_
       refine .v rfl rfl rfl rfl (bg H72 (i:=2) rfl hzz49 rfl mq qd rfl) ?_
       refine .v rfl rfl rfl rfl (fO H72 (i:=2) rfl hzz49 rfl tC) ?_
       refine .cons rfl rfl rfl (.step ?_) ?_
       ·
        have H73:Has B0 S70 ([ay ae ah.kids 7 5 v3 ws44 z43.l none] ++ [fF 1 1 v69 [(.d (.int .i64 a7))],.box b1 [v3,w45],aG w45 z43.freed]):=H72.sl [2,0,1,3] rfl rfl
        replace H73:Has B0 S70 [ay ae ah.kids 7 5 v3 ws44 z43.l none,fF 1 1 v69 [(.d (.int .i64 a7))],.box b1 [v3,w45],aG w45 z43.freed]:=H73
        have H74:=Has.take H73 (dC hzz49).2
        refine ai.val rfl (jy H74 (i:=0) rfl rfl jh) rfl ?_
        exact ai.nil ⟨_,_,rfl,fun _ ht=>by cases ht; exact ⟨rfl,.refl _⟩⟩
       refine .v rfl rfl rfl rfl (oF rfl rfl) ?_
       refine .v rfl rfl rfl rfl (wQ rfl rfl) ?_
       exact .nil
      have H73:Has B0 S70 ([ay ae ah.kids 7 5 v3 ws44 z43.l none] ++ [fF 1 1 v69 [(.d (.int .i64 a7))],.box b1 [v3,w45],aG w45 z43.freed]):=H72.sl [2,0,1,3] rfl rfl
      replace H73:Has B0 S70 [ay ae ah.kids 7 5 v3 ws44 z43.l none,fF 1 1 v69 [(.d (.int .i64 a7))],.box b1 [v3,w45],aG w45 z43.freed]:=H73
      have H74:=Has.take H73 (dC hzz49).2
      have H75:Has B0 S70 [aG (gX 5 ws44 (Int.toNat (IntKind.wrap .i64 (a6 - 1)))) z49.kids,fF 1 1 v69 [(.d (.int .i64 a7))],.box b1 [v3,w45],ay ae ah.kids 7 5 v3 ws44 z43.l (some (Int.toNat (IntKind.wrap .i64 (a6 - 1)))),aG w45 z43.freed]:=H74.sl [0,2,3,1,4] rfl rfl
      refine ai.fw (ins:=[fF 1 1 v69 [(.d (.int .i64 a7))],aG (gX 5 ws44 (Int.toNat (IntKind.wrap .i64 (a6 - 1)))) z49.kids]) (more:=[.box b1 [v3,w45],ay ae ah.kids 7 5 v3 ws44 z43.l (some (Int.toNat (IntKind.wrap .i64 (a6 - 1)))),aG w45 z43.freed]) (H75.sl [1,0,2,3,4] rfl rfl) rfl (aJ rfl rfl) (df.ins E.insp hzz56) (.cons (.refl _) (.cons (.refl _) (.cons (.refl _) .nil))) rfl ?_
      rintro v76 S77 _ rfl H78
      have H79:Has B0 S77 [aG v76 z56,.box b1 [v3,w45],ay ae ah.kids 7 5 v3 ws44 z43.l (some (Int.toNat (IntKind.wrap .i64 (a6 - 1)))),aG w45 z43.freed]:=H78.sl [0,1,2,3] rfl rfl
      refine ai.nil ⟨_,_,_,rfl,(fun _ ht=>by cases ht; rfl),[some (bu v3 (Int.toNat (IntKind.wrap .i64 (a6 - 1))) 0),some (bu v3 (Int.toNat (IntKind.wrap .i64 (a6 - 1))) 0),some (bu v3 (Int.toNat (IntKind.wrap .i64 (a6 - 1))) 0),some (bu v3 (Int.toNat (IntKind.wrap .i64 (a6 - 1))) 5),some (gX 5 ws44 (Int.toNat (IntKind.wrap .i64 (a6 - 1)))),some (.d (.int .i64 a8)),some (bu v3 (Int.toNat (IntKind.wrap .i64 (a6 - 1))) 0),some (bu v3 (Int.toNat (IntKind.wrap .i64 (a6 - 1))) 0),some (bu v3 (Int.toNat (IntKind.wrap .i64 (a6 - 1))) 5),some (gX 5 ws44 (Int.toNat (IntKind.wrap .i64 (a6 - 1)))),some (.d (.int .i64 ((z49.kids).length:Int))),some (.d (.int .i64 (jl a8 ((z49.kids).length:Int)))),some (.d (.int .i64 (sP 0 (jl a8 ((z49.kids).length:Int))))),some (.d (.int .i64 a7)),some v69,some v76,some (bu v3 (Int.toNat (IntKind.wrap .i64 (a6 - 1))) 0),some (bu v3 (Int.toNat (IntKind.wrap .i64 (a6 - 1))) 5),none],(.o (.o (.o (.o (.o (.o (.o (.o (.o (.o (.o (.o (.o (.o (.o (.new (.new (.new (.new .nil))))))))))))))))))),(fun _ ht=>by cases ht; exact ⟨_,rfl,.refl _⟩),?_⟩
      refine ⟨[0,16,17],by kernel_rfl,?_,_,_,rfl,rfl,.step ?_⟩
      ·
       refine .v rfl rfl rfl rfl (aa rfl) ?_
       refine .v rfl rfl rfl rfl (bG H79 (q:=2) rfl hzz49 rfl) ?_
       refine .v rfl rfl rfl rfl (bg H79 (i:=2) rfl hzz49 rfl mq qd rfl) ?_
       exact .nil
      have H83:Has B0 S77 ([aG v76 z56,ay ae ah.kids 7 5 v3 ws44 z43.l (some (Int.toNat (IntKind.wrap .i64 (a6 - 1))))] ++ [.box b1 [v3,w45],aG w45 z43.freed]):=H79.sl [0,2,1,3] rfl rfl
      replace H83:Has B0 S77 [aG v76 z56,ay ae ah.kids 7 5 v3 ws44 z43.l (some (Int.toNat (IntKind.wrap .i64 (a6 - 1)))),.box b1 [v3,w45],aG w45 z43.freed]:=H83
      refine ai.xY (z':=(ah.mk z49.lives z49.tag z49.key z49.text z49.attrs z56 z49.parent)) (c:=.sl ((z56).map (D.int .i64)) false) H83 rfl hzz49 (.inr rfl) rfl rfl G7 GY rfl rfl rfl (fun ws82 S80 H81=>?_)
      have H84:Has B0 S80 [.box b1 [v3,w45],ay ae ah.kids 7 5 v3 ws82 (jI z43.l (IntKind.wrap .i64 (a6 - 1)) (ah.mk z49.lives z49.tag z49.key z49.text z49.attrs z56 z49.parent)) none,aG w45 z43.freed]:=H81.sl [1,0,2] rfl rfl
      refine ai.nil ⟨_,.any,_,rfl,(fun _ ht=>by cases ht),[some (bu v3 (Int.toNat (IntKind.wrap .i64 (a6 - 1))) 0),some (bu v3 (Int.toNat (IntKind.wrap .i64 (a6 - 1))) 0),some (bu v3 (Int.toNat (IntKind.wrap .i64 (a6 - 1))) 0),some (bu v3 (Int.toNat (IntKind.wrap .i64 (a6 - 1))) 5),some (gX 5 ws44 (Int.toNat (IntKind.wrap .i64 (a6 - 1)))),some (.d (.int .i64 a8)),some (bu v3 (Int.toNat (IntKind.wrap .i64 (a6 - 1))) 0),some (bu v3 (Int.toNat (IntKind.wrap .i64 (a6 - 1))) 0),some (bu v3 (Int.toNat (IntKind.wrap .i64 (a6 - 1))) 5),some (gX 5 ws44 (Int.toNat (IntKind.wrap .i64 (a6 - 1)))),some (.d (.int .i64 ((z49.kids).length:Int))),some (.d (.int .i64 (jl a8 ((z49.kids).length:Int)))),some (.d (.int .i64 (sP 0 (jl a8 ((z49.kids).length:Int))))),some (.d (.int .i64 a7)),some v69,some v76,some (bu v3 (Int.toNat (IntKind.wrap .i64 (a6 - 1))) 0),some (bu v3 (Int.toNat (IntKind.wrap .i64 (a6 - 1))) 5),some .any],(.o (.o (.o (.o (.o (.o (.o (.o (.o (.o (.o (.o (.o (.o (.o (.o (.o (.o (.new .nil))))))))))))))))))),(fun _ ht=>by cases ht),?_⟩
      refine ⟨[],by kernel_rfl,?_,_,rfl,?_⟩
      ·
       exact .nil
      refine aB.seq ?_
      refine aB.region (dN E) rfl ?_
      refine ai.val rfl (aa rfl) rfl ?_
      refine ai.val rfl (aa rfl) rfl ?_
      obtain ⟨z85,hzz85,h⟩:=bind_some h
      refine ai.val rfl (bG H84 (q:=1) rfl hzz85 rfl) rfl ?_
      refine ai.val rfl (bg H84 (i:=1) rfl hzz85 rfl qj Hl rfl) rfl ?_
      have H89:Has B0 S80 ([ay ae ah.kids 7 5 v3 ws82 (jI z43.l (IntKind.wrap .i64 (a6 - 1)) (ah.mk z49.lives z49.tag z49.key z49.text z49.attrs z56 z49.parent)) none] ++ [.box b1 [v3,w45],aG w45 z43.freed]):=H84.sl [1,0,2] rfl rfl
      replace H89:Has B0 S80 [ay ae ah.kids 7 5 v3 ws82 (jI z43.l (IntKind.wrap .i64 (a6 - 1)) (ah.mk z49.lives z49.tag z49.key z49.text z49.attrs z56 z49.parent)) none,.box b1 [v3,w45],aG w45 z43.freed]:=H89
      refine ai.pO (z':=(ah.mk z85.lives z85.tag z85.key z85.text z85.attrs z85.kids a6)) H89 rfl hzz85 rfl rfl rfl rfl (.refl _) jA oP rfl rfl rfl rfl rfl (fun ws88 S86 H87=>?_)
      have H90:Has B0 S86 [.box b1 [v3,w45],ay ae ah.kids 7 5 v3 ws88 (jI (jI z43.l (IntKind.wrap .i64 (a6 - 1)) (ah.mk z49.lives z49.tag z49.key z49.text z49.attrs z56 z49.parent)) (IntKind.wrap .i64 (a7 - 1)) (ah.mk z85.lives z85.tag z85.key z85.text z85.attrs z85.kids a6)) none,aG w45 z43.freed]:=H87.sl [1,0,2] rfl rfl
      refine ai.nil ?_
      refine aB.seq ?_
      refine aB.region (dN E) rfl ?_
      refine ai.val rfl (ak rfl) rfl ?_
      refine ai.nil ?_
      have hr:=Option.some.inj h
      subst hr
      exact aB.ret ⟨_,rfl,rfl,_,_,_,.refl _,(.refl _),⟨rfl,ws88,w45,rfl⟩,H90.sl [0,1,2] rfl rfl⟩
set_option maxRecDepth 20000 in
set_option maxHeartbeats 4000000 in
theorem ow (n:Nat) (a2:ax) (a6:Int) (a7:(List Attr)) (r:(Bool × ax)) (h:iV n a2 a6 a7=some r) (b1:Nat) (v3:AV) (ws4:List (List AV)) (w5:AV):df R cfg.P 29 [.ptr b1 0 0,.d (.int .i64 a6),.d (.sl ((a7).map az) false)] [.box b1 [v3,w5],ay ae ah.kids 7 5 v3 ws4 a2.l none,aG w5 a2.freed] (fun v l=>v=.d (.bool r.1)∧∃ dws0 dw0,l=[.box b1 [v3,dw0],ay ae ah.kids 7 5 v3 dws0 r.2.l none,aG dw0 r.2.freed]):=by
 unfold iV at h
 refine df.of_wp (C:=cfg) Try.func29 rfl JM rfl (fun B0 S0 H0=>?_)
 replace H0:Has B0 S0 [.box b1 [v3,w5],ay ae ah.kids 7 5 v3 ws4 a2.l none,aG w5 a2.freed]:=H0
 refine aB.seq ?_
 refine aB.region E.obj rfl ?_
 refine ai.val rfl (ak rfl) rfl ?_
 refine ai.nil ?_
 refine aB.seq ?_
 refine aB.region E.obj rfl ?_
 refine ai.val rfl (aa rfl) rfl ?_
 refine ai.val rfl (aa rfl) rfl ?_
 obtain ⟨z8,hzz8,h⟩:=bind_some h
 refine ai.fw (ins:=[.box b1 [v3,w5],ay ae ah.kids 7 5 v3 ws4 a2.l none,aG w5 a2.freed]) (more:=[]) (H0.sl [0,1,2] rfl rfl) rfl (aJ rfl rfl) (fK E n _ _ _ hzz8 b1 v3 ws4 w5) (.cons (.refl _) (.cons (.refl _) .nil)) rfl ?_
 rintro v9 S10 l11 hr12 H13
 rcases z8 with _ | _
 ·
  obtain ⟨rfl,rfl⟩:=hr12
  replace h:=dJ rfl h
  replace H13:Has B0 S10 [.box b1 [v3,w5],ay ae ah.kids 7 5 v3 ws4 a2.l none,aG w5 a2.freed]:=H13
  have H14:Has B0 S10 [.box b1 [v3,w5],ay ae ah.kids 7 5 v3 ws4 a2.l none,aG w5 a2.freed]:=H13.sl [0,1,2] rfl rfl
  refine ai.val rfl (ak rfl) rfl ?_
  refine ai.nil ?_
  refine aB.seq ?_
  refine aB.seq ?_
  refine aB.region E.obj rfl ?_
  refine ai.val rfl (aa rfl) rfl ?_
  refine ai.val rfl (aH rfl rfl (kC qb)) rfl ?_
  refine ai.val rfl (aa rfl) rfl ?_
  refine ai.no rfl rfl ?_
  refine ai.no rfl rfl ?_
  refine ai.no rfl rfl ?_
  refine ai.no rfl rfl ?_
  refine ai.no rfl rfl ?_
  refine ai.val rfl (aF (b:=true) rfl rfl) rfl ?_
  refine ai.nil ?_
  refine aB.cond rfl (fun hb=>?_) (fun hb=>?_)
  ·
   refine aB.seq ?_
   refine aB.region E.obj rfl ?_
   refine ai.val rfl (ak rfl) rfl ?_
   refine ai.nil ?_
   have hr:=Option.some.inj h
   subst hr
   exact aB.ret ⟨_,rfl,rfl,_,_,_,.refl _,(.refl _),⟨rfl,ws4,w5,rfl⟩,H14.sl [0,1,2] rfl rfl⟩
  ·
   cases hb
 ·
  obtain ⟨rfl,rfl⟩:=hr12
  replace h:=dK rfl h
  have H15:Has B0 S10 [.box b1 [v3,w5],ay ae ah.kids 7 5 v3 ws4 a2.l none,aG w5 a2.freed]:=H13.sl [0,1,2] rfl rfl
  refine ai.val rfl (ak rfl) rfl ?_
  refine ai.nil ?_
  refine aB.seq ?_
  refine aB.seq ?_
  refine aB.region E.obj rfl ?_
  refine ai.val rfl (aa rfl) rfl ?_
  obtain ⟨z16,hzz16,h⟩:=bind_some h
  refine ai.val rfl (kD H15 (q:=1) rfl hzz16 rfl rfl qb) rfl ?_
  refine ai.val rfl (aa rfl) rfl ?_
  refine ai.val rfl (aa rfl) rfl ?_
  refine ai.val rfl (bG H15 (q:=1) rfl hzz16 rfl) rfl ?_
  refine ai.val rfl (bg H15 (i:=1) rfl hzz16 rfl xu sK rfl) rfl ?_
  refine ai.jo H15 rfl (q:=1) rfl hzz16 rfl rZ rfl rfl rfl ?_
  refine ai.val rfl (aH rfl rfl kQ) rfl ?_
  refine ai.val rfl (aF (b:=false) rfl rfl) rfl ?_
  refine ai.nil ?_
  refine aB.cond rfl (fun hb17=>?_) (fun hb17=>?_)
  ·
   replace h:=dK hb17 h
   refine aB.seq ?_
   refine aB.region E.obj rfl ?_
   refine ai.val rfl (ak rfl) rfl ?_
   refine ai.nil ?_
   have hr:=Option.some.inj h
   subst hr
   exact aB.ret ⟨_,rfl,rfl,_,_,_,.refl _,(.refl _),⟨rfl,ws4,w5,rfl⟩,H15.sl [0,1,2] rfl rfl⟩
  ·
   replace h:=dJ hb17 h
   refine aB.skip ?_
   refine aB.seq ?_
   refine aB.region E.obj rfl ?_
   refine ai.val rfl (aa rfl) rfl ?_
   refine ai.val rfl (aa rfl) rfl ?_
   obtain ⟨z18,hzz18,h⟩:=bind_some h
   refine ai.ret rfl (aJ rfl rfl) (eu E _ _ _ hzz18 _ _ (bM.eq .nil)) rfl ?_
   refine ai.val rfl (bG H15 (q:=1) rfl hzz16 rfl) rfl ?_
   refine ai.val rfl (bg H15 (i:=1) rfl hzz16 rfl CK Ct rfl) rfl ?_
   have H22:Has B0 S10 ([ay ae ah.kids 7 5 v3 ws4 a2.l none] ++ [.box b1 [v3,w5],aG w5 a2.freed]):=H15.sl [1,0,2] rfl rfl
   replace H22:Has B0 S10 [ay ae ah.kids 7 5 v3 ws4 a2.l none,.box b1 [v3,w5],aG w5 a2.freed]:=H22
   refine ai.pO (z':=(ah.mk z16.lives z16.tag z16.key z16.text z18 z16.kids z16.parent)) H22 rfl hzz16 rfl rfl rfl rfl (.refl _) KJ Kh rfl rfl rfl rfl rfl (fun ws21 S19 H20=>?_)
   have H23:Has B0 S19 [.box b1 [v3,w5],ay ae ah.kids 7 5 v3 ws21 (jI a2.l (IntKind.wrap .i64 (a6 - 1)) (ah.mk z16.lives z16.tag z16.key z16.text z18 z16.kids z16.parent)) none,aG w5 a2.freed]:=H20.sl [1,0,2] rfl rfl
   refine ai.nil ?_
   refine aB.seq ?_
   refine aB.region E.obj rfl ?_
   refine ai.val rfl (ak rfl) rfl ?_
   refine ai.nil ?_
   have hr:=Option.some.inj h
   subst hr
   exact aB.ret ⟨_,rfl,rfl,_,_,_,.refl _,(.refl _),⟨rfl,ws21,w5,rfl⟩,H23.sl [0,1,2] rfl rfl⟩
set_option maxRecDepth 20000 in
set_option maxHeartbeats 4000000 in
theorem lU:∀ (n:Nat) (a2:ax) (a6:Tree) (r:(Int × ax)),gH n a2 a6=some r→∀ (b1:Nat) (v3:AV) (ws4:List (List AV)) (w5:AV),df R cfg.P 39 [.ptr b1 0 0,.d (au a6)] [.box b1 [v3,w5],ay ae ah.kids 7 5 v3 ws4 a2.l none,aG w5 a2.freed] (fun v l=>v=.d (.int .i64 r.1)∧∃ dv0 dws0 dw0,l=[.box b1 [dv0,dw0],ay ae ah.kids 7 5 dv0 dws0 r.2.l none,aG dw0 r.2.freed])
 | 0,a2,a6,r,h,b1,v3,ws4,w5=>by simp [gH] at h
 | n + 1,a2,a6,r,h,b1,v3,ws4,w5=>by
  have ih:=lU n
  unfold gH at h
  refine df.of_wp (C:=cfg) Try.func39 rfl KC rfl (fun B0 S0 H0=>?_)
  replace H0:Has B0 S0 [.box b1 [v3,w5],ay ae ah.kids 7 5 v3 ws4 a2.l none,aG w5 a2.freed]:=H0
  refine aB.seq ?_
  refine aB.region E.obj rfl ?_
  refine ai.box H0 rfl rfl rfl (Tree.fD _) rfl (fun b7 S8 H9=>?_)
  refine ai.val rfl (ak rfl) rfl ?_
  refine ai.nil ?_
  refine aB.seq ?_
  refine aB.seq ?_
  refine aB.region E.obj rfl ?_
  refine ai.val rfl (aD rfl nN sK rfl) rfl ?_
  refine ai.val rfl (aI H9 (i:=0) rfl rfl (aR rZ rfl)) rfl ?_
  refine ai.val rfl (aH rfl rfl kQ) rfl ?_
  refine ai.nil ?_
  refine aB.cond rfl (fun hb10=>?_) (fun hb10=>?_)
  ·
   replace h:=dK hb10 h
   refine aB.seq ?_
   refine aB.region E.obj rfl ?_
   refine ai.val rfl (aa rfl) rfl ?_
   refine ai.val rfl (aD rfl zG sK rfl) rfl ?_
   refine ai.val rfl (aI H9 (i:=0) rfl rfl (aR rZ rfl)) rfl ?_
   obtain ⟨z11,hzz11,h⟩:=bind_some h
   refine ai.fw (ins:=[.box b1 [v3,w5],ay ae ah.kids 7 5 v3 ws4 a2.l none,aG w5 a2.freed]) (more:=[.box b7 [(.d (.str a6.Tag)),(.d (.str a6.Key)),(.d (.str a6.Text)),(.d (.sl ((a6.aQ).map az) false)),(.d (.sl ((a6.Kids).map au) false))]]) (H9.sl [1,2,3,0] rfl rfl) rfl (aJ rfl rfl) (pY E n _ _ _ hzz11 b1 v3 ws4 w5) (.cons (.refl _) (.cons (.refl _) .nil)) rfl ?_
   rintro _ S15 _ ⟨rfl,v12,ws13,w14,rfl⟩ H16
   have H17:Has B0 S15 [.box b7 [(.d (.str a6.Tag)),(.d (.str a6.Key)),(.d (.str a6.Text)),(.d (.sl ((a6.aQ).map az) false)),(.d (.sl ((a6.Kids).map au) false))],.box b1 [v12,w14],ay ae ah.kids 7 5 v12 ws13 z11.2.l none,aG w14 z11.2.freed]:=H16.sl [3,0,1,2] rfl rfl
   refine ai.val rfl (ak rfl) rfl ?_
   refine ai.nil ?_
   have hr:=Option.some.inj h
   subst hr
   exact aB.ret ⟨_,rfl,rfl,_,_,_,.refl _,(.refl _),⟨rfl,v12,ws13,w14,rfl⟩,H17.sl [1,2,3] rfl rfl⟩
  ·
   replace h:=dJ hb10 h
   refine aB.skip ?_
   refine aB.seq ?_
   refine aB.region E.obj rfl ?_
   refine ai.val rfl (aa rfl) rfl ?_
   refine ai.val rfl (aD rfl nN sK rfl) rfl ?_
   refine ai.val rfl (aI H9 (i:=0) rfl rfl (aR rZ rfl)) rfl ?_
   refine ai.val rfl (aD rfl uE sK rfl) rfl ?_
   refine ai.val rfl (aI H9 (i:=0) rfl rfl (aR rZ rfl)) rfl ?_
   obtain ⟨z18,hzz18,h⟩:=bind_some h
   refine ai.fw (ins:=[.box b1 [v3,w5],ay ae ah.kids 7 5 v3 ws4 a2.l none,aG w5 a2.freed]) (more:=[.box b7 [(.d (.str a6.Tag)),(.d (.str a6.Key)),(.d (.str a6.Text)),(.d (.sl ((a6.aQ).map az) false)),(.d (.sl ((a6.Kids).map au) false))]]) (H9.sl [1,2,3,0] rfl rfl) rfl (aJ rfl rfl) (mo E n _ _ _ _ hzz18 b1 v3 ws4 w5) (.cons (.refl _) (.cons (.refl _) (.cons (.refl _) .nil))) rfl ?_
   rintro _ S22 _ ⟨rfl,v19,ws20,w21,rfl⟩ H23
   have H24:Has B0 S22 [.box b7 [(.d (.str a6.Tag)),(.d (.str a6.Key)),(.d (.str a6.Text)),(.d (.sl ((a6.aQ).map az) false)),(.d (.sl ((a6.Kids).map au) false))],.box b1 [v19,w21],ay ae ah.kids 7 5 v19 ws20 z18.2.l none,aG w21 z18.2.freed]:=H23.sl [3,0,1,2] rfl rfl
   refine ai.val rfl (ak rfl) rfl ?_
   refine ai.nil ?_
   refine aB.seq ?_
   refine aB.region E.obj rfl ?_
   refine ai.val rfl (aa rfl) rfl ?_
   refine ai.val rfl (aa rfl) rfl ?_
   refine ai.val rfl (aD rfl zI Ct rfl) rfl ?_
   refine ai.val rfl (aI H24 (i:=0) rfl rfl (aR DN rfl)) rfl ?_
   obtain ⟨z25,hzz25,h⟩:=bind_some h
   refine ai.fw (ins:=[.box b1 [v19,w21],ay ae ah.kids 7 5 v19 ws20 z18.2.l none,aG w21 z18.2.freed]) (more:=[.box b7 [(.d (.str a6.Tag)),(.d (.str a6.Key)),(.d (.str a6.Text)),(.d (.sl ((a6.aQ).map az) false)),(.d (.sl ((a6.Kids).map au) false))]]) (H24.sl [1,2,3,0] rfl rfl) rfl (aJ rfl rfl) (ow E n _ _ _ _ hzz25 b1 v19 ws20 w21) (.cons (.refl _) (.cons (.refl _) (.cons (.refl _) .nil))) rfl ?_
   rintro _ S28 _ ⟨rfl,ws26,w27,rfl⟩ H29
   have H30:Has B0 S28 [.box b7 [(.d (.str a6.Tag)),(.d (.str a6.Key)),(.d (.str a6.Text)),(.d (.sl ((a6.aQ).map az) false)),(.d (.sl ((a6.Kids).map au) false))],.box b1 [v19,w27],ay ae ah.kids 7 5 v19 ws26 z25.2.l none,aG w27 z25.2.freed]:=H29.sl [3,0,1,2] rfl rfl
   refine ai.nil ?_
   refine aB.seq ?_
   refine aB.seq ?_
   refine aB.region E.obj rfl ?_
   refine ai.val rfl (aD rfl iq nX rfl) rfl ?_
   refine ai.val rfl (aI H30 (i:=0) rfl rfl (aR qz rfl)) rfl ?_
   refine ai.val rfl (bF rfl zo) rfl ?_
   refine ai.val rfl (aa rfl) rfl ?_
   refine ai.nil ?_
   refine aB.block ?_
   refine o9.start (B:=B0) (α:=ax × AV × (List (List AV)) × AV × Int) (fun k a=>fM n (gH n) a6 z18 k a.1 a.2.2.2.2=some r) (fun a=>[(0,(.ptr b1 0 0)),(5,(.d (.int .i64 z18.1))),(27,(.d (.sl ((a6.Kids).map au) false))),(28,(.d (.int .i64 ((a6.Kids).length:Int)))),(29,(.d (.int .i64 a.2.2.2.2)))]) (fun a=>[.box b1 [a.2.1,a.2.2.2.1],ay ae ah.kids 7 5 a.2.1 a.2.2.1 a.1.l none,aG a.2.2.2.1 a.1.freed]) ?_ ?_ n ⟨⟨z25.2,v19,ws26,w27,0⟩,_,_,S28,.refl _ _,.refl _,(aj.r rfl (aj.r rfl (aj.r rfl (aj.r rfl (aj.r rfl aj.nil))))),H30.sl [1,2,3] rfl rfl,h⟩
   ·
    intro a h; simp [fM] at h
   ·
    intro k47 a S40 H41 h
    obtain ⟨x42,v45,ws43,w44,x46⟩:=a
    replace h:fM n (gH n) a6 z18 (k47 + 1) x42 x46=some r:=h
    replace H41:Has B0 S40 [.box b1 [v45,w44],ay ae ah.kids 7 5 v45 ws43 x42.l none,aG w44 x42.freed]:=H41
    unfold fM at h
    refine aB.seq ?_
    refine aB.region E.obj rfl ?_
    refine ai.val rfl (aH rfl rfl dG) rfl ?_
    refine ai.nil ?_
    refine aB.seq ?_
    refine aB.cond rfl (fun hb48=>?_) (fun hb48=>?_)
    ·
     replace h:=dK hb48 h
     refine aB.skip ?_
     refine aB.seq ?_
     refine aB.block ?_
     refine aB.seq ?_
     refine aB.region E.obj rfl ?_
     refine ai.val rfl (aa rfl) rfl ?_
     obtain ⟨z49,hzz49,h⟩:=bind_some h
     refine ai.val rfl (bE rfl rfl (bW (enc:=au) hzz49 qc lJ ((Tree.len _).trans dF.symm))) rfl ?_
     refine ai.val rfl (aY rfl (Tree.ug ig dF)) rfl ?_
     refine ai.alloc H41 rfl uf jM rfl rfl (fun b50 S51 H52=>?_)
     refine ai.val rfl (ak rfl) rfl ?_
     refine ai.store H52 (i:=0) rfl rfl rfl rfl (Tree.fD _) rfl dF rfl lJ rfl rfl rfl (fun S53 H54=>?_)
     refine ai.nil ?_
     refine aB.region E.obj rfl ?_
     refine ai.val rfl (aa rfl) rfl ?_
     refine ai.val rfl (aa rfl) rfl ?_
     refine ai.val rfl (aa rfl) rfl ?_
     refine ai.val rfl (aI H54 (i:=0) rfl rfl (bX ig dF rfl)) rfl ?_
     refine ai.less (Less.agg' (d:=au z49) (aC.eq rfl (aC.eq rfl (aC.eq rfl (aC.eq rfl (aC.eq rfl .nil))))) ((Tree.eq _).trans rfl)) ?_
     obtain ⟨z55,hzz55,h⟩:=bind_some h
     refine ai.fw (ins:=[.box b1 [v45,w44],ay ae ah.kids 7 5 v45 ws43 x42.l none,aG w44 x42.freed]) (more:=[.box b50 [(.d (.str z49.Tag)),(.d (.str z49.Key)),(.d (.str z49.Text)),(.d (.sl ((z49.aQ).map az) false)),(.d (.sl ((z49.Kids).map au) false))]]) (H54.sl [1,2,3,0] rfl rfl) rfl (aJ rfl rfl) (ih _ _ _ hzz55 b1 v45 ws43 w44) (.cons (.refl _) (.cons (.refl _) .nil)) rfl ?_
     rintro _ S59 _ ⟨rfl,v56,ws57,w58,rfl⟩ H60
     have H61:Has B0 S59 [.box b50 [(.d (.str z49.Tag)),(.d (.str z49.Key)),(.d (.str z49.Text)),(.d (.sl ((z49.aQ).map az) false)),(.d (.sl ((z49.Kids).map au) false))],.box b1 [v56,w58],ay ae ah.kids 7 5 v56 ws57 z55.2.l none,aG w58 z55.2.freed]:=H60.sl [3,0,1,2] rfl rfl
     refine ai.val rfl (aa rfl) rfl ?_
     obtain ⟨z62,hzz62,h⟩:=bind_some h
     refine ai.fw (ins:=[.box b1 [v56,w58],ay ae ah.kids 7 5 v56 ws57 z55.2.l none,aG w58 z55.2.freed]) (more:=[.box b50 [(.d (.str z49.Tag)),(.d (.str z49.Key)),(.d (.str z49.Text)),(.d (.sl ((z49.aQ).map az) false)),(.d (.sl ((z49.Kids).map au) false))]]) (H61.sl [1,2,3,0] rfl rfl) rfl (aJ rfl rfl) (kG E n _ _ _ _ _ hzz62 b1 v56 ws57 w58) (.cons (.refl _) (.cons (.refl _) (.cons (.refl _) (.cons (.refl _) .nil)))) rfl ?_
     rintro _ S65 _ ⟨rfl,ws63,sQ,rfl⟩ H66
     have H67:Has B0 S65 [.box b50 [(.d (.str z49.Tag)),(.d (.str z49.Key)),(.d (.str z49.Text)),(.d (.sl ((z49.aQ).map az) false)),(.d (.sl ((z49.Kids).map au) false))],.box b1 [v56,sQ],ay ae ah.kids 7 5 v56 ws63 z62.2.l none,aG sQ z62.2.freed]:=H66.sl [3,0,1,2] rfl rfl
     refine ai.nil ?_
     refine aB.region E.obj rfl ?_
     refine ai.val rfl (aH rfl rfl dZ) rfl ?_
     refine ai.val rfl (aa rfl) rfl ?_
     refine ai.nil ?_
     exact ⟨⟨z62.2,v56,ws63,sQ,(IntKind.wrap .i64 (x46 + 1))⟩,_,_,S65,.refl _ _,.refl _,(aj.r rfl (aj.r rfl (aj.r rfl (aj.r rfl (aj.r rfl aj.nil))))),H67.sl [1,2,3] rfl rfl,h⟩
    ·
     replace h:=dJ hb48 h
     refine aB.exit ?_
     refine aB.seq ?_
     refine aB.region E.obj rfl ?_
     refine ai.val rfl (aa rfl) rfl ?_
     refine ai.val rfl (ak rfl) rfl ?_
     refine ai.nil ?_
     have hr:=Option.some.inj h
     subst hr
     exact aB.ret ⟨_,rfl,rfl,_,_,_,.refl _,(.refl _),⟨rfl,v45,ws43,w44,rfl⟩,H41.sl [0,1,2] rfl rfl⟩
set_option maxRecDepth 20000 in
set_option maxHeartbeats 4000000 in
theorem xN (n:Nat) (a2:ax) (a6:Int) (a7:Str) (r:(Bool × ax)) (h:lC n a2 a6 a7=some r) (b1:Nat) (v3:AV) (ws4:List (List AV)) (w5:AV):df R cfg.P 31 [.ptr b1 0 0,.d (.int .i64 a6),.d (.str a7)] [.box b1 [v3,w5],ay ae ah.kids 7 5 v3 ws4 a2.l none,aG w5 a2.freed] (fun v l=>v=.d (.bool r.1)∧∃ dws0 dw0,l=[.box b1 [v3,dw0],ay ae ah.kids 7 5 v3 dws0 r.2.l none,aG dw0 r.2.freed]):=by
 unfold lC at h
 refine df.of_wp (C:=cfg) Try.func31 rfl Kb rfl (fun B0 S0 H0=>?_)
 replace H0:Has B0 S0 [.box b1 [v3,w5],ay ae ah.kids 7 5 v3 ws4 a2.l none,aG w5 a2.freed]:=H0
 refine aB.seq ?_
 refine aB.region E.obj rfl ?_
 refine ai.val rfl (ak rfl) rfl ?_
 refine ai.nil ?_
 refine aB.seq ?_
 refine aB.region E.obj rfl ?_
 refine ai.val rfl (aa rfl) rfl ?_
 refine ai.val rfl (aa rfl) rfl ?_
 obtain ⟨z8,hzz8,h⟩:=bind_some h
 refine ai.fw (ins:=[.box b1 [v3,w5],ay ae ah.kids 7 5 v3 ws4 a2.l none,aG w5 a2.freed]) (more:=[]) (H0.sl [0,1,2] rfl rfl) rfl (aJ rfl rfl) (fK E n _ _ _ hzz8 b1 v3 ws4 w5) (.cons (.refl _) (.cons (.refl _) .nil)) rfl ?_
 rintro v9 S10 l11 hr12 H13
 rcases z8 with _ | _
 ·
  obtain ⟨rfl,rfl⟩:=hr12
  replace h:=dJ rfl h
  replace H13:Has B0 S10 [.box b1 [v3,w5],ay ae ah.kids 7 5 v3 ws4 a2.l none,aG w5 a2.freed]:=H13
  have H14:Has B0 S10 [.box b1 [v3,w5],ay ae ah.kids 7 5 v3 ws4 a2.l none,aG w5 a2.freed]:=H13.sl [0,1,2] rfl rfl
  refine ai.val rfl (ak rfl) rfl ?_
  refine ai.nil ?_
  refine aB.seq ?_
  refine aB.seq ?_
  refine aB.region E.obj rfl ?_
  refine ai.val rfl (aa rfl) rfl ?_
  refine ai.val rfl (aH rfl rfl (kC qb)) rfl ?_
  refine ai.val rfl (aa rfl) rfl ?_
  refine ai.no rfl rfl ?_
  refine ai.no rfl rfl ?_
  refine ai.no rfl rfl ?_
  refine ai.no rfl rfl ?_
  refine ai.no rfl rfl ?_
  refine ai.val rfl (aF (b:=true) rfl rfl) rfl ?_
  refine ai.nil ?_
  refine aB.cond rfl (fun hb=>?_) (fun hb=>?_)
  ·
   refine aB.seq ?_
   refine aB.region E.obj rfl ?_
   refine ai.val rfl (ak rfl) rfl ?_
   refine ai.nil ?_
   have hr:=Option.some.inj h
   subst hr
   exact aB.ret ⟨_,rfl,rfl,_,_,_,.refl _,(.refl _),⟨rfl,ws4,w5,rfl⟩,H14.sl [0,1,2] rfl rfl⟩
  ·
   cases hb
 ·
  obtain ⟨rfl,rfl⟩:=hr12
  replace h:=dK rfl h
  have H15:Has B0 S10 [.box b1 [v3,w5],ay ae ah.kids 7 5 v3 ws4 a2.l none,aG w5 a2.freed]:=H13.sl [0,1,2] rfl rfl
  refine ai.val rfl (ak rfl) rfl ?_
  refine ai.nil ?_
  refine aB.seq ?_
  refine aB.seq ?_
  refine aB.region E.obj rfl ?_
  refine ai.val rfl (aa rfl) rfl ?_
  obtain ⟨z16,hzz16,h⟩:=bind_some h
  refine ai.val rfl (kD H15 (q:=1) rfl hzz16 rfl rfl qb) rfl ?_
  refine ai.val rfl (aa rfl) rfl ?_
  refine ai.val rfl (aa rfl) rfl ?_
  refine ai.val rfl (bG H15 (q:=1) rfl hzz16 rfl) rfl ?_
  refine ai.val rfl (bg H15 (i:=1) rfl hzz16 rfl xu sK rfl) rfl ?_
  refine ai.jo H15 rfl (q:=1) rfl hzz16 rfl rZ rfl rfl rfl ?_
  refine ai.val rfl (aH rfl rfl l5) rfl ?_
  refine ai.val rfl (aF (b:=false) rfl rfl) rfl ?_
  refine ai.nil ?_
  refine aB.cond rfl (fun hb17=>?_) (fun hb17=>?_)
  ·
   replace h:=dK hb17 h
   refine aB.seq ?_
   refine aB.region E.obj rfl ?_
   refine ai.val rfl (ak rfl) rfl ?_
   refine ai.nil ?_
   have hr:=Option.some.inj h
   subst hr
   exact aB.ret ⟨_,rfl,rfl,_,_,_,.refl _,(.refl _),⟨rfl,ws4,w5,rfl⟩,H15.sl [0,1,2] rfl rfl⟩
  ·
   replace h:=dJ hb17 h
   refine aB.skip ?_
   refine aB.seq ?_
   refine aB.region E.obj rfl ?_
   refine ai.val rfl (aa rfl) rfl ?_
   refine ai.val rfl (aa rfl) rfl ?_
   refine ai.val rfl (bG H15 (q:=1) rfl hzz16 rfl) rfl ?_
   refine ai.val rfl (bg H15 (i:=1) rfl hzz16 rfl CB sK rfl) rfl ?_
   have H21:Has B0 S10 ([ay ae ah.kids 7 5 v3 ws4 a2.l none] ++ [.box b1 [v3,w5],aG w5 a2.freed]):=H15.sl [1,0,2] rfl rfl
   replace H21:Has B0 S10 [ay ae ah.kids 7 5 v3 ws4 a2.l none,.box b1 [v3,w5],aG w5 a2.freed]:=H21
   refine ai.pO (z':=(ah.mk z16.lives z16.tag z16.key a7 z16.attrs z16.kids z16.parent)) H21 rfl hzz16 rfl rfl rfl rfl (.refl _) Kq Ky rfl rfl rfl rfl rfl (fun ws20 S18 H19=>?_)
   have H22:Has B0 S18 [.box b1 [v3,w5],ay ae ah.kids 7 5 v3 ws20 (jI a2.l (IntKind.wrap .i64 (a6 - 1)) (ah.mk z16.lives z16.tag z16.key a7 z16.attrs z16.kids z16.parent)) none,aG w5 a2.freed]:=H19.sl [1,0,2] rfl rfl
   refine ai.nil ?_
   refine aB.seq ?_
   refine aB.region E.obj rfl ?_
   refine ai.val rfl (ak rfl) rfl ?_
   refine ai.nil ?_
   have hr:=Option.some.inj h
   subst hr
   exact aB.ret ⟨_,rfl,rfl,_,_,_,.refl _,(.refl _),⟨rfl,ws20,w5,rfl⟩,H22.sl [0,1,2] rfl rfl⟩
set_option maxRecDepth 20000 in
set_option maxHeartbeats 4000000 in
theorem jT (n:Nat) (a1:Tree) (r:aS) (h:l8 n a1=some r):ib R cfg.P 80 [(au a1)] (.d (aL r)):=by
 unfold l8 at h
 refine ib.of_wp E.obj.toObjOk (C:=cfg) Try.func80 rfl JD rfl ?_
 have H0:Has aM aM []:=Has.pure
 refine aB.seq ?_
 refine aB.region E.obj rfl ?_
 refine ai.box H0 rfl rfl rfl (Tree.fD _) rfl (fun b2 S3 H4=>?_)
 refine ai.alloc H4 rfl I6 Ho rfl rfl (fun b5 S6 H7=>?_)
 refine ai.nil ?_
 refine aB.seq ?_
 refine aB.region E.obj rfl ?_
 refine ai.val rfl (aD rfl nN sK rfl) rfl ?_
 refine ai.val rfl (aI H7 (i:=1) rfl rfl (aR rZ rfl)) rfl ?_
 refine ai.val rfl (aD rfl uE sK rfl) rfl ?_
 refine ai.val rfl (aI H7 (i:=1) rfl rfl (aR rZ rfl)) rfl ?_
 refine ai.val rfl (eB (cs:=[(.d (.str a1.Tag)),(.d (.str a1.Key))]) Ho rfl (vV) (ja rfl rfl rfl rfl (ja rfl rfl rfl rfl rfl))) rfl ?_
 refine ai.less (Less.agg' (d:=aL (aS.mk a1.Tag a1.Key)) (aC.eq rfl (aC.eq rfl .nil)) ((aS.eq _).trans rfl)) ?_
 refine ai.store H7 (i:=0) rfl rfl rfl rfl (aS.fD _) rfl Hg rfl Jr rfl rfl rfl (fun S8 H9=>?_)
 refine ai.nil ?_
 have hr:=Option.some.inj h
 subst hr
 exact aB.ret ⟨_,nM H9 (i:=0) rfl rfl rfl (bX Ja Hg rfl),rfl,mW (bM.Bj (d:=aL (aS.mk a1.Tag a1.Key)) (aC.eq rfl (aC.eq rfl .nil)) ((aS.eq _).trans rfl))⟩
set_option maxRecDepth 20000 in
set_option maxHeartbeats 4000000 in
theorem yl (n:Nat) (a1:(List Tree)) (a2:(List Tree)) (r:(List Int)) (h:mF n a1 a2=some r):ib R cfg.P 44 [(.sl ((a1).map au) false),(.sl ((a2).map au) false)] (.d (.sl ((r).map (D.int .i64)) false)):=by
 unfold mF at h
 refine ib.of_wp (dN E).toObjOk (C:=pX) Try.func44 rfl JF rfl ?_
 have H0:Has aM aM []:=Has.pure
 refine aB.seq ?_
 refine aB.region (dN E) rfl ?_
 refine ai.val rfl (ak rfl) rfl ?_
 refine ai.nil ?_
 refine aB.seq ?_
 refine aB.region (dN E) rfl ?_
 refine ai.makeMap aL (D.int .i64) H0 rfl qN rfl (fun b3 S4 H5=>?_)
 have H6:=Has.KE (ek:=aL) rfl H5
 have H7:Has aM S4 [cK aL b3 [] [] true none]:=H6.sl [0] rfl rfl
 refine ai.val rfl (ak rfl) rfl ?_
 refine ai.nil ?_
 refine aB.seq ?_
 refine aB.seq ?_
 refine aB.region (dN E) rfl ?_
 refine ai.val rfl (aa rfl) rfl ?_
 refine ai.val rfl (bF rfl zo) rfl ?_
 refine ai.val rfl (aa rfl) rfl ?_
 refine ai.nil ?_
 refine aB.block ?_
 refine o9.start (B:=aM) (α:=(List (aS × List Int)) × (List AV) × Int) (fun k a=>eT n a1 a2 k a.1 a.2.2=some r) (fun a=>[(1,(.d (.sl ((a2).map au) false))),(5,(.map b3)),(13,(.d (.sl ((a1).map au) false))),(14,(.d (.int .i64 ((a1).length:Int)))),(15,(.d (.int .i64 a.2.2)))]) (fun a=>[cK aL b3 a.1 a.2.1 true none]) ?_ ?_ n ⟨⟨[],[],0⟩,_,_,S4,.refl _ _,.refl _,(aj.r rfl (aj.r rfl (aj.r rfl (aj.r rfl (aj.r rfl aj.nil))))),H7.sl [0] rfl rfl,h⟩
 ·
  intro a h; simp [eT] at h
 ·
  intro k20 a S15 H16 h
  obtain ⟨x17,ws18,x19⟩:=a
  replace h:eT n a1 a2 (k20 + 1) x17 x19=some r:=h
  replace H16:Has aM S15 [cK aL b3 x17 ws18 true none]:=H16
  unfold eT at h
  refine aB.seq ?_
  refine aB.region (dN E) rfl ?_
  refine ai.val rfl (aH rfl rfl dG) rfl ?_
  refine ai.nil ?_
  refine aB.seq ?_
  refine aB.cond rfl (fun hb21=>?_) (fun hb21=>?_)
  ·
   replace h:=dK hb21 h
   refine aB.skip ?_
   refine aB.seq ?_
   refine aB.block ?_
   refine aB.seq ?_
   refine aB.region (dN E) rfl ?_
   refine ai.val rfl (aa rfl) rfl ?_
   obtain ⟨z22,hzz22,h⟩:=bind_some h
   refine ai.val rfl (bE rfl rfl (bW (enc:=au) hzz22 qc lJ ((Tree.len _).trans dF.symm))) rfl ?_
   refine ai.val rfl (aY rfl (Tree.ug ig dF)) rfl ?_
   refine ai.alloc H16 rfl Fa jM rfl rfl (fun b23 S24 H25=>?_)
   refine ai.val rfl (ak rfl) rfl ?_
   refine ai.store H25 (i:=0) rfl rfl rfl rfl (Tree.fD _) rfl dF rfl lJ rfl rfl rfl (fun S26 H27=>?_)
   refine ai.nil ?_
   obtain ⟨z28,hzz28,h⟩:=bind_some h
   obtain ⟨z36,hzz36,h⟩:=bind_some h
   refine aB.gQ (dN E) kF K4 [(1,none),(5,none),(13,none),(14,none),(15,none)] (by kernel_rfl) [8,9,10] (by decide) [some (.map b3),some (.d (au z22)),some (.d (aL z28)),some (.map b3),some (.d (au z22)),some (.d (aL z28)),some (mw x17 ws18 z28),some (.d (.int .i64 x19)),none,none,none] ?_
   refine ⟨[0,1,2,3,4,5,6,7],by kernel_rfl,?_,_,_,rfl,rfl,.step ?_⟩
   ·
    refine .v rfl rfl rfl rfl (aa rfl) ?_
    refine .cons rfl rfl rfl (.step ?_) ?_
    ·
     refine ai.val rfl (aI H27 (i:=0) rfl rfl (bX ig dF rfl)) rfl ?_
     refine ai.less (Less.agg' (d:=au z22) (aC.eq rfl (aC.eq rfl (aC.eq rfl (aC.eq rfl (aC.eq rfl .nil))))) ((Tree.eq _).trans rfl)) ?_
     exact ai.nil ⟨_,_,rfl,fun _ ht=>by cases ht; exact ⟨rfl,.refl _⟩⟩
    refine .cons rfl rfl rfl (.step ?_) ?_
    ·
     refine ai.ret rfl (aJ rfl rfl) (jT E _ _ _ hzz28 _ _ (bM.eq .nil)) rfl ?_
     exact ai.nil ⟨_,_,rfl,fun _ ht=>by cases ht; exact ⟨rfl,.refl _⟩⟩
    refine .v rfl rfl rfl rfl (aa rfl) ?_
    refine .cons rfl rfl rfl (.step ?_) ?_
    ·
     refine ai.val rfl (aI H27 (i:=0) rfl rfl (bX ig dF rfl)) rfl ?_
     refine ai.less (Less.agg' (d:=au z22) (aC.eq rfl (aC.eq rfl (aC.eq rfl (aC.eq rfl (aC.eq rfl .nil))))) ((Tree.eq _).trans rfl)) ?_
     exact ai.nil ⟨_,_,rfl,fun _ ht=>by cases ht; exact ⟨rfl,.refl _⟩⟩
    refine .cons rfl rfl rfl (.step ?_) ?_
    ·
     refine ai.ret rfl (aJ rfl rfl) (jT E _ _ _ hzz28 _ _ (bM.eq .nil)) rfl ?_
     exact ai.nil ⟨_,_,rfl,fun _ ht=>by cases ht; exact ⟨rfl,.refl _⟩⟩
    refine .v rfl rfl rfl rfl (o5 H27 (q:=1) rfl rfl rfl qN xK Ia) ?_
    refine .v rfl rfl rfl rfl (aa rfl) ?_
    exact .nil
   refine ai.nU (vs:=[(.d (.int .i64 x19))]) (cs:=[[(.d (.int .i64 x19))]]) H27 rfl nP dX oP ED jA rfl (by decide) (.cons rfl rfl .nil) rfl rfl rfl (fun v47 S48 H49=>?_)
   have H50:Has aM S48 [fF 1 1 v47 [(.d (.int .i64 x19))],.box b23 [(.d (.str z22.Tag)),(.d (.str z22.Key)),(.d (.str z22.Text)),(.d (.sl ((z22.aQ).map az) false)),(.d (.sl ((z22.Kids).map au) false))],cK aL b3 x17 ws18 true none]:=H49.sl [0,1,2] rfl rfl
   refine ai.nil ⟨_,_,_,rfl,(fun _ ht=>by cases ht; rfl),[some (.map b3),some (.d (au z22)),some (.d (aL z28)),some (.map b3),some (.d (au z22)),some (.d (aL z28)),some (mw x17 ws18 z28),some (.d (.int .i64 x19)),some v47,none,none],(.o (.o (.o (.o (.o (.o (.o (.o (.new (.new (.new .nil))))))))))),(fun _ ht=>by cases ht; exact ⟨_,rfl,.refl _⟩),?_⟩
   refine ⟨[0,1,2,3,4,5,6],by kernel_rfl,?_,_,_,rfl,rfl,.step ?_⟩
   ·
    refine .v rfl rfl rfl rfl (aa rfl) ?_
    refine .cons rfl rfl rfl (.step ?_) ?_
    ·
     refine ai.val rfl (aI H50 (i:=1) rfl rfl (bX ig dF rfl)) rfl ?_
     refine ai.less (Less.agg' (d:=au z22) (aC.eq rfl (aC.eq rfl (aC.eq rfl (aC.eq rfl (aC.eq rfl .nil))))) ((Tree.eq _).trans rfl)) ?_
     exact ai.nil ⟨_,_,rfl,fun _ ht=>by cases ht; exact ⟨rfl,.refl _⟩⟩
    refine .cons rfl rfl rfl (.step ?_) ?_
    ·
     refine ai.ret rfl (aJ rfl rfl) (jT E _ _ _ hzz28 _ _ (bM.eq .nil)) rfl ?_
     exact ai.nil ⟨_,_,rfl,fun _ ht=>by cases ht; exact ⟨rfl,.refl _⟩⟩
    refine .v rfl rfl rfl rfl (aa rfl) ?_
    refine .cons rfl rfl rfl (.step ?_) ?_
    ·
     refine ai.val rfl (aI H50 (i:=1) rfl rfl (bX ig dF rfl)) rfl ?_
     refine ai.less (Less.agg' (d:=au z22) (aC.eq rfl (aC.eq rfl (aC.eq rfl (aC.eq rfl (aC.eq rfl .nil))))) ((Tree.eq _).trans rfl)) ?_
     exact ai.nil ⟨_,_,rfl,fun _ ht=>by cases ht; exact ⟨rfl,.refl _⟩⟩
    refine .cons rfl rfl rfl (.step ?_) ?_
    ·
     refine ai.ret rfl (aJ rfl rfl) (jT E _ _ _ hzz28 _ _ (bM.eq .nil)) rfl ?_
     exact ai.nil ⟨_,_,rfl,fun _ ht=>by cases ht; exact ⟨rfl,.refl _⟩⟩
    refine .v rfl rfl rfl rfl (o5 H50 (q:=2) rfl rfl rfl qN xK Ia) ?_
    exact .nil
   have H51:Has aM S48 ([cK aL b3 x17 ws18 true none] ++ [fF 1 1 v47 [(.d (.int .i64 x19))],.box b23 [(.d (.str z22.Tag)),(.d (.str z22.Key)),(.d (.str z22.Text)),(.d (.sl ((z22.aQ).map az) false)),(.d (.sl ((z22.Kids).map au) false))]]):=H50.sl [2,0,1] rfl rfl
   replace H51:Has aM S48 [cK aL b3 x17 ws18 true none,fF 1 1 v47 [(.d (.int .i64 x19))],.box b23 [(.d (.str z22.Tag)),(.d (.str z22.Key)),(.d (.str z22.Text)),(.d (.sl ((z22.aQ).map az) false)),(.d (.sl ((z22.Kids).map au) false))]]:=H51
   have H52:=Has.I4 H51 z28
   have H53:Has aM S48 [aG (mw x17 ws18 z28) (gN x17 z28 []),fF 1 1 v47 [(.d (.int .i64 x19))],.box b23 [(.d (.str z22.Tag)),(.d (.str z22.Key)),(.d (.str z22.Text)),(.d (.sl ((z22.aQ).map az) false)),(.d (.sl ((z22.Kids).map au) false))],cK aL b3 x17 ws18 true (wC x17 z28)]:=H52.sl [0,2,3,1] rfl rfl
   have H54:Has aM S48 ([fF 1 1 v47 [(.d (.int .i64 x19))],aG (mw x17 ws18 z28) (gN x17 z28 [])] ++ [.box b23 [(.d (.str z22.Tag)),(.d (.str z22.Key)),(.d (.str z22.Text)),(.d (.sl ((z22.aQ).map az) false)),(.d (.sl ((z22.Kids).map au) false))],cK aL b3 x17 ws18 true (wC x17 z28)]):=H53.sl [1,0,2,3] rfl rfl
   replace H54:Has aM S48 [fF 1 1 v47 [(.d (.int .i64 x19))],aG (mw x17 ws18 z28) (gN x17 z28 []),.box b23 [(.d (.str z22.Tag)),(.d (.str z22.Key)),(.d (.str z22.Text)),(.d (.sl ((z22.aQ).map az) false)),(.d (.sl ((z22.Kids).map au) false))],cK aL b3 x17 ws18 true (wC x17 z28)]:=H54
   refine ai.yS H54 rfl rfl rfl nP xq dX jA hzz36 F9 rfl Ao rfl (fun w55 S56 H57=>?_)
   have H58:Has aM S56 [aG w55 z36,.box b23 [(.d (.str z22.Tag)),(.d (.str z22.Key)),(.d (.str z22.Text)),(.d (.sl ((z22.aQ).map az) false)),(.d (.sl ((z22.Kids).map au) false))],cK aL b3 x17 ws18 true (wC x17 z28)]:=H57.sl [0,1,2] rfl rfl
   refine ai.nil ⟨_,_,_,rfl,(fun _ ht=>by cases ht; rfl),[some (.map b3),some (.d (au z22)),some (.d (aL z28)),some (.map b3),some (.d (au z22)),some (.d (aL z28)),some (mw x17 ws18 z28),some (.d (.int .i64 x19)),some v47,some w55,none],(.o (.o (.o (.o (.o (.o (.o (.o (.o (.new (.new .nil))))))))))),(fun _ ht=>by cases ht; exact ⟨_,rfl,.refl _⟩),?_⟩
   refine ⟨[0],by kernel_rfl,?_,_,_,rfl,rfl,.step ?_⟩
   ·
    refine .v rfl rfl rfl rfl (aa rfl) ?_
    exact .nil
   have H62:Has aM S56 ([aG w55 z36,cK aL b3 x17 ws18 true (wC x17 z28)] ++ [.box b23 [(.d (.str z22.Tag)),(.d (.str z22.Key)),(.d (.str z22.Text)),(.d (.sl ((z22.aQ).map az) false)),(.d (.sl ((z22.Kids).map au) false))]]):=H58.sl [0,2,1] rfl rfl
   replace H62:Has aM S56 [aG w55 z36,cK aL b3 x17 ws18 true (wC x17 z28),.box b23 [(.d (.str z22.Tag)),(.d (.str z22.Key)),(.d (.str z22.Text)),(.d (.sl ((z22.aQ).map az) false)),(.d (.sl ((z22.Kids).map au) false))]]:=H62
   refine ai.Gg H62 rfl rfl rfl rfl qN xK (fun ws59 S60 H61=>?_)
   have H63:Has aM S60 [.box b23 [(.d (.str z22.Tag)),(.d (.str z22.Key)),(.d (.str z22.Text)),(.d (.sl ((z22.aQ).map az) false)),(.d (.sl ((z22.Kids).map au) false))],cK aL b3 (jD x17 z28 z36) ws59 true none]:=H61.sl [1,0] rfl rfl
   refine ai.nil ⟨_,.any,_,rfl,(fun _ ht=>by cases ht),[some (.map b3),some (.d (au z22)),some (.d (aL z28)),some (.map b3),some (.d (au z22)),some (.d (aL z28)),some (mw x17 ws18 z28),some (.d (.int .i64 x19)),some v47,some w55,some .any],(.o (.o (.o (.o (.o (.o (.o (.o (.o (.o (.new .nil))))))))))),(fun _ ht=>by cases ht),?_⟩
   refine ⟨[],by kernel_rfl,?_,_,rfl,?_⟩
   ·
    exact .nil
   refine aB.region (dN E) rfl ?_
   refine ai.val rfl (aH rfl rfl dZ) rfl ?_
   refine ai.val rfl (aa rfl) rfl ?_
   refine ai.nil ?_
   exact ⟨⟨(jD x17 z28 z36),ws59,(IntKind.wrap .i64 (x19 + 1))⟩,_,_,S60,.refl _ _,.refl _,(aj.r rfl (aj.r rfl (aj.r rfl (aj.r rfl (aj.r rfl aj.nil))))),H63.sl [1] rfl rfl,h⟩
  ·
   replace h:=dJ hb21 h
   refine aB.exit ?_
   refine aB.seq ?_
   refine aB.region (dN E) rfl ?_
   refine ai.val rfl (ak rfl) rfl ?_
   refine ai.nil ?_
   refine aB.seq ?_
   refine aB.seq ?_
   refine aB.region (dN E) rfl ?_
   refine ai.val rfl (aa rfl) rfl ?_
   refine ai.val rfl (bF rfl zo) rfl ?_
   refine ai.val rfl (aa rfl) rfl ?_
   refine ai.nil ?_
   refine aB.block ?_
   have H64:Has aM S15 ([cK aL b3 x17 ws18 true none] ++ []):=H16.sl [0] rfl rfl
   replace H64:Has aM S15 [cK aL b3 x17 ws18 true none]:=H64
   have H65:=Has.I7 H64
   have H66:Has aM S15 [cK aL b3 x17 ws18 false none]:=H65.sl [0] rfl rfl
   have H133:=H66.Jb 1
   refine o9.start (B:=aM) (α:=(List (aS × List Int)) × (List AV) × (List Int) × AV × Int) (fun k a=>dE n a2 k a.1 a.2.2.1 a.2.2.2.2=some r) (fun a=>[(5,(.map b3)),(8,a.2.2.2.1),(31,(.d (.sl ((a2).map au) false))),(32,(.d (.int .i64 ((a2).length:Int)))),(33,(.d (.int .i64 a.2.2.2.2)))]) (fun a=>[cK aL b3 a.1 a.2.1 false none,.row 1 a.2.2.2.1 ((a.2.2.1).map (D.int .i64))]) ?_ ?_ n ⟨⟨x17,ws18,[],(.d .aT),0⟩,_,_,S15,.refl _ _,.refl _,(aj.r rfl (aj.r rfl (aj.r rfl (aj.r rfl (aj.r rfl aj.nil))))),H133.sl [1,0] rfl rfl,h⟩
   ·
    intro a h; simp [dE] at h
   ·
    intro k83 a S76 H77 h
    obtain ⟨x78,ws79,x80,v81,x82⟩:=a
    replace h:dE n a2 (k83 + 1) x78 x80 x82=some r:=h
    replace H77:Has aM S76 [cK aL b3 x78 ws79 false none,.row 1 v81 ((x80).map (D.int .i64))]:=H77
    unfold dE at h
    refine aB.seq ?_
    refine aB.region (dN E) rfl ?_
    refine ai.val rfl (aH rfl rfl dG) rfl ?_
    refine ai.nil ?_
    refine aB.seq ?_
    refine aB.cond rfl (fun hb84=>?_) (fun hb84=>?_)
    ·
     replace h:=dK hb84 h
     refine aB.skip ?_
     refine aB.join (B:=aM) (α:=(List (aS × List Int)) × (List AV) × (List Int) × AV) (fun a=>gI x82 (dE n a2 k83) a.1 a.2.2.1=some r) (fun a=>[(5,(.map b3)),(8,a.2.2.2),(31,(.d (.sl ((a2).map au) false))),(32,(.d (.int .i64 ((a2).length:Int)))),(33,(.d (.int .i64 x82)))]) (fun a=>[cK aL b3 a.1 a.2.1 false none,.row 1 a.2.2.2 ((a.2.2.1).map (D.int .i64))]) ?_ ?_
     ·
      intro a S85 H86 h
      obtain ⟨x87,ws88,x89,v90⟩:=a
      replace h:gI x82 (dE n a2 k83) x87 x89=some r:=h
      replace H86:Has aM S85 [cK aL b3 x87 ws88 false none,.row 1 v90 ((x89).map (D.int .i64))]:=H86
      unfold gI at h
      refine aB.region (dN E) rfl ?_
      refine ai.val rfl (aH rfl rfl dZ) rfl ?_
      refine ai.val rfl (aa rfl) rfl ?_
      refine ai.nil ?_
      exact ⟨⟨x87,ws88,x89,v90,(IntKind.wrap .i64 (x82 + 1))⟩,_,_,S85,.refl _ _,.refl _,(aj.r rfl (aj.r rfl (aj.r rfl (aj.r rfl (aj.r rfl aj.nil))))),H86.sl [0,1] rfl rfl,h⟩
     ·
      refine aB.block ?_
      refine aB.seq ?_
      refine aB.region (dN E) rfl ?_
      obtain ⟨z92,hzz92,h⟩:=bind_some h
      refine ai.val rfl (bE rfl rfl (bW (enc:=au) hzz92 qc lJ ((Tree.len _).trans dF.symm))) rfl ?_
      refine ai.val rfl (aY rfl (Tree.ug ig dF)) rfl ?_
      refine ai.alloc H77 rfl Fa jM rfl rfl (fun b93 S94 H95=>?_)
      refine ai.store H95 (i:=0) rfl rfl rfl rfl (Tree.fD _) rfl dF rfl lJ rfl rfl rfl (fun S96 H97=>?_)
      refine ai.nil ?_
      refine aB.seq ?_
      refine aB.region (dN E) rfl ?_
      refine ai.val rfl (aa rfl) rfl ?_
      refine ai.val rfl (aI H97 (i:=0) rfl rfl (bX ig dF rfl)) rfl ?_
      refine ai.less (Less.agg' (d:=au z92) (aC.eq rfl (aC.eq rfl (aC.eq rfl (aC.eq rfl (aC.eq rfl .nil))))) ((Tree.eq _).trans rfl)) ?_
      obtain ⟨z98,hzz98,h⟩:=bind_some h
      refine ai.ret rfl (aJ rfl rfl) (jT E _ _ _ hzz98 _ _ (bM.eq .nil)) rfl ?_
      refine ai.val rfl (o5 H97 (q:=1) rfl rfl rfl qN xK Ia) rfl ?_
      refine ai.val rfl (ak rfl) rfl ?_
      refine ai.nil ?_
      refine aB.seq ?_
      refine aB.seq ?_
      refine aB.region (dN E) rfl ?_
      refine ai.val rfl (aa rfl) rfl ?_
      refine ai.val rfl (Cw (wP H97 (q:=1) rfl z98) rfl jh) rfl ?_
      refine ai.val rfl (aH rfl rfl bD) rfl ?_
      refine ai.nil ?_
      refine aB.cond rfl (fun hb99=>?_) (fun hb99=>?_)
      ·
       replace h:=dK hb99 h
       refine aB.seq ?_
       refine aB.region (dN E) rfl ?_
       refine ai.val rfl (aa rfl) rfl ?_
       refine ai.nU (vs:=[(.d (.int .i64 (-1)))]) (cs:=[[(.d (.int .i64 (-1)))]]) H97 rfl nP dX oP ED jA rfl (by decide) (.cons rfl rfl .nil) rfl rfl rfl (fun v100 S101 H102=>?_)
       have H103:Has aM S101 [fF 1 1 v100 [(.d (.int .i64 (-1)))],.box b93 [(.d (.str z92.Tag)),(.d (.str z92.Key)),(.d (.str z92.Text)),(.d (.sl ((z92.aQ).map az) false)),(.d (.sl ((z92.Kids).map au) false))],cK aL b3 x78 ws79 false none,.row 1 v81 ((x80).map (D.int .i64))]:=H102.sl [0,1,2,3] rfl rfl
       obtain ⟨z104,hzz104,h⟩:=bind_some h
       have H105:Has aM S101 ([fF 1 1 v100 [(.d (.int .i64 (-1)))],.row 1 v81 ((x80).map (D.int .i64))] ++ [.box b93 [(.d (.str z92.Tag)),(.d (.str z92.Key)),(.d (.str z92.Text)),(.d (.sl ((z92.aQ).map az) false)),(.d (.sl ((z92.Kids).map au) false))],cK aL b3 x78 ws79 false none]):=H103.sl [0,3,1,2] rfl rfl
       replace H105:Has aM S101 [fF 1 1 v100 [(.d (.int .i64 (-1)))],.row 1 v81 ((x80).map (D.int .i64)),.box b93 [(.d (.str z92.Tag)),(.d (.str z92.Key)),(.d (.str z92.Text)),(.d (.sl ((z92.aQ).map az) false)),(.d (.sl ((z92.Kids).map au) false))],cK aL b3 x78 ws79 false none]:=H105
       refine ai.wE (enc:=(D.int .i64)) (z:=(-1)) H105 rfl rfl rfl nP xq dX jA rfl hzz104 F9 rfl Ao (.refl _) rfl rfl rfl (fun v106 S107 H108=>?_)
       have H109:Has aM S107 [.row 1 v106 ((z104).map (D.int .i64)),.box b93 [(.d (.str z92.Tag)),(.d (.str z92.Key)),(.d (.str z92.Text)),(.d (.sl ((z92.aQ).map az) false)),(.d (.sl ((z92.Kids).map au) false))],cK aL b3 x78 ws79 false none]:=H108.sl [0,1,2] rfl rfl
       refine ai.val rfl (ak rfl) rfl ?_
       refine ai.nil ?_
       refine aB.exit ?_
       exact ⟨⟨x78,ws79,z104,v106⟩,_,_,S107,.refl _ _,.refl _,(aj.r rfl (aj.r rfl (aj.r rfl (aj.r rfl (aj.r rfl aj.nil))))),H109.sl [2,0] rfl rfl,h⟩
      ·
       replace h:=dJ hb99 h
       refine aB.skip ?_
       refine aB.seq ?_
       refine aB.region (dN E) rfl ?_
       refine ai.val rfl (aa rfl) rfl ?_
       refine ai.val rfl (aa rfl) rfl ?_
       obtain ⟨z110,hzz110,h⟩:=bind_some h
       refine ai.val rfl (BX (wP H97 (q:=1) rfl z98) hzz110 rfl rfl dX oP jA) rfl ?_
       refine ai.val rfl (Ai (wP H97 (q:=1) rfl z98) hzz110 rfl nG) rfl ?_
       refine ai.nU (vs:=[(.d (.int .i64 z110))]) (cs:=[[(.d (.int .i64 z110))]]) H97 rfl nP dX oP ED jA rfl (by decide) (.cons rfl rfl .nil) rfl rfl rfl (fun v111 S112 H113=>?_)
       have H114:Has aM S112 [fF 1 1 v111 [(.d (.int .i64 z110))],.box b93 [(.d (.str z92.Tag)),(.d (.str z92.Key)),(.d (.str z92.Text)),(.d (.sl ((z92.aQ).map az) false)),(.d (.sl ((z92.Kids).map au) false))],cK aL b3 x78 ws79 false none,.row 1 v81 ((x80).map (D.int .i64))]:=H113.sl [0,1,2,3] rfl rfl
       obtain ⟨z115,hzz115,h⟩:=bind_some h
       have H116:Has aM S112 ([fF 1 1 v111 [(.d (.int .i64 z110))],.row 1 v81 ((x80).map (D.int .i64))] ++ [.box b93 [(.d (.str z92.Tag)),(.d (.str z92.Key)),(.d (.str z92.Text)),(.d (.sl ((z92.aQ).map az) false)),(.d (.sl ((z92.Kids).map au) false))],cK aL b3 x78 ws79 false none]):=H114.sl [0,3,1,2] rfl rfl
       replace H116:Has aM S112 [fF 1 1 v111 [(.d (.int .i64 z110))],.row 1 v81 ((x80).map (D.int .i64)),.box b93 [(.d (.str z92.Tag)),(.d (.str z92.Key)),(.d (.str z92.Text)),(.d (.sl ((z92.aQ).map az) false)),(.d (.sl ((z92.Kids).map au) false))],cK aL b3 x78 ws79 false none]:=H116
       refine ai.wE (enc:=(D.int .i64)) (z:=z110) H116 rfl rfl rfl nP xq dX jA rfl hzz115 F9 rfl Ao (.refl _) rfl rfl rfl (fun v117 S118 H119=>?_)
       have H120:Has aM S118 [.row 1 v117 ((z115).map (D.int .i64)),.box b93 [(.d (.str z92.Tag)),(.d (.str z92.Key)),(.d (.str z92.Text)),(.d (.sl ((z92.aQ).map az) false)),(.d (.sl ((z92.Kids).map au) false))],cK aL b3 x78 ws79 false none]:=H119.sl [0,1,2] rfl rfl
       refine ai.val rfl (ak rfl) rfl ?_
       refine ai.nil ?_
       obtain ⟨z121,hzz121,h⟩:=bind_some h
       obtain ⟨z122,hzz122,h⟩:=bind_some h
       refine aB.gQ (dN E) kF JA [(5,none),(8,none),(31,none),(32,none),(33,none)] (by kernel_rfl) [5] (by decide) [some (.map b3),some (.d (au z92)),some (.d (aL z121)),some (mw x78 ws79 z98),some (nR (mw x78 ws79 z98) (Int.toNat 1)),none] ?_
       refine ⟨[0,1,2,3,4],by kernel_rfl,?_,_,_,rfl,rfl,.step ?_⟩
       ·
        refine .v rfl rfl rfl rfl (aa rfl) ?_
        refine .cons rfl rfl rfl (.step ?_) ?_
        ·
         refine ai.val rfl (aI H120 (i:=1) rfl rfl (bX ig dF rfl)) rfl ?_
         refine ai.less (Less.agg' (d:=au z92) (aC.eq rfl (aC.eq rfl (aC.eq rfl (aC.eq rfl (aC.eq rfl .nil))))) ((Tree.eq _).trans rfl)) ?_
         exact ai.nil ⟨_,_,rfl,fun _ ht=>by cases ht; exact ⟨rfl,.refl _⟩⟩
        refine .cons rfl rfl rfl (.step ?_) ?_
        ·
         refine ai.ret rfl (aJ rfl rfl) (jT E _ _ _ hzz121 _ _ (bM.eq .nil)) rfl ?_
         exact ai.nil ⟨_,_,rfl,fun _ ht=>by cases ht; exact ⟨rfl,.refl _⟩⟩
        refine .v rfl rfl rfl rfl (aa rfl) ?_
        refine .v rfl rfl rfl rfl (Az (wP H120 (q:=2) rfl z98) hzz122 (Dr hzz110) rfl rfl dX vY jA) ?_
        exact .nil
       have H131:Has aM S118 ([cK aL b3 x78 ws79 false none] ++ [.row 1 v117 ((z115).map (D.int .i64)),.box b93 [(.d (.str z92.Tag)),(.d (.str z92.Key)),(.d (.str z92.Text)),(.d (.sl ((z92.aQ).map az) false)),(.d (.sl ((z92.Kids).map au) false))]]):=H120.sl [2,0,1] rfl rfl
       replace H131:Has aM S118 [cK aL b3 x78 ws79 false none,.row 1 v117 ((z115).map (D.int .i64)),.box b93 [(.d (.str z92.Tag)),(.d (.str z92.Key)),(.d (.str z92.Text)),(.d (.sl ((z92.aQ).map az) false)),(.d (.sl ((z92.Kids).map au) false))]]:=H131
       refine ai.Gq (j:=1) H131 rfl rfl (show _=some (AV.d (aL z98)) from congrArg (fun q=>some (AV.d (aL q))) (Option.some.inj (hzz121.symm.trans hzz98))) hzz122 (Dr hzz110) rfl qN xK (fun ws128 S129 H130=>?_)
       have H132:Has aM S129 [.row 1 v117 ((z115).map (D.int .i64)),.box b93 [(.d (.str z92.Tag)),(.d (.str z92.Key)),(.d (.str z92.Text)),(.d (.sl ((z92.aQ).map az) false)),(.d (.sl ((z92.Kids).map au) false))],cK aL b3 (jD x78 z98 z122) ws128 false none]:=H130.sl [1,2,0] rfl rfl
       refine ai.nil ⟨_,.any,_,rfl,(fun _ ht=>by cases ht),[some (.map b3),some (.d (au z92)),some (.d (aL z121)),some (mw x78 ws79 z98),some (nR (mw x78 ws79 z98) (Int.toNat 1)),some .any],(.o (.o (.o (.o (.o (.new .nil)))))),(fun _ ht=>by cases ht),?_⟩
       refine ⟨[],by kernel_rfl,?_,_,rfl,?_⟩
       ·
        exact .nil
       exact ⟨⟨(jD x78 z98 z122),ws128,z115,v117⟩,_,_,S129,.refl _ _,.refl _,(aj.r rfl (aj.r rfl (aj.r rfl (aj.r rfl (aj.r rfl aj.nil))))),H132.sl [2,0] rfl rfl,h⟩
    ·
     replace h:=dJ hb84 h
     refine aB.exit ?_
     refine aB.seq ?_
     refine aB.region (dN E) rfl ?_
     refine ai.val rfl (aa rfl) rfl ?_
     refine ai.val rfl (ak rfl) rfl ?_
     refine ai.nil ?_
     obtain ⟨SF1,HF1,hgF1⟩:=H77.freeze (dN E).toObjOk (i:=1) (l':=[cK aL b3 x78 ws79 false none]) rfl (.same .nil)
     refine aB.ghost (hgF1 _ _ [(4,(.d (.sl ((x80).map (D.int .i64)) false))),(5,(.map b3)),(8,(.d (.sl ((x80).map (D.int .i64)) false))),(31,(.d (.sl ((a2).map au) false))),(32,(.d (.int .i64 ((a2).length:Int)))),(33,(.d (.int .i64 x82))),(34,(.d (.bool (decide (x82 < ((a2).length:Int)))))),(59,(.d (.sl ((x80).map (D.int .i64)) false)))] (.it rfl (.cons rfl (.refl _) (.it rfl (.cons rfl (.refl _) (.cons rfl (.refl _) (.cons rfl (.refl _) (.cons rfl (.refl _) (.it rfl .nil))))))))) ?_
     have hr:=Option.some.inj h
     subst hr
     exact aB.ret ⟨_,rfl,rfl,mW (bM.eq .nil)⟩
set_option maxRecDepth 20000 in
set_option maxHeartbeats 4000000 in
theorem tX (n:Nat) (a2:ax) (a6:Int) (r:(Bool × ax)) (h:ji n a2 a6=some r) (b1:Nat) (v3:AV) (ws4:List (List AV)) (w5:AV):df R cfg.P 15 [.ptr b1 0 0,.d (.int .i64 a6)] [.box b1 [v3,w5],ay ae ah.kids 7 5 v3 ws4 a2.l none,aG w5 a2.freed] (fun v l=>v=.d (.bool r.1)∧∃ dws0 dw0,l=[.box b1 [v3,dw0],ay ae ah.kids 7 5 v3 dws0 r.2.l none,aG dw0 r.2.freed]):=by
 unfold ji at h
 refine df.of_wp (C:=cfg) Try.func15 rfl Kl rfl (fun B0 S0 H0=>?_)
 replace H0:Has B0 S0 [.box b1 [v3,w5],ay ae ah.kids 7 5 v3 ws4 a2.l none,aG w5 a2.freed]:=H0
 refine aB.seq ?_
 refine aB.region E.obj rfl ?_
 refine ai.val rfl (ak rfl) rfl ?_
 refine ai.nil ?_
 refine aB.seq ?_
 refine aB.region E.obj rfl ?_
 refine ai.val rfl (aa rfl) rfl ?_
 refine ai.val rfl (aa rfl) rfl ?_
 obtain ⟨z7,hzz7,h⟩:=bind_some h
 refine ai.fw (ins:=[.box b1 [v3,w5],ay ae ah.kids 7 5 v3 ws4 a2.l none,aG w5 a2.freed]) (more:=[]) (H0.sl [0,1,2] rfl rfl) rfl (aJ rfl rfl) (fK E n _ _ _ hzz7 b1 v3 ws4 w5) (.cons (.refl _) (.cons (.refl _) .nil)) rfl ?_
 rintro v8 S9 l10 hr11 H12
 rcases z7 with _ | _
 ·
  obtain ⟨rfl,rfl⟩:=hr11
  replace h:=dJ rfl h
  replace H12:Has B0 S9 [.box b1 [v3,w5],ay ae ah.kids 7 5 v3 ws4 a2.l none,aG w5 a2.freed]:=H12
  have H13:Has B0 S9 [.box b1 [v3,w5],ay ae ah.kids 7 5 v3 ws4 a2.l none,aG w5 a2.freed]:=H12.sl [0,1,2] rfl rfl
  refine ai.val rfl (ak rfl) rfl ?_
  refine ai.nil ?_
  refine aB.seq ?_
  refine aB.seq ?_
  refine aB.region E.obj rfl ?_
  refine ai.val rfl (aa rfl) rfl ?_
  refine ai.val rfl (aH rfl rfl (kC qb)) rfl ?_
  refine ai.val rfl (aa rfl) rfl ?_
  refine ai.no rfl rfl ?_
  refine ai.no rfl rfl ?_
  refine ai.no rfl rfl ?_
  refine ai.no rfl rfl ?_
  refine ai.no rfl rfl ?_
  refine ai.val rfl (aF (b:=true) rfl rfl) rfl ?_
  refine ai.nil ?_
  refine aB.cond rfl (fun hb=>?_) (fun hb=>?_)
  ·
   refine aB.seq ?_
   refine aB.region E.obj rfl ?_
   refine ai.val rfl (ak rfl) rfl ?_
   refine ai.nil ?_
   have hr:=Option.some.inj h
   subst hr
   exact aB.ret ⟨_,rfl,rfl,_,_,_,.refl _,(.refl _),⟨rfl,ws4,w5,rfl⟩,H13.sl [0,1,2] rfl rfl⟩
  ·
   cases hb
 ·
  obtain ⟨rfl,rfl⟩:=hr11
  replace h:=dK rfl h
  have H14:Has B0 S9 [.box b1 [v3,w5],ay ae ah.kids 7 5 v3 ws4 a2.l none,aG w5 a2.freed]:=H12.sl [0,1,2] rfl rfl
  refine ai.val rfl (ak rfl) rfl ?_
  refine ai.nil ?_
  refine aB.seq ?_
  refine aB.seq ?_
  refine aB.region E.obj rfl ?_
  refine ai.val rfl (aa rfl) rfl ?_
  obtain ⟨z15,hzz15,h⟩:=bind_some h
  refine ai.val rfl (kD H14 (q:=1) rfl hzz15 rfl rfl qb) rfl ?_
  refine ai.val rfl (aa rfl) rfl ?_
  refine ai.val rfl (aa rfl) rfl ?_
  refine ai.val rfl (bG H14 (q:=1) rfl hzz15 rfl) rfl ?_
  refine ai.val rfl (bg H14 (i:=1) rfl hzz15 rfl qj Hl rfl) rfl ?_
  refine ai.jo H14 rfl (q:=1) rfl hzz15 rfl nG rfl rfl rfl ?_
  refine ai.val rfl (aH rfl rfl bD) rfl ?_
  refine ai.val rfl (aF (b:=false) rfl rfl) rfl ?_
  refine ai.nil ?_
  refine aB.cond rfl (fun hb16=>?_) (fun hb16=>?_)
  ·
   replace h:=dK hb16 h
   refine aB.seq ?_
   refine aB.region E.obj rfl ?_
   refine ai.val rfl (ak rfl) rfl ?_
   refine ai.nil ?_
   have hr:=Option.some.inj h
   subst hr
   exact aB.ret ⟨_,rfl,rfl,_,_,_,.refl _,(.refl _),⟨rfl,ws4,w5,rfl⟩,H14.sl [0,1,2] rfl rfl⟩
  ·
   replace h:=dJ hb16 h
   refine aB.skip ?_
   refine aB.seq ?_
   refine aB.region E.obj rfl ?_
   refine ai.val rfl (aa rfl) rfl ?_
   refine ai.val rfl (aa rfl) rfl ?_
   obtain ⟨z17,hzz17,h⟩:=bind_some h
   refine ai.fw (ins:=[.box b1 [v3,w5],ay ae ah.kids 7 5 v3 ws4 a2.l none,aG w5 a2.freed]) (more:=[]) (H14.sl [0,1,2] rfl rfl) rfl (aJ rfl rfl) (oz E n _ _ _ hzz17 b1 v3 ws4 w5) (.cons (.refl _) (.cons (.refl _) .nil)) rfl ?_
   rintro _ S20 _ ⟨rfl,ws18,w19,rfl⟩ H21
   have H22:Has B0 S20 [.box b1 [v3,w19],ay ae ah.kids 7 5 v3 ws18 z17.l none,aG w19 z17.freed]:=H21.sl [0,1,2] rfl rfl
   refine ai.nil ?_
   refine aB.seq ?_
   refine aB.region E.obj rfl ?_
   refine ai.val rfl (ak rfl) rfl ?_
   refine ai.nil ?_
   have hr:=Option.some.inj h
   subst hr
   exact aB.ret ⟨_,rfl,rfl,_,_,_,.refl _,(.refl _),⟨rfl,ws18,w19,rfl⟩,H22.sl [0,1,2] rfl rfl⟩
set_option maxRecDepth 20000 in
set_option maxHeartbeats 4000000 in
theorem pW:∀ (n:Nat) (a2:ax) (a6:Int) (r:ax),eO n a2 a6=some r→∀ (b1:Nat) (v3:AV) (ws4:List (List AV)) (w5:AV),df R cfg.P 63 [.ptr b1 0 0,.d (.int .i64 a6)] [.box b1 [v3,w5],ay ae ah.kids 7 5 v3 ws4 a2.l none,aG w5 a2.freed] (fun v l=>v=.tup []∧∃ dws0 dw0,l=[.box b1 [v3,dw0],ay ae ah.kids 7 5 v3 dws0 r.l none,aG dw0 r.freed])
 | 0,a2,a6,r,h,b1,v3,ws4,w5=>by simp [eO] at h
 | n + 1,a2,a6,r,h,b1,v3,ws4,w5=>by
  have ih:=pW n
  unfold eO at h
  refine df.of_wp (C:=pX) Try.func63 rfl JB rfl (fun B0 S0 H0=>?_)
  replace H0:Has B0 S0 [.box b1 [v3,w5],ay ae ah.kids 7 5 v3 ws4 a2.l none,aG w5 a2.freed]:=H0
  refine aB.seq ?_
  refine aB.region (dN E) rfl ?_
  refine ai.val rfl (aa rfl) rfl ?_
  refine ai.val rfl (bz rfl) rfl ?_
  refine ai.val rfl (aD rfl jH rq rfl) rfl ?_
  refine ai.val rfl (aI H0 (i:=0) rfl rfl (aR rY rfl)) rfl ?_
  refine ai.val rfl (aa rfl) rfl ?_
  refine ai.val rfl (aH rfl rfl iP) rfl ?_
  obtain ⟨z7,hzz7,h⟩:=bind_some h
  refine ai.val rfl (fJ H0 (i:=1) rfl hzz7 rfl rfl wh rQ oh) rfl ?_
  refine ai.val rfl (bg H0 (i:=1) rfl hzz7 rfl mq qd rfl) rfl ?_
  have H8:Has B0 S0 ([ay ae ah.kids 7 5 v3 ws4 a2.l none] ++ [.box b1 [v3,w5],aG w5 a2.freed]):=H0.sl [1,0,2] rfl rfl
  replace H8:Has B0 S0 [ay ae ah.kids 7 5 v3 ws4 a2.l none,.box b1 [v3,w5],aG w5 a2.freed]:=H8
  have H9:=Has.take H8 (dC hzz7).2
  have H10:Has B0 S0 [aG (gX 5 ws4 (Int.toNat (IntKind.wrap .i64 (a6 - 1)))) z7.kids,.box b1 [v3,w5],ay ae ah.kids 7 5 v3 ws4 a2.l (some (Int.toNat (IntKind.wrap .i64 (a6 - 1)))),aG w5 a2.freed]:=H9.sl [0,2,1,3] rfl rfl
  refine ai.val rfl (fO H10 (i:=2) rfl hzz7 rfl tC) rfl ?_
  refine ai.val rfl (ak rfl) rfl ?_
  refine ai.nil ?_
  refine aB.seq ?_
  refine aB.region (dN E) rfl ?_
  refine ai.val rfl (aa rfl) rfl ?_
  refine ai.val rfl (bz rfl) rfl ?_
  refine ai.val rfl (aD rfl jH rq rfl) rfl ?_
  refine ai.val rfl (aI H10 (i:=1) rfl rfl (aR rY rfl)) rfl ?_
  refine ai.val rfl (aa rfl) rfl ?_
  refine ai.val rfl (aH rfl rfl iP) rfl ?_
  refine ai.val rfl (eB (cs:=[(.d (.bool false)),(.d (.str [])),(.d (.str [])),(.d (.str [])),(.d .aT),(.d .aT),(.d (.int .i64 0))]) DK rfl (uu) rfl) rfl ?_
  refine ai.less (Less.agg' (d:=dB (aA.mk false [] [] [] [] 0)) (aC.eq rfl (aC.eq rfl (aC.eq rfl (aC.eq rfl (aC.iY rfl (.aT false) rfl rfl (aC.eq rfl (aC.eq rfl .nil))))))) ((aA.eq _).trans rfl)) ?_
  refine ai.val rfl (fJ H10 (i:=2) rfl hzz7 rfl rfl wh rQ oh) rfl ?_
  have H14:Has B0 S0 ([ay ae ah.kids 7 5 v3 ws4 a2.l (some (Int.toNat (IntKind.wrap .i64 (a6 - 1))))] ++ [aG (gX 5 ws4 (Int.toNat (IntKind.wrap .i64 (a6 - 1)))) z7.kids,.box b1 [v3,w5],aG w5 a2.freed]):=H10.sl [2,0,1,3] rfl rfl
  replace H14:Has B0 S0 [ay ae ah.kids 7 5 v3 ws4 a2.l (some (Int.toNat (IntKind.wrap .i64 (a6 - 1)))),aG (gX 5 ws4 (Int.toNat (IntKind.wrap .i64 (a6 - 1)))) z7.kids,.box b1 [v3,w5],aG w5 a2.freed]:=H14
  refine ai.xn (z':=(ah.mk (aA.mk false [] [] [] [] 0).lives (aA.mk false [] [] [] [] 0).tag (aA.mk false [] [] [] [] 0).key (aA.mk false [] [] [] [] 0).text (aA.mk false [] [] [] [] 0).attrs [] (aA.mk false [] [] [] [] 0).parent)) H14 rfl hzz7 (.inr rfl) rfl rfl (aA.fD _) rfl oh rQ rfl rfl rfl (.cons (.refl _) (.cons (.refl _) (.cons (.refl _) (.cons (.refl _) (.cons (.refl _) (.cons (Less.any _) (.cons (.refl _) .nil))))))) rfl rfl (fun ws13 S11 H12=>?_)
  have H15:Has B0 S11 [aG (gX 5 ws4 (Int.toNat (IntKind.wrap .i64 (a6 - 1)))) z7.kids,.box b1 [v3,w5],ay ae ah.kids 7 5 v3 ws13 (jI a2.l (IntKind.wrap .i64 (a6 - 1)) (ah.mk (aA.mk false [] [] [] [] 0).lives (aA.mk false [] [] [] [] 0).tag (aA.mk false [] [] [] [] 0).key (aA.mk false [] [] [] [] 0).text (aA.mk false [] [] [] [] 0).attrs [] (aA.mk false [] [] [] [] 0).parent)) none,aG w5 a2.freed]:=H12.sl [1,2,0,3] rfl rfl
  refine ai.nil ?_
  refine aB.seq ?_
  refine aB.region (dN E) rfl ?_
  refine ai.val rfl (aa rfl) rfl ?_
  refine ai.val rfl (aa rfl) rfl ?_
  refine ai.val rfl (bz rfl) rfl ?_
  refine ai.val rfl (aD rfl sH qd rfl) rfl ?_
  refine ai.val rfl (aI H15 (i:=1) rfl rfl (aR tC rfl)) rfl ?_
  refine ai.val rfl (aa rfl) rfl ?_
  refine ai.nU (vs:=[(.d (.int .i64 a6))]) (cs:=[[(.d (.int .i64 a6))]]) H15 rfl nP dX oP ED jA rfl (by decide) (.cons rfl rfl .nil) rfl rfl rfl (fun v16 S17 H18=>?_)
  have H19:Has B0 S17 [fF 1 1 v16 [(.d (.int .i64 a6))],aG (gX 5 ws4 (Int.toNat (IntKind.wrap .i64 (a6 - 1)))) z7.kids,.box b1 [v3,w5],ay ae ah.kids 7 5 v3 ws13 (jI a2.l (IntKind.wrap .i64 (a6 - 1)) (ah.mk (aA.mk false [] [] [] [] 0).lives (aA.mk false [] [] [] [] 0).tag (aA.mk false [] [] [] [] 0).key (aA.mk false [] [] [] [] 0).text (aA.mk false [] [] [] [] 0).attrs [] (aA.mk false [] [] [] [] 0).parent)) none,aG w5 a2.freed]:=H18.sl [0,1,2,3,4] rfl rfl
  obtain ⟨z20,hzz20,h⟩:=bind_some h
  have H21:Has B0 S17 ([fF 1 1 v16 [(.d (.int .i64 a6))],aG w5 a2.freed] ++ [aG (gX 5 ws4 (Int.toNat (IntKind.wrap .i64 (a6 - 1)))) z7.kids,.box b1 [v3,w5],ay ae ah.kids 7 5 v3 ws13 (jI a2.l (IntKind.wrap .i64 (a6 - 1)) (ah.mk (aA.mk false [] [] [] [] 0).lives (aA.mk false [] [] [] [] 0).tag (aA.mk false [] [] [] [] 0).key (aA.mk false [] [] [] [] 0).text (aA.mk false [] [] [] [] 0).attrs [] (aA.mk false [] [] [] [] 0).parent)) none]):=H19.sl [0,4,1,2,3] rfl rfl
  replace H21:Has B0 S17 [fF 1 1 v16 [(.d (.int .i64 a6))],aG w5 a2.freed,aG (gX 5 ws4 (Int.toNat (IntKind.wrap .i64 (a6 - 1)))) z7.kids,.box b1 [v3,w5],ay ae ah.kids 7 5 v3 ws13 (jI a2.l (IntKind.wrap .i64 (a6 - 1)) (ah.mk (aA.mk false [] [] [] [] 0).lives (aA.mk false [] [] [] [] 0).tag (aA.mk false [] [] [] [] 0).key (aA.mk false [] [] [] [] 0).text (aA.mk false [] [] [] [] 0).attrs [] (aA.mk false [] [] [] [] 0).parent)) none]:=H21
  refine ai.yS H21 rfl rfl rfl nP xq dX jA hzz20 F9 rfl Ao rfl (fun w22 S23 H24=>?_)
  have H25:Has B0 S23 [aG (gX 5 ws4 (Int.toNat (IntKind.wrap .i64 (a6 - 1)))) z7.kids,.box b1 [v3,w5],ay ae ah.kids 7 5 v3 ws13 (jI a2.l (IntKind.wrap .i64 (a6 - 1)) (ah.mk (aA.mk false [] [] [] [] 0).lives (aA.mk false [] [] [] [] 0).tag (aA.mk false [] [] [] [] 0).key (aA.mk false [] [] [] [] 0).text (aA.mk false [] [] [] [] 0).attrs [] (aA.mk false [] [] [] [] 0).parent)) none,aG w22 z20]:=H24.sl [1,2,3,0] rfl rfl
  refine ai.val rfl (bz rfl) rfl ?_
  refine ai.val rfl (aD rfl sH qd rfl) rfl ?_
  refine ai.store H25 (i:=1) rfl rfl rfl rfl (qP H25 (i:=3) rfl).2 rfl G7 (qP H25 (i:=3) rfl).1 GY rfl rfl rfl (fun S26 H27=>?_)
  refine ai.nil ?_
  refine aB.seq ?_
  refine aB.region (dN E) rfl ?_
  refine ai.val rfl (aa rfl) rfl ?_
  refine ai.val rfl (jy H27 (i:=0) rfl rfl jh) rfl ?_
  refine ai.val rfl (aa rfl) rfl ?_
  refine ai.nil ?_
  refine aB.block ?_
  refine o9.start (B:=B0) (α:=ax × (List (List AV)) × AV × Int) (fun k a=>dQ (eO n) z7 k a.1 a.2.2.2=some r) (fun a=>[(0,(.ptr b1 0 0)),(34,(gX 5 ws4 (Int.toNat (IntKind.wrap .i64 (a6 - 1))))),(35,(.d (.int .i64 ((z7.kids).length:Int)))),(36,(.d (.int .i64 a.2.2.2)))]) (fun a=>[aG (gX 5 ws4 (Int.toNat (IntKind.wrap .i64 (a6 - 1)))) z7.kids,.box b1 [v3,a.2.2.1],ay ae ah.kids 7 5 v3 a.2.1 a.1.l none,aG a.2.2.1 a.1.freed]) ?_ ?_ n ⟨⟨(ax.mk (jI a2.l (IntKind.wrap .i64 (a6 - 1)) (ah.mk (aA.mk false [] [] [] [] 0).lives (aA.mk false [] [] [] [] 0).tag (aA.mk false [] [] [] [] 0).key (aA.mk false [] [] [] [] 0).text (aA.mk false [] [] [] [] 0).attrs [] (aA.mk false [] [] [] [] 0).parent)) z20),ws13,w22,0⟩,_,_,S26,.refl _ _,.refl _,(aj.r rfl (aj.r rfl (aj.r rfl (aj.r rfl aj.nil)))),H27.sl [0,1,2,3] rfl rfl,h⟩
  ·
   intro a h; simp [dQ] at h
  ·
   intro k42 a S36 H37 h
   obtain ⟨x38,ws39,w40,x41⟩:=a
   replace h:dQ (eO n) z7 (k42 + 1) x38 x41=some r:=h
   replace H37:Has B0 S36 [aG (gX 5 ws4 (Int.toNat (IntKind.wrap .i64 (a6 - 1)))) z7.kids,.box b1 [v3,w40],ay ae ah.kids 7 5 v3 ws39 x38.l none,aG w40 x38.freed]:=H37
   unfold dQ at h
   refine aB.seq ?_
   refine aB.region (dN E) rfl ?_
   refine ai.val rfl (aH rfl rfl dG) rfl ?_
   refine ai.nil ?_
   refine aB.seq ?_
   refine aB.cond rfl (fun hb43=>?_) (fun hb43=>?_)
   ·
    replace h:=dK hb43 h
    refine aB.skip ?_
    refine aB.seq ?_
    refine aB.block ?_
    refine aB.seq ?_
    refine aB.region (dN E) rfl ?_
    obtain ⟨z44,hzz44,h⟩:=bind_some h
    refine ai.val rfl (qJ H37 (q:=0) rfl hzz44 rfl rfl dX oP jA) rfl ?_
    refine ai.val rfl (pz H37 (q:=0) rfl hzz44 rfl nG) rfl ?_
    refine ai.val rfl (ak rfl) rfl ?_
    refine ai.nil ?_
    refine aB.region (dN E) rfl ?_
    refine ai.val rfl (aa rfl) rfl ?_
    refine ai.val rfl (aa rfl) rfl ?_
    obtain ⟨z45,hzz45,h⟩:=bind_some h
    refine ai.fw (ins:=[.box b1 [v3,w40],ay ae ah.kids 7 5 v3 ws39 x38.l none,aG w40 x38.freed]) (more:=[aG (gX 5 ws4 (Int.toNat (IntKind.wrap .i64 (a6 - 1)))) z7.kids]) (H37.sl [1,2,3,0] rfl rfl) rfl (aJ rfl rfl) (ih _ _ _ hzz45 b1 v3 ws39 w40) (.cons (.refl _) (.cons (.refl _) .nil)) rfl ?_
    rintro _ S48 _ ⟨rfl,ws46,w47,rfl⟩ H49
    have H50:Has B0 S48 [aG (gX 5 ws4 (Int.toNat (IntKind.wrap .i64 (a6 - 1)))) z7.kids,.box b1 [v3,w47],ay ae ah.kids 7 5 v3 ws46 z45.l none,aG w47 z45.freed]:=H49.sl [3,0,1,2] rfl rfl
    refine ai.nil ?_
    refine aB.region (dN E) rfl ?_
    refine ai.val rfl (aH rfl rfl dZ) rfl ?_
    refine ai.val rfl (aa rfl) rfl ?_
    refine ai.nil ?_
    exact ⟨⟨z45,ws46,w47,(IntKind.wrap .i64 (x41 + 1))⟩,_,_,S48,.refl _ _,.refl _,(aj.r rfl (aj.r rfl (aj.r rfl (aj.r rfl aj.nil)))),H50.sl [0,1,2,3] rfl rfl,h⟩
   ·
    replace h:=dJ hb43 h
    refine aB.exit ?_
    have hr:=Option.some.inj h
    subst hr
    exact ⟨_,rfl,rfl,_,_,_,.refl _,(.refl _),⟨rfl,ws39,w40,rfl⟩,H37.sl [1,2,3] rfl rfl⟩
set_option maxRecDepth 20000 in
set_option maxHeartbeats 4000000 in
theorem vO (n:Nat) (a2:ax) (a6:Int) (r:(Bool × ax)) (h:kz n a2 a6=some r) (b1:Nat) (v3:AV) (ws4:List (List AV)) (w5:AV):df R cfg.P 16 [.ptr b1 0 0,.d (.int .i64 a6)] [.box b1 [v3,w5],ay ae ah.kids 7 5 v3 ws4 a2.l none,aG w5 a2.freed] (fun v l=>v=.d (.bool r.1)∧∃ dws0 dw0,l=[.box b1 [v3,dw0],ay ae ah.kids 7 5 v3 dws0 r.2.l none,aG dw0 r.2.freed]):=by
 unfold kz at h
 refine df.of_wp (C:=cfg) Try.func16 rfl JE rfl (fun B0 S0 H0=>?_)
 replace H0:Has B0 S0 [.box b1 [v3,w5],ay ae ah.kids 7 5 v3 ws4 a2.l none,aG w5 a2.freed]:=H0
 refine aB.seq ?_
 refine aB.region E.obj rfl ?_
 refine ai.val rfl (ak rfl) rfl ?_
 refine ai.nil ?_
 refine aB.seq ?_
 refine aB.region E.obj rfl ?_
 refine ai.val rfl (aa rfl) rfl ?_
 refine ai.val rfl (aa rfl) rfl ?_
 obtain ⟨z7,hzz7,h⟩:=bind_some h
 refine ai.fw (ins:=[.box b1 [v3,w5],ay ae ah.kids 7 5 v3 ws4 a2.l none,aG w5 a2.freed]) (more:=[]) (H0.sl [0,1,2] rfl rfl) rfl (aJ rfl rfl) (fK E n _ _ _ hzz7 b1 v3 ws4 w5) (.cons (.refl _) (.cons (.refl _) .nil)) rfl ?_
 rintro v8 S9 l10 hr11 H12
 rcases z7 with _ | _
 ·
  obtain ⟨rfl,rfl⟩:=hr11
  replace h:=dJ rfl h
  replace H12:Has B0 S9 [.box b1 [v3,w5],ay ae ah.kids 7 5 v3 ws4 a2.l none,aG w5 a2.freed]:=H12
  have H13:Has B0 S9 [.box b1 [v3,w5],ay ae ah.kids 7 5 v3 ws4 a2.l none,aG w5 a2.freed]:=H12.sl [0,1,2] rfl rfl
  refine ai.val rfl (ak rfl) rfl ?_
  refine ai.nil ?_
  refine aB.seq ?_
  refine aB.seq ?_
  refine aB.region E.obj rfl ?_
  refine ai.val rfl (aa rfl) rfl ?_
  refine ai.val rfl (aH rfl rfl (kC qb)) rfl ?_
  refine ai.val rfl (aa rfl) rfl ?_
  refine ai.no rfl rfl ?_
  refine ai.no rfl rfl ?_
  refine ai.val rfl (aF (b:=true) rfl rfl) rfl ?_
  refine ai.val rfl (aa rfl) rfl ?_
  refine ai.no rfl rfl ?_
  refine ai.no rfl rfl ?_
  refine ai.no rfl rfl ?_
  refine ai.no rfl rfl ?_
  refine ai.no rfl rfl ?_
  refine ai.val rfl (aF (b:=true) rfl rfl) rfl ?_
  refine ai.nil ?_
  refine aB.cond rfl (fun hb=>?_) (fun hb=>?_)
  ·
   refine aB.seq ?_
   refine aB.region E.obj rfl ?_
   refine ai.val rfl (ak rfl) rfl ?_
   refine ai.nil ?_
   have hr:=Option.some.inj h
   subst hr
   exact aB.ret ⟨_,rfl,rfl,_,_,_,.refl _,(.refl _),⟨rfl,ws4,w5,rfl⟩,H13.sl [0,1,2] rfl rfl⟩
  ·
   cases hb
 ·
  obtain ⟨rfl,rfl⟩:=hr11
  replace h:=dK rfl h
  have H14:Has B0 S9 [.box b1 [v3,w5],ay ae ah.kids 7 5 v3 ws4 a2.l none,aG w5 a2.freed]:=H12.sl [0,1,2] rfl rfl
  refine ai.val rfl (ak rfl) rfl ?_
  refine ai.nil ?_
  refine aB.seq ?_
  refine aB.seq ?_
  refine aB.region E.obj rfl ?_
  refine ai.val rfl (aa rfl) rfl ?_
  obtain ⟨z15,hzz15,h⟩:=bind_some h
  refine ai.val rfl (kD H14 (q:=1) rfl hzz15 rfl rfl qb) rfl ?_
  refine ai.val rfl (aa rfl) rfl ?_
  refine ai.val rfl (aa rfl) rfl ?_
  refine ai.val rfl (aH rfl rfl bD) rfl ?_
  refine ai.val rfl (aF (b:=false) rfl rfl) rfl ?_
  refine ai.val rfl (aa rfl) rfl ?_
  refine ai.jG 6 21 (.d (.bool ((a6 == 1) || (z15.parent != 0)))) ?_ ?_
  ·
   rcases Bool.eq_false_or_eq_true ((a6 == 1)) with hB16 | hB16
   ·
    refine ai.bool hB16 ?_
    refine ai.no rfl rfl ?_
    refine ai.no rfl rfl ?_
    refine ai.no rfl rfl ?_
    refine ai.no rfl rfl ?_
    refine ai.no rfl rfl ?_
    refine ai.val rfl (aF (b:=true) rfl rfl) rfl ?_
    exact ai.nil ⟨_,rfl,(aj.put (aj.push rfl (aj.push rfl (aj.push rfl (aj.push rfl (aj.push rfl (aj.put (.refl _) (Less.eq (by rw [hB16])))))))) (Less.eq (by rw [hB16]; rw [Bool.true_or])))⟩
   ·
    refine ai.bool hB16 ?_
    refine ai.val rfl (aa rfl) rfl ?_
    refine ai.val rfl (bG H14 (q:=1) rfl hzz15 rfl) rfl ?_
    refine ai.val rfl (bg H14 (i:=1) rfl hzz15 rfl qj Hl rfl) rfl ?_
    refine ai.jo H14 rfl (q:=1) rfl hzz15 rfl nG rfl rfl rfl ?_
    refine ai.val rfl (aH rfl rfl lF) rfl ?_
    refine ai.val rfl (aF (b:=false) rfl rfl) rfl ?_
    exact ai.nil ⟨_,rfl,(aj.put (aj.push rfl (aj.push rfl (aj.push rfl (aj.push rfl (aj.push rfl (aj.put (.refl _) (Less.eq (by rw [hB16])))))))) (Less.eq (by rw [hB16]; rw [Bool.false_or])))⟩
  ·
   refine ai.nil ?_
   refine aB.cond rfl (fun hb17=>?_) (fun hb17=>?_)
   ·
    replace h:=dK hb17 h
    refine aB.seq ?_
    refine aB.region E.obj rfl ?_
    refine ai.val rfl (ak rfl) rfl ?_
    refine ai.nil ?_
    have hr:=Option.some.inj h
    subst hr
    exact aB.ret ⟨_,rfl,rfl,_,_,_,.refl _,(.refl _),⟨rfl,ws4,w5,rfl⟩,H14.sl [0,1,2] rfl rfl⟩
   ·
    replace h:=dJ hb17 h
    refine aB.skip ?_
    refine aB.seq ?_
    refine aB.region E.obj rfl ?_
    refine ai.val rfl (aa rfl) rfl ?_
    refine ai.val rfl (aa rfl) rfl ?_
    obtain ⟨z18,hzz18,h⟩:=bind_some h
    refine ai.fw (ins:=[.box b1 [v3,w5],ay ae ah.kids 7 5 v3 ws4 a2.l none,aG w5 a2.freed]) (more:=[]) (H14.sl [0,1,2] rfl rfl) rfl (aJ rfl rfl) (pW E n _ _ _ hzz18 b1 v3 ws4 w5) (.cons (.refl _) (.cons (.refl _) .nil)) rfl ?_
    rintro _ S21 _ ⟨rfl,ws19,w20,rfl⟩ H22
    have H23:Has B0 S21 [.box b1 [v3,w20],ay ae ah.kids 7 5 v3 ws19 z18.l none,aG w20 z18.freed]:=H22.sl [0,1,2] rfl rfl
    refine ai.nil ?_
    refine aB.seq ?_
    refine aB.region E.obj rfl ?_
    refine ai.val rfl (ak rfl) rfl ?_
    refine ai.nil ?_
    have hr:=Option.some.inj h
    subst hr
    exact aB.ret ⟨_,rfl,rfl,_,_,_,.refl _,(.refl _),⟨rfl,ws19,w20,rfl⟩,H23.sl [0,1,2] rfl rfl⟩
set_option maxRecDepth 20000 in
set_option maxHeartbeats 4000000 in
theorem vW (n:Nat) (a2:ax) (r:Int) (h:lS n a2=some r) (b1:Nat) (v3:AV) (ws4:List (List AV)) (w5:AV):df R cfg.P 17 [.ptr b1 0 0] [.box b1 [v3,w5],ay ae ah.kids 7 5 v3 ws4 a2.l none,aG w5 a2.freed] (fun v l=>v=.d (.int .i64 r)∧l=[.box b1 [v3,w5],ay ae ah.kids 7 5 v3 ws4 a2.l none,aG w5 a2.freed]):=by
 unfold lS at h
 refine df.of_wp (C:=cfg) Try.func17 rfl Kg rfl (fun B0 S0 H0=>?_)
 replace H0:Has B0 S0 [.box b1 [v3,w5],ay ae ah.kids 7 5 v3 ws4 a2.l none,aG w5 a2.freed]:=H0
 refine aB.seq ?_
 refine aB.region E.obj rfl ?_
 refine ai.val rfl (ak rfl) rfl ?_
 refine ai.nil ?_
 refine aB.seq ?_
 refine aB.region E.obj rfl ?_
 refine ai.val rfl (ak rfl) rfl ?_
 refine ai.nil ?_
 have hr:=Option.some.inj h
 subst hr
 exact aB.ret ⟨_,rfl,rfl,_,_,_,.refl _,(.refl _),⟨rfl,rfl⟩,H0.sl [0,1,2] rfl rfl⟩
set_option maxRecDepth 20000 in
set_option maxHeartbeats 4000000 in
theorem kS (n:Nat) (a2:ax) (r:Int) (h:gY n a2=some r) (b1:Nat) (v3:AV) (ws4:List (List AV)) (w5:AV):df R cfg.P 22 [.ptr b1 0 0] [.box b1 [v3,w5],ay ae ah.kids 7 5 v3 ws4 a2.l none,aG w5 a2.freed] (fun v l=>v=.d (.int .i64 r)∧l=[.box b1 [v3,w5],ay ae ah.kids 7 5 v3 ws4 a2.l none,aG w5 a2.freed]):=by
 unfold gY at h
 refine df.of_wp (C:=cfg) Try.func22 rfl J2 rfl (fun B0 S0 H0=>?_)
 replace H0:Has B0 S0 [.box b1 [v3,w5],ay ae ah.kids 7 5 v3 ws4 a2.l none,aG w5 a2.freed]:=H0
 refine aB.seq ?_
 refine aB.region E.obj rfl ?_
 refine ai.val rfl (ak rfl) rfl ?_
 refine ai.nil ?_
 refine aB.seq ?_
 refine aB.gQ E.obj kF JV [(2,some 11)] (by kernel_rfl) [] (by decide) [some (.ptr b1 0 0),some (.ptr b1 0 0),some (.ptr b1 0 0),some v3,some (.d (.int .i64 ((a2.l).length:Int))),some (.ptr b1 0 0),some (.ptr b1 0 0),some (.ptr b1 0 1),some w5,some (.d (.int .i64 ((a2.freed).length:Int))),some (.d (.int .i64 (IntKind.wrap .i64 (((a2.l).length:Int) - ((a2.freed).length:Int))))),some (.d (.int .i64 (IntKind.wrap .i64 (((a2.l).length:Int) - ((a2.freed).length:Int)))))] ?_
 refine ⟨[0,1,2,3,4,5,6,7,8,9,10,11],by kernel_rfl,?_,_,rfl,?_⟩
 ·
  refine .v rfl rfl rfl rfl (aa rfl) ?_
  refine .v rfl rfl rfl rfl (bz rfl) ?_
  refine .v rfl rfl rfl rfl (aD rfl jH rq rfl) ?_
  refine .v rfl rfl rfl rfl (aI H0 (i:=0) rfl rfl (aR rY rfl)) ?_
  refine .v rfl rfl rfl rfl (qQ H0 (i:=1) rfl rfl Gb) ?_
  refine .v rfl rfl rfl rfl (aa rfl) ?_
  refine .v rfl rfl rfl rfl (bz rfl) ?_
  refine .v rfl rfl rfl rfl (aD rfl sH qd rfl) ?_
  refine .v rfl rfl rfl rfl (aI H0 (i:=0) rfl rfl (aR tC rfl)) ?_
  refine .v rfl rfl rfl rfl (jy H0 (i:=2) rfl rfl jh) ?_
  refine .v rfl rfl rfl rfl (aH rfl rfl iP) ?_
  refine .v rfl rfl rfl rfl (ak rfl) ?_
  exact .nil
 have hr:=Option.some.inj h
 subst hr
 exact aB.ret ⟨_,rfl,rfl,_,_,_,.refl _,(.refl _),⟨rfl,rfl⟩,H0.sl [0,1,2] rfl rfl⟩
set_option maxRecDepth 20000 in
set_option maxHeartbeats 4000000 in
theorem nK (n:Nat) (a2:ax) (a6:Int) (r:(Int × ax)) (h:jP n a2 a6=some r) (b1:Nat) (v3:AV) (ws4:List (List AV)) (w5:AV):df R cfg.P 46 [.ptr b1 0 0,.d (.int .i64 a6)] [.box b1 [v3,w5],ay ae ah.kids 7 5 v3 ws4 a2.l none,aG w5 a2.freed] (fun v l=>v=.d (.int .i64 r.1)∧∃ dws0 dw0,l=[.box b1 [v3,dw0],ay ae ah.kids 7 5 v3 dws0 r.2.l none,aG dw0 r.2.freed]):=by
 unfold jP at h
 refine df.of_wp (C:=cfg) Try.func46 rfl JR rfl (fun B0 S0 H0=>?_)
 replace H0:Has B0 S0 [.box b1 [v3,w5],ay ae ah.kids 7 5 v3 ws4 a2.l none,aG w5 a2.freed]:=H0
 refine aB.seq ?_
 refine aB.region E.obj rfl ?_
 refine ai.val rfl (ak rfl) rfl ?_
 refine ai.nil ?_
 refine aB.seq ?_
 refine aB.seq ?_
 refine aB.region E.obj rfl ?_
 refine ai.val rfl (aa rfl) rfl ?_
 refine ai.val rfl (aa rfl) rfl ?_
 obtain ⟨z7,hzz7,h⟩:=bind_some h
 refine ai.fw (ins:=[.box b1 [v3,w5],ay ae ah.kids 7 5 v3 ws4 a2.l none,aG w5 a2.freed]) (more:=[]) (H0.sl [0,1,2] rfl rfl) rfl (aJ rfl rfl) (vW E n _ _ hzz7 b1 v3 ws4 w5) (.cons (.refl _) .nil) rfl ?_
 rintro _ S8 _ ⟨rfl,rfl⟩ H9
 have H10:Has B0 S8 [.box b1 [v3,w5],ay ae ah.kids 7 5 v3 ws4 a2.l none,aG w5 a2.freed]:=H9.sl [0,1,2] rfl rfl
 refine ai.val rfl (aH rfl rfl bD) rfl ?_
 refine ai.nil ?_
 refine aB.cond rfl (fun hb11=>?_) (fun hb11=>?_)
 ·
  replace h:=dK hb11 h
  refine aB.seq ?_
  refine aB.region E.obj rfl ?_
  refine ai.val rfl (ak rfl) rfl ?_
  refine ai.nil ?_
  have hr:=Option.some.inj h
  subst hr
  exact aB.ret ⟨_,rfl,rfl,_,_,_,.refl _,(.refl _),⟨rfl,ws4,w5,rfl⟩,H10.sl [0,1,2] rfl rfl⟩
 ·
  replace h:=dJ hb11 h
  refine aB.skip ?_
  refine aB.seq ?_
  refine aB.region E.obj rfl ?_
  refine ai.val rfl (aa rfl) rfl ?_
  obtain ⟨z12,hzz12,h⟩:=bind_some h
  refine ai.fw (ins:=[.box b1 [v3,w5],ay ae ah.kids 7 5 v3 ws4 a2.l none,aG w5 a2.freed]) (more:=[]) (H10.sl [0,1,2] rfl rfl) rfl (aJ rfl rfl) (kS E n _ _ hzz12 b1 v3 ws4 w5) (.cons (.refl _) .nil) rfl ?_
  rintro _ S13 _ ⟨rfl,rfl⟩ H14
  have H15:Has B0 S13 [.box b1 [v3,w5],ay ae ah.kids 7 5 v3 ws4 a2.l none,aG w5 a2.freed]:=H14.sl [0,1,2] rfl rfl
  refine ai.val rfl (ak rfl) rfl ?_
  refine ai.nil ?_
  refine aB.seq ?_
  refine aB.region E.obj rfl ?_
  refine ai.val rfl (aa rfl) rfl ?_
  refine ai.val rfl (aa rfl) rfl ?_
  obtain ⟨z16,hzz16,h⟩:=bind_some h
  refine ai.fw (ins:=[.box b1 [v3,w5],ay ae ah.kids 7 5 v3 ws4 a2.l none,aG w5 a2.freed]) (more:=[]) (H15.sl [0,1,2] rfl rfl) rfl (aJ rfl rfl) (tX E n _ _ _ hzz16 b1 v3 ws4 w5) (.cons (.refl _) (.cons (.refl _) .nil)) rfl ?_
  rintro _ S19 _ ⟨rfl,ws17,w18,rfl⟩ H20
  have H21:Has B0 S19 [.box b1 [v3,w18],ay ae ah.kids 7 5 v3 ws17 z16.2.l none,aG w18 z16.2.freed]:=H20.sl [0,1,2] rfl rfl
  refine ai.nil ?_
  refine aB.seq ?_
  refine aB.region E.obj rfl ?_
  refine ai.val rfl (aa rfl) rfl ?_
  refine ai.val rfl (aa rfl) rfl ?_
  obtain ⟨z22,hzz22,h⟩:=bind_some h
  refine ai.fw (ins:=[.box b1 [v3,w18],ay ae ah.kids 7 5 v3 ws17 z16.2.l none,aG w18 z16.2.freed]) (more:=[]) (H21.sl [0,1,2] rfl rfl) rfl (aJ rfl rfl) (vO E n _ _ _ hzz22 b1 v3 ws17 w18) (.cons (.refl _) (.cons (.refl _) .nil)) rfl ?_
  rintro _ S25 _ ⟨rfl,ws23,w24,rfl⟩ H26
  have H27:Has B0 S25 [.box b1 [v3,w24],ay ae ah.kids 7 5 v3 ws23 z22.2.l none,aG w24 z22.2.freed]:=H26.sl [0,1,2] rfl rfl
  refine ai.nil ?_
  refine aB.seq ?_
  refine aB.region E.obj rfl ?_
  refine ai.val rfl (aa rfl) rfl ?_
  refine ai.val rfl (aa rfl) rfl ?_
  obtain ⟨z28,hzz28,h⟩:=bind_some h
  refine ai.fw (ins:=[.box b1 [v3,w24],ay ae ah.kids 7 5 v3 ws23 z22.2.l none,aG w24 z22.2.freed]) (more:=[]) (H27.sl [0,1,2] rfl rfl) rfl (aJ rfl rfl) (kS E n _ _ hzz28 b1 v3 ws23 w24) (.cons (.refl _) .nil) rfl ?_
  rintro _ S29 _ ⟨rfl,rfl⟩ H30
  have H31:Has B0 S29 [.box b1 [v3,w24],ay ae ah.kids 7 5 v3 ws23 z22.2.l none,aG w24 z22.2.freed]:=H30.sl [0,1,2] rfl rfl
  refine ai.val rfl (aH rfl rfl iP) rfl ?_
  refine ai.val rfl (ak rfl) rfl ?_
  refine ai.nil ?_
  have hr:=Option.some.inj h
  subst hr
  exact aB.ret ⟨_,rfl,rfl,_,_,_,.refl _,(.refl _),⟨rfl,ws23,w24,rfl⟩,H31.sl [0,1,2] rfl rfl⟩
set_option maxRecDepth 20000 in
set_option maxHeartbeats 4000000 in
theorem yg (n:Nat) (a2:ax) (a6:(List Int)) (r:(List Tree)) (h:mG n a2 a6=some r) (b1:Nat) (v3:AV) (ws4:List (List AV)) (w5:AV):df R cfg.P 73 [.ptr b1 0 0,.d (.sl ((a6).map (D.int .i64)) false)] [.box b1 [v3,w5],ay ae ah.kids 7 5 v3 ws4 a2.l none,aG w5 a2.freed] (fun v l=>v=.d (.sl ((r).map au) false)∧l=[.box b1 [v3,w5],ay ae ah.kids 7 5 v3 ws4 a2.l none,aG w5 a2.freed]):=by
 unfold mG at h
 refine df.of_wp (C:=cfg) Try.func73 rfl J3 rfl (fun B0 S0 H0=>?_)
 replace H0:Has B0 S0 [.box b1 [v3,w5],ay ae ah.kids 7 5 v3 ws4 a2.l none,aG w5 a2.freed]:=H0
 refine aB.seq ?_
 refine aB.region E.obj rfl ?_
 refine ai.val rfl (ak rfl) rfl ?_
 refine ai.nil ?_
 refine aB.seq ?_
 refine aB.region E.obj rfl ?_
 refine ai.val rfl (ak rfl) rfl ?_
 refine ai.nil ?_
 refine aB.seq ?_
 refine aB.seq ?_
 refine aB.region E.obj rfl ?_
 refine ai.val rfl (aa rfl) rfl ?_
 refine ai.val rfl (bF rfl jh) rfl ?_
 refine ai.val rfl (aa rfl) rfl ?_
 refine ai.nil ?_
 refine aB.block ?_
 have H35:=H0.Cq
 refine o9.start (B:=B0) (α:=(List Tree) × AV × Int) (fun k a=>fq n a2 a6 k a.1 a.2.2=some r) (fun a=>[(0,(.ptr b1 0 0)),(5,a.2.1),(10,(.d (.sl ((a6).map (D.int .i64)) false))),(11,(.d (.int .i64 ((a6).length:Int)))),(12,(.d (.int .i64 a.2.2)))]) (fun a=>[.grow a.2.1 ((a.1).map au),.box b1 [v3,w5],ay ae ah.kids 7 5 v3 ws4 a2.l none,aG w5 a2.freed]) ?_ ?_ n ⟨⟨[],(.d .aT),0⟩,_,_,S0,.refl _ _,.refl _,(aj.r rfl (aj.r rfl (aj.r rfl (aj.r rfl (aj.r rfl aj.nil))))),H35.sl [0,1,2,3] rfl rfl,h⟩
 ·
  intro a h; simp [fq] at h
 ·
  intro k19 a S14 H15 h
  obtain ⟨x16,v17,x18⟩:=a
  replace h:fq n a2 a6 (k19 + 1) x16 x18=some r:=h
  replace H15:Has B0 S14 [.grow v17 ((x16).map au),.box b1 [v3,w5],ay ae ah.kids 7 5 v3 ws4 a2.l none,aG w5 a2.freed]:=H15
  unfold fq at h
  refine aB.seq ?_
  refine aB.region E.obj rfl ?_
  refine ai.val rfl (aH rfl rfl dG) rfl ?_
  refine ai.nil ?_
  refine aB.seq ?_
  refine aB.cond rfl (fun hb20=>?_) (fun hb20=>?_)
  ·
   replace h:=dK hb20 h
   refine aB.skip ?_
   refine aB.seq ?_
   refine aB.block ?_
   refine aB.seq ?_
   refine aB.region E.obj rfl ?_
   obtain ⟨z21,hzz21,h⟩:=bind_some h
   refine ai.val rfl (bE rfl rfl (bW (enc:=(D.int .i64)) hzz21 dX oP (((fun _=>rfl) _).trans jA.symm))) rfl ?_
   refine ai.val rfl (aY rfl (bL nG rfl)) rfl ?_
   refine ai.val rfl (ak rfl) rfl ?_
   refine ai.nil ?_
   refine aB.seq ?_
   refine aB.region E.obj rfl ?_
   refine ai.val rfl (aa rfl) rfl ?_
   refine ai.val rfl (aa rfl) rfl ?_
   obtain ⟨z22,hzz22,h⟩:=bind_some h
   refine ai.fw (ins:=[.box b1 [v3,w5],ay ae ah.kids 7 5 v3 ws4 a2.l none,aG w5 a2.freed]) (more:=[.grow v17 ((x16).map au)]) (H15.sl [1,2,3,0] rfl rfl) rfl (aJ rfl rfl) (lL E n _ _ _ hzz22 b1 v3 ws4 w5) (.cons (.refl _) (.cons (.refl _) .nil)) rfl ?_
   rintro _ S23 _ ⟨rfl,rfl⟩ H24
   have H25:Has B0 S23 [.grow v17 ((x16).map au),.box b1 [v3,w5],ay ae ah.kids 7 5 v3 ws4 a2.l none,aG w5 a2.freed]:=H24.sl [3,0,1,2] rfl rfl
   refine ai.val rfl (aa rfl) rfl ?_
   refine ai.val rfl (jq rfl rfl) rfl ?_
   refine ai.val rfl (jq rfl rfl) rfl ?_
   refine ai.alloc H25 rfl uf jM rfl rfl (fun b26 S27 H28=>?_)
   refine ai.store H28 (i:=0) rfl rfl rfl rfl (Tree.fD _) rfl dF rfl lJ rfl rfl rfl (fun S29 H30=>?_)
   refine ai.val rfl (ak rfl) rfl ?_
   refine ai.nil ?_
   refine aB.region E.obj rfl ?_
   refine ai.val rfl (aa rfl) rfl ?_
   refine ai.val rfl (aI H30 (i:=0) rfl rfl (bX ig dF rfl)) rfl ?_
   refine ai.less (Less.agg' (d:=au z22.1) (aC.eq rfl (aC.eq rfl (aC.eq rfl (aC.eq rfl (aC.eq rfl .nil))))) ((Tree.eq _).trans rfl)) ?_
   refine ai.val rfl (dO (vs:=[(.d (au z22.1))]) (ds:=[(au z22.1)]) yj qc ig jM dF rfl (by decide) (.cons rfl (Tree.len _) .nil) rfl (by intro d hd; simp only [List.mem_cons,List.not_mem_nil,or_false] at hd; rcases hd with rfl <;> exact Tree.agg _) rfl) rfl ?_
   obtain ⟨z31,hzz31,h⟩:=bind_some h
   refine ai.append (xs:=(x16).map au) (ys:=([z22.1]).map au) (zs:=(z31).map au) H30 rfl rfl rfl (i:=1) rfl rfl yj Gf qc (jw hzz31) GV rfl (dP (enc:=au) (fun z=>(Tree.len z).trans dF.symm) _) (dP (enc:=au) (fun z=>(Tree.len z).trans dF.symm) _) GU rfl (pG hzz31) (fun v32 S33 H34=>?_)
   refine ai.val rfl (ak rfl) rfl ?_
   refine ai.nil ?_
   refine aB.region E.obj rfl ?_
   refine ai.val rfl (aH rfl rfl dZ) rfl ?_
   refine ai.val rfl (aa rfl) rfl ?_
   refine ai.nil ?_
   exact ⟨⟨z31,v32,(IntKind.wrap .i64 (x18 + 1))⟩,_,_,S33,.refl _ _,.refl _,(aj.r rfl (aj.r rfl (aj.r rfl (aj.r rfl (aj.r rfl aj.nil))))),H34.sl [1,2,3,4] rfl rfl,h⟩
  ·
   replace h:=dJ hb20 h
   refine aB.exit ?_
   refine aB.seq ?_
   refine aB.region E.obj rfl ?_
   refine ai.val rfl (aa rfl) rfl ?_
   refine ai.val rfl (ak rfl) rfl ?_
   refine ai.nil ?_
   have hr:=Option.some.inj h
   subst hr
   exact aB.ret ⟨_,rfl,rfl,_,_,_,.refl _,(vE H15 (i:=0) rfl),⟨rfl,rfl⟩,H15.sl [1,2,3] rfl rfl⟩
set_option maxRecDepth 20000 in
set_option maxHeartbeats 4000000 in
theorem yx (n:Nat) (a1:Int) (a2:(List Int)) (r:(List Int)) (h:mr n a1 a2=some r):ib R cfg.P 74 [(.int .i64 a1),(.sl ((a2).map (D.int .i64)) false)] (.d (.sl ((r).map (D.int .i64)) false)):=by
 unfold mr at h
 refine ib.of_wp E.obj.toObjOk (C:=cfg) Try.func74 rfl JQ rfl ?_
 have H0:Has aM aM []:=Has.pure
 refine aB.seq ?_
 refine aB.region E.obj rfl ?_
 refine ai.val rfl (ak rfl) rfl ?_
 refine ai.nil ?_
 refine aB.seq ?_
 refine aB.region E.obj rfl ?_
 refine ai.makeMap (D.int .i64) (D.int .i64) H0 rfl GL rfl (fun b3 S4 H5=>?_)
 refine ai.val rfl (ak rfl) rfl ?_
 refine ai.nil ?_
 refine aB.seq ?_
 refine aB.seq ?_
 refine aB.region E.obj rfl ?_
 refine ai.val rfl (aa rfl) rfl ?_
 refine ai.val rfl (bF rfl jh) rfl ?_
 refine ai.val rfl (aa rfl) rfl ?_
 refine ai.nil ?_
 refine aB.block ?_
 refine o9.start (B:=aM) (α:=(List (Int × Int)) × Int) (fun k a=>fe n a1 a2 k a.1 a.2=some r) (fun a=>[(0,(.d (.int .i64 a1))),(5,(.map b3)),(11,(.d (.sl ((a2).map (D.int .i64)) false))),(12,(.d (.int .i64 ((a2).length:Int)))),(13,(.d (.int .i64 a.2)))]) (fun a=>[.map b3 (mD (D.int .i64) (D.int .i64) a.1)]) ?_ ?_ n ⟨⟨[],0⟩,_,_,S4,.refl _ _,.refl _,(aj.r rfl (aj.r rfl (aj.r rfl (aj.r rfl (aj.r rfl aj.nil))))),H5.sl [0] rfl rfl,h⟩
 ·
  intro a h; simp [fe] at h
 ·
  intro k16 a S12 H13 h
  obtain ⟨x14,x15⟩:=a
  replace h:fe n a1 a2 (k16 + 1) x14 x15=some r:=h
  replace H13:Has aM S12 [.map b3 (mD (D.int .i64) (D.int .i64) x14)]:=H13
  unfold fe at h
  refine aB.seq ?_
  refine aB.region E.obj rfl ?_
  refine ai.val rfl (aH rfl rfl dG) rfl ?_
  refine ai.nil ?_
  refine aB.seq ?_
  refine aB.cond rfl (fun hb17=>?_) (fun hb17=>?_)
  ·
   replace h:=dK hb17 h
   refine aB.skip ?_
   refine aB.seq ?_
   refine aB.block ?_
   refine aB.seq ?_
   refine aB.region E.obj rfl ?_
   obtain ⟨z18,hzz18,h⟩:=bind_some h
   refine ai.val rfl (bE rfl rfl (bW (enc:=(D.int .i64)) hzz18 dX oP (((fun _=>rfl) _).trans jA.symm))) rfl ?_
   refine ai.val rfl (aY rfl (bL nG rfl)) rfl ?_
   refine ai.val rfl (ak rfl) rfl ?_
   refine ai.nil ?_
   refine aB.region E.obj rfl ?_
   refine ai.val rfl (aa rfl) rfl ?_
   refine ai.val rfl (aa rfl) rfl ?_
   refine ai.val rfl (sO (ek:=(D.int .i64)) (ev:=(D.int .i64)) (k:=z18) (z:=0) H13 (i:=0) rfl rfl rfl GL (Co J5) ED) rfl ?_
   refine ai.val rfl (aH rfl rfl dZ) rfl ?_
   refine ai.mapUpdate (ek:=(D.int .i64)) (ev:=(D.int .i64)) (k:=z18) (v:=(IntKind.wrap .i64 ((gN x14 z18 0) + 1))) H13 rfl (i:=0) rfl rfl rfl rfl GL (Co J5) (fun S19 H20=>?_)
   refine ai.nil ?_
   refine aB.region E.obj rfl ?_
   refine ai.val rfl (aH rfl rfl dZ) rfl ?_
   refine ai.val rfl (aa rfl) rfl ?_
   refine ai.nil ?_
   exact ⟨⟨(jD x14 z18 (IntKind.wrap .i64 ((gN x14 z18 0) + 1))),(IntKind.wrap .i64 (x15 + 1))⟩,_,_,S19,.refl _ _,.refl _,(aj.r rfl (aj.r rfl (aj.r rfl (aj.r rfl (aj.r rfl aj.nil))))),H20.sl [0] rfl rfl,h⟩
  ·
   replace h:=dJ hb17 h
   refine aB.exit ?_
   refine aB.seq ?_
   refine aB.region E.obj rfl ?_
   refine ai.val rfl (ak rfl) rfl ?_
   refine ai.nil ?_
   refine aB.seq ?_
   refine aB.seq ?_
   refine aB.region E.obj rfl ?_
   refine ai.val rfl (aa rfl) rfl ?_
   refine ai.val rfl (wQ rfl rfl) rfl ?_
   refine ai.val rfl (aa rfl) rfl ?_
   refine ai.nil ?_
   refine aB.block ?_
   have H45:=H13.Cq
   refine o9.start (B:=aM) (α:=(List Int) × AV × Int) (fun k a=>dD a1 x14 k a.1 a.2.2=some r) (fun a=>[(5,(.map b3)),(8,a.2.1),(23,(.d (.int .i64 (sP a1 0)))),(24,(.d (.int .i64 a.2.2)))]) (fun a=>[.map b3 (mD (D.int .i64) (D.int .i64) x14),.grow a.2.1 ((a.1).map (D.int .i64))]) ?_ ?_ n ⟨⟨[],(.d .aT),0⟩,_,_,S12,.refl _ _,.refl _,(aj.r rfl (aj.r rfl (aj.r rfl (aj.r rfl aj.nil)))),H45.sl [1,0] rfl rfl,h⟩
   ·
    intro a h; simp [dD] at h
   ·
    intro k33 a S28 H29 h
    obtain ⟨x30,v31,x32⟩:=a
    replace h:dD a1 x14 (k33 + 1) x30 x32=some r:=h
    replace H29:Has aM S28 [.map b3 (mD (D.int .i64) (D.int .i64) x14),.grow v31 ((x30).map (D.int .i64))]:=H29
    unfold dD at h
    refine aB.seq ?_
    refine aB.region E.obj rfl ?_
    refine ai.val rfl (aH rfl rfl dG) rfl ?_
    refine ai.nil ?_
    refine aB.seq ?_
    refine aB.cond rfl (fun hb34=>?_) (fun hb34=>?_)
    ·
     replace h:=dK hb34 h
     refine aB.skip ?_
     refine aB.join (B:=aM) (α:=(List Int) × AV) (fun a=>gM x32 (dD a1 x14 k33) a.1=some r) (fun a=>[(5,(.map b3)),(8,a.2),(23,(.d (.int .i64 (sP a1 0)))),(24,(.d (.int .i64 x32)))]) (fun a=>[.map b3 (mD (D.int .i64) (D.int .i64) x14),.grow a.2 ((a.1).map (D.int .i64))]) ?_ ?_
     ·
      intro a S35 H36 h
      obtain ⟨x37,v38⟩:=a
      replace h:gM x32 (dD a1 x14 k33) x37=some r:=h
      replace H36:Has aM S35 [.map b3 (mD (D.int .i64) (D.int .i64) x14),.grow v38 ((x37).map (D.int .i64))]:=H36
      unfold gM at h
      refine aB.region E.obj rfl ?_
      refine ai.val rfl (aH rfl rfl dZ) rfl ?_
      refine ai.val rfl (aa rfl) rfl ?_
      refine ai.nil ?_
      exact ⟨⟨x37,v38,(IntKind.wrap .i64 (x32 + 1))⟩,_,_,S35,.refl _ _,.refl _,(aj.r rfl (aj.r rfl (aj.r rfl (aj.r rfl aj.nil)))),H36.sl [0,1] rfl rfl,h⟩
     ·
      refine aB.block ?_
      refine aB.seq ?_
      refine aB.region E.obj rfl ?_
      refine ai.val rfl (aa rfl) rfl ?_
      refine ai.val rfl (ak rfl) rfl ?_
      refine ai.nil ?_
      refine aB.seq ?_
      refine aB.region E.obj rfl ?_
      refine ai.val rfl (aa rfl) rfl ?_
      refine ai.val rfl (aa rfl) rfl ?_
      refine ai.val rfl (sO (ek:=(D.int .i64)) (ev:=(D.int .i64)) (k:=x32) (z:=0) H29 (i:=0) rfl rfl rfl GL (Co J5) ED) rfl ?_
      refine ai.val rfl (aH rfl rfl bD) rfl ?_
      refine ai.nil ?_
      refine aB.cond rfl (fun hb40=>?_) (fun hb40=>?_)
      ·
       replace h:=dK hb40 h
       refine aB.region E.obj rfl ?_
       refine ai.val rfl (aa rfl) rfl ?_
       refine ai.val rfl (aa rfl) rfl ?_
       refine ai.val rfl (dO (vs:=[(.d (.int .i64 x32))]) (ds:=[(.int .i64 x32)]) AU dX nG ED jA rfl (by decide) (.cons rfl rfl .nil) rfl (by intro d hd; simp only [List.mem_cons,List.not_mem_nil,or_false] at hd; rcases hd with rfl <;> rfl) rfl) rfl ?_
       obtain ⟨z41,hzz41,h⟩:=bind_some h
       refine ai.append (xs:=(x30).map (D.int .i64)) (ys:=([x32]).map (D.int .i64)) (zs:=(z41).map (D.int .i64)) H29 rfl rfl rfl (i:=1) rfl rfl AU FY dX (jw hzz41) F9 rfl (dP (enc:=(D.int .i64)) (fun _=>jA.symm) _) (dP (enc:=(D.int .i64)) (fun _=>jA.symm) _) Jw rfl (pG hzz41) (fun v42 S43 H44=>?_)
       refine ai.val rfl (ak rfl) rfl ?_
       refine ai.nil ?_
       exact ⟨⟨z41,v42⟩,_,_,S43,.refl _ _,.refl _,(aj.r rfl (aj.r rfl (aj.r rfl (aj.r rfl aj.nil)))),H44.sl [0,1] rfl rfl,h⟩
      ·
       replace h:=dJ hb40 h
       refine aB.skip ?_
       exact ⟨⟨x30,v31⟩,_,_,S28,.refl _ _,.refl _,(aj.r rfl (aj.r rfl (aj.r rfl (aj.r rfl aj.nil)))),H29.sl [0,1] rfl rfl,h⟩
    ·
     replace h:=dJ hb34 h
     refine aB.exit ?_
     refine aB.seq ?_
     refine aB.region E.obj rfl ?_
     refine ai.val rfl (aa rfl) rfl ?_
     refine ai.val rfl (ak rfl) rfl ?_
     refine ai.nil ?_
     have hr:=Option.some.inj h
     subst hr
     exact aB.ret ⟨_,rfl,rfl,mW (bM.grow H29 (i:=1) rfl .nil)⟩
end
end Pr
end Go.Ev

import Derived.Test.YtbjneeknddapfaaPartC
import Derived.Test.YtbjneeknddapfaaProg
import Derived.WalkKit
import Derived.ProofKit
namespace Go.Ev
theorem vC {C:fB} {ρ:Operand→Option AV} {S:St} {x:Operand} {g:Nat} {xs:Array Operand} {ts:Array Nat} {args:List AV} (hx:ρ x=some (.fn g [])) (ha:fU ρ xs.toList=some args):oper C ρ S (.call { callee:=.value x,args:=xs,argTypes:=ts })=some (.call g args):=by
 simp only [oper,hx,ha,List.append_nil]
theorem ak.r {t:Nat} {x:AV} {e2 e:Env} (h:AL.get e t=some x) (k:ak e2 e):ak ((t,x) :: e2) e:=.cons h (.refl _) k
theorem wD.o {x:AV} {a b:List (Option AV)} (k:wD a b):wD (some x :: a) (some x :: b):=.old (.refl _) k
theorem RL.v {R:bK} {C:fB} {nt:Nat} {ops:Array Oper} {srcs:List Src} {e0:Env} {ws:List (Option AV)} {S:St} {i:Nat} {o:Oper} {x:AV} {e:Env} {os:List Nat} (ho:ops[i]? = some o) (hx:ws[i]? = some (some x)) (he:oC ws e0 (srcs.getD i [])=some e) (hw:bL ops e o=some true) (h:oper C (bI e) S o.op=some (.val x S)) (k:RL R C nt ops srcs e0 ws S os):RL R C nt ops srcs e0 ws S (i :: os):=.cons ho hx he (.val hw h (.refl _)) k
theorem Has.sl {B S:St} {l:List bA} (h:Has B S l) (is:List Nat) (hn:decide is.Nodup=true) {l':List bA} (hl:is.map (fun i=>l[i]?)=l'.map some):Has B S l':=h.K4 is (of_decide_eq_true hn) hl
namespace Pr
set_option linter.unusedVariables false
set_option linter.unusedSimpArgs false
open Go.Proofs
noncomputable def cfg:fB:={ P:=Try.prog,good:=fun _=>true,rowT:=fun _=>false,prim:=fun _ _ _=>none,objT:=fun _=>none,hasPrim:=fun _=>false }
noncomputable def AX:fB:={ cfg with rowT:=fun t=>Nat.beq t 31 || Nat.beq t 85 }
noncomputable def pO:fB:={ cfg with rowT:=fun t=>Nat.beq t 31 }
theorem iZ:(bf cfg.P 31).isSome=true:=by kernel_rfl
theorem lG:cfg.P.follows .mixedOrders=true:=by kernel_rfl
theorem eH:bf cfg.P 31=some 3:=by kernel_rfl
theorem nZ:(dQ cfg.P 3).isSome=true:=by kernel_rfl
theorem jL:aJ cfg.P 3=1:=by kernel_rfl
theorem ni:dQ cfg.P 3=some false:=by kernel_rfl
theorem Cc:fA cfg.P 90 0=some (0,4):=by kernel_rfl
theorem KE:Nat.beq (aJ cfg.P 4) 0=false:=by kernel_rfl
theorem Lh:aJ cfg.P 4=1:=by kernel_rfl
theorem K3:(dQ cfg.P 4).isSome=true:=by kernel_rfl
theorem si:fA cfg.P 87 1=some (1,31):=by kernel_rfl
theorem p9:Nat.beq (aJ cfg.P 31) 0=false:=by kernel_rfl
theorem sF:dQ cfg.P 31=some false:=by kernel_rfl
theorem jy:fA cfg.P 87 0=some (0,85):=by kernel_rfl
theorem q8:Nat.beq (aJ cfg.P 85) 0=false:=by kernel_rfl
theorem rY:dQ cfg.P 85=some false:=by kernel_rfl
theorem GR:dQ cfg.P 90=some true:=by kernel_rfl
theorem oh:aJ cfg.P 90=7:=by kernel_rfl
theorem Fy:AX.rowT 85=true:=by kernel_rfl
theorem vN:bf cfg.P 85=some 90:=by kernel_rfl
theorem su:(dQ cfg.P 90).isSome=true:=by kernel_rfl
theorem Eu:zeroOf cfg.P 90=some (.agg [.bool false,.str [],.str [],.str [],.aT,.aT,.int .i64 0]):=by kernel_rfl
theorem HY:ik AX 85=true:=by kernel_rfl
theorem KG:bytesOf cfg.P 90=112:=by kernel_rfl
theorem II:eu AX 90=true:=by kernel_rfl
theorem KI:aJ cfg.P 85=1:=by kernel_rfl
theorem KM:(dQ cfg.P 85).isSome=true:=by kernel_rfl
theorem GM:(bf cfg.P 85).isSome=true:=by kernel_rfl
theorem Eo:(cfg.P.underlying 3).isSome=true:=by kernel_rfl
theorem GL:aJ cfg.P 31=1:=by kernel_rfl
theorem Gb:(dQ cfg.P 31).isSome=true:=by kernel_rfl
theorem JO:(Try.f58.name == "runtime.NumGoroutine")=false:=by kernel_rfl
theorem JX:(Try.f28.name == "runtime.NumGoroutine")=false:=by kernel_rfl
theorem JS:(Try.f13.name == "runtime.NumGoroutine")=false:=by kernel_rfl
theorem Kh:zeroOf cfg.P 87=some (.agg [.aT,.aT]):=by kernel_rfl
theorem Kz:(Try.f12.name == "runtime.NumGoroutine")=false:=by kernel_rfl
theorem Jl:cfg.objT 90=none:=by kernel_rfl
theorem KU:dQ cfg.P 4=some false:=by kernel_rfl
theorem qm:fA cfg.P 90 6=some (6,3):=by kernel_rfl
theorem G6:Nat.beq (aJ cfg.P 3) 0=false:=by kernel_rfl
theorem D7:cfg.rowT 31=false:=by kernel_rfl
theorem Ex:zeroOf cfg.P 3=some (.int .i64 0):=by kernel_rfl
theorem Gc:ik cfg 31=true:=by kernel_rfl
theorem Hd:bytesOf cfg.P 3=8:=by kernel_rfl
theorem Jw:eu cfg 3=true:=by kernel_rfl
theorem Kg:(Try.f18.name == "runtime.NumGoroutine")=false:=by kernel_rfl
theorem KA:(Try.f59.name == "runtime.NumGoroutine")=false:=by kernel_rfl
theorem J2:(Try.f64.name == "runtime.NumGoroutine")=false:=by kernel_rfl
theorem Jg:cfg.P.underlying 31=some (.slice 3):=by kernel_rfl
theorem Gg:vH pO 31 0=false:=by kernel_rfl
theorem nI:pO.rowT 31=true:=by kernel_rfl
theorem xy:ik pO 31=true:=by kernel_rfl
theorem BC:eu pO 3=true:=by kernel_rfl
theorem pX:cfg.P.underlying 91=some (.pointer 90):=by kernel_rfl
theorem lZ:fA cfg.P 90 5=some (5,31):=by kernel_rfl
theorem JC:(Try.f19.name == "runtime.NumGoroutine")=false:=by kernel_rfl
theorem J9:(Try.f66.name == "runtime.NumGoroutine")=false:=by kernel_rfl
theorem I1:cfg.P.underlying 36=some (.slice 54):=by kernel_rfl
theorem Eh:aJ cfg.P 54=2:=by kernel_rfl
theorem Jr:cfg.rowT 36=false:=by kernel_rfl
theorem Gu:bf cfg.P 36=some 54:=by kernel_rfl
theorem Iz:dQ cfg.P 54=some true:=by kernel_rfl
theorem KC:ik cfg 36=true:=by kernel_rfl
theorem JP:bytesOf cfg.P 54=32:=by kernel_rfl
theorem JG:eu cfg 54=true:=by kernel_rfl
theorem yg:cfg.objT 39=none:=by kernel_rfl
theorem jZ:zeroOf cfg.P 39=some (.agg [.str [],.str [],.str [],.aT,.aT]):=by kernel_rfl
theorem wR:fA cfg.P 90 1=some (1,9):=by kernel_rfl
theorem uf:Nat.beq (aJ cfg.P 9) 0=false:=by kernel_rfl
theorem uF:dQ cfg.P 9=some false:=by kernel_rfl
theorem E9:fA cfg.P 90 2=some (2,9):=by kernel_rfl
theorem BU:fA cfg.P 90 3=some (3,9):=by kernel_rfl
theorem CO:fA cfg.P 90 4=some (4,36):=by kernel_rfl
theorem Co:Nat.beq (aJ cfg.P 36) 0=false:=by kernel_rfl
theorem DJ:dQ cfg.P 36=some false:=by kernel_rfl
theorem fw:aJ cfg.P 39=5:=by kernel_rfl
theorem ow:(dQ cfg.P 39).isSome=true:=by kernel_rfl
theorem lq:fA cfg.P 39 4=some (4,37):=by kernel_rfl
theorem vM:Nat.beq (aJ cfg.P 37) 0=false:=by kernel_rfl
theorem xO:dQ cfg.P 37=some false:=by kernel_rfl
theorem zT:cfg.rowT 37=false:=by kernel_rfl
theorem qY:bf cfg.P 37=some 39:=by kernel_rfl
theorem jA:dQ cfg.P 39=some true:=by kernel_rfl
theorem IE:ik cfg 37=true:=by kernel_rfl
theorem Iw:bytesOf cfg.P 39=96:=by kernel_rfl
theorem IA:eu cfg 39=true:=by kernel_rfl
theorem JR:aJ cfg.P 37=1:=by kernel_rfl
theorem Ki:(dQ cfg.P 37).isSome=true:=by kernel_rfl
theorem Kq:(Try.f65.name == "runtime.NumGoroutine")=false:=by kernel_rfl
theorem J7:(Try.f21.name == "runtime.NumGoroutine")=false:=by kernel_rfl
theorem JH:(Try.f22.name == "runtime.NumGoroutine")=false:=by kernel_rfl
theorem Kb:(Try.f60.name == "runtime.NumGoroutine")=false:=by kernel_rfl
theorem J3:(Try.f84.name == "runtime.NumGoroutine")=false:=by kernel_rfl
theorem Kl:(Try.f85.name == "runtime.NumGoroutine")=false:=by kernel_rfl
theorem JE:(Try.f61.name == "runtime.NumGoroutine")=false:=by kernel_rfl
theorem J6:(Try.f14.name == "runtime.NumGoroutine")=false:=by kernel_rfl
theorem Kc:aJ cfg.P 36=1:=by kernel_rfl
theorem J8:(dQ cfg.P 36).isSome=true:=by kernel_rfl
theorem Ke:(Try.f29.name == "runtime.NumGoroutine")=false:=by kernel_rfl
theorem qo:fA cfg.P 39 0=some (0,9):=by kernel_rfl
theorem zG:fA cfg.P 39 2=some (2,9):=by kernel_rfl
theorem uD:fA cfg.P 39 1=some (1,9):=by kernel_rfl
theorem zJ:fA cfg.P 39 3=some (3,36):=by kernel_rfl
theorem Ct:(bf cfg.P 37).isSome=true:=by kernel_rfl
theorem Ko:(Try.f39.name == "runtime.NumGoroutine")=false:=by kernel_rfl
theorem KY:aJ cfg.P 9=1:=by kernel_rfl
theorem K6:(dQ cfg.P 9).isSome=true:=by kernel_rfl
theorem Kv:(Try.f31.name == "runtime.NumGoroutine")=false:=by kernel_rfl
theorem IL:cfg.objT 109=none:=by kernel_rfl
theorem GZ:zeroOf cfg.P 109=some (.agg [.str [],.str []]):=by kernel_rfl
theorem Ha:aJ cfg.P 109=2:=by kernel_rfl
theorem IP:(dQ cfg.P 109).isSome=true:=by kernel_rfl
theorem IK:dQ cfg.P 109=some true:=by kernel_rfl
theorem JA:(Try.f80.name == "runtime.NumGoroutine")=false:=by kernel_rfl
theorem qW:lS pO 107=some (109,31):=by kernel_rfl
theorem ES:pO.objT 39=none:=by kernel_rfl
theorem Ih:zeroOf cfg.P 31=some (.aT):=by kernel_rfl
theorem JB:(Try.f44.name == "runtime.NumGoroutine")=false:=by kernel_rfl
theorem JL:(Try.f15.name == "runtime.NumGoroutine")=false:=by kernel_rfl
theorem JZ:(Try.f63.name == "runtime.NumGoroutine")=false:=by kernel_rfl
theorem JJ:(Try.f16.name == "runtime.NumGoroutine")=false:=by kernel_rfl
theorem Kn:(Try.f17.name == "runtime.NumGoroutine")=false:=by kernel_rfl
theorem Ky:(Try.f46.name == "runtime.NumGoroutine")=false:=by kernel_rfl
theorem Kr:(Try.f73.name == "runtime.NumGoroutine")=false:=by kernel_rfl
theorem Ce:lS cfg 30=some (3,3):=by kernel_rfl
theorem Ir:cfg.P.underlying 3=some (.int .i64):=by kernel_rfl
theorem Ka:(Try.f74.name == "runtime.NumGoroutine")=false:=by kernel_rfl
theorem JM:(Try.f40.name == "runtime.NumGoroutine")=false:=by kernel_rfl
theorem Hy:(bf cfg.P 36).isSome=true:=by kernel_rfl
theorem IV:(dQ cfg.P 54).isSome=true:=by kernel_rfl
theorem J4:(Try.f75.name == "runtime.NumGoroutine")=false:=by kernel_rfl
theorem KF:(Try.f41.name == "runtime.NumGoroutine")=false:=by kernel_rfl
theorem Jz:(Try.f24.name == "runtime.NumGoroutine")=false:=by kernel_rfl
theorem Hz:lS cfg 77=some (3,4):=by kernel_rfl
theorem K9:zeroOf cfg.P 4=some (.bool false):=by kernel_rfl
theorem KQ:(cfg.P.underlying 3).isSome=true:=by kernel_rfl
theorem KR:DU cfg.P 5=some .u8:=by kernel_rfl
theorem Jo:cfg.rowT 44=false:=by kernel_rfl
theorem Jk:bf cfg.P 44=some 5:=by kernel_rfl
theorem KT:dQ cfg.P 5=some false:=by kernel_rfl
theorem KP:zeroOf cfg.P 5=some (.int .u8 0):=by kernel_rfl
theorem KS:aJ cfg.P 5=1:=by kernel_rfl
theorem I4:qE cfg 44=true:=by kernel_rfl
theorem KN:vV cfg.P 9=true:=by kernel_rfl
theorem JD:(Try.f51.name == "runtime.NumGoroutine")=false:=by kernel_rfl
theorem F8:cfg.P.underlying 23=some (.pointer 87):=by kernel_rfl
theorem JK:(Try.f42.name == "runtime.NumGoroutine")=false:=by kernel_rfl
theorem K7:(Try.f9.name == "runtime.NumGoroutine")=false:=by kernel_rfl
theorem qi:oper.P_place cfg 90=some (sw [(0,1),(1,1),(2,1),(3,1),(4,1),(5,1),(6,1)]):=oH (by kernel_rfl)
theorem wO:oper.P_place cfg 87=some (sw [(0,1),(1,1)]):=oH (by kernel_rfl)
theorem dI:oper.P_place cfg 39=some (sw [(0,1),(1,1),(2,1),(3,1),(4,1)]):=oH (by kernel_rfl)
theorem vL:oper.P_place cfg 109=some (sw [(0,1),(1,1)]):=oH (by kernel_rfl)
theorem uz:oper.P_place pO 90=some (sw [(0,1),(1,1),(2,1),(3,1),(4,1),(5,1),(6,1)]):=oH (by kernel_rfl)
theorem Hq (x y:aR):AV.eqv cfg.P 109 (.d (.agg [(.str x.tag),(.str x.key)])) (.d (.agg [(.str y.tag),(.str y.key)]))=some (aR.beq x y) :=
 A8 (by kernel_rfl) Try.underlying109 (by kernel_rfl) (by kernel_rfl)
theorem I8 (x y:Attr):AV.eqv cfg.P 54 (.d (.agg [(.str x.Name),(.str x.Value)])) (.d (.agg [(.str y.Name),(.str y.Value)]))=some (Attr.beq x y) :=
 A8 (by kernel_rfl) Try.underlying54 (by kernel_rfl) (by kernel_rfl)
theorem HV (x y:aR):aR.beq x y=(x == y):=by
 rw [Bool.eq_iff_iff]
 cases x; cases y
 simp [aR.beq]
theorem wW:nk cfg.P 109 aK where
 eq:=fun a b=>by rw [aR.eq,aR.eq,← IX (by kernel_rfl),Hq,HV]
 same:=fun a=>by rw [aR.eq]; simp [D.same,D.kS]
 ok:=fun a=>by rw [aR.eq]; exact Ab Try.underlying109 rfl (by kernel_rfl)
def Le:List Src:=[[(0,none)],[(5,none)],[(17,some 0),(18,some 1)],[(19,some 2)],[(1,none)],[(5,none)],[(21,some 4),(22,some 5)],[(23,some 6)],[(20,some 3),(24,some 7)]]
def Lg:List Src:=[[(0,none)],[(0,none)],[(17,some 1)],[(18,some 2)],[(19,some 3)],[(3,none)],[(21,some 5)],[(20,some 4),(22,some 6)],[(16,some 0)],[(24,some 8)],[(23,some 7),(25,some 9)]]
def K8:List Src:=[[(0,none)],[(47,some 0)],[(48,some 1)],[(49,some 2)],[(6,none)],[(51,some 4)],[(3,none)],[(50,some 3),(52,some 5)],[(53,some 6),(54,some 7)]]
def Lc:List Src:=[[(5,none)],[(17,some 0)],[(5,none)],[(19,some 2)],[(5,none)],[(21,some 4)],[(5,none)],[(23,some 6)],[(24,some 7)],[(18,some 1),(20,some 3),(22,some 5),(25,some 8)],[],[(6,some 10),(26,some 9)]]
def La:List Src:=[[(6,none)],[(34,some 0)],[(0,none)],[(8,none)],[(36,some 2),(37,some 3)],[(38,some 4)],[(35,some 1),(39,some 5)],[(6,none)],[(40,some 6),(41,some 7)]]
def KW:List Src:=[[(0,none)],[(3,some 0)],[(4,some 1)],[(5,some 2)],[(6,some 3)],[(0,none)],[(8,some 5)],[(9,some 6)],[(10,some 7)],[(11,some 8)],[(7,some 4),(12,some 9)],[(13,some 10)]]
def KZ:List Src:=[[(0,none)],[(1,none)],[(20,some 0),(21,some 1)],[(0,none)],[(2,none)],[(23,some 3),(24,some 4)],[(22,some 2),(25,some 5)],[(26,some 6)]]
def KX:List Src:=[[(0,none)],[(19,some 0)],[(20,some 1)],[(21,some 2)],[(4,none)],[(23,some 4)],[(24,some 5)],[(25,some 6)],[(26,some 7)],[(22,some 3),(27,some 8)],[(28,some 9)]]
def K5:List Src:=[[(9,none)],[(9,none)],[(44,some 1)],[(45,some 2)],[(46,some 3)],[(3,none)],[(9,none)],[(49,some 6)],[(50,some 7)],[(51,some 8)],[(52,some 9)],[(48,some 5),(53,some 10)],[(54,some 11)],[(2,none)],[(56,some 13)],[(47,some 4),(55,some 12),(57,some 14)],[(43,some 0)],[(59,some 16)],[(58,some 15),(60,some 17)]]
def Lf:List Src:=[[(5,none)],[(7,none)],[(21,some 1)],[(5,none)],[(7,none)],[(24,some 4)],[(23,some 3),(25,some 5)],[(6,none)],[(27,some 7)],[(26,some 6),(28,some 8)],[(20,some 0),(22,some 2),(29,some 9)]]
def Kw:List Src:=[[(5,none)],[(10,none)],[(54,some 1)],[(11,none)],[(56,some 3)],[(53,some 0),(55,some 2),(57,some 4)]]
def KH:List Src:=[[(0,none)],[(9,none)],[(53,some 0),(54,some 1)],[(5,none)],[(56,some 3)],[(55,some 2),(57,some 4)],[(58,some 5)]]
def Kt:List Src:=[[(0,none)],[(9,none)],[(10,none)],[(13,none)],[(108,some 2),(109,some 3)],[(110,some 4)],[(107,some 1),(111,some 5)],[(112,some 6)],[(14,none)],[(106,some 0),(113,some 7),(114,some 8)]]
def JI:List Src:=[[(2,none)],[(48,some 0)],[(5,none)],[(49,some 1),(50,some 2)],[(51,some 3)],[(3,none)],[(53,some 5)],[(5,none)],[(54,some 6),(55,some 7)],[(56,some 8)],[(52,some 4),(57,some 9)],[(58,some 10)]]
def Bp:List Src:=[[(4,none)],[(32,some 0)],[(33,some 1)],[(6,none),(34,some 2)],[(34,some 2),(35,some 3)],[(36,some 4)],[(5,none),(37,some 5)],[(38,some 6),(37,some 5)],[(39,some 7),(37,some 5)],[(37,some 5),(40,some 8)],[(41,some 9)],[(7,none),(42,some 10)],[(43,some 11),(42,some 10)],[(44,some 12),(42,some 10)],[(42,some 10),(45,some 13)],[(46,some 14)],[(5,none),(47,some 15)],[(48,some 16),(47,some 15)],[(49,some 17),(47,some 15)],[(7,none),(47,some 15)],[(51,some 19),(47,some 15)],[(52,some 20),(47,some 15)],[(50,some 18),(53,some 21),(47,some 15)],[(47,some 15),(54,some 22)],[(55,some 23)],[(5,none),(56,some 24)],[(57,some 25),(56,some 24)],[(58,some 26),(56,some 24)],[(7,none),(56,some 24)],[(60,some 28),(56,some 24)],[(61,some 29),(56,some 24)],[(59,some 27),(62,some 30),(56,some 24)],[(56,some 24),(63,some 31)],[(64,some 32)],[(1,none),(65,some 33)],[(4,none),(65,some 33)],[(66,some 34),(67,some 35),(65,some 33)],[(68,some 36),(65,some 33)],[(65,some 33),(69,some 37)],[(70,some 38)],[(1,none),(71,some 39)],[(72,some 40),(71,some 39)],[(73,some 41),(71,some 39)],[(71,some 39),(74,some 42)],[(75,some 43)]]
def Ji:List Src:=[[(22,none)],[(112,some 0)],[(113,some 1)],[(21,none),(114,some 2)],[(8,none),(114,some 2)],[(17,none),(114,some 2)],[(116,some 4),(117,some 5),(114,some 2)],[(118,some 6),(114,some 2)],[(115,some 3),(119,some 7),(114,some 2)],[(120,some 8),(114,some 2)],[(114,some 2),(121,some 9)]]
structure Jm (R:bK):Prop where
 obj:ll R cfg
 insp:zP R cfg.P 62 lK
section
variable {R:bK} (E:Jm R)
include E
theorem rF:ll R AX:=⟨E.obj.toObjOk,E.obj.new⟩
theorem dG:ll R pO:=⟨E.obj.toObjOk,E.obj.new⟩
set_option maxRecDepth 20000 in
set_option maxHeartbeats 4000000 in
theorem qx (n:Nat) (a2:au) (a6:az) (r:(Int × au)) (h:jb n a2 a6=some r) (b1:Nat) (v3:AV) (ws4:List (List AV)) (w5:AV):cK R cfg.P 58 [.ptr b1 0 0,.d (dh a6)] [.box b1 [v3,w5],ay ae ah.kids 7 5 v3 ws4 a2.l none,aG w5 a2.freed] (fun v l=>v=.d (.int .i64 r.1)∧∃ dv0 dws0 dw0,l=[.box b1 [dv0,dw0],ay ae ah.kids 7 5 dv0 dws0 r.2.l none,aG dw0 r.2.freed]):=by
 unfold jb at h
 refine cK.of_wp (C:=AX) Try.func58 rfl JO rfl (fun B0 S0 H0=>?_)
 replace H0:Has B0 S0 [.box b1 [v3,w5],ay ae ah.kids 7 5 v3 ws4 a2.l none,aG w5 a2.freed]:=H0
 refine aA.seq ?_
 refine aA.region (rF E) rfl ?_
 refine ai.box H0 rfl rfl rfl (az.gu _) rfl (fun b7 S8 H9=>?_)
 refine ai.val rfl (aj rfl) rfl ?_
 refine ai.nil ?_
 refine aA.seq ?_
 refine aA.region (rF E) rfl ?_
 refine ai.val rfl (aC rfl Cc KE rfl) rfl ?_
 refine ai.store H9 (i:=0) rfl rfl rfl rfl rfl rfl Lh rfl K3 rfl rfl rfl (fun S10 H11=>?_)
 refine ai.nil ?_
 refine aA.seq ?_
 refine aA.region (rF E) rfl ?_
 refine ai.val rfl (aa rfl) rfl ?_
 refine ai.val rfl (bu rfl) rfl ?_
 refine ai.val rfl (aC rfl si p9 rfl) rfl ?_
 refine ai.val rfl (aL H11 (i:=1) rfl rfl (aQ sF rfl)) rfl ?_
 refine ai.val rfl (jh H11 (i:=3) rfl rfl iZ) rfl ?_
 refine ai.val rfl (aB rfl rfl gV) rfl ?_
 refine ai.val rfl (aj rfl) rfl ?_
 refine ai.nil ?_
 refine aA.seq ?_
 refine aA.seq ?_
 refine aA.region (rF E) rfl ?_
 refine ai.val rfl (aa rfl) rfl ?_
 refine ai.val rfl (aB rfl rfl dN) rfl ?_
 refine ai.nil ?_
 refine aA.cond rfl (fun hb12=>?_) (fun hb12=>?_)
 ·
  replace h:=dF hb12 h
  refine aA.seq ?_
  obtain ⟨z17,hzz17,h⟩:=bind_some h
  refine aA.iV (rF E) lG Lg [(0,none)] (by kernel_rfl) [6,7,10] (by decide) [some (.ptr b1 0 0),some (.ptr b1 0 0),some (.ptr b1 0 0),some (.ptr b1 0 0),some v3,some (.d (dh (az.mk true a6.tag a6.key a6.text a6.attrs a6.parent))),none,none,none,none,none] ?_
  refine ⟨[0,1,2,3,4,5],by kernel_rfl,?_,_,_,rfl,rfl,.step ?_⟩
  ·
   refine .v rfl rfl rfl rfl (aa rfl) ?_
   refine .v rfl rfl rfl rfl (aa rfl) ?_
   refine .v rfl rfl rfl rfl (bu rfl) ?_
   refine .v rfl rfl rfl rfl (aC rfl jy q8 rfl) ?_
   refine .v rfl rfl rfl rfl (aL H11 (i:=1) rfl rfl (aQ rY rfl)) ?_
   refine .cons rfl rfl rfl (.step ?_) ?_
   ·
    refine ai.val rfl (aL H11 (i:=0) rfl rfl (dO GR oh rfl)) rfl ?_
    refine ai.less (Less.agg' (d:=dh (az.mk true a6.tag a6.key a6.text a6.attrs a6.parent)) (aH.eq rfl (aH.eq rfl (aH.eq rfl (aH.eq rfl (aH.eq rfl (aH.eq rfl (aH.eq rfl .nil))))))) ((az.eq _).trans rfl)) ?_
    exact ai.nil ⟨_,_,rfl,fun _ ht=>by cases ht; exact ⟨rfl,.refl _⟩⟩
   exact .nil
  refine ai.oz (vs:=[(.d (dh (az.mk true a6.tag a6.key a6.text a6.attrs a6.parent)))]) (cs:=[[(.d (.bool (az.mk true a6.tag a6.key a6.text a6.attrs a6.parent).lives)),(.d (.str (az.mk true a6.tag a6.key a6.text a6.attrs a6.parent).tag)),(.d (.str (az.mk true a6.tag a6.key a6.text a6.attrs a6.parent).key)),(.d (.str (az.mk true a6.tag a6.key a6.text a6.attrs a6.parent).text)),(.d (.sl (((az.mk true a6.tag a6.key a6.text a6.attrs a6.parent).attrs).map aD) false)),(.d .aT),(.d (.int .i64 (az.mk true a6.tag a6.key a6.text a6.attrs a6.parent).parent))]]) H11 rfl Fy vN su Eu oh rfl (by decide) (.cons (E8 (az.gu _)) rfl .nil) rfl rfl rfl (fun v26 S27 H28=>?_)
  have H29:Has B0 S27 [fD 7 1 v26 [(.d (.bool (az.mk true a6.tag a6.key a6.text a6.attrs a6.parent).lives)),(.d (.str (az.mk true a6.tag a6.key a6.text a6.attrs a6.parent).tag)),(.d (.str (az.mk true a6.tag a6.key a6.text a6.attrs a6.parent).key)),(.d (.str (az.mk true a6.tag a6.key a6.text a6.attrs a6.parent).text)),(.d (.sl (((az.mk true a6.tag a6.key a6.text a6.attrs a6.parent).attrs).map aD) false)),(.d .aT),(.d (.int .i64 (az.mk true a6.tag a6.key a6.text a6.attrs a6.parent).parent))],.box b7 [(.d (.bool true)),(.d (.str a6.tag)),(.d (.str a6.key)),(.d (.str a6.text)),(.d (.sl ((a6.attrs).map aD) false)),(.d .aT),(.d (.int .i64 a6.parent))],.box b1 [v3,w5],ay ae ah.kids 7 5 v3 ws4 a2.l none,aG w5 a2.freed]:=H28.sl [0,1,2,3,4] rfl rfl
  refine ai.nil ⟨_,_,_,rfl,(fun _ ht=>by cases ht; rfl),[some (.ptr b1 0 0),some (.ptr b1 0 0),some (.ptr b1 0 0),some (.ptr b1 0 0),some v3,some (.d (dh (az.mk true a6.tag a6.key a6.text a6.attrs a6.parent))),some v26,none,none,none,none],(.o (.o (.o (.o (.o (.o (.new (.new (.new (.new (.new .nil))))))))))),(fun _ ht=>by cases ht; exact ⟨_,rfl,.refl _⟩),?_⟩
  refine ⟨[0,1,2,3,4],by kernel_rfl,?_,_,_,rfl,rfl,.step ?_⟩
  ·
   refine .v rfl rfl rfl rfl (aa rfl) ?_
   refine .v rfl rfl rfl rfl (aa rfl) ?_
   refine .v rfl rfl rfl rfl (bu rfl) ?_
   refine .v rfl rfl rfl rfl (aC rfl jy q8 rfl) ?_
   refine .v rfl rfl rfl rfl (aL H29 (i:=2) rfl rfl (aQ rY rfl)) ?_
   exact .nil
  have H30:Has B0 S27 ([fD 7 1 v26 [(.d (.bool (az.mk true a6.tag a6.key a6.text a6.attrs a6.parent).lives)),(.d (.str (az.mk true a6.tag a6.key a6.text a6.attrs a6.parent).tag)),(.d (.str (az.mk true a6.tag a6.key a6.text a6.attrs a6.parent).key)),(.d (.str (az.mk true a6.tag a6.key a6.text a6.attrs a6.parent).text)),(.d (.sl (((az.mk true a6.tag a6.key a6.text a6.attrs a6.parent).attrs).map aD) false)),(.d .aT),(.d (.int .i64 (az.mk true a6.tag a6.key a6.text a6.attrs a6.parent).parent))],ay ae ah.kids 7 5 v3 ws4 a2.l none] ++ [.box b7 [(.d (.bool true)),(.d (.str a6.tag)),(.d (.str a6.key)),(.d (.str a6.text)),(.d (.sl ((a6.attrs).map aD) false)),(.d .aT),(.d (.int .i64 a6.parent))],.box b1 [v3,w5],aG w5 a2.freed]):=H29.sl [0,3,1,2,4] rfl rfl
  replace H30:Has B0 S27 [fD 7 1 v26 [(.d (.bool (az.mk true a6.tag a6.key a6.text a6.attrs a6.parent).lives)),(.d (.str (az.mk true a6.tag a6.key a6.text a6.attrs a6.parent).tag)),(.d (.str (az.mk true a6.tag a6.key a6.text a6.attrs a6.parent).key)),(.d (.str (az.mk true a6.tag a6.key a6.text a6.attrs a6.parent).text)),(.d (.sl (((az.mk true a6.tag a6.key a6.text a6.attrs a6.parent).attrs).map aD) false)),(.d .aT),(.d (.int .i64 (az.mk true a6.tag a6.key a6.text a6.attrs a6.parent).parent))],ay ae ah.kids 7 5 v3 ws4 a2.l none,.box b7 [(.d (.bool true)),(.d (.str a6.tag)),(.d (.str a6.key)),(.d (.str a6.text)),(.d (.sl ((a6.attrs).map aD) false)),(.d .aT),(.d (.int .i64 a6.parent))],.box b1 [v3,w5],aG w5 a2.freed]:=H30
  refine ai.Cm (z:=(ah.mk (az.mk true a6.tag a6.key a6.text a6.attrs a6.parent).lives (az.mk true a6.tag a6.key a6.text a6.attrs a6.parent).tag (az.mk true a6.tag a6.key a6.text a6.attrs a6.parent).key (az.mk true a6.tag a6.key a6.text a6.attrs a6.parent).text (az.mk true a6.tag a6.key a6.text a6.attrs a6.parent).attrs [] (az.mk true a6.tag a6.key a6.text a6.attrs a6.parent).parent)) H30 rfl rfl rfl Fy HY vN oh hzz17 KG rfl II ⟨rfl,rfl,rfl,(.cons (.refl _) (.cons (.refl _) (.cons (.refl _) (.cons (.refl _) (.cons (.refl _) (.cons (Less.any _) (.cons (.refl _) .nil)))))))⟩ rfl rfl rfl (fun v31 ws32 S33 H34=>?_)
  have H35:Has B0 S33 [.box b7 [(.d (.bool true)),(.d (.str a6.tag)),(.d (.str a6.key)),(.d (.str a6.text)),(.d (.sl ((a6.attrs).map aD) false)),(.d .aT),(.d (.int .i64 a6.parent))],.box b1 [v3,w5],ay ae ah.kids 7 5 v31 ws32 z17 none,aG w5 a2.freed]:=H34.sl [1,2,0,3] rfl rfl
  refine ai.nil ⟨_,_,_,rfl,(fun _ ht=>by cases ht; rfl),[some (.ptr b1 0 0),some (.ptr b1 0 0),some (.ptr b1 0 0),some (.ptr b1 0 0),some v3,some (.d (dh (az.mk true a6.tag a6.key a6.text a6.attrs a6.parent))),some v26,some v31,some (.ptr b1 0 0),some (.ptr b1 0 0),none],(.o (.o (.o (.o (.o (.o (.o (.new (.new (.new (.new .nil))))))))))),(fun _ ht=>by cases ht; exact ⟨_,rfl,.refl _⟩),?_⟩
  refine ⟨[0,8,9],by kernel_rfl,?_,_,_,rfl,rfl,.step ?_⟩
  ·
   refine .v rfl rfl rfl rfl (aa rfl) ?_
   refine .v rfl rfl rfl rfl (bu rfl) ?_
   refine .v rfl rfl rfl rfl (aC rfl jy q8 rfl) ?_
   exact .nil
  refine ai.store H35 (i:=1) rfl rfl rfl rfl (xP H35 (i:=2) rfl).2 rfl KI (xP H35 (i:=2) rfl).1 KM rfl rfl rfl (fun S36 H37=>?_)
  refine ai.nil ⟨_,.any,_,rfl,(fun _ ht=>by cases ht),[some (.ptr b1 0 0),some (.ptr b1 0 0),some (.ptr b1 0 0),some (.ptr b1 0 0),some v3,some (.d (dh (az.mk true a6.tag a6.key a6.text a6.attrs a6.parent))),some v26,some v31,some (.ptr b1 0 0),some (.ptr b1 0 0),some .any],(.o (.o (.o (.o (.o (.o (.o (.o (.o (.o (.new .nil))))))))))),(fun _ ht=>by cases ht),?_⟩
  refine ⟨[],by kernel_rfl,?_,_,rfl,?_⟩
  ·
   exact .nil
  refine aA.seq ?_
  refine aA.region (rF E) rfl ?_
  refine ai.val rfl (aa rfl) rfl ?_
  refine ai.val rfl (bu rfl) rfl ?_
  refine ai.val rfl (aC rfl jy q8 rfl) rfl ?_
  refine ai.val rfl (aL H37 (i:=1) rfl rfl (aQ rY rfl)) rfl ?_
  refine ai.val rfl (qX H37 (i:=2) rfl rfl GM) rfl ?_
  refine ai.val rfl (aj rfl) rfl ?_
  refine ai.nil ?_
  have hr:=Option.some.inj h
  subst hr
  exact aA.ret ⟨_,rfl,rfl,_,_,_,.refl _,(.refl _),⟨rfl,v31,ws32,w5,rfl⟩,H37.sl [1,2,3] rfl rfl⟩
 ·
  replace h:=dH hb12 h
  refine aA.skip ?_
  refine aA.seq ?_
  refine aA.region (rF E) rfl ?_
  refine ai.val rfl (aa rfl) rfl ?_
  refine ai.val rfl (bu rfl) rfl ?_
  refine ai.val rfl (aC rfl si p9 rfl) rfl ?_
  refine ai.val rfl (aL H11 (i:=1) rfl rfl (aQ sF rfl)) rfl ?_
  refine ai.val rfl (aa rfl) rfl ?_
  obtain ⟨z38,hzz38,h⟩:=bind_some h
  refine ai.val rfl (qg H11 (q:=3) rfl hzz38 rfl rfl eH nZ jL) rfl ?_
  refine ai.val rfl (pq H11 (q:=3) rfl hzz38 rfl ni) rfl ?_
  refine ai.val rfl (aj rfl) rfl ?_
  refine ai.nil ?_
  refine aA.seq ?_
  refine aA.region (rF E) rfl ?_
  refine ai.val rfl (aa rfl) rfl ?_
  refine ai.val rfl (aa rfl) rfl ?_
  refine ai.val rfl (bu rfl) rfl ?_
  refine ai.val rfl (aC rfl si p9 rfl) rfl ?_
  refine ai.val rfl (aL H11 (i:=1) rfl rfl (aQ sF rfl)) rfl ?_
  refine ai.val rfl (aa rfl) rfl ?_
  obtain ⟨z39,hzz39,h⟩:=bind_some h
  have H40:Has B0 S10 ([aG w5 a2.freed] ++ [.box b7 [(.d (.bool true)),(.d (.str a6.tag)),(.d (.str a6.key)),(.d (.str a6.text)),(.d (.sl ((a6.attrs).map aD) false)),(.d .aT),(.d (.int .i64 a6.parent))],.box b1 [v3,w5],ay ae ah.kids 7 5 v3 ws4 a2.l none]):=H11.sl [3,0,1,2] rfl rfl
  replace H40:Has B0 S10 [aG w5 a2.freed,.box b7 [(.d (.bool true)),(.d (.str a6.tag)),(.d (.str a6.key)),(.d (.str a6.text)),(.d (.sl ((a6.attrs).map aD) false)),(.d .aT),(.d (.int .i64 a6.parent))],.box b1 [v3,w5],ay ae ah.kids 7 5 v3 ws4 a2.l none]:=H40
  refine ai.IG H40 rfl rfl rfl eH Eo jL hzz39 rfl (fun w41 H42=>?_)
  have H43:Has B0 S10 [.box b7 [(.d (.bool true)),(.d (.str a6.tag)),(.d (.str a6.key)),(.d (.str a6.text)),(.d (.sl ((a6.attrs).map aD) false)),(.d .aT),(.d (.int .i64 a6.parent))],.box b1 [v3,w5],ay ae ah.kids 7 5 v3 ws4 a2.l none,aG w41 z39]:=H42.sl [1,2,3,0] rfl rfl
  refine ai.val rfl (bu rfl) rfl ?_
  refine ai.val rfl (aC rfl si p9 rfl) rfl ?_
  refine ai.store H43 (i:=1) rfl rfl rfl rfl (qQ H43 (i:=3) rfl).2 rfl GL (qQ H43 (i:=3) rfl).1 Gb rfl rfl rfl (fun S44 H45=>?_)
  refine ai.nil ?_
  refine aA.seq ?_
  obtain ⟨z46,hzz46,h⟩:=bind_some h
  refine aA.iV (rF E) lG K8 [(6,none)] (by kernel_rfl) [8] (by decide) [some (.ptr b1 0 0),some (.ptr b1 0 0),some (.ptr b1 0 0),some v3,some (.d (.int .i64 z38)),some (.d (.int .i64 (IntKind.wrap .i64 (z38 - 1)))),some (.d (dh (az.mk true a6.tag a6.key a6.text a6.attrs a6.parent))),some (bq v3 (Int.toNat (IntKind.wrap .i64 (z38 - 1))) 0),none] ?_
  refine ⟨[0,1,2,3,4,5,6,7],by kernel_rfl,?_,_,_,rfl,rfl,.step ?_⟩
  ·
   refine .v rfl rfl rfl rfl (aa rfl) ?_
   refine .v rfl rfl rfl rfl (bu rfl) ?_
   refine .v rfl rfl rfl rfl (aC rfl jy q8 rfl) ?_
   refine .v rfl rfl rfl rfl (aL H45 (i:=1) rfl rfl (aQ rY rfl)) ?_
   refine .v rfl rfl rfl rfl (aa rfl) ?_
   refine .v rfl rfl rfl rfl (aB rfl rfl gV) ?_
   refine .cons rfl rfl rfl (.step ?_) ?_
   ·
    refine ai.val rfl (aL H45 (i:=0) rfl rfl (dO GR oh rfl)) rfl ?_
    refine ai.less (Less.agg' (d:=dh (az.mk true a6.tag a6.key a6.text a6.attrs a6.parent)) (aH.eq rfl (aH.eq rfl (aH.eq rfl (aH.eq rfl (aH.eq rfl (aH.eq rfl (aH.eq rfl .nil))))))) ((az.eq _).trans rfl)) ?_
    exact ai.nil ⟨_,_,rfl,fun _ ht=>by cases ht; exact ⟨rfl,.refl _⟩⟩
   refine .v rfl rfl rfl rfl (fI H45 (i:=2) rfl hzz46 rfl rfl vN su oh) ?_
   exact .nil
  have H55:Has B0 S44 ([ay ae ah.kids 7 5 v3 ws4 a2.l none] ++ [.box b7 [(.d (.bool true)),(.d (.str a6.tag)),(.d (.str a6.key)),(.d (.str a6.text)),(.d (.sl ((a6.attrs).map aD) false)),(.d .aT),(.d (.int .i64 a6.parent))],.box b1 [v3,w41],aG w41 z39]):=H45.sl [2,0,1,3] rfl rfl
  replace H55:Has B0 S44 [ay ae ah.kids 7 5 v3 ws4 a2.l none,.box b7 [(.d (.bool true)),(.d (.str a6.tag)),(.d (.str a6.key)),(.d (.str a6.text)),(.d (.sl ((a6.attrs).map aD) false)),(.d .aT),(.d (.int .i64 a6.parent))],.box b1 [v3,w41],aG w41 z39]:=H55
  refine ai.xD (z':=(ah.mk (az.mk true a6.tag a6.key a6.text a6.attrs a6.parent).lives (az.mk true a6.tag a6.key a6.text a6.attrs a6.parent).tag (az.mk true a6.tag a6.key a6.text a6.attrs a6.parent).key (az.mk true a6.tag a6.key a6.text a6.attrs a6.parent).text (az.mk true a6.tag a6.key a6.text a6.attrs a6.parent).attrs [] (az.mk true a6.tag a6.key a6.text a6.attrs a6.parent).parent)) H55 rfl hzz46 (.inl rfl) rfl rfl (az.gu _) rfl oh su rfl rfl rfl (.cons (.refl _) (.cons (.refl _) (.cons (.refl _) (.cons (.refl _) (.cons (.refl _) (.cons (Less.any _) (.cons (.refl _) .nil))))))) rfl rfl (fun ws54 S52 H53=>?_)
  have H56:Has B0 S52 [.box b7 [(.d (.bool true)),(.d (.str a6.tag)),(.d (.str a6.key)),(.d (.str a6.text)),(.d (.sl ((a6.attrs).map aD) false)),(.d .aT),(.d (.int .i64 a6.parent))],.box b1 [v3,w41],ay ae ah.kids 7 5 v3 ws54 (jw a2.l (IntKind.wrap .i64 (z38 - 1)) (ah.mk (az.mk true a6.tag a6.key a6.text a6.attrs a6.parent).lives (az.mk true a6.tag a6.key a6.text a6.attrs a6.parent).tag (az.mk true a6.tag a6.key a6.text a6.attrs a6.parent).key (az.mk true a6.tag a6.key a6.text a6.attrs a6.parent).text (az.mk true a6.tag a6.key a6.text a6.attrs a6.parent).attrs [] (az.mk true a6.tag a6.key a6.text a6.attrs a6.parent).parent)) none,aG w41 z39]:=H53.sl [1,2,0,3] rfl rfl
  refine ai.nil ⟨_,.any,_,rfl,(fun _ ht=>by cases ht),[some (.ptr b1 0 0),some (.ptr b1 0 0),some (.ptr b1 0 0),some v3,some (.d (.int .i64 z38)),some (.d (.int .i64 (IntKind.wrap .i64 (z38 - 1)))),some (.d (dh (az.mk true a6.tag a6.key a6.text a6.attrs a6.parent))),some (bq v3 (Int.toNat (IntKind.wrap .i64 (z38 - 1))) 0),some .any],(.o (.o (.o (.o (.o (.o (.o (.o (.new .nil))))))))),(fun _ ht=>by cases ht),?_⟩
  refine ⟨[],by kernel_rfl,?_,_,rfl,?_⟩
  ·
   exact .nil
  refine aA.seq ?_
  refine aA.region (rF E) rfl ?_
  refine ai.val rfl (aa rfl) rfl ?_
  refine ai.val rfl (aj rfl) rfl ?_
  refine ai.nil ?_
  have hr:=Option.some.inj h
  subst hr
  exact aA.ret ⟨_,rfl,rfl,_,_,_,.refl _,(.refl _),⟨rfl,v3,ws54,w41,rfl⟩,H56.sl [1,2,3] rfl rfl⟩
set_option maxRecDepth 20000 in
set_option maxHeartbeats 4000000 in
theorem pU (n:Nat) (a2:au) (a6:Str) (r:(Int × au)) (h:jm n a2 a6=some r) (b1:Nat) (v3:AV) (ws4:List (List AV)) (w5:AV):cK R cfg.P 28 [.ptr b1 0 0,.d (.str a6)] [.box b1 [v3,w5],ay ae ah.kids 7 5 v3 ws4 a2.l none,aG w5 a2.freed] (fun v l=>v=.d (.int .i64 r.1)∧∃ dv0 dws0 dw0,l=[.box b1 [dv0,dw0],ay ae ah.kids 7 5 dv0 dws0 r.2.l none,aG dw0 r.2.freed]):=by
 unfold jm at h
 refine cK.of_wp (C:=cfg) Try.func28 rfl JX rfl (fun B0 S0 H0=>?_)
 replace H0:Has B0 S0 [.box b1 [v3,w5],ay ae ah.kids 7 5 v3 ws4 a2.l none,aG w5 a2.freed]:=H0
 refine aA.seq ?_
 refine aA.region E.obj rfl ?_
 refine ai.val rfl (aj rfl) rfl ?_
 refine ai.nil ?_
 refine aA.seq ?_
 refine aA.region E.obj rfl ?_
 refine ai.val rfl (aa rfl) rfl ?_
 refine ai.val rfl (aa rfl) rfl ?_
 refine ai.val rfl (dR (cs:=[(.d (.bool false)),(.d (.str [])),(.d (.str [])),(.d (.str a6)),(.d .aT),(.d .aT),(.d (.int .i64 0))]) Eu rfl (qi) (gQ rfl rfl rfl rfl rfl)) rfl ?_
 refine ai.less (Less.agg' (d:=dh (az.mk false [] [] a6 [] 0)) (aH.eq rfl (aH.eq rfl (aH.eq rfl (aH.eq rfl (aH.iJ rfl (.aT false) rfl rfl (aH.eq rfl (aH.eq rfl .nil))))))) ((az.eq _).trans rfl)) ?_
 obtain ⟨z7,hzz7,h⟩:=bind_some h
 refine ai.eB (ins:=[.box b1 [v3,w5],ay ae ah.kids 7 5 v3 ws4 a2.l none,aG w5 a2.freed]) (more:=[]) (H0.sl [0,1,2] rfl rfl) rfl (aI rfl rfl) (qx E n _ _ _ hzz7 b1 v3 ws4 w5) (.cons (.refl _) (.cons (.refl _) .nil)) rfl ?_
 rintro _ S11 _ ⟨rfl,v8,ws9,w10,rfl⟩ H12
 have H13:Has B0 S11 [.box b1 [v8,w10],ay ae ah.kids 7 5 v8 ws9 z7.2.l none,aG w10 z7.2.freed]:=H12.sl [0,1,2] rfl rfl
 refine ai.val rfl (aj rfl) rfl ?_
 refine ai.nil ?_
 have hr:=Option.some.inj h
 subst hr
 exact aA.ret ⟨_,rfl,rfl,_,_,_,.refl _,(.refl _),⟨rfl,v8,ws9,w10,rfl⟩,H13.sl [0,1,2] rfl rfl⟩
set_option maxRecDepth 20000 in
set_option maxHeartbeats 4000000 in
theorem mr (n:Nat) (a2:au) (a6:Str) (a7:Str) (r:(Int × au)) (h:fT n a2 a6 a7=some r) (b1:Nat) (v3:AV) (ws4:List (List AV)) (w5:AV):cK R cfg.P 13 [.ptr b1 0 0,.d (.str a6),.d (.str a7)] [.box b1 [v3,w5],ay ae ah.kids 7 5 v3 ws4 a2.l none,aG w5 a2.freed] (fun v l=>v=.d (.int .i64 r.1)∧∃ dv0 dws0 dw0,l=[.box b1 [dv0,dw0],ay ae ah.kids 7 5 dv0 dws0 r.2.l none,aG dw0 r.2.freed]):=by
 unfold fT at h
 refine cK.of_wp (C:=cfg) Try.func13 rfl JS rfl (fun B0 S0 H0=>?_)
 replace H0:Has B0 S0 [.box b1 [v3,w5],ay ae ah.kids 7 5 v3 ws4 a2.l none,aG w5 a2.freed]:=H0
 refine aA.seq ?_
 refine aA.region E.obj rfl ?_
 refine ai.val rfl (aj rfl) rfl ?_
 refine ai.nil ?_
 refine aA.seq ?_
 refine aA.seq ?_
 refine aA.region E.obj rfl ?_
 refine ai.val rfl (aa rfl) rfl ?_
 refine ai.val rfl (aB rfl rfl om) rfl ?_
 refine ai.nil ?_
 refine aA.cond rfl (fun hb8=>?_) (fun hb8=>?_)
 ·
  replace h:=dF hb8 h
  refine aA.seq ?_
  refine aA.region E.obj rfl ?_
  refine ai.val rfl (aa rfl) rfl ?_
  obtain ⟨z9,hzz9,h⟩:=bind_some h
  refine ai.eB (ins:=[.box b1 [v3,w5],ay ae ah.kids 7 5 v3 ws4 a2.l none,aG w5 a2.freed]) (more:=[]) (H0.sl [0,1,2] rfl rfl) rfl (aI rfl rfl) (pU E n _ _ _ hzz9 b1 v3 ws4 w5) (.cons (.refl _) (.cons (.refl _) .nil)) rfl ?_
  rintro _ S13 _ ⟨rfl,v10,ws11,w12,rfl⟩ H14
  have H15:Has B0 S13 [.box b1 [v10,w12],ay ae ah.kids 7 5 v10 ws11 z9.2.l none,aG w12 z9.2.freed]:=H14.sl [0,1,2] rfl rfl
  refine ai.val rfl (aj rfl) rfl ?_
  refine ai.nil ?_
  have hr:=Option.some.inj h
  subst hr
  exact aA.ret ⟨_,rfl,rfl,_,_,_,.refl _,(.refl _),⟨rfl,v10,ws11,w12,rfl⟩,H15.sl [0,1,2] rfl rfl⟩
 ·
  replace h:=dH hb8 h
  refine aA.skip ?_
  refine aA.seq ?_
  refine aA.region E.obj rfl ?_
  refine ai.val rfl (aa rfl) rfl ?_
  refine ai.val rfl (aa rfl) rfl ?_
  refine ai.val rfl (aa rfl) rfl ?_
  refine ai.val rfl (dR (cs:=[(.d (.bool false)),(.d (.str a6)),(.d (.str a7)),(.d (.str [])),(.d .aT),(.d .aT),(.d (.int .i64 0))]) Eu rfl (qi) (gQ rfl rfl rfl rfl (gQ rfl rfl rfl rfl rfl))) rfl ?_
  refine ai.less (Less.agg' (d:=dh (az.mk false a6 a7 [] [] 0)) (aH.eq rfl (aH.eq rfl (aH.eq rfl (aH.eq rfl (aH.iJ rfl (.aT false) rfl rfl (aH.eq rfl (aH.eq rfl .nil))))))) ((az.eq _).trans rfl)) ?_
  obtain ⟨z16,hzz16,h⟩:=bind_some h
  refine ai.eB (ins:=[.box b1 [v3,w5],ay ae ah.kids 7 5 v3 ws4 a2.l none,aG w5 a2.freed]) (more:=[]) (H0.sl [0,1,2] rfl rfl) rfl (aI rfl rfl) (qx E n _ _ _ hzz16 b1 v3 ws4 w5) (.cons (.refl _) (.cons (.refl _) .nil)) rfl ?_
  rintro _ S20 _ ⟨rfl,v17,ws18,w19,rfl⟩ H21
  have H22:Has B0 S20 [.box b1 [v17,w19],ay ae ah.kids 7 5 v17 ws18 z16.2.l none,aG w19 z16.2.freed]:=H21.sl [0,1,2] rfl rfl
  refine ai.val rfl (aj rfl) rfl ?_
  refine ai.nil ?_
  have hr:=Option.some.inj h
  subst hr
  exact aA.ret ⟨_,rfl,rfl,_,_,_,.refl _,(.refl _),⟨rfl,v17,ws18,w19,rfl⟩,H22.sl [0,1,2] rfl rfl⟩
set_option maxRecDepth 20000 in
set_option maxHeartbeats 4000000 in
theorem wH (n:Nat)  (r:(Option au)) (h:qU n  = some r):cK R cfg.P 12 [] [] (fun v l=>match r with | none=>v=.d .nilp∧l=[] | some x=>∃ b dv dws dw,v=.ptr b 0 0∧l=[] ++ [.box b [dv,dw],ay ae ah.kids 7 5 dv dws x.l none,aG dw x.freed]):=by
 unfold qU at h
 refine cK.of_wp (C:=cfg) Try.func12 rfl Kz rfl (fun B0 S0 H0=>?_)
 replace H0:Has B0 S0 []:=H0
 refine aA.seq ?_
 refine aA.region E.obj rfl ?_
 refine ai.val rfl (aj rfl) rfl ?_
 refine ai.nil ?_
 refine aA.seq ?_
 refine aA.region E.obj rfl ?_
 refine ai.val rfl (dR (cs:=[(.d .aT),(.d .aT)]) Kh rfl (wO) rfl) rfl ?_
 refine ai.box H0 rfl rfl rfl rfl rfl (fun b1 S2 H3=>?_)
 have H4:=H3.Fb
 have H5:=Has.Gd ae ah.kids 7 5 rfl H4
 have H6:Has B0 S2 [.box b1 [(.d .aT),(.d .aT)],ay ae ah.kids 7 5 (.d .aT) [] [] none,aG (.d .aT) []]:=H5.sl [2,0,1] rfl rfl
 refine ai.val rfl (aj rfl) rfl ?_
 refine ai.nil ?_
 refine aA.seq ?_
 refine aA.region E.obj rfl ?_
 refine ai.val rfl (aa rfl) rfl ?_
 obtain ⟨z7,hzz7,h⟩:=bind_some h
 refine ai.eB (ins:=[.box b1 [(.d .aT),(.d .aT)],ay ae ah.kids 7 5 (.d .aT) [] [] none,aG (.d .aT) []]) (more:=[]) (H6.sl [0,1,2] rfl rfl) rfl (aI rfl rfl) (mr E n _ _ _ _ hzz7 b1 (.d .aT) [] (.d .aT)) (.cons (.refl _) (.cons (.refl _) (.cons (.refl _) .nil))) rfl ?_
 rintro _ S11 _ ⟨rfl,v8,ws9,w10,rfl⟩ H12
 have H13:Has B0 S11 [.box b1 [v8,w10],ay ae ah.kids 7 5 v8 ws9 z7.2.l none,aG w10 z7.2.freed]:=H12.sl [0,1,2] rfl rfl
 refine ai.nil ?_
 refine aA.seq ?_
 refine aA.region E.obj rfl ?_
 refine ai.val rfl (aa rfl) rfl ?_
 refine ai.val rfl (aj rfl) rfl ?_
 refine ai.nil ?_
 have hr:=Option.some.inj h
 subst hr
 exact aA.ret ⟨_,rfl,rfl,_,_,_,.refl _,(.refl _),⟨_,v8,ws9,w10,rfl,rfl⟩,H13.sl [0,1,2] rfl rfl⟩
set_option maxRecDepth 20000 in
set_option maxHeartbeats 4000000 in
theorem uA (n:Nat) (a2:au) (r:(List Int)) (h:jD n a2=some r) (b1:Nat) (v3:AV) (ws4:List (List AV)) (w5:AV):cK R cfg.P 18 [.ptr b1 0 0] [.box b1 [v3,w5],ay ae ah.kids 7 5 v3 ws4 a2.l none,aG w5 a2.freed] (fun v l=>v=.d (.sl ((r).map (D.int .i64)) false)∧l=[.box b1 [v3,w5],ay ae ah.kids 7 5 v3 ws4 a2.l none,aG w5 a2.freed]):=by
 unfold jD at h
 refine cK.of_wp (C:=cfg) Try.func18 rfl Kg rfl (fun B0 S0 H0=>?_)
 replace H0:Has B0 S0 [.box b1 [v3,w5],ay ae ah.kids 7 5 v3 ws4 a2.l none,aG w5 a2.freed]:=H0
 refine aA.seq ?_
 refine aA.region E.obj rfl ?_
 refine ai.val rfl (aj rfl) rfl ?_
 refine ai.nil ?_
 refine aA.seq ?_
 refine aA.region E.obj rfl ?_
 refine ai.val rfl (aj rfl) rfl ?_
 refine ai.nil ?_
 refine aA.seq ?_
 refine aA.seq ?_
 refine aA.region E.obj rfl ?_
 refine ai.val rfl (aa rfl) rfl ?_
 refine ai.val rfl (bu rfl) rfl ?_
 refine ai.val rfl (aC rfl jy q8 rfl) rfl ?_
 refine ai.val rfl (aL H0 (i:=0) rfl rfl (aQ rY rfl)) rfl ?_
 refine ai.val rfl (qX H0 (i:=1) rfl rfl GM) rfl ?_
 refine ai.val rfl (aa rfl) rfl ?_
 refine ai.nil ?_
 refine aA.block ?_
 have H38:=H0.Ei
 refine pM.start (B:=B0) (α:=(List Int) × AV × Int) (fun k a=>bW a2 k a.1 a.2.2=some r) (fun a=>[(3,a.2.1),(10,v3),(11,(.d (.int .i64 ((a2.l).length:Int)))),(12,(.d (.int .i64 a.2.2)))]) (fun a=>[.grow a.2.1 ((a.1).map (D.int .i64)),.box b1 [v3,w5],ay ae ah.kids 7 5 v3 ws4 a2.l none,aG w5 a2.freed]) ?_ ?_ n ⟨⟨[],(.d .aT),0⟩,_,_,S0,.refl _ _,.refl _,(ak.r rfl (ak.r rfl (ak.r rfl (ak.r rfl ak.nil)))),H38.sl [0,1,2,3] rfl rfl,h⟩
 ·
  intro a h; simp [bW] at h
 ·
  intro k18 a S13 H14 h
  obtain ⟨x15,v16,x17⟩:=a
  replace h:bW a2 (k18 + 1) x15 x17=some r:=h
  replace H14:Has B0 S13 [.grow v16 ((x15).map (D.int .i64)),.box b1 [v3,w5],ay ae ah.kids 7 5 v3 ws4 a2.l none,aG w5 a2.freed]:=H14
  unfold bW at h
  refine aA.seq ?_
  refine aA.region E.obj rfl ?_
  refine ai.val rfl (aB rfl rfl dN) rfl ?_
  refine ai.nil ?_
  refine aA.seq ?_
  refine aA.cond rfl (fun hb19=>?_) (fun hb19=>?_)
  ·
   replace h:=dF hb19 h
   refine aA.skip ?_
   refine aA.join (B:=B0) (α:=(List Int) × AV) (fun a=>fu x17 (bW a2 k18) a.1=some r) (fun a=>[(3,a.2),(10,v3),(11,(.d (.int .i64 ((a2.l).length:Int)))),(12,(.d (.int .i64 x17)))]) (fun a=>[.grow a.2 ((a.1).map (D.int .i64)),.box b1 [v3,w5],ay ae ah.kids 7 5 v3 ws4 a2.l none,aG w5 a2.freed]) ?_ ?_
   ·
    intro a S20 H21 h
    obtain ⟨x22,v23⟩:=a
    replace h:fu x17 (bW a2 k18) x22=some r:=h
    replace H21:Has B0 S20 [.grow v23 ((x22).map (D.int .i64)),.box b1 [v3,w5],ay ae ah.kids 7 5 v3 ws4 a2.l none,aG w5 a2.freed]:=H21
    unfold fu at h
    refine aA.region E.obj rfl ?_
    refine ai.val rfl (aB rfl rfl cO) rfl ?_
    refine ai.val rfl (aa rfl) rfl ?_
    refine ai.nil ?_
    exact ⟨⟨x22,v23,(IntKind.wrap .i64 (x17 + 1))⟩,_,_,S20,.refl _ _,.refl _,(ak.r rfl (ak.r rfl (ak.r rfl (ak.r rfl ak.nil)))),H21.sl [0,1,2,3] rfl rfl,h⟩
   ·
    refine aA.block ?_
    refine aA.seq ?_
    refine aA.region E.obj rfl ?_
    refine ai.val rfl (aa rfl) rfl ?_
    obtain ⟨z25,hzz25,h⟩:=bind_some h
    refine ai.val rfl (fI H14 (i:=2) rfl hzz25 rfl rfl vN su oh) rfl ?_
    refine ai.yU (cs:=[(.d (.bool z25.lives)),(.d (.str z25.tag)),(.d (.str z25.key)),(.d (.str z25.text)),(.d (.sl ((z25.attrs).map aD) false)),(gU 5 ws4 (Int.toNat x17)),(.d (.int .i64 z25.parent))]) H14 rfl (q:=2) rfl hzz25 rfl GR oh rfl rfl ?_
    refine ai.alloc H14 rfl Jl Eu rfl rfl (fun b26 S27 H28=>?_)
    refine ai.val rfl (aj rfl) rfl ?_
    refine ai.store H28 (i:=0) rfl rfl rfl rfl (uP _) rfl oh (uT _) su rfl rfl rfl (fun S29 H30=>?_)
    refine ai.nil ?_
    refine aA.seq ?_
    refine aA.region E.obj rfl ?_
    refine ai.val rfl (aa rfl) rfl ?_
    refine ai.val rfl (aB rfl rfl cO) rfl ?_
    refine ai.val rfl (aj rfl) rfl ?_
    refine ai.nil ?_
    refine aA.seq ?_
    refine aA.region E.obj rfl ?_
    refine ai.val rfl (aC rfl Cc KE rfl) rfl ?_
    refine ai.val rfl (aL H30 (i:=0) rfl rfl (aQ KU rfl)) rfl ?_
    refine ai.val rfl (aa rfl) rfl ?_
    refine ai.jr 4 25 (.d (.bool (z25.lives && (z25.parent == 0)))) ?_ ?_
    ·
     rcases Bool.eq_false_or_eq_true (z25.lives) with hB31 | hB31
     ·
      refine ai.bool hB31 ?_
      refine ai.val rfl (aC rfl qm G6 rfl) rfl ?_
      refine ai.val rfl (aL H30 (i:=0) rfl rfl (aQ ni rfl)) rfl ?_
      refine ai.val rfl (aB rfl rfl bC) rfl ?_
      refine ai.val rfl (aF (b:=true) rfl rfl) rfl ?_
      exact ai.nil ⟨_,rfl,(ak.put (ak.push rfl (ak.push rfl (ak.push rfl (ak.put (.refl _) (Less.eq (by rw [hB31])))))) (Less.eq (by rw [hB31]; rw [Bool.true_and])))⟩
     ·
      refine ai.bool hB31 ?_
      refine ai.no rfl rfl ?_
      refine ai.no rfl rfl ?_
      refine ai.no rfl rfl ?_
      refine ai.val rfl (aF (b:=false) rfl rfl) rfl ?_
      exact ai.nil ⟨_,rfl,(ak.put (ak.push rfl (ak.push rfl (ak.push rfl (ak.put (.refl _) (Less.eq (by rw [hB31])))))) (Less.eq (by rw [hB31]; rw [Bool.false_and])))⟩
    ·
     refine ai.val rfl (aa rfl) rfl ?_
     refine ai.jr 3 29 (.d (.bool ((z25.lives && (z25.parent == 0)) && ((IntKind.wrap .i64 (x17 + 1)) != 1)))) ?_ ?_
     ·
      rcases Bool.eq_false_or_eq_true ((z25.lives && (z25.parent == 0))) with hB32 | hB32
      ·
       refine ai.bool hB32 ?_
       refine ai.val rfl (aa rfl) rfl ?_
       refine ai.val rfl (aB rfl rfl ku) rfl ?_
       refine ai.val rfl (aF (b:=true) rfl rfl) rfl ?_
       exact ai.nil ⟨_,rfl,(ak.put (ak.push rfl (ak.push rfl (ak.put (.refl _) (Less.eq (by rw [hB32]))))) (Less.eq (by rw [hB32]; rw [Bool.true_and])))⟩
      ·
       refine ai.bool hB32 ?_
       refine ai.no rfl rfl ?_
       refine ai.no rfl rfl ?_
       refine ai.val rfl (aF (b:=false) rfl rfl) rfl ?_
       exact ai.nil ⟨_,rfl,(ak.put (ak.push rfl (ak.push rfl (ak.put (.refl _) (Less.eq (by rw [hB32]))))) (Less.eq (by rw [hB32]; rw [Bool.false_and])))⟩
     ·
      refine ai.nil ?_
      refine aA.cond rfl (fun hb33=>?_) (fun hb33=>?_)
      ·
       replace h:=dF hb33 h
       refine aA.region E.obj rfl ?_
       refine ai.val rfl (aa rfl) rfl ?_
       refine ai.val rfl (aa rfl) rfl ?_
       refine ai.val rfl (dz (vs:=[(.d (.int .i64 (IntKind.wrap .i64 (x17 + 1))))]) (ds:=[(.int .i64 (IntKind.wrap .i64 (x17 + 1)))]) D7 eH ni Ex jL rfl (by decide) (.cons rfl rfl .nil) rfl (by intro d hd; simp only [List.mem_cons,List.not_mem_nil,or_false] at hd; rcases hd with rfl <;> rfl) rfl) rfl ?_
       obtain ⟨z34,hzz34,h⟩:=bind_some h
       refine ai.append (xs:=(x15).map (D.int .i64)) (ys:=([(IntKind.wrap .i64 (x17 + 1))]).map (D.int .i64)) (zs:=(z34).map (D.int .i64)) H30 rfl rfl rfl (i:=1) rfl rfl D7 Gc eH (kE hzz34) Hd rfl (fC (enc:=(D.int .i64)) (fun _=>jL.symm) _) (fC (enc:=(D.int .i64)) (fun _=>jL.symm) _) Jw rfl (rQ hzz34) (fun v35 S36 H37=>?_)
       refine ai.val rfl (aj rfl) rfl ?_
       refine ai.nil ?_
       exact ⟨⟨z34,v35⟩,_,_,S36,.refl _ _,.refl _,(ak.r rfl (ak.r rfl (ak.r rfl (ak.r rfl ak.nil)))),H37.sl [1,2,3,4] rfl rfl,h⟩
      ·
       replace h:=dH hb33 h
       refine aA.skip ?_
       exact ⟨⟨x15,v16⟩,_,_,S29,.refl _ _,.refl _,(ak.r rfl (ak.r rfl (ak.r rfl (ak.r rfl ak.nil)))),H30.sl [1,2,3,4] rfl rfl,h⟩
  ·
   replace h:=dH hb19 h
   refine aA.exit ?_
   refine aA.seq ?_
   refine aA.region E.obj rfl ?_
   refine ai.val rfl (aa rfl) rfl ?_
   refine ai.val rfl (aj rfl) rfl ?_
   refine ai.nil ?_
   have hr:=Option.some.inj h
   subst hr
   exact aA.ret ⟨_,rfl,rfl,_,_,_,.refl _,(He H14 (i:=0) rfl),⟨rfl,rfl⟩,H14.sl [1,2,3] rfl rfl⟩
set_option maxRecDepth 20000 in
set_option maxHeartbeats 4000000 in
theorem fJ (n:Nat) (a2:au) (a6:Int) (r:Bool) (h:fF n a2 a6=some r) (b1:Nat) (v3:AV) (ws4:List (List AV)) (w5:AV):cK R cfg.P 59 [.ptr b1 0 0,.d (.int .i64 a6)] [.box b1 [v3,w5],ay ae ah.kids 7 5 v3 ws4 a2.l none,aG w5 a2.freed] (fun v l=>v=(bif r then bq v3 (Int.toNat (IntKind.wrap .i64 (a6 - 1))) 0 else .d .nilp)∧l=[.box b1 [v3,w5],ay ae ah.kids 7 5 v3 ws4 a2.l none,aG w5 a2.freed]):=by
 unfold fF at h
 refine cK.of_wp (C:=cfg) Try.func59 rfl KA rfl (fun B0 S0 H0=>?_)
 replace H0:Has B0 S0 [.box b1 [v3,w5],ay ae ah.kids 7 5 v3 ws4 a2.l none,aG w5 a2.freed]:=H0
 refine aA.seq ?_
 refine aA.region E.obj rfl ?_
 refine ai.val rfl (aj rfl) rfl ?_
 refine ai.nil ?_
 refine aA.seq ?_
 refine aA.seq ?_
 refine aA.region E.obj rfl ?_
 refine ai.val rfl (aa rfl) rfl ?_
 refine ai.val rfl (aB rfl rfl dN) rfl ?_
 refine ai.val rfl (aa rfl) rfl ?_
 refine ai.jr 8 15 (.d (.bool ((decide (a6 < 1)) || (decide (((a2.l).length:Int) < a6))))) ?_ ?_
 ·
  rcases Bool.eq_false_or_eq_true ((decide (a6 < 1))) with hB7 | hB7
  ·
   refine ai.bool hB7 ?_
   refine ai.no rfl rfl ?_
   refine ai.no rfl rfl ?_
   refine ai.no rfl rfl ?_
   refine ai.no rfl rfl ?_
   refine ai.no rfl rfl ?_
   refine ai.no rfl rfl ?_
   refine ai.no rfl rfl ?_
   refine ai.val rfl (aF (b:=true) rfl rfl) rfl ?_
   exact ai.nil ⟨_,rfl,(ak.put (ak.push rfl (ak.push rfl (ak.push rfl (ak.push rfl (ak.push rfl (ak.push rfl (ak.push rfl (ak.put (.refl _) (Less.eq (by rw [hB7])))))))))) (Less.eq (by rw [hB7]; rw [Bool.true_or])))⟩
  ·
   refine ai.bool hB7 ?_
   refine ai.val rfl (aa rfl) rfl ?_
   refine ai.val rfl (aa rfl) rfl ?_
   refine ai.val rfl (bu rfl) rfl ?_
   refine ai.val rfl (aC rfl jy q8 rfl) rfl ?_
   refine ai.val rfl (aL H0 (i:=0) rfl rfl (aQ rY rfl)) rfl ?_
   refine ai.val rfl (qX H0 (i:=1) rfl rfl GM) rfl ?_
   refine ai.val rfl (aB rfl rfl EG) rfl ?_
   refine ai.val rfl (aF (b:=false) rfl rfl) rfl ?_
   exact ai.nil ⟨_,rfl,(ak.put (ak.push rfl (ak.push rfl (ak.push rfl (ak.push rfl (ak.push rfl (ak.push rfl (ak.push rfl (ak.put (.refl _) (Less.eq (by rw [hB7])))))))))) (Less.eq (by rw [hB7]; rw [Bool.false_or])))⟩
 ·
  refine ai.val rfl (aa rfl) rfl ?_
  obtain ⟨z9,hzz9,h⟩:=bind_some h
  refine ai.jr 11 27 (.d (.bool z9)) ?_ ?_
  ·
   rcases Bool.eq_false_or_eq_true (((decide (a6 < 1)) || (decide (((a2.l).length:Int) < a6)))) with hB8 | hB8
   ·
    refine ai.bool hB8 ?_
    refine ai.no rfl rfl ?_
    refine ai.no rfl rfl ?_
    refine ai.no rfl rfl ?_
    refine ai.no rfl rfl ?_
    refine ai.no rfl rfl ?_
    refine ai.no rfl rfl ?_
    refine ai.no rfl rfl ?_
    refine ai.no rfl rfl ?_
    refine ai.no rfl rfl ?_
    refine ai.no rfl rfl ?_
    refine ai.val rfl (aF (b:=true) rfl rfl) rfl ?_
    replace hzz9:=dF hB8 hzz9
    cases hzz9
    exact ai.nil ⟨_,rfl,(ak.put (ak.push rfl (ak.push rfl (ak.push rfl (ak.push rfl (ak.push rfl (ak.push rfl (ak.push rfl (ak.push rfl (ak.push rfl (ak.push rfl (ak.put (.refl _) (Less.eq (by rw [hB8]))))))))))))) (.refl _))⟩
   ·
    refine ai.bool hB8 ?_
    replace hzz9:=dH hB8 hzz9
    refine ai.val rfl (aa rfl) rfl ?_
    refine ai.val rfl (bu rfl) rfl ?_
    refine ai.val rfl (aC rfl jy q8 rfl) rfl ?_
    refine ai.val rfl (aL H0 (i:=0) rfl rfl (aQ rY rfl)) rfl ?_
    refine ai.val rfl (aa rfl) rfl ?_
    refine ai.val rfl (aB rfl rfl gV) rfl ?_
    obtain ⟨z10,hzz10,hzz9⟩:=bind_some hzz9
    refine ai.val rfl (fI H0 (i:=1) rfl hzz10 rfl rfl vN su oh) rfl ?_
    refine ai.val rfl (aZ H0 (i:=1) rfl hzz10 rfl Cc KE rfl) rfl ?_
    refine ai.jq H0 rfl (q:=1) rfl hzz10 rfl KU rfl rfl rfl ?_
    refine ai.val rfl (kr rfl) rfl ?_
    refine ai.val rfl (aF (b:=false) rfl rfl) rfl ?_
    cases hzz9
    exact ai.nil ⟨_,rfl,(ak.put (ak.push rfl (ak.push rfl (ak.push rfl (ak.push rfl (ak.push rfl (ak.push rfl (ak.push rfl (ak.push rfl (ak.push rfl (ak.push rfl (ak.put (.refl _) (Less.eq (by rw [hB8]))))))))))))) (.refl _))⟩
  ·
   refine ai.nil ?_
   refine aA.cond rfl (fun hb11=>?_) (fun hb11=>?_)
   ·
    replace h:=dF hb11 h
    refine aA.seq ?_
    refine aA.region E.obj rfl ?_
    refine ai.val rfl (aj rfl) rfl ?_
    refine ai.nil ?_
    have hr:=Option.some.inj h
    subst hr
    exact aA.ret ⟨_,rfl,rfl,_,_,_,.refl _,(.refl _),⟨rfl,rfl⟩,H0.sl [0,1,2] rfl rfl⟩
   ·
    replace h:=dH hb11 h
    refine aA.skip ?_
    refine aA.seq ?_
    refine aA.region E.obj rfl ?_
    refine ai.val rfl (aa rfl) rfl ?_
    refine ai.val rfl (bu rfl) rfl ?_
    refine ai.val rfl (aC rfl jy q8 rfl) rfl ?_
    refine ai.val rfl (aL H0 (i:=0) rfl rfl (aQ rY rfl)) rfl ?_
    refine ai.val rfl (aa rfl) rfl ?_
    refine ai.val rfl (aB rfl rfl gV) rfl ?_
    obtain ⟨z12,hzz12,h⟩:=bind_some h
    refine ai.val rfl (fI H0 (i:=1) rfl hzz12 rfl rfl vN su oh) rfl ?_
    refine ai.val rfl (aj rfl) rfl ?_
    refine ai.nil ?_
    have hr:=Option.some.inj h
    subst hr
    exact aA.ret ⟨_,rfl,rfl,_,_,_,.refl _,(.refl _),⟨rfl,rfl⟩,H0.sl [0,1,2] rfl rfl⟩
theorem mJ (n:Nat) (a1:List Int) (r:List Int) (h:gm n a1=some r) (w:AV):cK R cfg.P 64 [w] [aG w a1] (fun v l=>l=[.row 1 v ((r).map (D.int .i64)),aG w a1]):=by
 unfold gm at h
 refine cK.of_wp (C:=pO) Try.func64 rfl J2 rfl (fun B0 S0 H0=>?_)
 refine aA.seq ?_
 refine aA.region (dG E) rfl ?_
 refine ai.val rfl (aj rfl) rfl ?_
 refine ai.nil ?_
 refine aA.seq ?_
 refine aA.seq ?_
 refine aA.region (dG E) rfl ?_
 refine ai.val rfl (aa rfl) rfl ?_
 refine ai.FO H0 rfl rfl rfl Jg rfl (fun bb hbb hbn=>?_)
 refine ai.nil ?_
 refine aA.cond rfl (fun hb=>?_) (fun hb=>?_)
 ·
  have e:=hbb hb
  subst e
  have hr:=(kW h).2
  subst hr
  refine aA.seq ?_
  refine aA.region (dG E) rfl ?_
  refine ai.val rfl (aj rfl) rfl ?_
  refine ai.nil ?_
  exact aA.ret ⟨_,rfl,rfl,_,_,_,.refl _,.refl _,rfl,H0.Jh 1⟩
 ·
  refine aA.skip ?_
  refine aA.seq ?_
  refine aA.region (dG E) rfl ?_
  refine ai.val rfl (tH Gg eH ni) rfl ?_
  refine ai.val rfl (aa rfl) rfl ?_
  refine ai.FQ H0 rfl (hbn hb) rfl rfl nI xy eH jL h Hd rfl BC rfl (fun v2 S2 H2=>?_)
  refine ai.val rfl (aj rfl) rfl ?_
  refine ai.nil ?_
  exact aA.ret ⟨_,rfl,rfl,_,_,_,.refl _,.refl _,rfl,H2⟩
set_option maxRecDepth 20000 in
set_option maxHeartbeats 4000000 in
theorem iN (n:Nat) (a2:au) (a6:Int) (r:(List Int)) (h:fV n a2 a6=some r) (b1:Nat) (v3:AV) (ws4:List (List AV)) (w5:AV):cK R cfg.P 19 [.ptr b1 0 0,.d (.int .i64 a6)] [.box b1 [v3,w5],ay ae ah.kids 7 5 v3 ws4 a2.l none,aG w5 a2.freed] (fun v l=>v=.d (.sl ((r).map (D.int .i64)) false)∧l=[.box b1 [v3,w5],ay ae ah.kids 7 5 v3 ws4 a2.l none,aG w5 a2.freed]):=by
 unfold fV at h
 refine cK.of_wp (C:=cfg) Try.func19 rfl JC rfl (fun B0 S0 H0=>?_)
 replace H0:Has B0 S0 [.box b1 [v3,w5],ay ae ah.kids 7 5 v3 ws4 a2.l none,aG w5 a2.freed]:=H0
 refine aA.seq ?_
 refine aA.region E.obj rfl ?_
 refine ai.val rfl (aj rfl) rfl ?_
 refine ai.nil ?_
 refine aA.seq ?_
 refine aA.region E.obj rfl ?_
 refine ai.val rfl (aa rfl) rfl ?_
 refine ai.val rfl (aa rfl) rfl ?_
 obtain ⟨z7,hzz7,h⟩:=bind_some h
 refine ai.eB (ins:=[.box b1 [v3,w5],ay ae ah.kids 7 5 v3 ws4 a2.l none,aG w5 a2.freed]) (more:=[]) (H0.sl [0,1,2] rfl rfl) rfl (aI rfl rfl) (fJ E n _ _ _ hzz7 b1 v3 ws4 w5) (.cons (.refl _) (.cons (.refl _) .nil)) rfl ?_
 rintro v8 S9 l10 hr11 H12
 rcases z7 with _ | _
 ·
  obtain ⟨rfl,rfl⟩:=hr11
  replace h:=dH rfl h
  replace H12:Has B0 S9 [.box b1 [v3,w5],ay ae ah.kids 7 5 v3 ws4 a2.l none,aG w5 a2.freed]:=H12
  have H13:Has B0 S9 [.box b1 [v3,w5],ay ae ah.kids 7 5 v3 ws4 a2.l none,aG w5 a2.freed]:=H12.sl [0,1,2] rfl rfl
  refine ai.val rfl (aj rfl) rfl ?_
  refine ai.nil ?_
  refine aA.seq ?_
  refine aA.seq ?_
  refine aA.region E.obj rfl ?_
  refine ai.val rfl (aa rfl) rfl ?_
  refine ai.val rfl (aB rfl rfl (jP pX)) rfl ?_
  refine ai.nil ?_
  refine aA.cond rfl (fun hb=>?_) (fun hb=>?_)
  ·
   refine aA.seq ?_
   refine aA.region E.obj rfl ?_
   refine ai.val rfl (aj rfl) rfl ?_
   refine ai.nil ?_
   have hr:=Option.some.inj h
   subst hr
   exact aA.ret ⟨_,rfl,rfl,_,_,_,.refl _,IB,⟨rfl,rfl⟩,H13.sl [0,1,2] rfl rfl⟩
  ·
   cases hb
 ·
  obtain ⟨rfl,rfl⟩:=hr11
  replace h:=dF rfl h
  have H14:Has B0 S9 [.box b1 [v3,w5],ay ae ah.kids 7 5 v3 ws4 a2.l none,aG w5 a2.freed]:=H12.sl [0,1,2] rfl rfl
  refine ai.val rfl (aj rfl) rfl ?_
  refine ai.nil ?_
  refine aA.seq ?_
  refine aA.seq ?_
  refine aA.region E.obj rfl ?_
  refine ai.val rfl (aa rfl) rfl ?_
  obtain ⟨z15,hzz15,h⟩:=bind_some h
  refine ai.val rfl (jX H14 (q:=1) rfl hzz15 rfl rfl pX) rfl ?_
  refine ai.nil ?_
  refine aA.cond rfl (fun hb=>?_) (fun hb=>?_)
  ·
   cases hb
  ·
   refine aA.skip ?_
   refine aA.seq ?_
   refine aA.region E.obj rfl ?_
   refine ai.val rfl (aa rfl) rfl ?_
   refine ai.val rfl (bF H14 (q:=1) rfl hzz15 rfl) rfl ?_
   refine ai.val rfl (aZ H14 (i:=1) rfl hzz15 rfl lZ p9 rfl) rfl ?_
   refine ai.val rfl (fP H14 (i:=1) rfl hzz15 rfl sF) rfl ?_
   obtain ⟨z16,hzz16,h⟩:=bind_some h
   have H17:Has B0 S9 ([ay ae ah.kids 7 5 v3 ws4 a2.l none] ++ [.box b1 [v3,w5],aG w5 a2.freed]):=H14.sl [1,0,2] rfl rfl
   replace H17:Has B0 S9 [ay ae ah.kids 7 5 v3 ws4 a2.l none,.box b1 [v3,w5],aG w5 a2.freed]:=H17
   have H18:=Has.take H17 (dB hzz15).2
   have H19:Has B0 S9 [aG (gU 5 ws4 (Int.toNat (IntKind.wrap .i64 (a6 - 1)))) z15.kids,.box b1 [v3,w5],ay ae ah.kids 7 5 v3 ws4 a2.l (some (Int.toNat (IntKind.wrap .i64 (a6 - 1)))),aG w5 a2.freed]:=H18.sl [0,2,1,3] rfl rfl
   refine ai.eB (ins:=[aG (gU 5 ws4 (Int.toNat (IntKind.wrap .i64 (a6 - 1)))) z15.kids]) (more:=[.box b1 [v3,w5],ay ae ah.kids 7 5 v3 ws4 a2.l (some (Int.toNat (IntKind.wrap .i64 (a6 - 1)))),aG w5 a2.freed]) (H19.sl [0,1,2,3] rfl rfl) rfl (aI rfl rfl) (mJ E n _ _ hzz16 _) (.cons (.refl _) .nil) rfl ?_
   rintro v20 S21 _ rfl H22
   have H23:Has B0 S21 [.row 1 v20 ((z16).map (D.int .i64)),aG (gU 5 ws4 (Int.toNat (IntKind.wrap .i64 (a6 - 1)))) z15.kids,.box b1 [v3,w5],ay ae ah.kids 7 5 v3 ws4 a2.l (some (Int.toNat (IntKind.wrap .i64 (a6 - 1)))),aG w5 a2.freed]:=H22.sl [0,1,2,3,4] rfl rfl
   have H24:Has B0 S21 ([aG (gU 5 ws4 (Int.toNat (IntKind.wrap .i64 (a6 - 1)))) z15.kids,ay ae ah.kids 7 5 v3 ws4 a2.l (some (Int.toNat (IntKind.wrap .i64 (a6 - 1))))] ++ [.row 1 v20 ((z16).map (D.int .i64)),.box b1 [v3,w5],aG w5 a2.freed]):=H23.sl [1,3,0,2,4] rfl rfl
   replace H24:Has B0 S21 [aG (gU 5 ws4 (Int.toNat (IntKind.wrap .i64 (a6 - 1)))) z15.kids,ay ae ah.kids 7 5 v3 ws4 a2.l (some (Int.toNat (IntKind.wrap .i64 (a6 - 1)))),.row 1 v20 ((z16).map (D.int .i64)),.box b1 [v3,w5],aG w5 a2.freed]:=H24
   have H25:=Has.Ij H24 (dB hzz15).2
   have H26:Has B0 S21 [.row 1 v20 ((z16).map (D.int .i64)),.box b1 [v3,w5],ay ae ah.kids 7 5 v3 ws4 a2.l none,aG w5 a2.freed]:=H25.sl [1,2,0,3] rfl rfl
   refine ai.val rfl (aj rfl) rfl ?_
   refine ai.nil ?_
   obtain ⟨SF1,HF1,hgF1⟩:=H26.freeze E.obj.toObjOk (i:=0) (l':=[.box b1 [v3,w5],ay ae ah.kids 7 5 v3 ws4 a2.l none,aG w5 a2.freed]) rfl (.same (.same (.same .nil)))
   refine aA.ghost (hgF1 _ _ [(0,(.ptr b1 0 0)),(1,(.d (.int .i64 a6))),(4,(.d (.sl ((z16).map (D.int .i64)) false))),(5,(bq v3 (Int.toNat (IntKind.wrap .i64 (a6 - 1))) 0)),(6,(.ptr b1 0 0)),(7,(.d (.int .i64 a6))),(8,(bq v3 (Int.toNat (IntKind.wrap .i64 (a6 - 1))) 0)),(9,(bq v3 (Int.toNat (IntKind.wrap .i64 (a6 - 1))) 0)),(10,(.d (.bool false))),(11,(bq v3 (Int.toNat (IntKind.wrap .i64 (a6 - 1))) 0)),(12,(bq v3 (Int.toNat (IntKind.wrap .i64 (a6 - 1))) 0)),(13,(bq v3 (Int.toNat (IntKind.wrap .i64 (a6 - 1))) 5)),(14,(gU 5 ws4 (Int.toNat (IntKind.wrap .i64 (a6 - 1))))),(15,(.d (.sl ((z16).map (D.int .i64)) false)))] (.cons rfl (.refl _) (.cons rfl (.refl _) (.it rfl (.cons rfl (.refl _) (.cons rfl (.refl _) (.cons rfl (.refl _) (.cons rfl (.refl _) (.cons rfl (.refl _) (.cons rfl (.refl _) (.cons rfl (.refl _) (.cons rfl (.refl _) (.cons rfl (.refl _) (.cons rfl (.refl _) (.it rfl .nil))))))))))))))) ?_
   have hr:=Option.some.inj h
   subst hr
   exact aA.ret ⟨_,rfl,rfl,_,_,_,.refl _,(.refl _),⟨rfl,rfl⟩,HF1.sl [0,1,2] rfl rfl⟩
theorem dV (n:Nat) (a1:(List Attr)) (r:(List Attr)) (h:bS n a1=some r):gY R cfg.P 66 [(.sl ((a1).map aD) false)] (.d (.sl ((r).map aD) false)):=by
 unfold bS at h
 refine gY.of_wp E.obj.toObjOk (C:=cfg) Try.func66 rfl J9 rfl ?_
 have H0:Has aM aM []:=Has.pure
 refine aA.seq ?_
 refine aA.region E.obj rfl ?_
 refine ai.val rfl (aj rfl) rfl ?_
 refine ai.nil ?_
 refine aA.seq ?_
 refine aA.seq ?_
 refine aA.region E.obj rfl ?_
 refine ai.val rfl (aa rfl) rfl ?_
 refine ai.IY rfl rfl rfl I1 rfl (fun bb hbb=>?_)
 refine ai.nil ?_
 refine aA.cond rfl (fun hb=>?_) (fun hb=>?_)
 ·
  have e:=map_nil (hbb hb)
  subst e
  have hr:=(kW h).2
  subst hr
  refine aA.seq ?_
  refine aA.region E.obj rfl ?_
  refine ai.val rfl (aj rfl) rfl ?_
  refine ai.nil ?_
  exact aA.ret ⟨_,rfl,rfl,lM (bO.iJ rfl (.aT false) .nil)⟩
 ·
  refine aA.skip ?_
  refine aA.seq ?_
  refine aA.region E.obj rfl ?_
  refine ai.val rfl (uG Jr Gu Iz) rfl ?_
  refine ai.val rfl (aa rfl) rfl ?_
  have H1:=H0.Ii (([]:(List Attr)).map aD)
  refine ai.append (xs:=([]:(List Attr)).map aD) (ys:=(a1).map aD) (zs:=(r).map aD) H1 rfl rfl rfl (i:=0) rfl rfl Jr KC Gu (kE (enc:=aD) h) JP rfl (fC (enc:=aD) (fun z=>(Attr.len z).trans Eh.symm) _) (fC (enc:=aD) (fun z=>(Attr.len z).trans Eh.symm) _) JG rfl (rQ h) (fun v2 S2 H2=>?_)
  refine ai.val rfl (aj rfl) rfl ?_
  refine ai.nil ?_
  exact aA.ret ⟨_,rfl,rfl,lM (bO.grow H2 (i:=0) rfl .nil)⟩
set_option maxRecDepth 20000 in
set_option maxHeartbeats 4000000 in
theorem pR:∀ (n:Nat) (a2:au) (a6:Int) (r:Tree),eD n a2 a6=some r→∀ (b1:Nat) (v3:AV) (ws4:List (List AV)) (w5:AV),cK R cfg.P 65 [.ptr b1 0 0,.d (.int .i64 a6)] [.box b1 [v3,w5],ay ae ah.kids 7 5 v3 ws4 a2.l none,aG w5 a2.freed] (fun v l=>v=.d (ax r)∧l=[.box b1 [v3,w5],ay ae ah.kids 7 5 v3 ws4 a2.l none,aG w5 a2.freed])
 | 0,a2,a6,r,h,b1,v3,ws4,w5=>by simp [eD] at h
 | n + 1,a2,a6,r,h,b1,v3,ws4,w5=>by
  have ih:=pR n
  unfold eD at h
  refine cK.of_wp (C:=cfg) Try.func65 rfl Kq rfl (fun B0 S0 H0=>?_)
  replace H0:Has B0 S0 [.box b1 [v3,w5],ay ae ah.kids 7 5 v3 ws4 a2.l none,aG w5 a2.freed]:=H0
  refine aA.seq ?_
  refine aA.region E.obj rfl ?_
  refine ai.alloc H0 rfl yg jZ rfl rfl (fun b7 S8 H9=>?_)
  refine ai.nil ?_
  refine aA.seq ?_
  refine aA.region E.obj rfl ?_
  refine ai.val rfl (aa rfl) rfl ?_
  refine ai.val rfl (bu rfl) rfl ?_
  refine ai.val rfl (aC rfl jy q8 rfl) rfl ?_
  refine ai.val rfl (aL H9 (i:=1) rfl rfl (aQ rY rfl)) rfl ?_
  refine ai.val rfl (aa rfl) rfl ?_
  refine ai.val rfl (aB rfl rfl gV) rfl ?_
  obtain ⟨z10,hzz10,h⟩:=bind_some h
  refine ai.val rfl (fI H9 (i:=2) rfl hzz10 rfl rfl vN su oh) rfl ?_
  refine ai.yU (cs:=[(.d (.bool z10.lives)),(.d (.str z10.tag)),(.d (.str z10.key)),(.d (.str z10.text)),(.d (.sl ((z10.attrs).map aD) false)),(gU 5 ws4 (Int.toNat (IntKind.wrap .i64 (a6 - 1)))),(.d (.int .i64 z10.parent))]) H9 rfl (q:=2) rfl hzz10 rfl GR oh rfl rfl ?_
  refine ai.alloc H9 rfl Jl Eu rfl rfl (fun b11 S12 H13=>?_)
  refine ai.store H13 (i:=0) rfl rfl rfl rfl (uP _) rfl oh (uT _) su rfl rfl rfl (fun S14 H15=>?_)
  refine ai.nil ?_
  refine aA.seq ?_
  obtain ⟨z16,hzz16,h⟩:=bind_some h
  refine aA.iV E.obj lG Lc [(0,none),(4,none),(5,none),(6,some 10)] (by kernel_rfl) [10,11] (by decide) [some (.ptr b11 0 1),some (.d (.str z10.tag)),some (.ptr b11 0 2),some (.d (.str z10.key)),some (.ptr b11 0 3),some (.d (.str z10.text)),some (.ptr b11 0 4),some (.d (.sl ((z10.attrs).map aD) false)),some (.d (.sl ((z16).map aD) false)),some (Ev.eY [(.d (.str z10.tag)),(.d (.str z10.key)),(.d (.str z10.text)),(.d (.sl ((z16).map aD) false)),(.d .aT)]),none,none] ?_
  refine ⟨[0,1,2,3,4,5,6,7,8,9],by kernel_rfl,?_,_,_,rfl,rfl,.step ?_⟩
  ·
   refine .v rfl rfl rfl rfl (aC rfl wR uf rfl) ?_
   refine .v rfl rfl rfl rfl (aL H15 (i:=0) rfl rfl (aQ uF rfl)) ?_
   refine .v rfl rfl rfl rfl (aC rfl E9 uf rfl) ?_
   refine .v rfl rfl rfl rfl (aL H15 (i:=0) rfl rfl (aQ uF rfl)) ?_
   refine .v rfl rfl rfl rfl (aC rfl BU uf rfl) ?_
   refine .v rfl rfl rfl rfl (aL H15 (i:=0) rfl rfl (aQ uF rfl)) ?_
   refine .v rfl rfl rfl rfl (aC rfl CO Co rfl) ?_
   refine .v rfl rfl rfl rfl (aL H15 (i:=0) rfl rfl (aQ DJ rfl)) ?_
   refine .cons rfl rfl rfl (.step ?_) ?_
   ·
    refine ai.ret rfl (aI rfl rfl) (dV E _ _ _ hzz16 _ _ (bO.eq .nil)) rfl ?_
    exact ai.nil ⟨_,_,rfl,fun _ ht=>by cases ht; exact ⟨rfl,.refl _⟩⟩
   refine .v rfl rfl rfl rfl (dR (cs:=[(.d (.str z10.tag)),(.d (.str z10.key)),(.d (.str z10.text)),(.d (.sl ((z16).map aD) false)),(.d .aT)]) jZ rfl (dI) (gQ rfl rfl rfl rfl (gQ rfl rfl rfl rfl (gQ rfl rfl rfl rfl (gQ rfl rfl rfl rfl rfl))))) ?_
   exact .nil
  refine ai.alloc H15 rfl yg jZ rfl rfl (fun b22 S23 H24=>?_)
  refine ai.nil ⟨_,_,_,rfl,(fun _ ht=>by cases ht; rfl),[some (.ptr b11 0 1),some (.d (.str z10.tag)),some (.ptr b11 0 2),some (.d (.str z10.key)),some (.ptr b11 0 3),some (.d (.str z10.text)),some (.ptr b11 0 4),some (.d (.sl ((z10.attrs).map aD) false)),some (.d (.sl ((z16).map aD) false)),some (Ev.eY [(.d (.str z10.tag)),(.d (.str z10.key)),(.d (.str z10.text)),(.d (.sl ((z16).map aD) false)),(.d .aT)]),some (.ptr b22 0 0),none],(.o (.o (.o (.o (.o (.o (.o (.o (.o (.o (.new (.new .nil)))))))))))),(fun _ ht=>by cases ht; exact ⟨_,rfl,.refl _⟩),?_⟩
  refine ⟨[0,1,2,3,4,5,6,7,8,9],by kernel_rfl,?_,_,_,rfl,rfl,.step ?_⟩
  ·
   refine .v rfl rfl rfl rfl (aC rfl wR uf rfl) ?_
   refine .v rfl rfl rfl rfl (aL H24 (i:=1) rfl rfl (aQ uF rfl)) ?_
   refine .v rfl rfl rfl rfl (aC rfl E9 uf rfl) ?_
   refine .v rfl rfl rfl rfl (aL H24 (i:=1) rfl rfl (aQ uF rfl)) ?_
   refine .v rfl rfl rfl rfl (aC rfl BU uf rfl) ?_
   refine .v rfl rfl rfl rfl (aL H24 (i:=1) rfl rfl (aQ uF rfl)) ?_
   refine .v rfl rfl rfl rfl (aC rfl CO Co rfl) ?_
   refine .v rfl rfl rfl rfl (aL H24 (i:=1) rfl rfl (aQ DJ rfl)) ?_
   refine .cons rfl rfl rfl (.step ?_) ?_
   ·
    refine ai.ret rfl (aI rfl rfl) (dV E _ _ _ hzz16 _ _ (bO.eq .nil)) rfl ?_
    exact ai.nil ⟨_,_,rfl,fun _ ht=>by cases ht; exact ⟨rfl,.refl _⟩⟩
   refine .v rfl rfl rfl rfl (dR (cs:=[(.d (.str z10.tag)),(.d (.str z10.key)),(.d (.str z10.text)),(.d (.sl ((z16).map aD) false)),(.d .aT)]) jZ rfl (dI) (gQ rfl rfl rfl rfl (gQ rfl rfl rfl rfl (gQ rfl rfl rfl rfl (gQ rfl rfl rfl rfl rfl))))) ?_
   exact .nil
  refine ai.store H24 (i:=0) rfl rfl rfl rfl rfl rfl fw rfl ow rfl rfl rfl (fun S25 H26=>?_)
  refine ai.nil ⟨_,.any,_,rfl,(fun _ ht=>by cases ht),[some (.ptr b11 0 1),some (.d (.str z10.tag)),some (.ptr b11 0 2),some (.d (.str z10.key)),some (.ptr b11 0 3),some (.d (.str z10.text)),some (.ptr b11 0 4),some (.d (.sl ((z10.attrs).map aD) false)),some (.d (.sl ((z16).map aD) false)),some (Ev.eY [(.d (.str z10.tag)),(.d (.str z10.key)),(.d (.str z10.text)),(.d (.sl ((z16).map aD) false)),(.d .aT)]),some (.ptr b22 0 0),some .any],(.o (.o (.o (.o (.o (.o (.o (.o (.o (.o (.o (.new .nil)))))))))))),(fun _ ht=>by cases ht),?_⟩
  refine ⟨[],by kernel_rfl,?_,_,rfl,?_⟩
  ·
   exact .nil
  refine aA.seq ?_
  refine aA.seq ?_
  refine aA.region E.obj rfl ?_
  refine ai.val rfl (aC rfl lZ p9 rfl) rfl ?_
  refine ai.val rfl (aL H26 (i:=1) rfl rfl (aQ sF rfl)) rfl ?_
  have H27:Has B0 S25 ([ay ae ah.kids 7 5 v3 ws4 a2.l none] ++ [.box b22 [(.d (.str z10.tag)),(.d (.str z10.key)),(.d (.str z10.text)),(.d (.sl ((z16).map aD) false)),(.d .aT)],.box b11 [(.d (.bool z10.lives)),(.d (.str z10.tag)),(.d (.str z10.key)),(.d (.str z10.text)),(.d (.sl ((z10.attrs).map aD) false)),(gU 5 ws4 (Int.toNat (IntKind.wrap .i64 (a6 - 1)))),(.d (.int .i64 z10.parent))],.box b7 [(.d (.str [])),(.d (.str [])),(.d (.str [])),(.d .aT),(.d .aT)],.box b1 [v3,w5],aG w5 a2.freed]):=H26.sl [4,0,1,2,3,5] rfl rfl
  replace H27:Has B0 S25 [ay ae ah.kids 7 5 v3 ws4 a2.l none,.box b22 [(.d (.str z10.tag)),(.d (.str z10.key)),(.d (.str z10.text)),(.d (.sl ((z16).map aD) false)),(.d .aT)],.box b11 [(.d (.bool z10.lives)),(.d (.str z10.tag)),(.d (.str z10.key)),(.d (.str z10.text)),(.d (.sl ((z10.attrs).map aD) false)),(gU 5 ws4 (Int.toNat (IntKind.wrap .i64 (a6 - 1)))),(.d (.int .i64 z10.parent))],.box b7 [(.d (.str [])),(.d (.str [])),(.d (.str [])),(.d .aT),(.d .aT)],.box b1 [v3,w5],aG w5 a2.freed]:=H27
  have H28:=Has.take H27 (dB hzz10).2
  refine ai.val rfl (jh H28 (i:=0) rfl rfl iZ) rfl ?_
  refine ai.val rfl (aa rfl) rfl ?_
  refine ai.nil ?_
  refine aA.block ?_
  have H68:=H26.Ei
  refine pM.start (B:=B0) (α:=(List Tree) × AV × Int) (fun k a=>dJ (eD n) a2 z10 z16 k a.1 a.2.2=some r) (fun a=>[(0,(.ptr b1 0 0)),(4,(.ptr b7 0 0)),(6,(.ptr b22 0 0)),(28,(gU 5 ws4 (Int.toNat (IntKind.wrap .i64 (a6 - 1))))),(29,(.d (.int .i64 ((z10.kids).length:Int)))),(30,(.d (.int .i64 a.2.2)))]) (fun a=>[.box b22 [(.d (.str z10.tag)),(.d (.str z10.key)),(.d (.str z10.text)),(.d (.sl ((z16).map aD) false)),a.2.1],.box b7 [(.d (.str [])),(.d (.str [])),(.d (.str [])),(.d .aT),(.d .aT)],.grow a.2.1 ((a.1).map ax),.box b1 [v3,w5],ay ae ah.kids 7 5 v3 ws4 a2.l none,aG w5 a2.freed]) ?_ ?_ n ⟨⟨[],(.d .aT),0⟩,_,_,S25,.refl _ _,.refl _,(ak.r rfl (ak.r rfl (ak.r rfl (ak.r rfl (ak.r rfl (ak.r rfl ak.nil)))))),H68.sl [1,3,0,4,5,6] rfl rfl,h⟩
  ·
   intro a h; simp [dJ] at h
  ·
   intro k41 a S36 H37 h
   obtain ⟨x38,v39,x40⟩:=a
   replace h:dJ (eD n) a2 z10 z16 (k41 + 1) x38 x40=some r:=h
   replace H37:Has B0 S36 [.box b22 [(.d (.str z10.tag)),(.d (.str z10.key)),(.d (.str z10.text)),(.d (.sl ((z16).map aD) false)),v39],.box b7 [(.d (.str [])),(.d (.str [])),(.d (.str [])),(.d .aT),(.d .aT)],.grow v39 ((x38).map ax),.box b1 [v3,w5],ay ae ah.kids 7 5 v3 ws4 a2.l none,aG w5 a2.freed]:=H37
   unfold dJ at h
   refine aA.seq ?_
   refine aA.region E.obj rfl ?_
   refine ai.val rfl (aB rfl rfl dN) rfl ?_
   refine ai.nil ?_
   refine aA.seq ?_
   refine aA.cond rfl (fun hb42=>?_) (fun hb42=>?_)
   ·
    replace h:=dF hb42 h
    refine aA.skip ?_
    refine aA.seq ?_
    refine aA.block ?_
    refine aA.seq ?_
    refine aA.region E.obj rfl ?_
    obtain ⟨z43,hzz43,h⟩:=bind_some h
    have H44:Has B0 S36 ([ay ae ah.kids 7 5 v3 ws4 a2.l none] ++ [.box b22 [(.d (.str z10.tag)),(.d (.str z10.key)),(.d (.str z10.text)),(.d (.sl ((z16).map aD) false)),v39],.box b7 [(.d (.str [])),(.d (.str [])),(.d (.str [])),(.d .aT),(.d .aT)],.grow v39 ((x38).map ax),.box b1 [v3,w5],aG w5 a2.freed]):=H37.sl [4,0,1,2,3,5] rfl rfl
    replace H44:Has B0 S36 [ay ae ah.kids 7 5 v3 ws4 a2.l none,.box b22 [(.d (.str z10.tag)),(.d (.str z10.key)),(.d (.str z10.text)),(.d (.sl ((z16).map aD) false)),v39],.box b7 [(.d (.str [])),(.d (.str [])),(.d (.str [])),(.d .aT),(.d .aT)],.grow v39 ((x38).map ax),.box b1 [v3,w5],aG w5 a2.freed]:=H44
    have H45:=Has.take H44 (dB hzz10).2
    refine ai.val rfl (qg H45 (q:=0) rfl hzz43 rfl rfl eH nZ jL) rfl ?_
    have H46:Has B0 S36 ([ay ae ah.kids 7 5 v3 ws4 a2.l none] ++ [.box b22 [(.d (.str z10.tag)),(.d (.str z10.key)),(.d (.str z10.text)),(.d (.sl ((z16).map aD) false)),v39],.box b7 [(.d (.str [])),(.d (.str [])),(.d (.str [])),(.d .aT),(.d .aT)],.grow v39 ((x38).map ax),.box b1 [v3,w5],aG w5 a2.freed]):=H37.sl [4,0,1,2,3,5] rfl rfl
    replace H46:Has B0 S36 [ay ae ah.kids 7 5 v3 ws4 a2.l none,.box b22 [(.d (.str z10.tag)),(.d (.str z10.key)),(.d (.str z10.text)),(.d (.sl ((z16).map aD) false)),v39],.box b7 [(.d (.str [])),(.d (.str [])),(.d (.str [])),(.d .aT),(.d .aT)],.grow v39 ((x38).map ax),.box b1 [v3,w5],aG w5 a2.freed]:=H46
    have H47:=Has.take H46 (dB hzz10).2
    refine ai.val rfl (pq H47 (q:=0) rfl hzz43 rfl ni) rfl ?_
    refine ai.val rfl (aj rfl) rfl ?_
    refine ai.nil ?_
    obtain ⟨z48,hzz48,h⟩:=bind_some h
    obtain ⟨z52,hzz52,h⟩:=bind_some h
    refine aA.iV E.obj lG La [(0,none),(4,none),(6,none),(28,none),(29,none),(30,none)] (by kernel_rfl) [4,6,8] (by decide) [some (.ptr b22 0 4),some v39,some (.ptr b1 0 0),some (.d (.int .i64 z43)),none,none,none,none,none] ?_
    refine ⟨[0,1,2,3],by kernel_rfl,?_,_,_,rfl,rfl,.step ?_⟩
    ·
     refine .v rfl rfl rfl rfl (aC rfl lq vM rfl) ?_
     refine .v rfl rfl rfl rfl (aL H37 (i:=0) rfl rfl (aQ xO rfl)) ?_
     refine .v rfl rfl rfl rfl (aa rfl) ?_
     refine .v rfl rfl rfl rfl (aa rfl) ?_
     exact .nil
    refine ai.eB (ins:=[.box b1 [v3,w5],ay ae ah.kids 7 5 v3 ws4 a2.l none,aG w5 a2.freed]) (more:=[.box b22 [(.d (.str z10.tag)),(.d (.str z10.key)),(.d (.str z10.text)),(.d (.sl ((z16).map aD) false)),v39],.box b7 [(.d (.str [])),(.d (.str [])),(.d (.str [])),(.d .aT),(.d .aT)],.grow v39 ((x38).map ax)]) (H37.sl [3,4,5,0,1,2] rfl rfl) rfl (aI rfl rfl) (ih _ _ _ hzz48 b1 v3 ws4 w5) (.cons (.refl _) (.cons (.refl _) .nil)) rfl ?_
    rintro _ S58 _ ⟨rfl,rfl⟩ H59
    have H60:Has B0 S58 [.box b22 [(.d (.str z10.tag)),(.d (.str z10.key)),(.d (.str z10.text)),(.d (.sl ((z16).map aD) false)),v39],.box b7 [(.d (.str [])),(.d (.str [])),(.d (.str [])),(.d .aT),(.d .aT)],.grow v39 ((x38).map ax),.box b1 [v3,w5],ay ae ah.kids 7 5 v3 ws4 a2.l none,aG w5 a2.freed]:=H59.sl [3,4,5,0,1,2] rfl rfl
    refine ai.nil ⟨_,_,_,rfl,(fun _ ht=>by cases ht; rfl),[some (.ptr b22 0 4),some v39,some (.ptr b1 0 0),some (.d (.int .i64 z43)),some (.d (ax z48)),some (.d (.sl (([z48]).map ax) true)),none,none,none],(.o (.o (.o (.o (.new (.new (.new (.new (.new .nil))))))))),(fun _ ht=>by cases ht; exact ⟨_,rfl,.refl _⟩),?_⟩
    refine ⟨[0,1,5],by kernel_rfl,?_,_,_,rfl,rfl,.step ?_⟩
    ·
     refine .v rfl rfl rfl rfl (aC rfl lq vM rfl) ?_
     refine .v rfl rfl rfl rfl (aL H60 (i:=0) rfl rfl (aQ xO rfl)) ?_
     refine .v rfl rfl rfl rfl (dz (vs:=[(.d (ax z48))]) (ds:=[(ax z48)]) zT qY jA jZ fw rfl (by decide) (.cons rfl (Tree.len _) .nil) rfl (by intro d hd; simp only [List.mem_cons,List.not_mem_nil,or_false] at hd; rcases hd with rfl <;> exact Tree.agg _) rfl) ?_
     exact .nil
    refine ai.append (xs:=(x38).map ax) (ys:=([z48]).map ax) (zs:=(z52).map ax) H60 rfl rfl rfl (i:=2) rfl rfl zT IE qY (kE hzz52) Iw rfl (fC (enc:=ax) (fun z=>(Tree.len z).trans fw.symm) _) (fC (enc:=ax) (fun z=>(Tree.len z).trans fw.symm) _) IA rfl (rQ hzz52) (fun v61 S62 H63=>?_)
    refine ai.nil ⟨_,_,_,rfl,(fun _ ht=>by cases ht; rfl),[some (.ptr b22 0 4),some v39,some (.ptr b1 0 0),some (.d (.int .i64 z43)),some (.d (ax z48)),some (.d (.sl (([z48]).map ax) true)),some v61,some (.ptr b22 0 4),none],(.o (.o (.o (.o (.o (.o (.new (.new (.new .nil))))))))),(fun _ ht=>by cases ht; exact ⟨_,rfl,.refl _⟩),?_⟩
    refine ⟨[7],by kernel_rfl,?_,_,_,rfl,rfl,.step ?_⟩
    ·
     refine .v rfl rfl rfl rfl (aC rfl lq vM rfl) ?_
     exact .nil
    refine ai.store H63 (i:=0) rfl rfl rfl rfl (AU (H63.at (i:=2) rfl)).2.2.2.2 rfl JR (AU (H63.at (i:=2) rfl)).2.2.2.1 Ki rfl rfl rfl (fun S64 H65=>?_)
    refine ai.nil ⟨_,.any,_,rfl,(fun _ ht=>by cases ht),[some (.ptr b22 0 4),some v39,some (.ptr b1 0 0),some (.d (.int .i64 z43)),some (.d (ax z48)),some (.d (.sl (([z48]).map ax) true)),some v61,some (.ptr b22 0 4),some .any],(.o (.o (.o (.o (.o (.o (.o (.o (.new .nil))))))))),(fun _ ht=>by cases ht),?_⟩
    refine ⟨[],by kernel_rfl,?_,_,rfl,?_⟩
    ·
     exact .nil
    refine aA.region E.obj rfl ?_
    refine ai.val rfl (aB rfl rfl cO) rfl ?_
    refine ai.val rfl (aa rfl) rfl ?_
    refine ai.nil ?_
    exact ⟨⟨z52,v61,(IntKind.wrap .i64 (x40 + 1))⟩,_,_,S64,.refl _ _,.refl _,(ak.r rfl (ak.r rfl (ak.r rfl (ak.r rfl (ak.r rfl (ak.r rfl ak.nil)))))),H65.sl [0,1,2,3,4,5] rfl rfl,h⟩
   ·
    replace h:=dH hb42 h
    refine aA.exit ?_
    refine aA.seq ?_
    refine aA.region E.obj rfl ?_
    refine ai.val rfl (aL H37 (i:=0) rfl rfl (dO jA fw rfl)) rfl ?_
    refine ai.less (Less.agg' (d:=ax (Tree.mk z10.tag z10.key z10.text z16 x38)) (aH.eq rfl (aH.eq rfl (aH.eq rfl (aH.eq rfl (aH.grow H37 (i:=2) rfl .nil))))) ((Tree.eq _).trans rfl)) ?_
    refine ai.store H37 (i:=1) rfl rfl rfl rfl (Tree.gu _) rfl fw rfl ow rfl rfl rfl (fun S66 H67=>?_)
    refine ai.nil ?_
    have hr:=Option.some.inj h
    subst hr
    exact aA.ret ⟨_,(rA H67 (i:=1) rfl rfl rfl (dO jA fw rfl)),rfl,_,_,_,.refl _,(Less.agg' (d:=ax (Tree.mk z10.tag z10.key z10.text z16 x38)) (aH.eq rfl (aH.eq rfl (aH.eq rfl (aH.eq rfl (aH.eq rfl .nil))))) ((Tree.eq _).trans rfl)),⟨rfl,rfl⟩,H67.sl [3,4,5] rfl rfl⟩
set_option maxRecDepth 20000 in
set_option maxHeartbeats 4000000 in
theorem lu (n:Nat) (a2:au) (a6:Int) (r:(Tree × Bool)) (h:iE n a2 a6=some r) (b1:Nat) (v3:AV) (ws4:List (List AV)) (w5:AV):cK R cfg.P 21 [.ptr b1 0 0,.d (.int .i64 a6)] [.box b1 [v3,w5],ay ae ah.kids 7 5 v3 ws4 a2.l none,aG w5 a2.freed] (fun v l=>v=.tup [.d (ax r.1),.d (.bool r.2)]∧l=[.box b1 [v3,w5],ay ae ah.kids 7 5 v3 ws4 a2.l none,aG w5 a2.freed]):=by
 unfold iE at h
 refine cK.of_wp (C:=cfg) Try.func21 rfl J7 rfl (fun B0 S0 H0=>?_)
 replace H0:Has B0 S0 [.box b1 [v3,w5],ay ae ah.kids 7 5 v3 ws4 a2.l none,aG w5 a2.freed]:=H0
 refine aA.seq ?_
 refine aA.region E.obj rfl ?_
 refine ai.alloc H0 rfl yg jZ rfl rfl (fun b7 S8 H9=>?_)
 refine ai.val rfl (aj rfl) rfl ?_
 refine ai.nil ?_
 refine aA.seq ?_
 refine aA.seq ?_
 refine aA.region E.obj rfl ?_
 refine ai.val rfl (aa rfl) rfl ?_
 refine ai.val rfl (aa rfl) rfl ?_
 obtain ⟨z10,hzz10,h⟩:=bind_some h
 refine ai.eB (ins:=[.box b1 [v3,w5],ay ae ah.kids 7 5 v3 ws4 a2.l none,aG w5 a2.freed]) (more:=[.box b7 [(.d (.str [])),(.d (.str [])),(.d (.str [])),(.d .aT),(.d .aT)]]) (H9.sl [1,2,3,0] rfl rfl) rfl (aI rfl rfl) (fJ E n _ _ _ hzz10 b1 v3 ws4 w5) (.cons (.refl _) (.cons (.refl _) .nil)) rfl ?_
 rintro v11 S12 l13 hr14 H15
 rcases z10 with _ | _
 ·
  obtain ⟨rfl,rfl⟩:=hr14
  replace h:=dH rfl h
  replace H15:Has B0 S12 [.box b1 [v3,w5],ay ae ah.kids 7 5 v3 ws4 a2.l none,aG w5 a2.freed,.box b7 [(.d (.str [])),(.d (.str [])),(.d (.str [])),(.d .aT),(.d .aT)]]:=H15
  have H16:Has B0 S12 [.box b7 [(.d (.str [])),(.d (.str [])),(.d (.str [])),(.d .aT),(.d .aT)],.box b1 [v3,w5],ay ae ah.kids 7 5 v3 ws4 a2.l none,aG w5 a2.freed]:=H15.sl [3,0,1,2] rfl rfl
  refine ai.val rfl (aB rfl rfl (jP pX)) rfl ?_
  refine ai.nil ?_
  refine aA.cond rfl (fun hb=>?_) (fun hb=>?_)
  ·
   refine aA.seq ?_
   refine aA.region E.obj rfl ?_
   refine ai.val rfl (dR (cs:=[(.d (.str [])),(.d (.str [])),(.d (.str [])),(.d .aT),(.d .aT)]) jZ rfl (dI) rfl) rfl ?_
   refine ai.less (Less.agg' (d:=ax (Tree.mk [] [] [] [] [])) (aH.eq rfl (aH.eq rfl (aH.eq rfl (aH.iJ rfl (.aT false) rfl rfl (aH.iJ rfl (.aT false) rfl rfl .nil))))) ((Tree.eq _).trans rfl)) ?_
   refine ai.store H16 (i:=0) rfl rfl rfl rfl (Tree.gu _) rfl fw rfl ow rfl rfl rfl (fun S17 H18=>?_)
   refine ai.val rfl (aj rfl) rfl ?_
   refine ai.nil ?_
   have hr:=Option.some.inj h
   subst hr
   exact aA.ret ⟨_,(u7 H18 (i:=0) rfl rfl rfl (dO jA fw rfl) rfl),rfl,_,_,_,.refl _,(Less.Je (Less.agg' (d:=ax (Tree.mk [] [] [] [] [])) (aH.eq rfl (aH.eq rfl (aH.eq rfl (aH.eq rfl (aH.eq rfl .nil))))) ((Tree.eq _).trans rfl)) (.refl _)),⟨rfl,rfl⟩,H18.sl [1,2,3] rfl rfl⟩
  ·
   cases hb
 ·
  obtain ⟨rfl,rfl⟩:=hr14
  replace h:=dF rfl h
  have H19:Has B0 S12 [.box b7 [(.d (.str [])),(.d (.str [])),(.d (.str [])),(.d .aT),(.d .aT)],.box b1 [v3,w5],ay ae ah.kids 7 5 v3 ws4 a2.l none,aG w5 a2.freed]:=H15.sl [3,0,1,2] rfl rfl
  obtain ⟨z20,hzz20,h⟩:=bind_some h
  refine ai.val rfl (jX H19 (q:=2) rfl hzz20 rfl rfl pX) rfl ?_
  refine ai.nil ?_
  refine aA.cond rfl (fun hb=>?_) (fun hb=>?_)
  ·
   cases hb
  ·
   refine aA.skip ?_
   refine aA.seq ?_
   refine aA.region E.obj rfl ?_
   refine ai.val rfl (aa rfl) rfl ?_
   refine ai.val rfl (aa rfl) rfl ?_
   obtain ⟨z21,hzz21,h⟩:=bind_some h
   refine ai.eB (ins:=[.box b1 [v3,w5],ay ae ah.kids 7 5 v3 ws4 a2.l none,aG w5 a2.freed]) (more:=[.box b7 [(.d (.str [])),(.d (.str [])),(.d (.str [])),(.d .aT),(.d .aT)]]) (H19.sl [1,2,3,0] rfl rfl) rfl (aI rfl rfl) (pR E n _ _ _ hzz21 b1 v3 ws4 w5) (.cons (.refl _) (.cons (.refl _) .nil)) rfl ?_
   rintro _ S22 _ ⟨rfl,rfl⟩ H23
   have H24:Has B0 S22 [.box b7 [(.d (.str [])),(.d (.str [])),(.d (.str [])),(.d .aT),(.d .aT)],.box b1 [v3,w5],ay ae ah.kids 7 5 v3 ws4 a2.l none,aG w5 a2.freed]:=H23.sl [3,0,1,2] rfl rfl
   refine ai.store H24 (i:=0) rfl rfl rfl rfl (Tree.gu _) rfl fw rfl ow rfl rfl rfl (fun S25 H26=>?_)
   refine ai.val rfl (aj rfl) rfl ?_
   refine ai.nil ?_
   have hr:=Option.some.inj h
   subst hr
   exact aA.ret ⟨_,(u7 H26 (i:=0) rfl rfl rfl (dO jA fw rfl) rfl),rfl,_,_,_,.refl _,(Less.Je (Less.agg' (d:=ax z21) (aH.eq rfl (aH.eq rfl (aH.eq rfl (aH.eq rfl (aH.eq rfl .nil))))) ((Tree.eq _).trans rfl)) (.refl _)),⟨rfl,rfl⟩,H26.sl [1,2,3] rfl rfl⟩
set_option maxRecDepth 20000 in
set_option maxHeartbeats 4000000 in
theorem jk (n:Nat) (a2:au) (r:Int) (h:fH n a2=some r) (b1:Nat) (v3:AV) (ws4:List (List AV)) (w5:AV):cK R cfg.P 22 [.ptr b1 0 0] [.box b1 [v3,w5],ay ae ah.kids 7 5 v3 ws4 a2.l none,aG w5 a2.freed] (fun v l=>v=.d (.int .i64 r)∧l=[.box b1 [v3,w5],ay ae ah.kids 7 5 v3 ws4 a2.l none,aG w5 a2.freed]):=by
 unfold fH at h
 refine cK.of_wp (C:=cfg) Try.func22 rfl JH rfl (fun B0 S0 H0=>?_)
 replace H0:Has B0 S0 [.box b1 [v3,w5],ay ae ah.kids 7 5 v3 ws4 a2.l none,aG w5 a2.freed]:=H0
 refine aA.seq ?_
 refine aA.region E.obj rfl ?_
 refine ai.val rfl (aj rfl) rfl ?_
 refine ai.nil ?_
 refine aA.seq ?_
 refine aA.iV E.obj lG KW [(2,some 11)] (by kernel_rfl) [] (by decide) [some (.ptr b1 0 0),some (.ptr b1 0 0),some (.ptr b1 0 0),some v3,some (.d (.int .i64 ((a2.l).length:Int))),some (.ptr b1 0 0),some (.ptr b1 0 0),some (.ptr b1 0 1),some w5,some (.d (.int .i64 ((a2.freed).length:Int))),some (.d (.int .i64 (IntKind.wrap .i64 (((a2.l).length:Int) - ((a2.freed).length:Int))))),some (.d (.int .i64 (IntKind.wrap .i64 (((a2.l).length:Int) - ((a2.freed).length:Int)))))] ?_
 refine ⟨[0,1,2,3,4,5,6,7,8,9,10,11],by kernel_rfl,?_,_,rfl,?_⟩
 ·
  refine .v rfl rfl rfl rfl (aa rfl) ?_
  refine .v rfl rfl rfl rfl (bu rfl) ?_
  refine .v rfl rfl rfl rfl (aC rfl jy q8 rfl) ?_
  refine .v rfl rfl rfl rfl (aL H0 (i:=0) rfl rfl (aQ rY rfl)) ?_
  refine .v rfl rfl rfl rfl (qX H0 (i:=1) rfl rfl GM) ?_
  refine .v rfl rfl rfl rfl (aa rfl) ?_
  refine .v rfl rfl rfl rfl (bu rfl) ?_
  refine .v rfl rfl rfl rfl (aC rfl si p9 rfl) ?_
  refine .v rfl rfl rfl rfl (aL H0 (i:=0) rfl rfl (aQ sF rfl)) ?_
  refine .v rfl rfl rfl rfl (jh H0 (i:=2) rfl rfl iZ) ?_
  refine .v rfl rfl rfl rfl (aB rfl rfl gV) ?_
  refine .v rfl rfl rfl rfl (aj rfl) ?_
  exact .nil
 have hr:=Option.some.inj h
 subst hr
 exact aA.ret ⟨_,rfl,rfl,_,_,_,.refl _,(.refl _),⟨rfl,rfl⟩,H0.sl [0,1,2] rfl rfl⟩
set_option maxRecDepth 20000 in
set_option maxHeartbeats 4000000 in
theorem sJ (n:Nat) (a2:au) (a6:Int) (a7:Int) (r:Bool) (h:iY n a2 a6 a7=some r) (b1:Nat) (v3:AV) (ws4:List (List AV)) (w5:AV):cK R cfg.P 60 [.ptr b1 0 0,.d (.int .i64 a6),.d (.int .i64 a7)] [.box b1 [v3,w5],ay ae ah.kids 7 5 v3 ws4 a2.l none,aG w5 a2.freed] (fun v l=>v=.d (.bool r)∧l=[.box b1 [v3,w5],ay ae ah.kids 7 5 v3 ws4 a2.l none,aG w5 a2.freed]):=by
 unfold iY at h
 refine cK.of_wp (C:=cfg) Try.func60 rfl Kb rfl (fun B0 S0 H0=>?_)
 replace H0:Has B0 S0 [.box b1 [v3,w5],ay ae ah.kids 7 5 v3 ws4 a2.l none,aG w5 a2.freed]:=H0
 refine aA.seq ?_
 refine aA.region E.obj rfl ?_
 refine ai.val rfl (aj rfl) rfl ?_
 refine ai.nil ?_
 refine aA.seq ?_
 refine aA.block ?_
 refine pM.start (B:=B0) (α:=Int) (fun k a=>di a2 a7 k a=some r) (fun a=>[(0,(.ptr b1 0 0)),(1,(.d (.int .i64 a))),(2,(.d (.int .i64 a7)))]) (fun a=>[.box b1 [v3,w5],ay ae ah.kids 7 5 v3 ws4 a2.l none,aG w5 a2.freed]) ?_ ?_ n ⟨a6,_,_,S0,.refl _ _,.refl _,(ak.r rfl (ak.r rfl (ak.r rfl ak.nil))),H0.sl [0,1,2] rfl rfl,h⟩
 ·
  intro a h; simp [di] at h
 ·
  intro k16 x15 S13 H14 h
  replace h:di a2 a7 (k16 + 1) x15=some r:=h
  replace H14:Has B0 S13 [.box b1 [v3,w5],ay ae ah.kids 7 5 v3 ws4 a2.l none,aG w5 a2.freed]:=H14
  unfold di at h
  refine aA.seq ?_
  refine aA.seq ?_
  refine aA.region E.obj rfl ?_
  refine ai.val rfl (aa rfl) rfl ?_
  refine ai.val rfl (aB rfl rfl ku) rfl ?_
  refine ai.val rfl (aa rfl) rfl ?_
  refine ai.jr 4 13 (.d (.bool ((x15 != 0) && (x15 != a7)))) ?_ ?_
  ·
   rcases Bool.eq_false_or_eq_true ((x15 != 0)) with hB17 | hB17
   ·
    refine ai.bool hB17 ?_
    refine ai.val rfl (aa rfl) rfl ?_
    refine ai.val rfl (aa rfl) rfl ?_
    refine ai.val rfl (aB rfl rfl ku) rfl ?_
    refine ai.val rfl (aF (b:=true) rfl rfl) rfl ?_
    exact ai.nil ⟨_,rfl,(ak.put (ak.push rfl (ak.push rfl (ak.push rfl (ak.put (.refl _) (Less.eq (by rw [hB17])))))) (Less.eq (by rw [hB17]; rw [Bool.true_and])))⟩
   ·
    refine ai.bool hB17 ?_
    refine ai.no rfl rfl ?_
    refine ai.no rfl rfl ?_
    refine ai.no rfl rfl ?_
    refine ai.val rfl (aF (b:=false) rfl rfl) rfl ?_
    exact ai.nil ⟨_,rfl,(ak.put (ak.push rfl (ak.push rfl (ak.push rfl (ak.put (.refl _) (Less.eq (by rw [hB17])))))) (Less.eq (by rw [hB17]; rw [Bool.false_and])))⟩
  ·
   refine ai.nil ?_
   refine aA.cond rfl (fun hb18=>?_) (fun hb18=>?_)
   ·
    replace h:=dF hb18 h
    refine aA.skip ?_
    refine aA.block ?_
    refine aA.region E.obj rfl ?_
    refine ai.val rfl (aa rfl) rfl ?_
    refine ai.val rfl (bu rfl) rfl ?_
    refine ai.val rfl (aC rfl jy q8 rfl) rfl ?_
    refine ai.val rfl (aL H14 (i:=0) rfl rfl (aQ rY rfl)) rfl ?_
    refine ai.val rfl (aa rfl) rfl ?_
    refine ai.val rfl (aB rfl rfl gV) rfl ?_
    obtain ⟨z19,hzz19,h⟩:=bind_some h
    refine ai.val rfl (fI H14 (i:=1) rfl hzz19 rfl rfl vN su oh) rfl ?_
    refine ai.val rfl (aZ H14 (i:=1) rfl hzz19 rfl qm G6 rfl) rfl ?_
    refine ai.jq H14 rfl (q:=1) rfl hzz19 rfl ni rfl rfl rfl ?_
    refine ai.val rfl (aj rfl) rfl ?_
    refine ai.nil ?_
    exact ⟨z19.parent,_,_,S13,.refl _ _,.refl _,(ak.r rfl (ak.r rfl (ak.r rfl ak.nil))),H14.sl [0,1,2] rfl rfl,h⟩
   ·
    replace h:=dH hb18 h
    refine aA.exit ?_
    refine aA.seq ?_
    refine aA.region E.obj rfl ?_
    refine ai.val rfl (aa rfl) rfl ?_
    refine ai.val rfl (aa rfl) rfl ?_
    refine ai.val rfl (aB rfl rfl bC) rfl ?_
    refine ai.val rfl (aj rfl) rfl ?_
    refine ai.nil ?_
    have hr:=Option.some.inj h
    subst hr
    exact aA.ret ⟨_,rfl,rfl,_,_,_,.refl _,(.refl _),⟨rfl,rfl⟩,H14.sl [0,1,2] rfl rfl⟩
set_option maxRecDepth 20000 in
set_option maxHeartbeats 4000000 in
theorem mQ (n:Nat) (a1:(List Int)) (a2:Int) (r:Int) (h:eX n a1 a2=some r):gY R cfg.P 84 [(.sl ((a1).map (D.int .i64)) false),(.int .i64 a2)] (.d (.int .i64 r)):=by
 unfold eX at h
 refine gY.of_wp E.obj.toObjOk (C:=cfg) Try.func84 rfl J3 rfl ?_
 have H0:Has aM aM []:=Has.pure
 refine aA.seq ?_
 refine aA.region E.obj rfl ?_
 refine ai.val rfl (aj rfl) rfl ?_
 refine ai.nil ?_
 refine aA.seq ?_
 refine aA.seq ?_
 refine aA.region E.obj rfl ?_
 refine ai.val rfl (aa rfl) rfl ?_
 refine ai.val rfl (bE rfl iZ) rfl ?_
 refine ai.val rfl (aa rfl) rfl ?_
 refine ai.nil ?_
 refine aA.block ?_
 refine pM.start (B:=aM) (α:=Int) (fun k a=>bH a1 a2 k a=some r) (fun a=>[(0,(.d (.sl ((a1).map (D.int .i64)) false))),(1,(.d (.int .i64 a2))),(7,(.d (.int .i64 ((a1).length:Int)))),(8,(.d (.int .i64 a)))]) (fun a=>[]) ?_ ?_ n ⟨0,_,_,aM,.refl _ _,.refl _,(ak.r rfl (ak.r rfl (ak.r rfl (ak.r rfl ak.nil)))),H0.sl [] rfl rfl,h⟩
 ·
  intro a h; simp [bH] at h
 ·
  intro k11 x10 S8 H9 h
  replace h:bH a1 a2 (k11 + 1) x10=some r:=h
  replace H9:Has aM S8 []:=H9
  unfold bH at h
  refine aA.seq ?_
  refine aA.region E.obj rfl ?_
  refine ai.val rfl (aB rfl rfl dN) rfl ?_
  refine ai.nil ?_
  refine aA.seq ?_
  refine aA.cond rfl (fun hb12=>?_) (fun hb12=>?_)
  ·
   replace h:=dF hb12 h
   refine aA.skip ?_
   refine aA.seq ?_
   refine aA.block ?_
   refine aA.seq ?_
   refine aA.region E.obj rfl ?_
   refine ai.val rfl (aa rfl) rfl ?_
   refine ai.val rfl (aj rfl) rfl ?_
   refine ai.nil ?_
   refine aA.seq ?_
   refine aA.region E.obj rfl ?_
   refine ai.val rfl (aa rfl) rfl ?_
   refine ai.val rfl (aa rfl) rfl ?_
   refine ai.val rfl (aa rfl) rfl ?_
   obtain ⟨z13,hzz13,h⟩:=bind_some h
   refine ai.val rfl (bD rfl rfl (bU (enc:=(D.int .i64)) hzz13 eH nZ (((fun _=>rfl) _).trans jL.symm))) rfl ?_
   refine ai.val rfl (aX rfl (bP ni rfl)) rfl ?_
   refine ai.val rfl (aB rfl rfl bC) rfl ?_
   refine ai.nil ?_
   refine aA.cond rfl (fun hb14=>?_) (fun hb14=>?_)
   ·
    replace h:=dF hb14 h
    refine aA.seq ?_
    refine aA.region E.obj rfl ?_
    refine ai.val rfl (aa rfl) rfl ?_
    refine ai.val rfl (aj rfl) rfl ?_
    refine ai.nil ?_
    have hr:=Option.some.inj h
    subst hr
    exact aA.ret ⟨_,rfl,rfl,lM (bO.eq .nil)⟩
   ·
    replace h:=dH hb14 h
    refine aA.skip ?_
    refine aA.region E.obj rfl ?_
    refine ai.val rfl (aB rfl rfl cO) rfl ?_
    refine ai.val rfl (aa rfl) rfl ?_
    refine ai.nil ?_
    exact ⟨(IntKind.wrap .i64 (x10 + 1)),_,_,S8,.refl _ _,.refl _,(ak.r rfl (ak.r rfl (ak.r rfl (ak.r rfl ak.nil)))),H9.sl [] rfl rfl,h⟩
  ·
   replace h:=dH hb12 h
   refine aA.exit ?_
   refine aA.seq ?_
   refine aA.region E.obj rfl ?_
   refine ai.val rfl (aj rfl) rfl ?_
   refine ai.nil ?_
   have hr:=Option.some.inj h
   subst hr
   exact aA.ret ⟨_,rfl,rfl,lM (bO.eq .nil)⟩
set_option maxRecDepth 20000 in
set_option maxHeartbeats 4000000 in
theorem mq (n:Nat) (a1:(List Int)) (a3:Int) (a4:Int) (r:(List Int)) (h:dY n a1 a3 a4=some r) (w2:AV):cK R cfg.P 85 [w2,.d (.int .i64 a3),.d (.int .i64 a4)] [aG w2 a1] (fun v l=>l=[aG v r]):=by
 unfold dY at h
 refine cK.of_wp (C:=cfg) Try.func85 rfl Kl rfl (fun B0 S0 H0=>?_)
 replace H0:Has B0 S0 [aG w2 a1]:=H0
 refine aA.seq ?_
 refine aA.region E.obj rfl ?_
 refine ai.val rfl (aj rfl) rfl ?_
 refine ai.nil ?_
 refine aA.seq ?_
 refine aA.region E.obj rfl ?_
 refine ai.val rfl (aa rfl) rfl ?_
 refine ai.val rfl (aa rfl) rfl ?_
 refine ai.val rfl (aa rfl) rfl ?_
 refine ai.val rfl (aa rfl) rfl ?_
 refine ai.val rfl (jh H0 (i:=0) rfl rfl iZ) rfl ?_
 obtain ⟨z5,hzz5,h⟩:=bind_some h
 refine ai.val rfl (DX H0 (q:=0) rfl rfl rfl rfl rfl eH Eo jL (BR hzz5)) rfl ?_
 refine ai.nil ?_
 refine aA.seq ?_
 refine aA.seq ?_
 refine aA.region E.obj rfl ?_
 refine ai.val rfl (aa rfl) rfl ?_
 refine ai.val rfl (aa rfl) rfl ?_
 refine ai.val rfl (aB rfl rfl bC) rfl ?_
 refine ai.nil ?_
 refine aA.cond rfl (fun hb6=>?_) (fun hb6=>?_)
 ·
  replace h:=dF hb6 h
  refine aA.seq ?_
  refine aA.region E.obj rfl ?_
  refine ai.val rfl (aa rfl) rfl ?_
  refine ai.val rfl (aj rfl) rfl ?_
  refine ai.nil ?_
  have hr:=Option.some.inj h
  subst hr
  exact aA.ret ⟨_,rfl,rfl,_,_,_,.refl _,(.refl _),rfl,H0.sl [0] rfl rfl⟩
 ·
  replace h:=dH hb6 h
  refine aA.skip ?_
  refine aA.seq ?_
  refine aA.region E.obj rfl ?_
  refine ai.val rfl (aa rfl) rfl ?_
  refine ai.val rfl (jh H0 (i:=0) rfl rfl iZ) rfl ?_
  refine ai.val rfl (aj rfl) rfl ?_
  refine ai.nil ?_
  refine aA.seq ?_
  refine aA.iV E.obj lG KZ [(0,some 7),(7,none)] (by kernel_rfl) [6] (by decide) [some w2,some (.d (.int .i64 a3)),some (kC w2 (Int.toNat a3)),some w2,some (.d (.int .i64 a4)),some (lQ w2 (Int.toNat a4)),none,none] ?_
  refine ⟨[0,1,2,3,4,5],by kernel_rfl,?_,_,_,rfl,rfl,.step ?_⟩
  ·
   refine .v rfl rfl rfl rfl (aa rfl) ?_
   refine .v rfl rfl rfl rfl (aa rfl) ?_
   refine .v rfl rfl rfl rfl (Cy H0 (q:=0) rfl rfl rfl eH Eo jL (BR hzz5)) ?_
   refine .v rfl rfl rfl rfl (aa rfl) ?_
   refine .v rfl rfl rfl rfl (aa rfl) ?_
   refine .v rfl rfl rfl rfl (zh H0 (q:=0) rfl rfl rfl eH Eo jL (BR hzz5)) ?_
   exact .nil
  have H12:Has B0 S0 ([aG w2 a1] ++ []):=H0.sl [0] rfl rfl
  replace H12:Has B0 S0 [aG w2 a1]:=H12
  refine ai.Ho H12 rfl rfl rfl Gc eH jL hzz5 rfl (fun S13 H14 hroom15=>?_)
  have H16:Has B0 S13 [aG (kC w2 (z5).length) z5]:=H14.sl [0] rfl rfl
  refine ai.nil ⟨_,_,_,rfl,(fun _ ht=>by cases ht; rfl),[some w2,some (.d (.int .i64 a3)),some (kC w2 (Int.toNat a3)),some w2,some (.d (.int .i64 a4)),some (lQ w2 (Int.toNat a4)),some (kC w2 (z5).length),some (kC w2 (z5).length)],(.o (.o (.o (.o (.o (.o (.new (.new .nil)))))))),(fun _ ht=>by cases ht; exact ⟨_,rfl,.refl _⟩),?_⟩
  refine ⟨[7],by kernel_rfl,?_,_,rfl,?_⟩
  ·
   refine .v rfl rfl rfl rfl (aj rfl) ?_
   exact .nil
  refine aA.seq ?_
  refine aA.region E.obj rfl ?_
  refine ai.val rfl (aa rfl) rfl ?_
  refine ai.val rfl (aa rfl) rfl ?_
  refine ai.val rfl (jh H16 (i:=0) rfl rfl iZ) rfl ?_
  refine ai.val rfl (aa rfl) rfl ?_
  refine ai.val rfl (BJ H16 (q:=0) rfl rfl rfl rfl eH Eo jL (Int.natCast_nonneg _) hroom15) rfl ?_
  have H17:Has B0 S13 ([aG (kC w2 (z5).length) z5] ++ []):=H16.sl [0] rfl rfl
  replace H17:Has B0 S13 [aG (kC w2 (z5).length) z5]:=H17
  refine ai.EA (jj:=_) H17 rfl rfl eH Ex rfl hroom15 (fun S18 H19=>?_)
  have H20:Has B0 S18 [aG (kC w2 (z5).length) z5]:=H19.sl [0] rfl rfl
  refine ai.nil ?_
  refine aA.seq ?_
  refine aA.region E.obj rfl ?_
  refine ai.val rfl (aa rfl) rfl ?_
  refine ai.val rfl (aj rfl) rfl ?_
  refine ai.nil ?_
  have hr:=Option.some.inj h
  subst hr
  exact aA.ret ⟨_,rfl,rfl,_,_,_,.refl _,(.refl _),rfl,H20.sl [0] rfl rfl⟩
set_option maxRecDepth 20000 in
set_option maxHeartbeats 4000000 in
theorem nQ (n:Nat) (a2:au) (a6:Int) (r:au) (h:iT n a2 a6=some r) (b1:Nat) (v3:AV) (ws4:List (List AV)) (w5:AV):cK R cfg.P 61 [.ptr b1 0 0,.d (.int .i64 a6)] [.box b1 [v3,w5],ay ae ah.kids 7 5 v3 ws4 a2.l none,aG w5 a2.freed] (fun v l=>v=.tup []∧∃ dws0 dw0,l=[.box b1 [v3,dw0],ay ae ah.kids 7 5 v3 dws0 r.l none,aG dw0 r.freed]):=by
 unfold iT at h
 refine cK.of_wp (C:=cfg) Try.func61 rfl JE rfl (fun B0 S0 H0=>?_)
 replace H0:Has B0 S0 [.box b1 [v3,w5],ay ae ah.kids 7 5 v3 ws4 a2.l none,aG w5 a2.freed]:=H0
 refine aA.seq ?_
 refine aA.region E.obj rfl ?_
 refine ai.val rfl (aa rfl) rfl ?_
 refine ai.val rfl (bu rfl) rfl ?_
 refine ai.val rfl (aC rfl jy q8 rfl) rfl ?_
 refine ai.val rfl (aL H0 (i:=0) rfl rfl (aQ rY rfl)) rfl ?_
 refine ai.val rfl (aa rfl) rfl ?_
 refine ai.val rfl (aB rfl rfl gV) rfl ?_
 obtain ⟨z7,hzz7,h⟩:=bind_some h
 refine ai.val rfl (fI H0 (i:=1) rfl hzz7 rfl rfl vN su oh) rfl ?_
 refine ai.val rfl (aj rfl) rfl ?_
 refine ai.nil ?_
 refine aA.seq ?_
 refine aA.seq ?_
 refine aA.region E.obj rfl ?_
 refine ai.val rfl (aa rfl) rfl ?_
 refine ai.val rfl (bF H0 (q:=1) rfl hzz7 rfl) rfl ?_
 refine ai.val rfl (aZ H0 (i:=1) rfl hzz7 rfl qm G6 rfl) rfl ?_
 refine ai.jq H0 rfl (q:=1) rfl hzz7 rfl ni rfl rfl rfl ?_
 refine ai.val rfl (aB rfl rfl bC) rfl ?_
 refine ai.nil ?_
 refine aA.cond rfl (fun hb8=>?_) (fun hb8=>?_)
 ·
  replace h:=dF hb8 h
  have hr:=Option.some.inj h
  subst hr
  exact aA.ret ⟨_,rfl,rfl,_,_,_,.refl _,(.refl _),⟨rfl,ws4,w5,rfl⟩,H0.sl [0,1,2] rfl rfl⟩
 ·
  replace h:=dH hb8 h
  refine aA.skip ?_
  refine aA.seq ?_
  obtain ⟨z9,hzz9,h⟩:=bind_some h
  refine aA.iV E.obj lG KX [(1,none),(4,none),(5,some 10)] (by kernel_rfl) [] (by decide) [some (.ptr b1 0 0),some (.ptr b1 0 0),some (.ptr b1 0 0),some v3,some (bq v3 (Int.toNat (IntKind.wrap .i64 (a6 - 1))) 0),some (bq v3 (Int.toNat (IntKind.wrap .i64 (a6 - 1))) 0),some (bq v3 (Int.toNat (IntKind.wrap .i64 (a6 - 1))) 6),some (.d (.int .i64 z7.parent)),some (.d (.int .i64 (IntKind.wrap .i64 (z7.parent - 1)))),some (bq v3 (Int.toNat (IntKind.wrap .i64 (z7.parent - 1))) 0),some (bq v3 (Int.toNat (IntKind.wrap .i64 (z7.parent - 1))) 0)] ?_
  refine ⟨[0,1,2,3,4,5,6,7,8,9,10],by kernel_rfl,?_,_,rfl,?_⟩
  ·
   refine .v rfl rfl rfl rfl (aa rfl) ?_
   refine .v rfl rfl rfl rfl (bu rfl) ?_
   refine .v rfl rfl rfl rfl (aC rfl jy q8 rfl) ?_
   refine .v rfl rfl rfl rfl (aL H0 (i:=0) rfl rfl (aQ rY rfl)) ?_
   refine .v rfl rfl rfl rfl (aa rfl) ?_
   refine .v rfl rfl rfl rfl (bF H0 (q:=1) rfl hzz7 rfl) ?_
   refine .v rfl rfl rfl rfl (aZ H0 (i:=1) rfl hzz7 rfl qm G6 rfl) ?_
   refine .cons rfl rfl rfl (.step ?_) ?_
   ·
    refine ai.jq H0 rfl (q:=1) rfl hzz7 rfl ni rfl rfl rfl ?_
    exact ai.nil ⟨_,_,rfl,fun _ ht=>by cases ht; exact ⟨rfl,.refl _⟩⟩
   refine .v rfl rfl rfl rfl (aB rfl rfl gV) ?_
   refine .v rfl rfl rfl rfl (fI H0 (i:=1) rfl hzz9 rfl rfl vN su oh) ?_
   refine .v rfl rfl rfl rfl (aj rfl) ?_
   exact .nil
  refine aA.seq ?_
  refine aA.region E.obj rfl ?_
  refine ai.val rfl (aa rfl) rfl ?_
  obtain ⟨z10,hzz10,h⟩:=bind_some h
  refine ai.val rfl (bF H0 (q:=1) rfl hzz10 rfl) rfl ?_
  refine ai.val rfl (aZ H0 (i:=1) rfl hzz10 rfl lZ p9 rfl) rfl ?_
  refine ai.val rfl (fP H0 (i:=1) rfl hzz10 rfl sF) rfl ?_
  refine ai.val rfl (aa rfl) rfl ?_
  obtain ⟨z11,hzz11,h⟩:=bind_some h
  have H12:Has B0 S0 ([ay ae ah.kids 7 5 v3 ws4 a2.l none] ++ [.box b1 [v3,w5],aG w5 a2.freed]):=H0.sl [1,0,2] rfl rfl
  replace H12:Has B0 S0 [ay ae ah.kids 7 5 v3 ws4 a2.l none,.box b1 [v3,w5],aG w5 a2.freed]:=H12
  have H13:=Has.take H12 (dB hzz10).2
  refine ai.JY E.obj.toObjOk rfl (aI rfl rfl) (mQ E n _ _ _ hzz11) rfl (.cons (BL.Ld H13 (q:=0) rfl) (.cons (.less (.refl _)) .nil)) rfl ?_
  refine ai.val rfl (aj rfl) rfl ?_
  refine ai.nil ?_
  refine aA.seq ?_
  refine aA.region E.obj rfl ?_
  refine ai.val rfl (aa rfl) rfl ?_
  refine ai.val rfl (aa rfl) rfl ?_
  refine ai.val rfl (bF H0 (q:=1) rfl hzz10 rfl) rfl ?_
  refine ai.val rfl (aZ H0 (i:=1) rfl hzz10 rfl lZ p9 rfl) rfl ?_
  refine ai.val rfl (fP H0 (i:=1) rfl hzz10 rfl sF) rfl ?_
  refine ai.val rfl (aa rfl) rfl ?_
  refine ai.val rfl (aa rfl) rfl ?_
  refine ai.val rfl (aB rfl rfl cO) rfl ?_
  obtain ⟨z14,hzz14,h⟩:=bind_some h
  have H15:Has B0 S0 ([ay ae ah.kids 7 5 v3 ws4 a2.l none] ++ [.box b1 [v3,w5],aG w5 a2.freed]):=H0.sl [1,0,2] rfl rfl
  replace H15:Has B0 S0 [ay ae ah.kids 7 5 v3 ws4 a2.l none,.box b1 [v3,w5],aG w5 a2.freed]:=H15
  have H16:=Has.take H15 (dB hzz10).2
  have H17:Has B0 S0 [aG (gU 5 ws4 (Int.toNat (IntKind.wrap .i64 (z7.parent - 1)))) z10.kids,.box b1 [v3,w5],ay ae ah.kids 7 5 v3 ws4 a2.l (some (Int.toNat (IntKind.wrap .i64 (z7.parent - 1)))),aG w5 a2.freed]:=H16.sl [0,2,1,3] rfl rfl
  refine ai.eB (ins:=[aG (gU 5 ws4 (Int.toNat (IntKind.wrap .i64 (z7.parent - 1)))) z10.kids]) (more:=[.box b1 [v3,w5],ay ae ah.kids 7 5 v3 ws4 a2.l (some (Int.toNat (IntKind.wrap .i64 (z7.parent - 1)))),aG w5 a2.freed]) (H17.sl [0,1,2,3] rfl rfl) rfl (aI rfl rfl) (mq E n _ _ _ _ hzz14 _) (.cons (.refl _) (.cons (.refl _) (.cons (.refl _) .nil))) rfl ?_
  rintro v18 S19 _ rfl H20
  have H21:Has B0 S19 [aG v18 z14,.box b1 [v3,w5],ay ae ah.kids 7 5 v3 ws4 a2.l (some (Int.toNat (IntKind.wrap .i64 (z7.parent - 1)))),aG w5 a2.freed]:=H20.sl [0,1,2,3] rfl rfl
  refine ai.val rfl (bF H21 (q:=2) rfl hzz10 rfl) rfl ?_
  refine ai.val rfl (aZ H21 (i:=2) rfl hzz10 rfl lZ p9 rfl) rfl ?_
  have H25:Has B0 S19 ([aG v18 z14,ay ae ah.kids 7 5 v3 ws4 a2.l (some (Int.toNat (IntKind.wrap .i64 (z7.parent - 1))))] ++ [.box b1 [v3,w5],aG w5 a2.freed]):=H21.sl [0,2,1,3] rfl rfl
  replace H25:Has B0 S19 [aG v18 z14,ay ae ah.kids 7 5 v3 ws4 a2.l (some (Int.toNat (IntKind.wrap .i64 (z7.parent - 1)))),.box b1 [v3,w5],aG w5 a2.freed]:=H25
  refine ai.xX (z':=(ah.mk z10.lives z10.tag z10.key z10.text z10.attrs z14 z10.parent)) (c:=.sl ((z14).map (D.int .i64)) false) H25 rfl hzz10 (.inr rfl) rfl rfl GL Gb rfl rfl rfl (fun ws24 S22 H23=>?_)
  have H26:Has B0 S22 [.box b1 [v3,w5],ay ae ah.kids 7 5 v3 ws24 (jw a2.l (IntKind.wrap .i64 (z7.parent - 1)) (ah.mk z10.lives z10.tag z10.key z10.text z10.attrs z14 z10.parent)) none,aG w5 a2.freed]:=H23.sl [1,0,2] rfl rfl
  refine ai.nil ?_
  refine aA.region E.obj rfl ?_
  refine ai.val rfl (aa rfl) rfl ?_
  obtain ⟨z27,hzz27,h⟩:=bind_some h
  refine ai.val rfl (bF H26 (q:=1) rfl hzz27 rfl) rfl ?_
  refine ai.val rfl (aZ H26 (i:=1) rfl hzz27 rfl qm G6 rfl) rfl ?_
  have H31:Has B0 S22 ([ay ae ah.kids 7 5 v3 ws24 (jw a2.l (IntKind.wrap .i64 (z7.parent - 1)) (ah.mk z10.lives z10.tag z10.key z10.text z10.attrs z14 z10.parent)) none] ++ [.box b1 [v3,w5],aG w5 a2.freed]):=H26.sl [1,0,2] rfl rfl
  replace H31:Has B0 S22 [ay ae ah.kids 7 5 v3 ws24 (jw a2.l (IntKind.wrap .i64 (z7.parent - 1)) (ah.mk z10.lives z10.tag z10.key z10.text z10.attrs z14 z10.parent)) none,.box b1 [v3,w5],aG w5 a2.freed]:=H31
  refine ai.pJ (z':=(ah.mk z27.lives z27.tag z27.key z27.text z27.attrs z27.kids 0)) H31 rfl hzz27 rfl rfl rfl rfl (.refl _) jL nZ rfl rfl rfl rfl rfl (fun ws30 S28 H29=>?_)
  have H32:Has B0 S28 [.box b1 [v3,w5],ay ae ah.kids 7 5 v3 ws30 (jw (jw a2.l (IntKind.wrap .i64 (z7.parent - 1)) (ah.mk z10.lives z10.tag z10.key z10.text z10.attrs z14 z10.parent)) (IntKind.wrap .i64 (a6 - 1)) (ah.mk z27.lives z27.tag z27.key z27.text z27.attrs z27.kids 0)) none,aG w5 a2.freed]:=H29.sl [1,0,2] rfl rfl
  refine ai.nil ?_
  have hr:=Option.some.inj h
  subst hr
  exact ⟨_,rfl,rfl,_,_,_,.refl _,(.refl _),⟨rfl,ws30,w5,rfl⟩,H32.sl [0,1,2] rfl rfl⟩
set_option maxRecDepth 20000 in
set_option maxHeartbeats 4000000 in
theorem jT (n:Nat) (a2:au) (a6:Int) (a7:Int) (a8:Int) (r:(Bool × au)) (h:eF n a2 a6 a7 a8=some r) (b1:Nat) (v3:AV) (ws4:List (List AV)) (w5:AV):cK R cfg.P 14 [.ptr b1 0 0,.d (.int .i64 a6),.d (.int .i64 a7),.d (.int .i64 a8)] [.box b1 [v3,w5],ay ae ah.kids 7 5 v3 ws4 a2.l none,aG w5 a2.freed] (fun v l=>v=.d (.bool r.1)∧∃ dws0 dw0,l=[.box b1 [v3,dw0],ay ae ah.kids 7 5 v3 dws0 r.2.l none,aG dw0 r.2.freed]):=by
 unfold eF at h
 refine cK.of_wp (C:=pO) Try.func14 rfl J6 rfl (fun B0 S0 H0=>?_)
 replace H0:Has B0 S0 [.box b1 [v3,w5],ay ae ah.kids 7 5 v3 ws4 a2.l none,aG w5 a2.freed]:=H0
 refine aA.seq ?_
 refine aA.region (dG E) rfl ?_
 refine ai.val rfl (aj rfl) rfl ?_
 refine ai.nil ?_
 refine aA.seq ?_
 refine aA.region (dG E) rfl ?_
 refine ai.val rfl (aa rfl) rfl ?_
 refine ai.val rfl (aa rfl) rfl ?_
 obtain ⟨z9,hzz9,h⟩:=bind_some h
 refine ai.eB (ins:=[.box b1 [v3,w5],ay ae ah.kids 7 5 v3 ws4 a2.l none,aG w5 a2.freed]) (more:=[]) (H0.sl [0,1,2] rfl rfl) rfl (aI rfl rfl) (fJ E n _ _ _ hzz9 b1 v3 ws4 w5) (.cons (.refl _) (.cons (.refl _) .nil)) rfl ?_
 rintro v10 S11 l12 hr13 H14
 rcases z9 with _ | _
 ·
  obtain ⟨rfl,rfl⟩:=hr13
  replace h:=dH rfl h
  replace H14:Has B0 S11 [.box b1 [v3,w5],ay ae ah.kids 7 5 v3 ws4 a2.l none,aG w5 a2.freed]:=H14
  have H15:Has B0 S11 [.box b1 [v3,w5],ay ae ah.kids 7 5 v3 ws4 a2.l none,aG w5 a2.freed]:=H14.sl [0,1,2] rfl rfl
  refine ai.val rfl (aa rfl) rfl ?_
  refine ai.val rfl (aa rfl) rfl ?_
  obtain ⟨z16,hzz16,h⟩:=bind_some h
  refine ai.eB (ins:=[.box b1 [v3,w5],ay ae ah.kids 7 5 v3 ws4 a2.l none,aG w5 a2.freed]) (more:=[]) (H15.sl [0,1,2] rfl rfl) rfl (aI rfl rfl) (fJ E n _ _ _ hzz16 b1 v3 ws4 w5) (.cons (.refl _) (.cons (.refl _) .nil)) rfl ?_
  rintro v17 S18 l19 hr20 H21
  rcases z16 with _ | _
  ·
   obtain ⟨rfl,rfl⟩:=hr20
   replace h:=dH rfl h
   replace H21:Has B0 S18 [.box b1 [v3,w5],ay ae ah.kids 7 5 v3 ws4 a2.l none,aG w5 a2.freed]:=H21
   have H22:Has B0 S18 [.box b1 [v3,w5],ay ae ah.kids 7 5 v3 ws4 a2.l none,aG w5 a2.freed]:=H21.sl [0,1,2] rfl rfl
   refine ai.val rfl (aj rfl) rfl ?_
   refine ai.val rfl (aj rfl) rfl ?_
   refine ai.nil ?_
   refine aA.seq ?_
   refine aA.seq ?_
   refine aA.region (dG E) rfl ?_
   refine ai.val rfl (aa rfl) rfl ?_
   refine ai.val rfl (aB rfl rfl (jP pX)) rfl ?_
   refine ai.val rfl (aa rfl) rfl ?_
   refine ai.no rfl rfl ?_
   refine ai.no rfl rfl ?_
   refine ai.val rfl (aF (b:=true) rfl rfl) rfl ?_
   refine ai.val rfl (aa rfl) rfl ?_
   refine ai.no rfl rfl ?_
   refine ai.no rfl rfl ?_
   refine ai.no rfl rfl ?_
   refine ai.no rfl rfl ?_
   refine ai.no rfl rfl ?_
   refine ai.val rfl (aF (b:=true) rfl rfl) rfl ?_
   refine ai.val rfl (aa rfl) rfl ?_
   refine ai.no rfl rfl ?_
   refine ai.no rfl rfl ?_
   refine ai.val rfl (aF (b:=true) rfl rfl) rfl ?_
   refine ai.val rfl (aa rfl) rfl ?_
   refine ai.no rfl rfl ?_
   refine ai.no rfl rfl ?_
   refine ai.no rfl rfl ?_
   refine ai.no rfl rfl ?_
   refine ai.val rfl (aF (b:=true) rfl rfl) rfl ?_
   refine ai.nil ?_
   refine aA.cond rfl (fun hb=>?_) (fun hb=>?_)
   ·
    refine aA.seq ?_
    refine aA.region (dG E) rfl ?_
    refine ai.val rfl (aj rfl) rfl ?_
    refine ai.nil ?_
    have hr:=Option.some.inj h
    subst hr
    exact aA.ret ⟨_,rfl,rfl,_,_,_,.refl _,(.refl _),⟨rfl,ws4,w5,rfl⟩,H22.sl [0,1,2] rfl rfl⟩
   ·
    cases hb
  ·
   obtain ⟨rfl,rfl⟩:=hr20
   replace h:=dF rfl h
   have H23:Has B0 S18 [.box b1 [v3,w5],ay ae ah.kids 7 5 v3 ws4 a2.l none,aG w5 a2.freed]:=H21.sl [0,1,2] rfl rfl
   refine ai.val rfl (aj rfl) rfl ?_
   refine ai.val rfl (aj rfl) rfl ?_
   refine ai.nil ?_
   refine aA.seq ?_
   refine aA.seq ?_
   refine aA.region (dG E) rfl ?_
   refine ai.val rfl (aa rfl) rfl ?_
   refine ai.val rfl (aB rfl rfl (jP pX)) rfl ?_
   refine ai.val rfl (aa rfl) rfl ?_
   refine ai.no rfl rfl ?_
   refine ai.no rfl rfl ?_
   refine ai.val rfl (aF (b:=true) rfl rfl) rfl ?_
   refine ai.val rfl (aa rfl) rfl ?_
   refine ai.no rfl rfl ?_
   refine ai.no rfl rfl ?_
   refine ai.no rfl rfl ?_
   refine ai.no rfl rfl ?_
   refine ai.no rfl rfl ?_
   refine ai.val rfl (aF (b:=true) rfl rfl) rfl ?_
   refine ai.val rfl (aa rfl) rfl ?_
   refine ai.no rfl rfl ?_
   refine ai.no rfl rfl ?_
   refine ai.val rfl (aF (b:=true) rfl rfl) rfl ?_
   refine ai.val rfl (aa rfl) rfl ?_
   refine ai.no rfl rfl ?_
   refine ai.no rfl rfl ?_
   refine ai.no rfl rfl ?_
   refine ai.no rfl rfl ?_
   refine ai.val rfl (aF (b:=true) rfl rfl) rfl ?_
   refine ai.nil ?_
   refine aA.cond rfl (fun hb=>?_) (fun hb=>?_)
   ·
    refine aA.seq ?_
    refine aA.region (dG E) rfl ?_
    refine ai.val rfl (aj rfl) rfl ?_
    refine ai.nil ?_
    have hr:=Option.some.inj h
    subst hr
    exact aA.ret ⟨_,rfl,rfl,_,_,_,.refl _,(.refl _),⟨rfl,ws4,w5,rfl⟩,H23.sl [0,1,2] rfl rfl⟩
   ·
    cases hb
 ·
  obtain ⟨rfl,rfl⟩:=hr13
  replace h:=dF rfl h
  have H24:Has B0 S11 [.box b1 [v3,w5],ay ae ah.kids 7 5 v3 ws4 a2.l none,aG w5 a2.freed]:=H14.sl [0,1,2] rfl rfl
  refine ai.val rfl (aa rfl) rfl ?_
  refine ai.val rfl (aa rfl) rfl ?_
  obtain ⟨z25,hzz25,h⟩:=bind_some h
  refine ai.eB (ins:=[.box b1 [v3,w5],ay ae ah.kids 7 5 v3 ws4 a2.l none,aG w5 a2.freed]) (more:=[]) (H24.sl [0,1,2] rfl rfl) rfl (aI rfl rfl) (fJ E n _ _ _ hzz25 b1 v3 ws4 w5) (.cons (.refl _) (.cons (.refl _) .nil)) rfl ?_
  rintro v26 S27 l28 hr29 H30
  rcases z25 with _ | _
  ·
   obtain ⟨rfl,rfl⟩:=hr29
   replace h:=dH rfl h
   replace H30:Has B0 S27 [.box b1 [v3,w5],ay ae ah.kids 7 5 v3 ws4 a2.l none,aG w5 a2.freed]:=H30
   have H31:Has B0 S27 [.box b1 [v3,w5],ay ae ah.kids 7 5 v3 ws4 a2.l none,aG w5 a2.freed]:=H30.sl [0,1,2] rfl rfl
   refine ai.val rfl (aj rfl) rfl ?_
   refine ai.val rfl (aj rfl) rfl ?_
   refine ai.nil ?_
   refine aA.seq ?_
   refine aA.seq ?_
   refine aA.region (dG E) rfl ?_
   refine ai.val rfl (aa rfl) rfl ?_
   obtain ⟨z32,hzz32,h⟩:=bind_some h
   refine ai.val rfl (jX H31 (q:=1) rfl hzz32 rfl rfl pX) rfl ?_
   refine ai.val rfl (aa rfl) rfl ?_
   refine ai.val rfl (aa rfl) rfl ?_
   refine ai.val rfl (aB rfl rfl (jP pX)) rfl ?_
   refine ai.val rfl (aF (b:=false) rfl rfl) rfl ?_
   refine ai.val rfl (aa rfl) rfl ?_
   refine ai.no rfl rfl ?_
   refine ai.no rfl rfl ?_
   refine ai.no rfl rfl ?_
   refine ai.no rfl rfl ?_
   refine ai.no rfl rfl ?_
   refine ai.val rfl (aF (b:=true) rfl rfl) rfl ?_
   refine ai.val rfl (aa rfl) rfl ?_
   refine ai.no rfl rfl ?_
   refine ai.no rfl rfl ?_
   refine ai.val rfl (aF (b:=true) rfl rfl) rfl ?_
   refine ai.val rfl (aa rfl) rfl ?_
   refine ai.no rfl rfl ?_
   refine ai.no rfl rfl ?_
   refine ai.no rfl rfl ?_
   refine ai.no rfl rfl ?_
   refine ai.val rfl (aF (b:=true) rfl rfl) rfl ?_
   refine ai.nil ?_
   refine aA.cond rfl (fun hb=>?_) (fun hb=>?_)
   ·
    refine aA.seq ?_
    refine aA.region (dG E) rfl ?_
    refine ai.val rfl (aj rfl) rfl ?_
    refine ai.nil ?_
    have hr:=Option.some.inj h
    subst hr
    exact aA.ret ⟨_,rfl,rfl,_,_,_,.refl _,(.refl _),⟨rfl,ws4,w5,rfl⟩,H31.sl [0,1,2] rfl rfl⟩
   ·
    cases hb
  ·
   obtain ⟨rfl,rfl⟩:=hr29
   replace h:=dF rfl h
   have H33:Has B0 S27 [.box b1 [v3,w5],ay ae ah.kids 7 5 v3 ws4 a2.l none,aG w5 a2.freed]:=H30.sl [0,1,2] rfl rfl
   refine ai.val rfl (aj rfl) rfl ?_
   refine ai.val rfl (aj rfl) rfl ?_
   refine ai.nil ?_
   refine aA.seq ?_
   refine aA.seq ?_
   refine aA.region (dG E) rfl ?_
   refine ai.val rfl (aa rfl) rfl ?_
   obtain ⟨z34,hzz34,h⟩:=bind_some h
   refine ai.val rfl (jX H33 (q:=1) rfl hzz34 rfl rfl pX) rfl ?_
   refine ai.val rfl (aa rfl) rfl ?_
   refine ai.val rfl (aa rfl) rfl ?_
   obtain ⟨z35,hzz35,h⟩:=bind_some h
   refine ai.val rfl (jX H33 (q:=1) rfl hzz35 rfl rfl pX) rfl ?_
   refine ai.val rfl (aF (b:=false) rfl rfl) rfl ?_
   refine ai.val rfl (aa rfl) rfl ?_
   refine ai.val rfl (aa rfl) rfl ?_
   refine ai.val rfl (bF H33 (q:=1) rfl hzz34 rfl) rfl ?_
   refine ai.val rfl (aZ H33 (i:=1) rfl hzz34 rfl wR uf rfl) rfl ?_
   refine ai.jq H33 rfl (q:=1) rfl hzz34 rfl uF rfl rfl rfl ?_
   refine ai.val rfl (aB rfl rfl om) rfl ?_
   refine ai.val rfl (aF (b:=false) rfl rfl) rfl ?_
   refine ai.val rfl (aa rfl) rfl ?_
   refine ai.jr 3 33 (.d (.bool ((z34.tag == []) || (a7 == 1)))) ?_ ?_
   ·
    rcases Bool.eq_false_or_eq_true ((z34.tag == [])) with hB36 | hB36
    ·
     refine ai.bool hB36 ?_
     refine ai.no rfl rfl ?_
     refine ai.no rfl rfl ?_
     refine ai.val rfl (aF (b:=true) rfl rfl) rfl ?_
     exact ai.nil ⟨_,rfl,(ak.put (ak.push rfl (ak.push rfl (ak.put (.refl _) (Less.eq (by rw [hB36]))))) (Less.eq (by rw [hB36]; rw [Bool.true_or])))⟩
    ·
     refine ai.bool hB36 ?_
     refine ai.val rfl (aa rfl) rfl ?_
     refine ai.val rfl (aB rfl rfl bC) rfl ?_
     refine ai.val rfl (aF (b:=false) rfl rfl) rfl ?_
     exact ai.nil ⟨_,rfl,(ak.put (ak.push rfl (ak.push rfl (ak.put (.refl _) (Less.eq (by rw [hB36]))))) (Less.eq (by rw [hB36]; rw [Bool.false_or])))⟩
   ·
    refine ai.val rfl (aa rfl) rfl ?_
    rcases Bool.eq_false_or_eq_true (((z34.tag == []) || (a7 == 1))) with hB37 | hB37
    ·
     replace h:=dF hB37 h
     refine ai.bool hB37 ?_
     refine ai.no rfl rfl ?_
     refine ai.no rfl rfl ?_
     refine ai.no rfl rfl ?_
     refine ai.no rfl rfl ?_
     refine ai.val rfl (aF (b:=true) rfl rfl) rfl ?_
     refine ai.nil ?_
     refine aA.cond rfl (fun hb=>?_) (fun hb=>?_)
     ·
      refine aA.seq ?_
      refine aA.region (dG E) rfl ?_
      refine ai.val rfl (aj rfl) rfl ?_
      refine ai.nil ?_
      have hr:=Option.some.inj h
      subst hr
      exact aA.ret ⟨_,rfl,rfl,_,_,_,.refl _,(.refl _),⟨rfl,ws4,w5,rfl⟩,H33.sl [0,1,2] rfl rfl⟩
     ·
      cases hb
    ·
     replace h:=dH hB37 h
     refine ai.bool hB37 ?_
     refine ai.val rfl (aa rfl) rfl ?_
     refine ai.val rfl (aa rfl) rfl ?_
     refine ai.val rfl (aa rfl) rfl ?_
     obtain ⟨z38,hzz38,h⟩:=bind_some h
     refine ai.eB (ins:=[.box b1 [v3,w5],ay ae ah.kids 7 5 v3 ws4 a2.l none,aG w5 a2.freed]) (more:=[]) (H33.sl [0,1,2] rfl rfl) rfl (aI rfl rfl) (sJ E n _ _ _ _ hzz38 b1 v3 ws4 w5) (.cons (.refl _) (.cons (.refl _) (.cons (.refl _) .nil))) rfl ?_
     rintro _ S39 _ ⟨rfl,rfl⟩ H40
     have H41:Has B0 S39 [.box b1 [v3,w5],ay ae ah.kids 7 5 v3 ws4 a2.l none,aG w5 a2.freed]:=H40.sl [0,1,2] rfl rfl
     refine ai.val rfl (aF (b:=false) rfl rfl) rfl ?_
     refine ai.nil ?_
     refine aA.cond rfl (fun hb42=>?_) (fun hb42=>?_)
     ·
      replace h:=dF hb42 h
      refine aA.seq ?_
      refine aA.region (dG E) rfl ?_
      refine ai.val rfl (aj rfl) rfl ?_
      refine ai.nil ?_
      have hr:=Option.some.inj h
      subst hr
      exact aA.ret ⟨_,rfl,rfl,_,_,_,.refl _,(.refl _),⟨rfl,ws4,w5,rfl⟩,H41.sl [0,1,2] rfl rfl⟩
     ·
      replace h:=dH hb42 h
      refine aA.skip ?_
      refine aA.seq ?_
      refine aA.region (dG E) rfl ?_
      refine ai.val rfl (aa rfl) rfl ?_
      refine ai.val rfl (aa rfl) rfl ?_
      obtain ⟨z43,hzz43,h⟩:=bind_some h
      refine ai.eB (ins:=[.box b1 [v3,w5],ay ae ah.kids 7 5 v3 ws4 a2.l none,aG w5 a2.freed]) (more:=[]) (H41.sl [0,1,2] rfl rfl) rfl (aI rfl rfl) (nQ E n _ _ _ hzz43 b1 v3 ws4 w5) (.cons (.refl _) (.cons (.refl _) .nil)) rfl ?_
      rintro _ S46 _ ⟨rfl,ws44,w45,rfl⟩ H47
      have H48:Has B0 S46 [.box b1 [v3,w45],ay ae ah.kids 7 5 v3 ws44 z43.l none,aG w45 z43.freed]:=H47.sl [0,1,2] rfl rfl
      refine ai.nil ?_
      refine aA.seq ?_
      obtain ⟨z49,hzz49,h⟩:=bind_some h
      obtain ⟨z56,hzz56,h⟩:=bind_some h
      refine aA.iV (dG E) lG K5 [(1,none),(10,none)] (by kernel_rfl) [14,15,18] (by decide) [some (bq v3 (Int.toNat (IntKind.wrap .i64 (a6 - 1))) 0),some (bq v3 (Int.toNat (IntKind.wrap .i64 (a6 - 1))) 0),some (bq v3 (Int.toNat (IntKind.wrap .i64 (a6 - 1))) 0),some (bq v3 (Int.toNat (IntKind.wrap .i64 (a6 - 1))) 5),some (gU 5 ws44 (Int.toNat (IntKind.wrap .i64 (a6 - 1)))),some (.d (.int .i64 a8)),some (bq v3 (Int.toNat (IntKind.wrap .i64 (a6 - 1))) 0),some (bq v3 (Int.toNat (IntKind.wrap .i64 (a6 - 1))) 0),some (bq v3 (Int.toNat (IntKind.wrap .i64 (a6 - 1))) 5),some (gU 5 ws44 (Int.toNat (IntKind.wrap .i64 (a6 - 1)))),some (.d (.int .i64 ((z49.kids).length:Int))),some (.d (.int .i64 (uq a8 ((z49.kids).length:Int)))),some (.d (.int .i64 (sN 0 (uq a8 ((z49.kids).length:Int))))),some (.d (.int .i64 a7)),none,none,none,none,none] ?_
      refine ⟨[0,1,2,3,4,5,6,7,8,9,10,11,12,13],by kernel_rfl,?_,_,_,rfl,rfl,.step ?_⟩
      ·
       refine .v rfl rfl rfl rfl (aa rfl) ?_
       refine .v rfl rfl rfl rfl (aa rfl) ?_
       refine .v rfl rfl rfl rfl (bF H48 (q:=1) rfl hzz49 rfl) ?_
       refine .v rfl rfl rfl rfl (aZ H48 (i:=1) rfl hzz49 rfl lZ p9 rfl) ?_
       refine .v rfl rfl rfl rfl (fP H48 (i:=1) rfl hzz49 rfl sF) ?_
       refine .v rfl rfl rfl rfl (aa rfl) ?_
       refine .v rfl rfl rfl rfl (aa rfl) ?_
       refine .v rfl rfl rfl rfl (bF H48 (q:=1) rfl hzz49 rfl) ?_
       refine .v rfl rfl rfl rfl (aZ H48 (i:=1) rfl hzz49 rfl lZ p9 rfl) ?_
       refine .v rfl rfl rfl rfl (fP H48 (i:=1) rfl hzz49 rfl sF) ?_
       refine .cons rfl rfl rfl (.step ?_) ?_
       ·
        have H69:Has B0 S46 ([ay ae ah.kids 7 5 v3 ws44 z43.l none] ++ [.box b1 [v3,w45],aG w45 z43.freed]):=H48.sl [1,0,2] rfl rfl
        replace H69:Has B0 S46 [ay ae ah.kids 7 5 v3 ws44 z43.l none,.box b1 [v3,w45],aG w45 z43.freed]:=H69
        have H70:=Has.take H69 (dB hzz49).2
        refine ai.val rfl (jh H70 (i:=0) rfl rfl iZ) rfl ?_
        exact ai.nil ⟨_,_,rfl,fun _ ht=>by cases ht; exact ⟨rfl,.refl _⟩⟩
       refine .v rfl rfl rfl rfl (Ak rfl rfl) ?_
       refine .v rfl rfl rfl rfl (wC rfl rfl) ?_
       refine .v rfl rfl rfl rfl (aa rfl) ?_
       exact .nil
      refine ai.oz (vs:=[(.d (.int .i64 a7))]) (cs:=[[(.d (.int .i64 a7))]]) H48 rfl nI eH nZ Ex jL rfl (by decide) (.cons rfl rfl .nil) rfl rfl rfl (fun v69 S70 H71=>?_)
      have H72:Has B0 S70 [fD 1 1 v69 [(.d (.int .i64 a7))],.box b1 [v3,w45],ay ae ah.kids 7 5 v3 ws44 z43.l none,aG w45 z43.freed]:=H71.sl [0,1,2,3] rfl rfl
      refine ai.nil ⟨_,_,_,rfl,(fun _ ht=>by cases ht; rfl),[some (bq v3 (Int.toNat (IntKind.wrap .i64 (a6 - 1))) 0),some (bq v3 (Int.toNat (IntKind.wrap .i64 (a6 - 1))) 0),some (bq v3 (Int.toNat (IntKind.wrap .i64 (a6 - 1))) 0),some (bq v3 (Int.toNat (IntKind.wrap .i64 (a6 - 1))) 5),some (gU 5 ws44 (Int.toNat (IntKind.wrap .i64 (a6 - 1)))),some (.d (.int .i64 a8)),some (bq v3 (Int.toNat (IntKind.wrap .i64 (a6 - 1))) 0),some (bq v3 (Int.toNat (IntKind.wrap .i64 (a6 - 1))) 0),some (bq v3 (Int.toNat (IntKind.wrap .i64 (a6 - 1))) 5),some (gU 5 ws44 (Int.toNat (IntKind.wrap .i64 (a6 - 1)))),some (.d (.int .i64 ((z49.kids).length:Int))),some (.d (.int .i64 (uq a8 ((z49.kids).length:Int)))),some (.d (.int .i64 (sN 0 (uq a8 ((z49.kids).length:Int))))),some (.d (.int .i64 a7)),some v69,none,none,none,none],(.o (.o (.o (.o (.o (.o (.o (.o (.o (.o (.o (.o (.o (.o (.new (.new (.new (.new (.new .nil))))))))))))))))))),(fun _ ht=>by cases ht; exact ⟨_,rfl,.refl _⟩),?_⟩
      refine ⟨[0,1,2,3,4,5,6,7,8,9,10,11,12],by kernel_rfl,?_,_,_,rfl,rfl,.step ?_⟩
      ·
       refine .v rfl rfl rfl rfl (aa rfl) ?_
       refine .v rfl rfl rfl rfl (aa rfl) ?_
       refine .v rfl rfl rfl rfl (bF H72 (q:=2) rfl hzz49 rfl) ?_
       refine .v rfl rfl rfl rfl (aZ H72 (i:=2) rfl hzz49 rfl lZ p9 rfl) ?_
       refine .v rfl rfl rfl rfl (fP H72 (i:=2) rfl hzz49 rfl sF) ?_
       refine .v rfl rfl rfl rfl (aa rfl) ?_
       refine .v rfl rfl rfl rfl (aa rfl) ?_
       refine .v rfl rfl rfl rfl (bF H72 (q:=2) rfl hzz49 rfl) ?_
       refine .v rfl rfl rfl rfl (aZ H72 (i:=2) rfl hzz49 rfl lZ p9 rfl) ?_
       refine .v rfl rfl rfl rfl (fP H72 (i:=2) rfl hzz49 rfl sF) ?_
       refine .cons rfl rfl rfl (.step ?_) ?_
       ·
        have H73:Has B0 S70 ([ay ae ah.kids 7 5 v3 ws44 z43.l none] ++ [fD 1 1 v69 [(.d (.int .i64 a7))],.box b1 [v3,w45],aG w45 z43.freed]):=H72.sl [2,0,1,3] rfl rfl
        replace H73:Has B0 S70 [ay ae ah.kids 7 5 v3 ws44 z43.l none,fD 1 1 v69 [(.d (.int .i64 a7))],.box b1 [v3,w45],aG w45 z43.freed]:=H73
        have H74:=Has.take H73 (dB hzz49).2
        refine ai.val rfl (jh H74 (i:=0) rfl rfl iZ) rfl ?_
        exact ai.nil ⟨_,_,rfl,fun _ ht=>by cases ht; exact ⟨rfl,.refl _⟩⟩
       refine .v rfl rfl rfl rfl (Ak rfl rfl) ?_
       refine .v rfl rfl rfl rfl (wC rfl rfl) ?_
       exact .nil
      have H73:Has B0 S70 ([ay ae ah.kids 7 5 v3 ws44 z43.l none] ++ [fD 1 1 v69 [(.d (.int .i64 a7))],.box b1 [v3,w45],aG w45 z43.freed]):=H72.sl [2,0,1,3] rfl rfl
      replace H73:Has B0 S70 [ay ae ah.kids 7 5 v3 ws44 z43.l none,fD 1 1 v69 [(.d (.int .i64 a7))],.box b1 [v3,w45],aG w45 z43.freed]:=H73
      have H74:=Has.take H73 (dB hzz49).2
      have H75:Has B0 S70 [aG (gU 5 ws44 (Int.toNat (IntKind.wrap .i64 (a6 - 1)))) z49.kids,fD 1 1 v69 [(.d (.int .i64 a7))],.box b1 [v3,w45],ay ae ah.kids 7 5 v3 ws44 z43.l (some (Int.toNat (IntKind.wrap .i64 (a6 - 1)))),aG w45 z43.freed]:=H74.sl [0,2,3,1,4] rfl rfl
      refine ai.eB (ins:=[fD 1 1 v69 [(.d (.int .i64 a7))],aG (gU 5 ws44 (Int.toNat (IntKind.wrap .i64 (a6 - 1)))) z49.kids]) (more:=[.box b1 [v3,w45],ay ae ah.kids 7 5 v3 ws44 z43.l (some (Int.toNat (IntKind.wrap .i64 (a6 - 1)))),aG w45 z43.freed]) (H75.sl [1,0,2,3,4] rfl rfl) rfl (aI rfl rfl) (cK.ins E.insp hzz56) (.cons (.refl _) (.cons (.refl _) (.cons (.refl _) .nil))) rfl ?_
      rintro v76 S77 _ rfl H78
      have H79:Has B0 S77 [aG v76 z56,.box b1 [v3,w45],ay ae ah.kids 7 5 v3 ws44 z43.l (some (Int.toNat (IntKind.wrap .i64 (a6 - 1)))),aG w45 z43.freed]:=H78.sl [0,1,2,3] rfl rfl
      refine ai.nil ⟨_,_,_,rfl,(fun _ ht=>by cases ht; rfl),[some (bq v3 (Int.toNat (IntKind.wrap .i64 (a6 - 1))) 0),some (bq v3 (Int.toNat (IntKind.wrap .i64 (a6 - 1))) 0),some (bq v3 (Int.toNat (IntKind.wrap .i64 (a6 - 1))) 0),some (bq v3 (Int.toNat (IntKind.wrap .i64 (a6 - 1))) 5),some (gU 5 ws44 (Int.toNat (IntKind.wrap .i64 (a6 - 1)))),some (.d (.int .i64 a8)),some (bq v3 (Int.toNat (IntKind.wrap .i64 (a6 - 1))) 0),some (bq v3 (Int.toNat (IntKind.wrap .i64 (a6 - 1))) 0),some (bq v3 (Int.toNat (IntKind.wrap .i64 (a6 - 1))) 5),some (gU 5 ws44 (Int.toNat (IntKind.wrap .i64 (a6 - 1)))),some (.d (.int .i64 ((z49.kids).length:Int))),some (.d (.int .i64 (uq a8 ((z49.kids).length:Int)))),some (.d (.int .i64 (sN 0 (uq a8 ((z49.kids).length:Int))))),some (.d (.int .i64 a7)),some v69,some v76,some (bq v3 (Int.toNat (IntKind.wrap .i64 (a6 - 1))) 0),some (bq v3 (Int.toNat (IntKind.wrap .i64 (a6 - 1))) 5),none],(.o (.o (.o (.o (.o (.o (.o (.o (.o (.o (.o (.o (.o (.o (.o (.new (.new (.new (.new .nil))))))))))))))))))),(fun _ ht=>by cases ht; exact ⟨_,rfl,.refl _⟩),?_⟩
      refine ⟨[0,16,17],by kernel_rfl,?_,_,_,rfl,rfl,.step ?_⟩
      ·
       refine .v rfl rfl rfl rfl (aa rfl) ?_
       refine .v rfl rfl rfl rfl (bF H79 (q:=2) rfl hzz49 rfl) ?_
       refine .v rfl rfl rfl rfl (aZ H79 (i:=2) rfl hzz49 rfl lZ p9 rfl) ?_
       exact .nil
      have H83:Has B0 S77 ([aG v76 z56,ay ae ah.kids 7 5 v3 ws44 z43.l (some (Int.toNat (IntKind.wrap .i64 (a6 - 1))))] ++ [.box b1 [v3,w45],aG w45 z43.freed]):=H79.sl [0,2,1,3] rfl rfl
      replace H83:Has B0 S77 [aG v76 z56,ay ae ah.kids 7 5 v3 ws44 z43.l (some (Int.toNat (IntKind.wrap .i64 (a6 - 1)))),.box b1 [v3,w45],aG w45 z43.freed]:=H83
      refine ai.xX (z':=(ah.mk z49.lives z49.tag z49.key z49.text z49.attrs z56 z49.parent)) (c:=.sl ((z56).map (D.int .i64)) false) H83 rfl hzz49 (.inr rfl) rfl rfl GL Gb rfl rfl rfl (fun ws82 S80 H81=>?_)
      have H84:Has B0 S80 [.box b1 [v3,w45],ay ae ah.kids 7 5 v3 ws82 (jw z43.l (IntKind.wrap .i64 (a6 - 1)) (ah.mk z49.lives z49.tag z49.key z49.text z49.attrs z56 z49.parent)) none,aG w45 z43.freed]:=H81.sl [1,0,2] rfl rfl
      refine ai.nil ⟨_,.any,_,rfl,(fun _ ht=>by cases ht),[some (bq v3 (Int.toNat (IntKind.wrap .i64 (a6 - 1))) 0),some (bq v3 (Int.toNat (IntKind.wrap .i64 (a6 - 1))) 0),some (bq v3 (Int.toNat (IntKind.wrap .i64 (a6 - 1))) 0),some (bq v3 (Int.toNat (IntKind.wrap .i64 (a6 - 1))) 5),some (gU 5 ws44 (Int.toNat (IntKind.wrap .i64 (a6 - 1)))),some (.d (.int .i64 a8)),some (bq v3 (Int.toNat (IntKind.wrap .i64 (a6 - 1))) 0),some (bq v3 (Int.toNat (IntKind.wrap .i64 (a6 - 1))) 0),some (bq v3 (Int.toNat (IntKind.wrap .i64 (a6 - 1))) 5),some (gU 5 ws44 (Int.toNat (IntKind.wrap .i64 (a6 - 1)))),some (.d (.int .i64 ((z49.kids).length:Int))),some (.d (.int .i64 (uq a8 ((z49.kids).length:Int)))),some (.d (.int .i64 (sN 0 (uq a8 ((z49.kids).length:Int))))),some (.d (.int .i64 a7)),some v69,some v76,some (bq v3 (Int.toNat (IntKind.wrap .i64 (a6 - 1))) 0),some (bq v3 (Int.toNat (IntKind.wrap .i64 (a6 - 1))) 5),some .any],(.o (.o (.o (.o (.o (.o (.o (.o (.o (.o (.o (.o (.o (.o (.o (.o (.o (.o (.new .nil))))))))))))))))))),(fun _ ht=>by cases ht),?_⟩
      refine ⟨[],by kernel_rfl,?_,_,rfl,?_⟩
      ·
       exact .nil
      refine aA.seq ?_
      refine aA.region (dG E) rfl ?_
      refine ai.val rfl (aa rfl) rfl ?_
      refine ai.val rfl (aa rfl) rfl ?_
      obtain ⟨z85,hzz85,h⟩:=bind_some h
      refine ai.val rfl (bF H84 (q:=1) rfl hzz85 rfl) rfl ?_
      refine ai.val rfl (aZ H84 (i:=1) rfl hzz85 rfl qm G6 rfl) rfl ?_
      have H89:Has B0 S80 ([ay ae ah.kids 7 5 v3 ws82 (jw z43.l (IntKind.wrap .i64 (a6 - 1)) (ah.mk z49.lives z49.tag z49.key z49.text z49.attrs z56 z49.parent)) none] ++ [.box b1 [v3,w45],aG w45 z43.freed]):=H84.sl [1,0,2] rfl rfl
      replace H89:Has B0 S80 [ay ae ah.kids 7 5 v3 ws82 (jw z43.l (IntKind.wrap .i64 (a6 - 1)) (ah.mk z49.lives z49.tag z49.key z49.text z49.attrs z56 z49.parent)) none,.box b1 [v3,w45],aG w45 z43.freed]:=H89
      refine ai.pJ (z':=(ah.mk z85.lives z85.tag z85.key z85.text z85.attrs z85.kids a6)) H89 rfl hzz85 rfl rfl rfl rfl (.refl _) jL nZ rfl rfl rfl rfl rfl (fun ws88 S86 H87=>?_)
      have H90:Has B0 S86 [.box b1 [v3,w45],ay ae ah.kids 7 5 v3 ws88 (jw (jw z43.l (IntKind.wrap .i64 (a6 - 1)) (ah.mk z49.lives z49.tag z49.key z49.text z49.attrs z56 z49.parent)) (IntKind.wrap .i64 (a7 - 1)) (ah.mk z85.lives z85.tag z85.key z85.text z85.attrs z85.kids a6)) none,aG w45 z43.freed]:=H87.sl [1,0,2] rfl rfl
      refine ai.nil ?_
      refine aA.seq ?_
      refine aA.region (dG E) rfl ?_
      refine ai.val rfl (aj rfl) rfl ?_
      refine ai.nil ?_
      have hr:=Option.some.inj h
      subst hr
      exact aA.ret ⟨_,rfl,rfl,_,_,_,.refl _,(.refl _),⟨rfl,ws88,w45,rfl⟩,H90.sl [0,1,2] rfl rfl⟩
set_option maxRecDepth 20000 in
set_option maxHeartbeats 4000000 in
theorem ou (n:Nat) (a2:au) (a6:Int) (a7:(List Attr)) (r:(Bool × au)) (h:iR n a2 a6 a7=some r) (b1:Nat) (v3:AV) (ws4:List (List AV)) (w5:AV):cK R cfg.P 29 [.ptr b1 0 0,.d (.int .i64 a6),.d (.sl ((a7).map aD) false)] [.box b1 [v3,w5],ay ae ah.kids 7 5 v3 ws4 a2.l none,aG w5 a2.freed] (fun v l=>v=.d (.bool r.1)∧∃ dws0 dw0,l=[.box b1 [v3,dw0],ay ae ah.kids 7 5 v3 dws0 r.2.l none,aG dw0 r.2.freed]):=by
 unfold iR at h
 refine cK.of_wp (C:=cfg) Try.func29 rfl Ke rfl (fun B0 S0 H0=>?_)
 replace H0:Has B0 S0 [.box b1 [v3,w5],ay ae ah.kids 7 5 v3 ws4 a2.l none,aG w5 a2.freed]:=H0
 refine aA.seq ?_
 refine aA.region E.obj rfl ?_
 refine ai.val rfl (aj rfl) rfl ?_
 refine ai.nil ?_
 refine aA.seq ?_
 refine aA.region E.obj rfl ?_
 refine ai.val rfl (aa rfl) rfl ?_
 refine ai.val rfl (aa rfl) rfl ?_
 obtain ⟨z8,hzz8,h⟩:=bind_some h
 refine ai.eB (ins:=[.box b1 [v3,w5],ay ae ah.kids 7 5 v3 ws4 a2.l none,aG w5 a2.freed]) (more:=[]) (H0.sl [0,1,2] rfl rfl) rfl (aI rfl rfl) (fJ E n _ _ _ hzz8 b1 v3 ws4 w5) (.cons (.refl _) (.cons (.refl _) .nil)) rfl ?_
 rintro v9 S10 l11 hr12 H13
 rcases z8 with _ | _
 ·
  obtain ⟨rfl,rfl⟩:=hr12
  replace h:=dH rfl h
  replace H13:Has B0 S10 [.box b1 [v3,w5],ay ae ah.kids 7 5 v3 ws4 a2.l none,aG w5 a2.freed]:=H13
  have H14:Has B0 S10 [.box b1 [v3,w5],ay ae ah.kids 7 5 v3 ws4 a2.l none,aG w5 a2.freed]:=H13.sl [0,1,2] rfl rfl
  refine ai.val rfl (aj rfl) rfl ?_
  refine ai.nil ?_
  refine aA.seq ?_
  refine aA.seq ?_
  refine aA.region E.obj rfl ?_
  refine ai.val rfl (aa rfl) rfl ?_
  refine ai.val rfl (aB rfl rfl (jP pX)) rfl ?_
  refine ai.val rfl (aa rfl) rfl ?_
  refine ai.no rfl rfl ?_
  refine ai.no rfl rfl ?_
  refine ai.no rfl rfl ?_
  refine ai.no rfl rfl ?_
  refine ai.no rfl rfl ?_
  refine ai.val rfl (aF (b:=true) rfl rfl) rfl ?_
  refine ai.nil ?_
  refine aA.cond rfl (fun hb=>?_) (fun hb=>?_)
  ·
   refine aA.seq ?_
   refine aA.region E.obj rfl ?_
   refine ai.val rfl (aj rfl) rfl ?_
   refine ai.nil ?_
   have hr:=Option.some.inj h
   subst hr
   exact aA.ret ⟨_,rfl,rfl,_,_,_,.refl _,(.refl _),⟨rfl,ws4,w5,rfl⟩,H14.sl [0,1,2] rfl rfl⟩
  ·
   cases hb
 ·
  obtain ⟨rfl,rfl⟩:=hr12
  replace h:=dF rfl h
  have H15:Has B0 S10 [.box b1 [v3,w5],ay ae ah.kids 7 5 v3 ws4 a2.l none,aG w5 a2.freed]:=H13.sl [0,1,2] rfl rfl
  refine ai.val rfl (aj rfl) rfl ?_
  refine ai.nil ?_
  refine aA.seq ?_
  refine aA.seq ?_
  refine aA.region E.obj rfl ?_
  refine ai.val rfl (aa rfl) rfl ?_
  obtain ⟨z16,hzz16,h⟩:=bind_some h
  refine ai.val rfl (jX H15 (q:=1) rfl hzz16 rfl rfl pX) rfl ?_
  refine ai.val rfl (aa rfl) rfl ?_
  refine ai.val rfl (aa rfl) rfl ?_
  refine ai.val rfl (bF H15 (q:=1) rfl hzz16 rfl) rfl ?_
  refine ai.val rfl (aZ H15 (i:=1) rfl hzz16 rfl wR uf rfl) rfl ?_
  refine ai.jq H15 rfl (q:=1) rfl hzz16 rfl uF rfl rfl rfl ?_
  refine ai.val rfl (aB rfl rfl om) rfl ?_
  refine ai.val rfl (aF (b:=false) rfl rfl) rfl ?_
  refine ai.nil ?_
  refine aA.cond rfl (fun hb17=>?_) (fun hb17=>?_)
  ·
   replace h:=dF hb17 h
   refine aA.seq ?_
   refine aA.region E.obj rfl ?_
   refine ai.val rfl (aj rfl) rfl ?_
   refine ai.nil ?_
   have hr:=Option.some.inj h
   subst hr
   exact aA.ret ⟨_,rfl,rfl,_,_,_,.refl _,(.refl _),⟨rfl,ws4,w5,rfl⟩,H15.sl [0,1,2] rfl rfl⟩
  ·
   replace h:=dH hb17 h
   refine aA.skip ?_
   refine aA.seq ?_
   refine aA.region E.obj rfl ?_
   refine ai.val rfl (aa rfl) rfl ?_
   refine ai.val rfl (aa rfl) rfl ?_
   obtain ⟨z18,hzz18,h⟩:=bind_some h
   refine ai.ret rfl (aI rfl rfl) (dV E _ _ _ hzz18 _ _ (bO.eq .nil)) rfl ?_
   refine ai.val rfl (bF H15 (q:=1) rfl hzz16 rfl) rfl ?_
   refine ai.val rfl (aZ H15 (i:=1) rfl hzz16 rfl CO Co rfl) rfl ?_
   have H22:Has B0 S10 ([ay ae ah.kids 7 5 v3 ws4 a2.l none] ++ [.box b1 [v3,w5],aG w5 a2.freed]):=H15.sl [1,0,2] rfl rfl
   replace H22:Has B0 S10 [ay ae ah.kids 7 5 v3 ws4 a2.l none,.box b1 [v3,w5],aG w5 a2.freed]:=H22
   refine ai.pJ (z':=(ah.mk z16.lives z16.tag z16.key z16.text z18 z16.kids z16.parent)) H22 rfl hzz16 rfl rfl rfl rfl (.refl _) Kc J8 rfl rfl rfl rfl rfl (fun ws21 S19 H20=>?_)
   have H23:Has B0 S19 [.box b1 [v3,w5],ay ae ah.kids 7 5 v3 ws21 (jw a2.l (IntKind.wrap .i64 (a6 - 1)) (ah.mk z16.lives z16.tag z16.key z16.text z18 z16.kids z16.parent)) none,aG w5 a2.freed]:=H20.sl [1,0,2] rfl rfl
   refine ai.nil ?_
   refine aA.seq ?_
   refine aA.region E.obj rfl ?_
   refine ai.val rfl (aj rfl) rfl ?_
   refine ai.nil ?_
   have hr:=Option.some.inj h
   subst hr
   exact aA.ret ⟨_,rfl,rfl,_,_,_,.refl _,(.refl _),⟨rfl,ws21,w5,rfl⟩,H23.sl [0,1,2] rfl rfl⟩
set_option maxRecDepth 20000 in
set_option maxHeartbeats 4000000 in
theorem lL:∀ (n:Nat) (a2:au) (a6:Tree) (r:(Int × au)),gD n a2 a6=some r→∀ (b1:Nat) (v3:AV) (ws4:List (List AV)) (w5:AV),cK R cfg.P 39 [.ptr b1 0 0,.d (ax a6)] [.box b1 [v3,w5],ay ae ah.kids 7 5 v3 ws4 a2.l none,aG w5 a2.freed] (fun v l=>v=.d (.int .i64 r.1)∧∃ dv0 dws0 dw0,l=[.box b1 [dv0,dw0],ay ae ah.kids 7 5 dv0 dws0 r.2.l none,aG dw0 r.2.freed])
 | 0,a2,a6,r,h,b1,v3,ws4,w5=>by simp [gD] at h
 | n + 1,a2,a6,r,h,b1,v3,ws4,w5=>by
  have ih:=lL n
  unfold gD at h
  refine cK.of_wp (C:=cfg) Try.func39 rfl Ko rfl (fun B0 S0 H0=>?_)
  replace H0:Has B0 S0 [.box b1 [v3,w5],ay ae ah.kids 7 5 v3 ws4 a2.l none,aG w5 a2.freed]:=H0
  refine aA.seq ?_
  refine aA.region E.obj rfl ?_
  refine ai.box H0 rfl rfl rfl (Tree.gu _) rfl (fun b7 S8 H9=>?_)
  refine ai.val rfl (aj rfl) rfl ?_
  refine ai.nil ?_
  refine aA.seq ?_
  refine aA.seq ?_
  refine aA.region E.obj rfl ?_
  refine ai.val rfl (aC rfl qo uf rfl) rfl ?_
  refine ai.val rfl (aL H9 (i:=0) rfl rfl (aQ uF rfl)) rfl ?_
  refine ai.val rfl (aB rfl rfl om) rfl ?_
  refine ai.nil ?_
  refine aA.cond rfl (fun hb10=>?_) (fun hb10=>?_)
  ·
   replace h:=dF hb10 h
   refine aA.seq ?_
   refine aA.region E.obj rfl ?_
   refine ai.val rfl (aa rfl) rfl ?_
   refine ai.val rfl (aC rfl zG uf rfl) rfl ?_
   refine ai.val rfl (aL H9 (i:=0) rfl rfl (aQ uF rfl)) rfl ?_
   obtain ⟨z11,hzz11,h⟩:=bind_some h
   refine ai.eB (ins:=[.box b1 [v3,w5],ay ae ah.kids 7 5 v3 ws4 a2.l none,aG w5 a2.freed]) (more:=[.box b7 [(.d (.str a6.Tag)),(.d (.str a6.Key)),(.d (.str a6.Text)),(.d (.sl ((a6.aV).map aD) false)),(.d (.sl ((a6.Kids).map ax) false))]]) (H9.sl [1,2,3,0] rfl rfl) rfl (aI rfl rfl) (pU E n _ _ _ hzz11 b1 v3 ws4 w5) (.cons (.refl _) (.cons (.refl _) .nil)) rfl ?_
   rintro _ S15 _ ⟨rfl,v12,ws13,w14,rfl⟩ H16
   have H17:Has B0 S15 [.box b7 [(.d (.str a6.Tag)),(.d (.str a6.Key)),(.d (.str a6.Text)),(.d (.sl ((a6.aV).map aD) false)),(.d (.sl ((a6.Kids).map ax) false))],.box b1 [v12,w14],ay ae ah.kids 7 5 v12 ws13 z11.2.l none,aG w14 z11.2.freed]:=H16.sl [3,0,1,2] rfl rfl
   refine ai.val rfl (aj rfl) rfl ?_
   refine ai.nil ?_
   have hr:=Option.some.inj h
   subst hr
   exact aA.ret ⟨_,rfl,rfl,_,_,_,.refl _,(.refl _),⟨rfl,v12,ws13,w14,rfl⟩,H17.sl [1,2,3] rfl rfl⟩
  ·
   replace h:=dH hb10 h
   refine aA.skip ?_
   refine aA.seq ?_
   refine aA.region E.obj rfl ?_
   refine ai.val rfl (aa rfl) rfl ?_
   refine ai.val rfl (aC rfl qo uf rfl) rfl ?_
   refine ai.val rfl (aL H9 (i:=0) rfl rfl (aQ uF rfl)) rfl ?_
   refine ai.val rfl (aC rfl uD uf rfl) rfl ?_
   refine ai.val rfl (aL H9 (i:=0) rfl rfl (aQ uF rfl)) rfl ?_
   obtain ⟨z18,hzz18,h⟩:=bind_some h
   refine ai.eB (ins:=[.box b1 [v3,w5],ay ae ah.kids 7 5 v3 ws4 a2.l none,aG w5 a2.freed]) (more:=[.box b7 [(.d (.str a6.Tag)),(.d (.str a6.Key)),(.d (.str a6.Text)),(.d (.sl ((a6.aV).map aD) false)),(.d (.sl ((a6.Kids).map ax) false))]]) (H9.sl [1,2,3,0] rfl rfl) rfl (aI rfl rfl) (mr E n _ _ _ _ hzz18 b1 v3 ws4 w5) (.cons (.refl _) (.cons (.refl _) (.cons (.refl _) .nil))) rfl ?_
   rintro _ S22 _ ⟨rfl,v19,ws20,w21,rfl⟩ H23
   have H24:Has B0 S22 [.box b7 [(.d (.str a6.Tag)),(.d (.str a6.Key)),(.d (.str a6.Text)),(.d (.sl ((a6.aV).map aD) false)),(.d (.sl ((a6.Kids).map ax) false))],.box b1 [v19,w21],ay ae ah.kids 7 5 v19 ws20 z18.2.l none,aG w21 z18.2.freed]:=H23.sl [3,0,1,2] rfl rfl
   refine ai.val rfl (aj rfl) rfl ?_
   refine ai.nil ?_
   refine aA.seq ?_
   refine aA.region E.obj rfl ?_
   refine ai.val rfl (aa rfl) rfl ?_
   refine ai.val rfl (aa rfl) rfl ?_
   refine ai.val rfl (aC rfl zJ Co rfl) rfl ?_
   refine ai.val rfl (aL H24 (i:=0) rfl rfl (aQ DJ rfl)) rfl ?_
   obtain ⟨z25,hzz25,h⟩:=bind_some h
   refine ai.eB (ins:=[.box b1 [v19,w21],ay ae ah.kids 7 5 v19 ws20 z18.2.l none,aG w21 z18.2.freed]) (more:=[.box b7 [(.d (.str a6.Tag)),(.d (.str a6.Key)),(.d (.str a6.Text)),(.d (.sl ((a6.aV).map aD) false)),(.d (.sl ((a6.Kids).map ax) false))]]) (H24.sl [1,2,3,0] rfl rfl) rfl (aI rfl rfl) (ou E n _ _ _ _ hzz25 b1 v19 ws20 w21) (.cons (.refl _) (.cons (.refl _) (.cons (.refl _) .nil))) rfl ?_
   rintro _ S28 _ ⟨rfl,ws26,w27,rfl⟩ H29
   have H30:Has B0 S28 [.box b7 [(.d (.str a6.Tag)),(.d (.str a6.Key)),(.d (.str a6.Text)),(.d (.sl ((a6.aV).map aD) false)),(.d (.sl ((a6.Kids).map ax) false))],.box b1 [v19,w27],ay ae ah.kids 7 5 v19 ws26 z25.2.l none,aG w27 z25.2.freed]:=H29.sl [3,0,1,2] rfl rfl
   refine ai.nil ?_
   refine aA.seq ?_
   refine aA.seq ?_
   refine aA.region E.obj rfl ?_
   refine ai.val rfl (aC rfl lq vM rfl) rfl ?_
   refine ai.val rfl (aL H30 (i:=0) rfl rfl (aQ xO rfl)) rfl ?_
   refine ai.val rfl (bE rfl Ct) rfl ?_
   refine ai.val rfl (aa rfl) rfl ?_
   refine ai.nil ?_
   refine aA.block ?_
   refine pM.start (B:=B0) (α:=au × AV × (List (List AV)) × AV × Int) (fun k a=>fK n (gD n) a6 z18 k a.1 a.2.2.2.2=some r) (fun a=>[(0,(.ptr b1 0 0)),(5,(.d (.int .i64 z18.1))),(27,(.d (.sl ((a6.Kids).map ax) false))),(28,(.d (.int .i64 ((a6.Kids).length:Int)))),(29,(.d (.int .i64 a.2.2.2.2)))]) (fun a=>[.box b1 [a.2.1,a.2.2.2.1],ay ae ah.kids 7 5 a.2.1 a.2.2.1 a.1.l none,aG a.2.2.2.1 a.1.freed]) ?_ ?_ n ⟨⟨z25.2,v19,ws26,w27,0⟩,_,_,S28,.refl _ _,.refl _,(ak.r rfl (ak.r rfl (ak.r rfl (ak.r rfl (ak.r rfl ak.nil))))),H30.sl [1,2,3] rfl rfl,h⟩
   ·
    intro a h; simp [fK] at h
   ·
    intro k47 a S40 H41 h
    obtain ⟨x42,v45,ws43,w44,x46⟩:=a
    replace h:fK n (gD n) a6 z18 (k47 + 1) x42 x46=some r:=h
    replace H41:Has B0 S40 [.box b1 [v45,w44],ay ae ah.kids 7 5 v45 ws43 x42.l none,aG w44 x42.freed]:=H41
    unfold fK at h
    refine aA.seq ?_
    refine aA.region E.obj rfl ?_
    refine ai.val rfl (aB rfl rfl dN) rfl ?_
    refine ai.nil ?_
    refine aA.seq ?_
    refine aA.cond rfl (fun hb48=>?_) (fun hb48=>?_)
    ·
     replace h:=dF hb48 h
     refine aA.skip ?_
     refine aA.seq ?_
     refine aA.block ?_
     refine aA.seq ?_
     refine aA.region E.obj rfl ?_
     refine ai.val rfl (aa rfl) rfl ?_
     obtain ⟨z49,hzz49,h⟩:=bind_some h
     refine ai.val rfl (bD rfl rfl (bU (enc:=ax) hzz49 qY ow ((Tree.len _).trans fw.symm))) rfl ?_
     refine ai.val rfl (aX rfl (Tree.rq jA fw)) rfl ?_
     refine ai.alloc H41 rfl yg jZ rfl rfl (fun b50 S51 H52=>?_)
     refine ai.val rfl (aj rfl) rfl ?_
     refine ai.store H52 (i:=0) rfl rfl rfl rfl (Tree.gu _) rfl fw rfl ow rfl rfl rfl (fun S53 H54=>?_)
     refine ai.nil ?_
     refine aA.region E.obj rfl ?_
     refine ai.val rfl (aa rfl) rfl ?_
     refine ai.val rfl (aa rfl) rfl ?_
     refine ai.val rfl (aa rfl) rfl ?_
     refine ai.val rfl (aL H54 (i:=0) rfl rfl (dO jA fw rfl)) rfl ?_
     refine ai.less (Less.agg' (d:=ax z49) (aH.eq rfl (aH.eq rfl (aH.eq rfl (aH.eq rfl (aH.eq rfl .nil))))) ((Tree.eq _).trans rfl)) ?_
     obtain ⟨z55,hzz55,h⟩:=bind_some h
     refine ai.eB (ins:=[.box b1 [v45,w44],ay ae ah.kids 7 5 v45 ws43 x42.l none,aG w44 x42.freed]) (more:=[.box b50 [(.d (.str z49.Tag)),(.d (.str z49.Key)),(.d (.str z49.Text)),(.d (.sl ((z49.aV).map aD) false)),(.d (.sl ((z49.Kids).map ax) false))]]) (H54.sl [1,2,3,0] rfl rfl) rfl (aI rfl rfl) (ih _ _ _ hzz55 b1 v45 ws43 w44) (.cons (.refl _) (.cons (.refl _) .nil)) rfl ?_
     rintro _ S59 _ ⟨rfl,v56,ws57,w58,rfl⟩ H60
     have H61:Has B0 S59 [.box b50 [(.d (.str z49.Tag)),(.d (.str z49.Key)),(.d (.str z49.Text)),(.d (.sl ((z49.aV).map aD) false)),(.d (.sl ((z49.Kids).map ax) false))],.box b1 [v56,w58],ay ae ah.kids 7 5 v56 ws57 z55.2.l none,aG w58 z55.2.freed]:=H60.sl [3,0,1,2] rfl rfl
     refine ai.val rfl (aa rfl) rfl ?_
     obtain ⟨z62,hzz62,h⟩:=bind_some h
     refine ai.eB (ins:=[.box b1 [v56,w58],ay ae ah.kids 7 5 v56 ws57 z55.2.l none,aG w58 z55.2.freed]) (more:=[.box b50 [(.d (.str z49.Tag)),(.d (.str z49.Key)),(.d (.str z49.Text)),(.d (.sl ((z49.aV).map aD) false)),(.d (.sl ((z49.Kids).map ax) false))]]) (H61.sl [1,2,3,0] rfl rfl) rfl (aI rfl rfl) (jT E n _ _ _ _ _ hzz62 b1 v56 ws57 w58) (.cons (.refl _) (.cons (.refl _) (.cons (.refl _) (.cons (.refl _) .nil)))) rfl ?_
     rintro _ S65 _ ⟨rfl,ws63,oJ,rfl⟩ H66
     have H67:Has B0 S65 [.box b50 [(.d (.str z49.Tag)),(.d (.str z49.Key)),(.d (.str z49.Text)),(.d (.sl ((z49.aV).map aD) false)),(.d (.sl ((z49.Kids).map ax) false))],.box b1 [v56,oJ],ay ae ah.kids 7 5 v56 ws63 z62.2.l none,aG oJ z62.2.freed]:=H66.sl [3,0,1,2] rfl rfl
     refine ai.nil ?_
     refine aA.region E.obj rfl ?_
     refine ai.val rfl (aB rfl rfl cO) rfl ?_
     refine ai.val rfl (aa rfl) rfl ?_
     refine ai.nil ?_
     exact ⟨⟨z62.2,v56,ws63,oJ,(IntKind.wrap .i64 (x46 + 1))⟩,_,_,S65,.refl _ _,.refl _,(ak.r rfl (ak.r rfl (ak.r rfl (ak.r rfl (ak.r rfl ak.nil))))),H67.sl [1,2,3] rfl rfl,h⟩
    ·
     replace h:=dH hb48 h
     refine aA.exit ?_
     refine aA.seq ?_
     refine aA.region E.obj rfl ?_
     refine ai.val rfl (aa rfl) rfl ?_
     refine ai.val rfl (aj rfl) rfl ?_
     refine ai.nil ?_
     have hr:=Option.some.inj h
     subst hr
     exact aA.ret ⟨_,rfl,rfl,_,_,_,.refl _,(.refl _),⟨rfl,v45,ws43,w44,rfl⟩,H41.sl [0,1,2] rfl rfl⟩
set_option maxRecDepth 20000 in
set_option maxHeartbeats 4000000 in
theorem xB (n:Nat) (a2:au) (a6:Int) (a7:Str) (r:(Bool × au)) (h:kV n a2 a6 a7=some r) (b1:Nat) (v3:AV) (ws4:List (List AV)) (w5:AV):cK R cfg.P 31 [.ptr b1 0 0,.d (.int .i64 a6),.d (.str a7)] [.box b1 [v3,w5],ay ae ah.kids 7 5 v3 ws4 a2.l none,aG w5 a2.freed] (fun v l=>v=.d (.bool r.1)∧∃ dws0 dw0,l=[.box b1 [v3,dw0],ay ae ah.kids 7 5 v3 dws0 r.2.l none,aG dw0 r.2.freed]):=by
 unfold kV at h
 refine cK.of_wp (C:=cfg) Try.func31 rfl Kv rfl (fun B0 S0 H0=>?_)
 replace H0:Has B0 S0 [.box b1 [v3,w5],ay ae ah.kids 7 5 v3 ws4 a2.l none,aG w5 a2.freed]:=H0
 refine aA.seq ?_
 refine aA.region E.obj rfl ?_
 refine ai.val rfl (aj rfl) rfl ?_
 refine ai.nil ?_
 refine aA.seq ?_
 refine aA.region E.obj rfl ?_
 refine ai.val rfl (aa rfl) rfl ?_
 refine ai.val rfl (aa rfl) rfl ?_
 obtain ⟨z8,hzz8,h⟩:=bind_some h
 refine ai.eB (ins:=[.box b1 [v3,w5],ay ae ah.kids 7 5 v3 ws4 a2.l none,aG w5 a2.freed]) (more:=[]) (H0.sl [0,1,2] rfl rfl) rfl (aI rfl rfl) (fJ E n _ _ _ hzz8 b1 v3 ws4 w5) (.cons (.refl _) (.cons (.refl _) .nil)) rfl ?_
 rintro v9 S10 l11 hr12 H13
 rcases z8 with _ | _
 ·
  obtain ⟨rfl,rfl⟩:=hr12
  replace h:=dH rfl h
  replace H13:Has B0 S10 [.box b1 [v3,w5],ay ae ah.kids 7 5 v3 ws4 a2.l none,aG w5 a2.freed]:=H13
  have H14:Has B0 S10 [.box b1 [v3,w5],ay ae ah.kids 7 5 v3 ws4 a2.l none,aG w5 a2.freed]:=H13.sl [0,1,2] rfl rfl
  refine ai.val rfl (aj rfl) rfl ?_
  refine ai.nil ?_
  refine aA.seq ?_
  refine aA.seq ?_
  refine aA.region E.obj rfl ?_
  refine ai.val rfl (aa rfl) rfl ?_
  refine ai.val rfl (aB rfl rfl (jP pX)) rfl ?_
  refine ai.val rfl (aa rfl) rfl ?_
  refine ai.no rfl rfl ?_
  refine ai.no rfl rfl ?_
  refine ai.no rfl rfl ?_
  refine ai.no rfl rfl ?_
  refine ai.no rfl rfl ?_
  refine ai.val rfl (aF (b:=true) rfl rfl) rfl ?_
  refine ai.nil ?_
  refine aA.cond rfl (fun hb=>?_) (fun hb=>?_)
  ·
   refine aA.seq ?_
   refine aA.region E.obj rfl ?_
   refine ai.val rfl (aj rfl) rfl ?_
   refine ai.nil ?_
   have hr:=Option.some.inj h
   subst hr
   exact aA.ret ⟨_,rfl,rfl,_,_,_,.refl _,(.refl _),⟨rfl,ws4,w5,rfl⟩,H14.sl [0,1,2] rfl rfl⟩
  ·
   cases hb
 ·
  obtain ⟨rfl,rfl⟩:=hr12
  replace h:=dF rfl h
  have H15:Has B0 S10 [.box b1 [v3,w5],ay ae ah.kids 7 5 v3 ws4 a2.l none,aG w5 a2.freed]:=H13.sl [0,1,2] rfl rfl
  refine ai.val rfl (aj rfl) rfl ?_
  refine ai.nil ?_
  refine aA.seq ?_
  refine aA.seq ?_
  refine aA.region E.obj rfl ?_
  refine ai.val rfl (aa rfl) rfl ?_
  obtain ⟨z16,hzz16,h⟩:=bind_some h
  refine ai.val rfl (jX H15 (q:=1) rfl hzz16 rfl rfl pX) rfl ?_
  refine ai.val rfl (aa rfl) rfl ?_
  refine ai.val rfl (aa rfl) rfl ?_
  refine ai.val rfl (bF H15 (q:=1) rfl hzz16 rfl) rfl ?_
  refine ai.val rfl (aZ H15 (i:=1) rfl hzz16 rfl wR uf rfl) rfl ?_
  refine ai.jq H15 rfl (q:=1) rfl hzz16 rfl uF rfl rfl rfl ?_
  refine ai.val rfl (aB rfl rfl lT) rfl ?_
  refine ai.val rfl (aF (b:=false) rfl rfl) rfl ?_
  refine ai.nil ?_
  refine aA.cond rfl (fun hb17=>?_) (fun hb17=>?_)
  ·
   replace h:=dF hb17 h
   refine aA.seq ?_
   refine aA.region E.obj rfl ?_
   refine ai.val rfl (aj rfl) rfl ?_
   refine ai.nil ?_
   have hr:=Option.some.inj h
   subst hr
   exact aA.ret ⟨_,rfl,rfl,_,_,_,.refl _,(.refl _),⟨rfl,ws4,w5,rfl⟩,H15.sl [0,1,2] rfl rfl⟩
  ·
   replace h:=dH hb17 h
   refine aA.skip ?_
   refine aA.seq ?_
   refine aA.region E.obj rfl ?_
   refine ai.val rfl (aa rfl) rfl ?_
   refine ai.val rfl (aa rfl) rfl ?_
   refine ai.val rfl (bF H15 (q:=1) rfl hzz16 rfl) rfl ?_
   refine ai.val rfl (aZ H15 (i:=1) rfl hzz16 rfl BU uf rfl) rfl ?_
   have H21:Has B0 S10 ([ay ae ah.kids 7 5 v3 ws4 a2.l none] ++ [.box b1 [v3,w5],aG w5 a2.freed]):=H15.sl [1,0,2] rfl rfl
   replace H21:Has B0 S10 [ay ae ah.kids 7 5 v3 ws4 a2.l none,.box b1 [v3,w5],aG w5 a2.freed]:=H21
   refine ai.pJ (z':=(ah.mk z16.lives z16.tag z16.key a7 z16.attrs z16.kids z16.parent)) H21 rfl hzz16 rfl rfl rfl rfl (.refl _) KY K6 rfl rfl rfl rfl rfl (fun ws20 S18 H19=>?_)
   have H22:Has B0 S18 [.box b1 [v3,w5],ay ae ah.kids 7 5 v3 ws20 (jw a2.l (IntKind.wrap .i64 (a6 - 1)) (ah.mk z16.lives z16.tag z16.key a7 z16.attrs z16.kids z16.parent)) none,aG w5 a2.freed]:=H19.sl [1,0,2] rfl rfl
   refine ai.nil ?_
   refine aA.seq ?_
   refine aA.region E.obj rfl ?_
   refine ai.val rfl (aj rfl) rfl ?_
   refine ai.nil ?_
   have hr:=Option.some.inj h
   subst hr
   exact aA.ret ⟨_,rfl,rfl,_,_,_,.refl _,(.refl _),⟨rfl,ws20,w5,rfl⟩,H22.sl [0,1,2] rfl rfl⟩
set_option maxRecDepth 20000 in
set_option maxHeartbeats 4000000 in
theorem jK (n:Nat) (a1:Tree) (r:aR) (h:mf n a1=some r):gY R cfg.P 80 [(ax a1)] (.d (aK r)):=by
 unfold mf at h
 refine gY.of_wp E.obj.toObjOk (C:=cfg) Try.func80 rfl JA rfl ?_
 have H0:Has aM aM []:=Has.pure
 refine aA.seq ?_
 refine aA.region E.obj rfl ?_
 refine ai.box H0 rfl rfl rfl (Tree.gu _) rfl (fun b2 S3 H4=>?_)
 refine ai.alloc H4 rfl IL GZ rfl rfl (fun b5 S6 H7=>?_)
 refine ai.nil ?_
 refine aA.seq ?_
 refine aA.region E.obj rfl ?_
 refine ai.val rfl (aC rfl qo uf rfl) rfl ?_
 refine ai.val rfl (aL H7 (i:=1) rfl rfl (aQ uF rfl)) rfl ?_
 refine ai.val rfl (aC rfl uD uf rfl) rfl ?_
 refine ai.val rfl (aL H7 (i:=1) rfl rfl (aQ uF rfl)) rfl ?_
 refine ai.val rfl (dR (cs:=[(.d (.str a1.Tag)),(.d (.str a1.Key))]) GZ rfl (vL) (gQ rfl rfl rfl rfl (gQ rfl rfl rfl rfl rfl))) rfl ?_
 refine ai.less (Less.agg' (d:=aK (aR.mk a1.Tag a1.Key)) (aH.eq rfl (aH.eq rfl .nil)) ((aR.eq _).trans rfl)) ?_
 refine ai.store H7 (i:=0) rfl rfl rfl rfl (aR.gu _) rfl Ha rfl IP rfl rfl rfl (fun S8 H9=>?_)
 refine ai.nil ?_
 have hr:=Option.some.inj h
 subst hr
 exact aA.ret ⟨_,rA H9 (i:=0) rfl rfl rfl (dO IK Ha rfl),rfl,lM (bO.FE (d:=aK (aR.mk a1.Tag a1.Key)) (aH.eq rfl (aH.eq rfl .nil)) ((aR.eq _).trans rfl))⟩
set_option maxRecDepth 20000 in
set_option maxHeartbeats 4000000 in
theorem yf (n:Nat) (a1:(List Tree)) (a2:(List Tree)) (r:(List Int)) (h:mO n a1 a2=some r):gY R cfg.P 44 [(.sl ((a1).map ax) false),(.sl ((a2).map ax) false)] (.d (.sl ((r).map (D.int .i64)) false)):=by
 unfold mO at h
 refine gY.of_wp (dG E).toObjOk (C:=pO) Try.func44 rfl JB rfl ?_
 have H0:Has aM aM []:=Has.pure
 refine aA.seq ?_
 refine aA.region (dG E) rfl ?_
 refine ai.val rfl (aj rfl) rfl ?_
 refine ai.nil ?_
 refine aA.seq ?_
 refine aA.region (dG E) rfl ?_
 refine ai.makeMap aK (D.int .i64) H0 rfl qW rfl (fun b3 S4 H5=>?_)
 have H6:=Has.Ku (ek:=aK) rfl H5
 have H7:Has aM S4 [cz aK b3 [] [] true none]:=H6.sl [0] rfl rfl
 refine ai.val rfl (aj rfl) rfl ?_
 refine ai.nil ?_
 refine aA.seq ?_
 refine aA.seq ?_
 refine aA.region (dG E) rfl ?_
 refine ai.val rfl (aa rfl) rfl ?_
 refine ai.val rfl (bE rfl Ct) rfl ?_
 refine ai.val rfl (aa rfl) rfl ?_
 refine ai.nil ?_
 refine aA.block ?_
 refine pM.start (B:=aM) (α:=(List (aR × List Int)) × (List AV) × Int) (fun k a=>eP n a1 a2 k a.1 a.2.2=some r) (fun a=>[(1,(.d (.sl ((a2).map ax) false))),(5,(.map b3)),(13,(.d (.sl ((a1).map ax) false))),(14,(.d (.int .i64 ((a1).length:Int)))),(15,(.d (.int .i64 a.2.2)))]) (fun a=>[cz aK b3 a.1 a.2.1 true none]) ?_ ?_ n ⟨⟨[],[],0⟩,_,_,S4,.refl _ _,.refl _,(ak.r rfl (ak.r rfl (ak.r rfl (ak.r rfl (ak.r rfl ak.nil))))),H7.sl [0] rfl rfl,h⟩
 ·
  intro a h; simp [eP] at h
 ·
  intro k20 a S15 H16 h
  obtain ⟨x17,ws18,x19⟩:=a
  replace h:eP n a1 a2 (k20 + 1) x17 x19=some r:=h
  replace H16:Has aM S15 [cz aK b3 x17 ws18 true none]:=H16
  unfold eP at h
  refine aA.seq ?_
  refine aA.region (dG E) rfl ?_
  refine ai.val rfl (aB rfl rfl dN) rfl ?_
  refine ai.nil ?_
  refine aA.seq ?_
  refine aA.cond rfl (fun hb21=>?_) (fun hb21=>?_)
  ·
   replace h:=dF hb21 h
   refine aA.skip ?_
   refine aA.seq ?_
   refine aA.block ?_
   refine aA.seq ?_
   refine aA.region (dG E) rfl ?_
   refine ai.val rfl (aa rfl) rfl ?_
   obtain ⟨z22,hzz22,h⟩:=bind_some h
   refine ai.val rfl (bD rfl rfl (bU (enc:=ax) hzz22 qY ow ((Tree.len _).trans fw.symm))) rfl ?_
   refine ai.val rfl (aX rfl (Tree.rq jA fw)) rfl ?_
   refine ai.alloc H16 rfl ES jZ rfl rfl (fun b23 S24 H25=>?_)
   refine ai.val rfl (aj rfl) rfl ?_
   refine ai.store H25 (i:=0) rfl rfl rfl rfl (Tree.gu _) rfl fw rfl ow rfl rfl rfl (fun S26 H27=>?_)
   refine ai.nil ?_
   obtain ⟨z28,hzz28,h⟩:=bind_some h
   obtain ⟨z36,hzz36,h⟩:=bind_some h
   refine aA.iV (dG E) lG Lf [(1,none),(5,none),(13,none),(14,none),(15,none)] (by kernel_rfl) [8,9,10] (by decide) [some (.map b3),some (.d (ax z22)),some (.d (aK z28)),some (.map b3),some (.d (ax z22)),some (.d (aK z28)),some (mw x17 ws18 z28),some (.d (.int .i64 x19)),none,none,none] ?_
   refine ⟨[0,1,2,3,4,5,6,7],by kernel_rfl,?_,_,_,rfl,rfl,.step ?_⟩
   ·
    refine .v rfl rfl rfl rfl (aa rfl) ?_
    refine .cons rfl rfl rfl (.step ?_) ?_
    ·
     refine ai.val rfl (aL H27 (i:=0) rfl rfl (dO jA fw rfl)) rfl ?_
     refine ai.less (Less.agg' (d:=ax z22) (aH.eq rfl (aH.eq rfl (aH.eq rfl (aH.eq rfl (aH.eq rfl .nil))))) ((Tree.eq _).trans rfl)) ?_
     exact ai.nil ⟨_,_,rfl,fun _ ht=>by cases ht; exact ⟨rfl,.refl _⟩⟩
    refine .cons rfl rfl rfl (.step ?_) ?_
    ·
     refine ai.ret rfl (aI rfl rfl) (jK E _ _ _ hzz28 _ _ (bO.eq .nil)) rfl ?_
     exact ai.nil ⟨_,_,rfl,fun _ ht=>by cases ht; exact ⟨rfl,.refl _⟩⟩
    refine .v rfl rfl rfl rfl (aa rfl) ?_
    refine .cons rfl rfl rfl (.step ?_) ?_
    ·
     refine ai.val rfl (aL H27 (i:=0) rfl rfl (dO jA fw rfl)) rfl ?_
     refine ai.less (Less.agg' (d:=ax z22) (aH.eq rfl (aH.eq rfl (aH.eq rfl (aH.eq rfl (aH.eq rfl .nil))))) ((Tree.eq _).trans rfl)) ?_
     exact ai.nil ⟨_,_,rfl,fun _ ht=>by cases ht; exact ⟨rfl,.refl _⟩⟩
    refine .cons rfl rfl rfl (.step ?_) ?_
    ·
     refine ai.ret rfl (aI rfl rfl) (jK E _ _ _ hzz28 _ _ (bO.eq .nil)) rfl ?_
     exact ai.nil ⟨_,_,rfl,fun _ ht=>by cases ht; exact ⟨rfl,.refl _⟩⟩
    refine .v rfl rfl rfl rfl (o5 H27 (q:=1) rfl rfl rfl qW wW Ih) ?_
    refine .v rfl rfl rfl rfl (aa rfl) ?_
    exact .nil
   refine ai.oz (vs:=[(.d (.int .i64 x19))]) (cs:=[[(.d (.int .i64 x19))]]) H27 rfl nI eH nZ Ex jL rfl (by decide) (.cons rfl rfl .nil) rfl rfl rfl (fun v47 S48 H49=>?_)
   have H50:Has aM S48 [fD 1 1 v47 [(.d (.int .i64 x19))],.box b23 [(.d (.str z22.Tag)),(.d (.str z22.Key)),(.d (.str z22.Text)),(.d (.sl ((z22.aV).map aD) false)),(.d (.sl ((z22.Kids).map ax) false))],cz aK b3 x17 ws18 true none]:=H49.sl [0,1,2] rfl rfl
   refine ai.nil ⟨_,_,_,rfl,(fun _ ht=>by cases ht; rfl),[some (.map b3),some (.d (ax z22)),some (.d (aK z28)),some (.map b3),some (.d (ax z22)),some (.d (aK z28)),some (mw x17 ws18 z28),some (.d (.int .i64 x19)),some v47,none,none],(.o (.o (.o (.o (.o (.o (.o (.o (.new (.new (.new .nil))))))))))),(fun _ ht=>by cases ht; exact ⟨_,rfl,.refl _⟩),?_⟩
   refine ⟨[0,1,2,3,4,5,6],by kernel_rfl,?_,_,_,rfl,rfl,.step ?_⟩
   ·
    refine .v rfl rfl rfl rfl (aa rfl) ?_
    refine .cons rfl rfl rfl (.step ?_) ?_
    ·
     refine ai.val rfl (aL H50 (i:=1) rfl rfl (dO jA fw rfl)) rfl ?_
     refine ai.less (Less.agg' (d:=ax z22) (aH.eq rfl (aH.eq rfl (aH.eq rfl (aH.eq rfl (aH.eq rfl .nil))))) ((Tree.eq _).trans rfl)) ?_
     exact ai.nil ⟨_,_,rfl,fun _ ht=>by cases ht; exact ⟨rfl,.refl _⟩⟩
    refine .cons rfl rfl rfl (.step ?_) ?_
    ·
     refine ai.ret rfl (aI rfl rfl) (jK E _ _ _ hzz28 _ _ (bO.eq .nil)) rfl ?_
     exact ai.nil ⟨_,_,rfl,fun _ ht=>by cases ht; exact ⟨rfl,.refl _⟩⟩
    refine .v rfl rfl rfl rfl (aa rfl) ?_
    refine .cons rfl rfl rfl (.step ?_) ?_
    ·
     refine ai.val rfl (aL H50 (i:=1) rfl rfl (dO jA fw rfl)) rfl ?_
     refine ai.less (Less.agg' (d:=ax z22) (aH.eq rfl (aH.eq rfl (aH.eq rfl (aH.eq rfl (aH.eq rfl .nil))))) ((Tree.eq _).trans rfl)) ?_
     exact ai.nil ⟨_,_,rfl,fun _ ht=>by cases ht; exact ⟨rfl,.refl _⟩⟩
    refine .cons rfl rfl rfl (.step ?_) ?_
    ·
     refine ai.ret rfl (aI rfl rfl) (jK E _ _ _ hzz28 _ _ (bO.eq .nil)) rfl ?_
     exact ai.nil ⟨_,_,rfl,fun _ ht=>by cases ht; exact ⟨rfl,.refl _⟩⟩
    refine .v rfl rfl rfl rfl (o5 H50 (q:=2) rfl rfl rfl qW wW Ih) ?_
    exact .nil
   have H51:Has aM S48 ([cz aK b3 x17 ws18 true none] ++ [fD 1 1 v47 [(.d (.int .i64 x19))],.box b23 [(.d (.str z22.Tag)),(.d (.str z22.Key)),(.d (.str z22.Text)),(.d (.sl ((z22.aV).map aD) false)),(.d (.sl ((z22.Kids).map ax) false))]]):=H50.sl [2,0,1] rfl rfl
   replace H51:Has aM S48 [cz aK b3 x17 ws18 true none,fD 1 1 v47 [(.d (.int .i64 x19))],.box b23 [(.d (.str z22.Tag)),(.d (.str z22.Key)),(.d (.str z22.Text)),(.d (.sl ((z22.aV).map aD) false)),(.d (.sl ((z22.Kids).map ax) false))]]:=H51
   have H52:=Has.Jc H51 z28
   have H53:Has aM S48 [aG (mw x17 ws18 z28) (fe x17 z28 []),fD 1 1 v47 [(.d (.int .i64 x19))],.box b23 [(.d (.str z22.Tag)),(.d (.str z22.Key)),(.d (.str z22.Text)),(.d (.sl ((z22.aV).map aD) false)),(.d (.sl ((z22.Kids).map ax) false))],cz aK b3 x17 ws18 true (wh x17 z28)]:=H52.sl [0,2,3,1] rfl rfl
   have H54:Has aM S48 ([fD 1 1 v47 [(.d (.int .i64 x19))],aG (mw x17 ws18 z28) (fe x17 z28 [])] ++ [.box b23 [(.d (.str z22.Tag)),(.d (.str z22.Key)),(.d (.str z22.Text)),(.d (.sl ((z22.aV).map aD) false)),(.d (.sl ((z22.Kids).map ax) false))],cz aK b3 x17 ws18 true (wh x17 z28)]):=H53.sl [1,0,2,3] rfl rfl
   replace H54:Has aM S48 [fD 1 1 v47 [(.d (.int .i64 x19))],aG (mw x17 ws18 z28) (fe x17 z28 []),.box b23 [(.d (.str z22.Tag)),(.d (.str z22.Key)),(.d (.str z22.Text)),(.d (.sl ((z22.aV).map aD) false)),(.d (.sl ((z22.Kids).map ax) false))],cz aK b3 x17 ws18 true (wh x17 z28)]:=H54
   refine ai.yD H54 rfl rfl rfl nI xy eH jL hzz36 Hd rfl BC rfl (fun w55 S56 H57=>?_)
   have H58:Has aM S56 [aG w55 z36,.box b23 [(.d (.str z22.Tag)),(.d (.str z22.Key)),(.d (.str z22.Text)),(.d (.sl ((z22.aV).map aD) false)),(.d (.sl ((z22.Kids).map ax) false))],cz aK b3 x17 ws18 true (wh x17 z28)]:=H57.sl [0,1,2] rfl rfl
   refine ai.nil ⟨_,_,_,rfl,(fun _ ht=>by cases ht; rfl),[some (.map b3),some (.d (ax z22)),some (.d (aK z28)),some (.map b3),some (.d (ax z22)),some (.d (aK z28)),some (mw x17 ws18 z28),some (.d (.int .i64 x19)),some v47,some w55,none],(.o (.o (.o (.o (.o (.o (.o (.o (.o (.new (.new .nil))))))))))),(fun _ ht=>by cases ht; exact ⟨_,rfl,.refl _⟩),?_⟩
   refine ⟨[0],by kernel_rfl,?_,_,_,rfl,rfl,.step ?_⟩
   ·
    refine .v rfl rfl rfl rfl (aa rfl) ?_
    exact .nil
   have H62:Has aM S56 ([aG w55 z36,cz aK b3 x17 ws18 true (wh x17 z28)] ++ [.box b23 [(.d (.str z22.Tag)),(.d (.str z22.Key)),(.d (.str z22.Text)),(.d (.sl ((z22.aV).map aD) false)),(.d (.sl ((z22.Kids).map ax) false))]]):=H58.sl [0,2,1] rfl rfl
   replace H62:Has aM S56 [aG w55 z36,cz aK b3 x17 ws18 true (wh x17 z28),.box b23 [(.d (.str z22.Tag)),(.d (.str z22.Key)),(.d (.str z22.Text)),(.d (.sl ((z22.aV).map aD) false)),(.d (.sl ((z22.Kids).map ax) false))]]:=H62
   refine ai.GQ H62 rfl rfl rfl rfl qW wW (fun ws59 S60 H61=>?_)
   have H63:Has aM S60 [.box b23 [(.d (.str z22.Tag)),(.d (.str z22.Key)),(.d (.str z22.Text)),(.d (.sl ((z22.aV).map aD) false)),(.d (.sl ((z22.Kids).map ax) false))],cz aK b3 (iD x17 z28 z36) ws59 true none]:=H61.sl [1,0] rfl rfl
   refine ai.nil ⟨_,.any,_,rfl,(fun _ ht=>by cases ht),[some (.map b3),some (.d (ax z22)),some (.d (aK z28)),some (.map b3),some (.d (ax z22)),some (.d (aK z28)),some (mw x17 ws18 z28),some (.d (.int .i64 x19)),some v47,some w55,some .any],(.o (.o (.o (.o (.o (.o (.o (.o (.o (.o (.new .nil))))))))))),(fun _ ht=>by cases ht),?_⟩
   refine ⟨[],by kernel_rfl,?_,_,rfl,?_⟩
   ·
    exact .nil
   refine aA.region (dG E) rfl ?_
   refine ai.val rfl (aB rfl rfl cO) rfl ?_
   refine ai.val rfl (aa rfl) rfl ?_
   refine ai.nil ?_
   exact ⟨⟨(iD x17 z28 z36),ws59,(IntKind.wrap .i64 (x19 + 1))⟩,_,_,S60,.refl _ _,.refl _,(ak.r rfl (ak.r rfl (ak.r rfl (ak.r rfl (ak.r rfl ak.nil))))),H63.sl [1] rfl rfl,h⟩
  ·
   replace h:=dH hb21 h
   refine aA.exit ?_
   refine aA.seq ?_
   refine aA.region (dG E) rfl ?_
   refine ai.val rfl (aj rfl) rfl ?_
   refine ai.nil ?_
   refine aA.seq ?_
   refine aA.seq ?_
   refine aA.region (dG E) rfl ?_
   refine ai.val rfl (aa rfl) rfl ?_
   refine ai.val rfl (bE rfl Ct) rfl ?_
   refine ai.val rfl (aa rfl) rfl ?_
   refine ai.nil ?_
   refine aA.block ?_
   have H64:Has aM S15 ([cz aK b3 x17 ws18 true none] ++ []):=H16.sl [0] rfl rfl
   replace H64:Has aM S15 [cz aK b3 x17 ws18 true none]:=H64
   have H65:=Has.IZ H64
   have H66:Has aM S15 [cz aK b3 x17 ws18 false none]:=H65.sl [0] rfl rfl
   have H133:=H66.Jh 1
   refine pM.start (B:=aM) (α:=(List (aR × List Int)) × (List AV) × (List Int) × AV × Int) (fun k a=>dA n a2 k a.1 a.2.2.1 a.2.2.2.2=some r) (fun a=>[(5,(.map b3)),(8,a.2.2.2.1),(31,(.d (.sl ((a2).map ax) false))),(32,(.d (.int .i64 ((a2).length:Int)))),(33,(.d (.int .i64 a.2.2.2.2)))]) (fun a=>[cz aK b3 a.1 a.2.1 false none,.row 1 a.2.2.2.1 ((a.2.2.1).map (D.int .i64))]) ?_ ?_ n ⟨⟨x17,ws18,[],(.d .aT),0⟩,_,_,S15,.refl _ _,.refl _,(ak.r rfl (ak.r rfl (ak.r rfl (ak.r rfl (ak.r rfl ak.nil))))),H133.sl [1,0] rfl rfl,h⟩
   ·
    intro a h; simp [dA] at h
   ·
    intro k83 a S76 H77 h
    obtain ⟨x78,ws79,x80,v81,x82⟩:=a
    replace h:dA n a2 (k83 + 1) x78 x80 x82=some r:=h
    replace H77:Has aM S76 [cz aK b3 x78 ws79 false none,.row 1 v81 ((x80).map (D.int .i64))]:=H77
    unfold dA at h
    refine aA.seq ?_
    refine aA.region (dG E) rfl ?_
    refine ai.val rfl (aB rfl rfl dN) rfl ?_
    refine ai.nil ?_
    refine aA.seq ?_
    refine aA.cond rfl (fun hb84=>?_) (fun hb84=>?_)
    ·
     replace h:=dF hb84 h
     refine aA.skip ?_
     refine aA.join (B:=aM) (α:=(List (aR × List Int)) × (List AV) × (List Int) × AV) (fun a=>gK x82 (dA n a2 k83) a.1 a.2.2.1=some r) (fun a=>[(5,(.map b3)),(8,a.2.2.2),(31,(.d (.sl ((a2).map ax) false))),(32,(.d (.int .i64 ((a2).length:Int)))),(33,(.d (.int .i64 x82)))]) (fun a=>[cz aK b3 a.1 a.2.1 false none,.row 1 a.2.2.2 ((a.2.2.1).map (D.int .i64))]) ?_ ?_
     ·
      intro a S85 H86 h
      obtain ⟨x87,ws88,x89,v90⟩:=a
      replace h:gK x82 (dA n a2 k83) x87 x89=some r:=h
      replace H86:Has aM S85 [cz aK b3 x87 ws88 false none,.row 1 v90 ((x89).map (D.int .i64))]:=H86
      unfold gK at h
      refine aA.region (dG E) rfl ?_
      refine ai.val rfl (aB rfl rfl cO) rfl ?_
      refine ai.val rfl (aa rfl) rfl ?_
      refine ai.nil ?_
      exact ⟨⟨x87,ws88,x89,v90,(IntKind.wrap .i64 (x82 + 1))⟩,_,_,S85,.refl _ _,.refl _,(ak.r rfl (ak.r rfl (ak.r rfl (ak.r rfl (ak.r rfl ak.nil))))),H86.sl [0,1] rfl rfl,h⟩
     ·
      refine aA.block ?_
      refine aA.seq ?_
      refine aA.region (dG E) rfl ?_
      obtain ⟨z92,hzz92,h⟩:=bind_some h
      refine ai.val rfl (bD rfl rfl (bU (enc:=ax) hzz92 qY ow ((Tree.len _).trans fw.symm))) rfl ?_
      refine ai.val rfl (aX rfl (Tree.rq jA fw)) rfl ?_
      refine ai.alloc H77 rfl ES jZ rfl rfl (fun b93 S94 H95=>?_)
      refine ai.store H95 (i:=0) rfl rfl rfl rfl (Tree.gu _) rfl fw rfl ow rfl rfl rfl (fun S96 H97=>?_)
      refine ai.nil ?_
      refine aA.seq ?_
      refine aA.region (dG E) rfl ?_
      refine ai.val rfl (aa rfl) rfl ?_
      refine ai.val rfl (aL H97 (i:=0) rfl rfl (dO jA fw rfl)) rfl ?_
      refine ai.less (Less.agg' (d:=ax z92) (aH.eq rfl (aH.eq rfl (aH.eq rfl (aH.eq rfl (aH.eq rfl .nil))))) ((Tree.eq _).trans rfl)) ?_
      obtain ⟨z98,hzz98,h⟩:=bind_some h
      refine ai.ret rfl (aI rfl rfl) (jK E _ _ _ hzz98 _ _ (bO.eq .nil)) rfl ?_
      refine ai.val rfl (o5 H97 (q:=1) rfl rfl rfl qW wW Ih) rfl ?_
      refine ai.val rfl (aj rfl) rfl ?_
      refine ai.nil ?_
      refine aA.seq ?_
      refine aA.seq ?_
      refine aA.region (dG E) rfl ?_
      refine ai.val rfl (aa rfl) rfl ?_
      refine ai.val rfl (Cz (xS H97 (q:=1) rfl z98) rfl iZ) rfl ?_
      refine ai.val rfl (aB rfl rfl bC) rfl ?_
      refine ai.nil ?_
      refine aA.cond rfl (fun hb99=>?_) (fun hb99=>?_)
      ·
       replace h:=dF hb99 h
       refine aA.seq ?_
       refine aA.region (dG E) rfl ?_
       refine ai.val rfl (aa rfl) rfl ?_
       refine ai.oz (vs:=[(.d (.int .i64 (-1)))]) (cs:=[[(.d (.int .i64 (-1)))]]) H97 rfl nI eH nZ Ex jL rfl (by decide) (.cons rfl rfl .nil) rfl rfl rfl (fun v100 S101 H102=>?_)
       have H103:Has aM S101 [fD 1 1 v100 [(.d (.int .i64 (-1)))],.box b93 [(.d (.str z92.Tag)),(.d (.str z92.Key)),(.d (.str z92.Text)),(.d (.sl ((z92.aV).map aD) false)),(.d (.sl ((z92.Kids).map ax) false))],cz aK b3 x78 ws79 false none,.row 1 v81 ((x80).map (D.int .i64))]:=H102.sl [0,1,2,3] rfl rfl
       obtain ⟨z104,hzz104,h⟩:=bind_some h
       have H105:Has aM S101 ([fD 1 1 v100 [(.d (.int .i64 (-1)))],.row 1 v81 ((x80).map (D.int .i64))] ++ [.box b93 [(.d (.str z92.Tag)),(.d (.str z92.Key)),(.d (.str z92.Text)),(.d (.sl ((z92.aV).map aD) false)),(.d (.sl ((z92.Kids).map ax) false))],cz aK b3 x78 ws79 false none]):=H103.sl [0,3,1,2] rfl rfl
       replace H105:Has aM S101 [fD 1 1 v100 [(.d (.int .i64 (-1)))],.row 1 v81 ((x80).map (D.int .i64)),.box b93 [(.d (.str z92.Tag)),(.d (.str z92.Key)),(.d (.str z92.Text)),(.d (.sl ((z92.aV).map aD) false)),(.d (.sl ((z92.Kids).map ax) false))],cz aK b3 x78 ws79 false none]:=H105
       refine ai.xw (enc:=(D.int .i64)) (z:=(-1)) H105 rfl rfl rfl nI xy eH jL rfl hzz104 Hd rfl BC (.refl _) rfl rfl rfl (fun v106 S107 H108=>?_)
       have H109:Has aM S107 [.row 1 v106 ((z104).map (D.int .i64)),.box b93 [(.d (.str z92.Tag)),(.d (.str z92.Key)),(.d (.str z92.Text)),(.d (.sl ((z92.aV).map aD) false)),(.d (.sl ((z92.Kids).map ax) false))],cz aK b3 x78 ws79 false none]:=H108.sl [0,1,2] rfl rfl
       refine ai.val rfl (aj rfl) rfl ?_
       refine ai.nil ?_
       refine aA.exit ?_
       exact ⟨⟨x78,ws79,z104,v106⟩,_,_,S107,.refl _ _,.refl _,(ak.r rfl (ak.r rfl (ak.r rfl (ak.r rfl (ak.r rfl ak.nil))))),H109.sl [2,0] rfl rfl,h⟩
      ·
       replace h:=dH hb99 h
       refine aA.skip ?_
       refine aA.seq ?_
       refine aA.region (dG E) rfl ?_
       refine ai.val rfl (aa rfl) rfl ?_
       refine ai.val rfl (aa rfl) rfl ?_
       obtain ⟨z110,hzz110,h⟩:=bind_some h
       refine ai.val rfl (BS (xS H97 (q:=1) rfl z98) hzz110 rfl rfl eH nZ jL) rfl ?_
       refine ai.val rfl (Bb (xS H97 (q:=1) rfl z98) hzz110 rfl ni) rfl ?_
       refine ai.oz (vs:=[(.d (.int .i64 z110))]) (cs:=[[(.d (.int .i64 z110))]]) H97 rfl nI eH nZ Ex jL rfl (by decide) (.cons rfl rfl .nil) rfl rfl rfl (fun v111 S112 H113=>?_)
       have H114:Has aM S112 [fD 1 1 v111 [(.d (.int .i64 z110))],.box b93 [(.d (.str z92.Tag)),(.d (.str z92.Key)),(.d (.str z92.Text)),(.d (.sl ((z92.aV).map aD) false)),(.d (.sl ((z92.Kids).map ax) false))],cz aK b3 x78 ws79 false none,.row 1 v81 ((x80).map (D.int .i64))]:=H113.sl [0,1,2,3] rfl rfl
       obtain ⟨z115,hzz115,h⟩:=bind_some h
       have H116:Has aM S112 ([fD 1 1 v111 [(.d (.int .i64 z110))],.row 1 v81 ((x80).map (D.int .i64))] ++ [.box b93 [(.d (.str z92.Tag)),(.d (.str z92.Key)),(.d (.str z92.Text)),(.d (.sl ((z92.aV).map aD) false)),(.d (.sl ((z92.Kids).map ax) false))],cz aK b3 x78 ws79 false none]):=H114.sl [0,3,1,2] rfl rfl
       replace H116:Has aM S112 [fD 1 1 v111 [(.d (.int .i64 z110))],.row 1 v81 ((x80).map (D.int .i64)),.box b93 [(.d (.str z92.Tag)),(.d (.str z92.Key)),(.d (.str z92.Text)),(.d (.sl ((z92.aV).map aD) false)),(.d (.sl ((z92.Kids).map ax) false))],cz aK b3 x78 ws79 false none]:=H116
       refine ai.xw (enc:=(D.int .i64)) (z:=z110) H116 rfl rfl rfl nI xy eH jL rfl hzz115 Hd rfl BC (.refl _) rfl rfl rfl (fun v117 S118 H119=>?_)
       have H120:Has aM S118 [.row 1 v117 ((z115).map (D.int .i64)),.box b93 [(.d (.str z92.Tag)),(.d (.str z92.Key)),(.d (.str z92.Text)),(.d (.sl ((z92.aV).map aD) false)),(.d (.sl ((z92.Kids).map ax) false))],cz aK b3 x78 ws79 false none]:=H119.sl [0,1,2] rfl rfl
       refine ai.val rfl (aj rfl) rfl ?_
       refine ai.nil ?_
       obtain ⟨z121,hzz121,h⟩:=bind_some h
       obtain ⟨z122,hzz122,h⟩:=bind_some h
       refine aA.iV (dG E) lG Kw [(5,none),(8,none),(31,none),(32,none),(33,none)] (by kernel_rfl) [5] (by decide) [some (.map b3),some (.d (ax z92)),some (.d (aK z121)),some (mw x78 ws79 z98),some (nE (mw x78 ws79 z98) (Int.toNat 1)),none] ?_
       refine ⟨[0,1,2,3,4],by kernel_rfl,?_,_,_,rfl,rfl,.step ?_⟩
       ·
        refine .v rfl rfl rfl rfl (aa rfl) ?_
        refine .cons rfl rfl rfl (.step ?_) ?_
        ·
         refine ai.val rfl (aL H120 (i:=1) rfl rfl (dO jA fw rfl)) rfl ?_
         refine ai.less (Less.agg' (d:=ax z92) (aH.eq rfl (aH.eq rfl (aH.eq rfl (aH.eq rfl (aH.eq rfl .nil))))) ((Tree.eq _).trans rfl)) ?_
         exact ai.nil ⟨_,_,rfl,fun _ ht=>by cases ht; exact ⟨rfl,.refl _⟩⟩
        refine .cons rfl rfl rfl (.step ?_) ?_
        ·
         refine ai.ret rfl (aI rfl rfl) (jK E _ _ _ hzz121 _ _ (bO.eq .nil)) rfl ?_
         exact ai.nil ⟨_,_,rfl,fun _ ht=>by cases ht; exact ⟨rfl,.refl _⟩⟩
        refine .v rfl rfl rfl rfl (aa rfl) ?_
        refine .v rfl rfl rfl rfl (Aq (xS H120 (q:=2) rfl z98) hzz122 (Dq hzz110) rfl rfl eH Eo jL) ?_
        exact .nil
       have H131:Has aM S118 ([cz aK b3 x78 ws79 false none] ++ [.row 1 v117 ((z115).map (D.int .i64)),.box b93 [(.d (.str z92.Tag)),(.d (.str z92.Key)),(.d (.str z92.Text)),(.d (.sl ((z92.aV).map aD) false)),(.d (.sl ((z92.Kids).map ax) false))]]):=H120.sl [2,0,1] rfl rfl
       replace H131:Has aM S118 [cz aK b3 x78 ws79 false none,.row 1 v117 ((z115).map (D.int .i64)),.box b93 [(.d (.str z92.Tag)),(.d (.str z92.Key)),(.d (.str z92.Text)),(.d (.sl ((z92.aV).map aD) false)),(.d (.sl ((z92.Kids).map ax) false))]]:=H131
       refine ai.Gj (j:=1) H131 rfl rfl (show _=some (AV.d (aK z98)) from congrArg (fun q=>some (AV.d (aK q))) (Option.some.inj (hzz121.symm.trans hzz98))) hzz122 (Dq hzz110) rfl qW wW (fun ws128 S129 H130=>?_)
       have H132:Has aM S129 [.row 1 v117 ((z115).map (D.int .i64)),.box b93 [(.d (.str z92.Tag)),(.d (.str z92.Key)),(.d (.str z92.Text)),(.d (.sl ((z92.aV).map aD) false)),(.d (.sl ((z92.Kids).map ax) false))],cz aK b3 (iD x78 z98 z122) ws128 false none]:=H130.sl [1,2,0] rfl rfl
       refine ai.nil ⟨_,.any,_,rfl,(fun _ ht=>by cases ht),[some (.map b3),some (.d (ax z92)),some (.d (aK z121)),some (mw x78 ws79 z98),some (nE (mw x78 ws79 z98) (Int.toNat 1)),some .any],(.o (.o (.o (.o (.o (.new .nil)))))),(fun _ ht=>by cases ht),?_⟩
       refine ⟨[],by kernel_rfl,?_,_,rfl,?_⟩
       ·
        exact .nil
       exact ⟨⟨(iD x78 z98 z122),ws128,z115,v117⟩,_,_,S129,.refl _ _,.refl _,(ak.r rfl (ak.r rfl (ak.r rfl (ak.r rfl (ak.r rfl ak.nil))))),H132.sl [2,0] rfl rfl,h⟩
    ·
     replace h:=dH hb84 h
     refine aA.exit ?_
     refine aA.seq ?_
     refine aA.region (dG E) rfl ?_
     refine ai.val rfl (aa rfl) rfl ?_
     refine ai.val rfl (aj rfl) rfl ?_
     refine ai.nil ?_
     obtain ⟨SF1,HF1,hgF1⟩:=H77.freeze (dG E).toObjOk (i:=1) (l':=[cz aK b3 x78 ws79 false none]) rfl (.same .nil)
     refine aA.ghost (hgF1 _ _ [(4,(.d (.sl ((x80).map (D.int .i64)) false))),(5,(.map b3)),(8,(.d (.sl ((x80).map (D.int .i64)) false))),(31,(.d (.sl ((a2).map ax) false))),(32,(.d (.int .i64 ((a2).length:Int)))),(33,(.d (.int .i64 x82))),(34,(.d (.bool (decide (x82 < ((a2).length:Int)))))),(59,(.d (.sl ((x80).map (D.int .i64)) false)))] (.it rfl (.cons rfl (.refl _) (.it rfl (.cons rfl (.refl _) (.cons rfl (.refl _) (.cons rfl (.refl _) (.cons rfl (.refl _) (.it rfl .nil))))))))) ?_
     have hr:=Option.some.inj h
     subst hr
     exact aA.ret ⟨_,rfl,rfl,lM (bO.eq .nil)⟩
set_option maxRecDepth 20000 in
set_option maxHeartbeats 4000000 in
theorem tX (n:Nat) (a2:au) (a6:Int) (r:(Bool × au)) (h:ja n a2 a6=some r) (b1:Nat) (v3:AV) (ws4:List (List AV)) (w5:AV):cK R cfg.P 15 [.ptr b1 0 0,.d (.int .i64 a6)] [.box b1 [v3,w5],ay ae ah.kids 7 5 v3 ws4 a2.l none,aG w5 a2.freed] (fun v l=>v=.d (.bool r.1)∧∃ dws0 dw0,l=[.box b1 [v3,dw0],ay ae ah.kids 7 5 v3 dws0 r.2.l none,aG dw0 r.2.freed]):=by
 unfold ja at h
 refine cK.of_wp (C:=cfg) Try.func15 rfl JL rfl (fun B0 S0 H0=>?_)
 replace H0:Has B0 S0 [.box b1 [v3,w5],ay ae ah.kids 7 5 v3 ws4 a2.l none,aG w5 a2.freed]:=H0
 refine aA.seq ?_
 refine aA.region E.obj rfl ?_
 refine ai.val rfl (aj rfl) rfl ?_
 refine ai.nil ?_
 refine aA.seq ?_
 refine aA.region E.obj rfl ?_
 refine ai.val rfl (aa rfl) rfl ?_
 refine ai.val rfl (aa rfl) rfl ?_
 obtain ⟨z7,hzz7,h⟩:=bind_some h
 refine ai.eB (ins:=[.box b1 [v3,w5],ay ae ah.kids 7 5 v3 ws4 a2.l none,aG w5 a2.freed]) (more:=[]) (H0.sl [0,1,2] rfl rfl) rfl (aI rfl rfl) (fJ E n _ _ _ hzz7 b1 v3 ws4 w5) (.cons (.refl _) (.cons (.refl _) .nil)) rfl ?_
 rintro v8 S9 l10 hr11 H12
 rcases z7 with _ | _
 ·
  obtain ⟨rfl,rfl⟩:=hr11
  replace h:=dH rfl h
  replace H12:Has B0 S9 [.box b1 [v3,w5],ay ae ah.kids 7 5 v3 ws4 a2.l none,aG w5 a2.freed]:=H12
  have H13:Has B0 S9 [.box b1 [v3,w5],ay ae ah.kids 7 5 v3 ws4 a2.l none,aG w5 a2.freed]:=H12.sl [0,1,2] rfl rfl
  refine ai.val rfl (aj rfl) rfl ?_
  refine ai.nil ?_
  refine aA.seq ?_
  refine aA.seq ?_
  refine aA.region E.obj rfl ?_
  refine ai.val rfl (aa rfl) rfl ?_
  refine ai.val rfl (aB rfl rfl (jP pX)) rfl ?_
  refine ai.val rfl (aa rfl) rfl ?_
  refine ai.no rfl rfl ?_
  refine ai.no rfl rfl ?_
  refine ai.no rfl rfl ?_
  refine ai.no rfl rfl ?_
  refine ai.no rfl rfl ?_
  refine ai.val rfl (aF (b:=true) rfl rfl) rfl ?_
  refine ai.nil ?_
  refine aA.cond rfl (fun hb=>?_) (fun hb=>?_)
  ·
   refine aA.seq ?_
   refine aA.region E.obj rfl ?_
   refine ai.val rfl (aj rfl) rfl ?_
   refine ai.nil ?_
   have hr:=Option.some.inj h
   subst hr
   exact aA.ret ⟨_,rfl,rfl,_,_,_,.refl _,(.refl _),⟨rfl,ws4,w5,rfl⟩,H13.sl [0,1,2] rfl rfl⟩
  ·
   cases hb
 ·
  obtain ⟨rfl,rfl⟩:=hr11
  replace h:=dF rfl h
  have H14:Has B0 S9 [.box b1 [v3,w5],ay ae ah.kids 7 5 v3 ws4 a2.l none,aG w5 a2.freed]:=H12.sl [0,1,2] rfl rfl
  refine ai.val rfl (aj rfl) rfl ?_
  refine ai.nil ?_
  refine aA.seq ?_
  refine aA.seq ?_
  refine aA.region E.obj rfl ?_
  refine ai.val rfl (aa rfl) rfl ?_
  obtain ⟨z15,hzz15,h⟩:=bind_some h
  refine ai.val rfl (jX H14 (q:=1) rfl hzz15 rfl rfl pX) rfl ?_
  refine ai.val rfl (aa rfl) rfl ?_
  refine ai.val rfl (aa rfl) rfl ?_
  refine ai.val rfl (bF H14 (q:=1) rfl hzz15 rfl) rfl ?_
  refine ai.val rfl (aZ H14 (i:=1) rfl hzz15 rfl qm G6 rfl) rfl ?_
  refine ai.jq H14 rfl (q:=1) rfl hzz15 rfl ni rfl rfl rfl ?_
  refine ai.val rfl (aB rfl rfl bC) rfl ?_
  refine ai.val rfl (aF (b:=false) rfl rfl) rfl ?_
  refine ai.nil ?_
  refine aA.cond rfl (fun hb16=>?_) (fun hb16=>?_)
  ·
   replace h:=dF hb16 h
   refine aA.seq ?_
   refine aA.region E.obj rfl ?_
   refine ai.val rfl (aj rfl) rfl ?_
   refine ai.nil ?_
   have hr:=Option.some.inj h
   subst hr
   exact aA.ret ⟨_,rfl,rfl,_,_,_,.refl _,(.refl _),⟨rfl,ws4,w5,rfl⟩,H14.sl [0,1,2] rfl rfl⟩
  ·
   replace h:=dH hb16 h
   refine aA.skip ?_
   refine aA.seq ?_
   refine aA.region E.obj rfl ?_
   refine ai.val rfl (aa rfl) rfl ?_
   refine ai.val rfl (aa rfl) rfl ?_
   obtain ⟨z17,hzz17,h⟩:=bind_some h
   refine ai.eB (ins:=[.box b1 [v3,w5],ay ae ah.kids 7 5 v3 ws4 a2.l none,aG w5 a2.freed]) (more:=[]) (H14.sl [0,1,2] rfl rfl) rfl (aI rfl rfl) (nQ E n _ _ _ hzz17 b1 v3 ws4 w5) (.cons (.refl _) (.cons (.refl _) .nil)) rfl ?_
   rintro _ S20 _ ⟨rfl,ws18,w19,rfl⟩ H21
   have H22:Has B0 S20 [.box b1 [v3,w19],ay ae ah.kids 7 5 v3 ws18 z17.l none,aG w19 z17.freed]:=H21.sl [0,1,2] rfl rfl
   refine ai.nil ?_
   refine aA.seq ?_
   refine aA.region E.obj rfl ?_
   refine ai.val rfl (aj rfl) rfl ?_
   refine ai.nil ?_
   have hr:=Option.some.inj h
   subst hr
   exact aA.ret ⟨_,rfl,rfl,_,_,_,.refl _,(.refl _),⟨rfl,ws18,w19,rfl⟩,H22.sl [0,1,2] rfl rfl⟩
set_option maxRecDepth 20000 in
set_option maxHeartbeats 4000000 in
theorem pQ:∀ (n:Nat) (a2:au) (a6:Int) (r:au),eT n a2 a6=some r→∀ (b1:Nat) (v3:AV) (ws4:List (List AV)) (w5:AV),cK R cfg.P 63 [.ptr b1 0 0,.d (.int .i64 a6)] [.box b1 [v3,w5],ay ae ah.kids 7 5 v3 ws4 a2.l none,aG w5 a2.freed] (fun v l=>v=.tup []∧∃ dws0 dw0,l=[.box b1 [v3,dw0],ay ae ah.kids 7 5 v3 dws0 r.l none,aG dw0 r.freed])
 | 0,a2,a6,r,h,b1,v3,ws4,w5=>by simp [eT] at h
 | n + 1,a2,a6,r,h,b1,v3,ws4,w5=>by
  have ih:=pQ n
  unfold eT at h
  refine cK.of_wp (C:=pO) Try.func63 rfl JZ rfl (fun B0 S0 H0=>?_)
  replace H0:Has B0 S0 [.box b1 [v3,w5],ay ae ah.kids 7 5 v3 ws4 a2.l none,aG w5 a2.freed]:=H0
  refine aA.seq ?_
  refine aA.region (dG E) rfl ?_
  refine ai.val rfl (aa rfl) rfl ?_
  refine ai.val rfl (bu rfl) rfl ?_
  refine ai.val rfl (aC rfl jy q8 rfl) rfl ?_
  refine ai.val rfl (aL H0 (i:=0) rfl rfl (aQ rY rfl)) rfl ?_
  refine ai.val rfl (aa rfl) rfl ?_
  refine ai.val rfl (aB rfl rfl gV) rfl ?_
  obtain ⟨z7,hzz7,h⟩:=bind_some h
  refine ai.val rfl (fI H0 (i:=1) rfl hzz7 rfl rfl vN su oh) rfl ?_
  refine ai.val rfl (aZ H0 (i:=1) rfl hzz7 rfl lZ p9 rfl) rfl ?_
  have H8:Has B0 S0 ([ay ae ah.kids 7 5 v3 ws4 a2.l none] ++ [.box b1 [v3,w5],aG w5 a2.freed]):=H0.sl [1,0,2] rfl rfl
  replace H8:Has B0 S0 [ay ae ah.kids 7 5 v3 ws4 a2.l none,.box b1 [v3,w5],aG w5 a2.freed]:=H8
  have H9:=Has.take H8 (dB hzz7).2
  have H10:Has B0 S0 [aG (gU 5 ws4 (Int.toNat (IntKind.wrap .i64 (a6 - 1)))) z7.kids,.box b1 [v3,w5],ay ae ah.kids 7 5 v3 ws4 a2.l (some (Int.toNat (IntKind.wrap .i64 (a6 - 1)))),aG w5 a2.freed]:=H9.sl [0,2,1,3] rfl rfl
  refine ai.val rfl (fP H10 (i:=2) rfl hzz7 rfl sF) rfl ?_
  refine ai.val rfl (aj rfl) rfl ?_
  refine ai.nil ?_
  refine aA.seq ?_
  refine aA.region (dG E) rfl ?_
  refine ai.val rfl (aa rfl) rfl ?_
  refine ai.val rfl (bu rfl) rfl ?_
  refine ai.val rfl (aC rfl jy q8 rfl) rfl ?_
  refine ai.val rfl (aL H10 (i:=1) rfl rfl (aQ rY rfl)) rfl ?_
  refine ai.val rfl (aa rfl) rfl ?_
  refine ai.val rfl (aB rfl rfl gV) rfl ?_
  refine ai.val rfl (dR (cs:=[(.d (.bool false)),(.d (.str [])),(.d (.str [])),(.d (.str [])),(.d .aT),(.d .aT),(.d (.int .i64 0))]) Eu rfl (uz) rfl) rfl ?_
  refine ai.less (Less.agg' (d:=dh (az.mk false [] [] [] [] 0)) (aH.eq rfl (aH.eq rfl (aH.eq rfl (aH.eq rfl (aH.iJ rfl (.aT false) rfl rfl (aH.eq rfl (aH.eq rfl .nil))))))) ((az.eq _).trans rfl)) ?_
  refine ai.val rfl (fI H10 (i:=2) rfl hzz7 rfl rfl vN su oh) rfl ?_
  have H14:Has B0 S0 ([ay ae ah.kids 7 5 v3 ws4 a2.l (some (Int.toNat (IntKind.wrap .i64 (a6 - 1))))] ++ [aG (gU 5 ws4 (Int.toNat (IntKind.wrap .i64 (a6 - 1)))) z7.kids,.box b1 [v3,w5],aG w5 a2.freed]):=H10.sl [2,0,1,3] rfl rfl
  replace H14:Has B0 S0 [ay ae ah.kids 7 5 v3 ws4 a2.l (some (Int.toNat (IntKind.wrap .i64 (a6 - 1)))),aG (gU 5 ws4 (Int.toNat (IntKind.wrap .i64 (a6 - 1)))) z7.kids,.box b1 [v3,w5],aG w5 a2.freed]:=H14
  refine ai.xD (z':=(ah.mk (az.mk false [] [] [] [] 0).lives (az.mk false [] [] [] [] 0).tag (az.mk false [] [] [] [] 0).key (az.mk false [] [] [] [] 0).text (az.mk false [] [] [] [] 0).attrs [] (az.mk false [] [] [] [] 0).parent)) H14 rfl hzz7 (.inr rfl) rfl rfl (az.gu _) rfl oh su rfl rfl rfl (.cons (.refl _) (.cons (.refl _) (.cons (.refl _) (.cons (.refl _) (.cons (.refl _) (.cons (Less.any _) (.cons (.refl _) .nil))))))) rfl rfl (fun ws13 S11 H12=>?_)
  have H15:Has B0 S11 [aG (gU 5 ws4 (Int.toNat (IntKind.wrap .i64 (a6 - 1)))) z7.kids,.box b1 [v3,w5],ay ae ah.kids 7 5 v3 ws13 (jw a2.l (IntKind.wrap .i64 (a6 - 1)) (ah.mk (az.mk false [] [] [] [] 0).lives (az.mk false [] [] [] [] 0).tag (az.mk false [] [] [] [] 0).key (az.mk false [] [] [] [] 0).text (az.mk false [] [] [] [] 0).attrs [] (az.mk false [] [] [] [] 0).parent)) none,aG w5 a2.freed]:=H12.sl [1,2,0,3] rfl rfl
  refine ai.nil ?_
  refine aA.seq ?_
  refine aA.region (dG E) rfl ?_
  refine ai.val rfl (aa rfl) rfl ?_
  refine ai.val rfl (aa rfl) rfl ?_
  refine ai.val rfl (bu rfl) rfl ?_
  refine ai.val rfl (aC rfl si p9 rfl) rfl ?_
  refine ai.val rfl (aL H15 (i:=1) rfl rfl (aQ sF rfl)) rfl ?_
  refine ai.val rfl (aa rfl) rfl ?_
  refine ai.oz (vs:=[(.d (.int .i64 a6))]) (cs:=[[(.d (.int .i64 a6))]]) H15 rfl nI eH nZ Ex jL rfl (by decide) (.cons rfl rfl .nil) rfl rfl rfl (fun v16 S17 H18=>?_)
  have H19:Has B0 S17 [fD 1 1 v16 [(.d (.int .i64 a6))],aG (gU 5 ws4 (Int.toNat (IntKind.wrap .i64 (a6 - 1)))) z7.kids,.box b1 [v3,w5],ay ae ah.kids 7 5 v3 ws13 (jw a2.l (IntKind.wrap .i64 (a6 - 1)) (ah.mk (az.mk false [] [] [] [] 0).lives (az.mk false [] [] [] [] 0).tag (az.mk false [] [] [] [] 0).key (az.mk false [] [] [] [] 0).text (az.mk false [] [] [] [] 0).attrs [] (az.mk false [] [] [] [] 0).parent)) none,aG w5 a2.freed]:=H18.sl [0,1,2,3,4] rfl rfl
  obtain ⟨z20,hzz20,h⟩:=bind_some h
  have H21:Has B0 S17 ([fD 1 1 v16 [(.d (.int .i64 a6))],aG w5 a2.freed] ++ [aG (gU 5 ws4 (Int.toNat (IntKind.wrap .i64 (a6 - 1)))) z7.kids,.box b1 [v3,w5],ay ae ah.kids 7 5 v3 ws13 (jw a2.l (IntKind.wrap .i64 (a6 - 1)) (ah.mk (az.mk false [] [] [] [] 0).lives (az.mk false [] [] [] [] 0).tag (az.mk false [] [] [] [] 0).key (az.mk false [] [] [] [] 0).text (az.mk false [] [] [] [] 0).attrs [] (az.mk false [] [] [] [] 0).parent)) none]):=H19.sl [0,4,1,2,3] rfl rfl
  replace H21:Has B0 S17 [fD 1 1 v16 [(.d (.int .i64 a6))],aG w5 a2.freed,aG (gU 5 ws4 (Int.toNat (IntKind.wrap .i64 (a6 - 1)))) z7.kids,.box b1 [v3,w5],ay ae ah.kids 7 5 v3 ws13 (jw a2.l (IntKind.wrap .i64 (a6 - 1)) (ah.mk (az.mk false [] [] [] [] 0).lives (az.mk false [] [] [] [] 0).tag (az.mk false [] [] [] [] 0).key (az.mk false [] [] [] [] 0).text (az.mk false [] [] [] [] 0).attrs [] (az.mk false [] [] [] [] 0).parent)) none]:=H21
  refine ai.yD H21 rfl rfl rfl nI xy eH jL hzz20 Hd rfl BC rfl (fun w22 S23 H24=>?_)
  have H25:Has B0 S23 [aG (gU 5 ws4 (Int.toNat (IntKind.wrap .i64 (a6 - 1)))) z7.kids,.box b1 [v3,w5],ay ae ah.kids 7 5 v3 ws13 (jw a2.l (IntKind.wrap .i64 (a6 - 1)) (ah.mk (az.mk false [] [] [] [] 0).lives (az.mk false [] [] [] [] 0).tag (az.mk false [] [] [] [] 0).key (az.mk false [] [] [] [] 0).text (az.mk false [] [] [] [] 0).attrs [] (az.mk false [] [] [] [] 0).parent)) none,aG w22 z20]:=H24.sl [1,2,3,0] rfl rfl
  refine ai.val rfl (bu rfl) rfl ?_
  refine ai.val rfl (aC rfl si p9 rfl) rfl ?_
  refine ai.store H25 (i:=1) rfl rfl rfl rfl (qQ H25 (i:=3) rfl).2 rfl GL (qQ H25 (i:=3) rfl).1 Gb rfl rfl rfl (fun S26 H27=>?_)
  refine ai.nil ?_
  refine aA.seq ?_
  refine aA.region (dG E) rfl ?_
  refine ai.val rfl (aa rfl) rfl ?_
  refine ai.val rfl (jh H27 (i:=0) rfl rfl iZ) rfl ?_
  refine ai.val rfl (aa rfl) rfl ?_
  refine ai.nil ?_
  refine aA.block ?_
  refine pM.start (B:=B0) (α:=au × (List (List AV)) × AV × Int) (fun k a=>dK (eT n) z7 k a.1 a.2.2.2=some r) (fun a=>[(0,(.ptr b1 0 0)),(34,(gU 5 ws4 (Int.toNat (IntKind.wrap .i64 (a6 - 1))))),(35,(.d (.int .i64 ((z7.kids).length:Int)))),(36,(.d (.int .i64 a.2.2.2)))]) (fun a=>[aG (gU 5 ws4 (Int.toNat (IntKind.wrap .i64 (a6 - 1)))) z7.kids,.box b1 [v3,a.2.2.1],ay ae ah.kids 7 5 v3 a.2.1 a.1.l none,aG a.2.2.1 a.1.freed]) ?_ ?_ n ⟨⟨(au.mk (jw a2.l (IntKind.wrap .i64 (a6 - 1)) (ah.mk (az.mk false [] [] [] [] 0).lives (az.mk false [] [] [] [] 0).tag (az.mk false [] [] [] [] 0).key (az.mk false [] [] [] [] 0).text (az.mk false [] [] [] [] 0).attrs [] (az.mk false [] [] [] [] 0).parent)) z20),ws13,w22,0⟩,_,_,S26,.refl _ _,.refl _,(ak.r rfl (ak.r rfl (ak.r rfl (ak.r rfl ak.nil)))),H27.sl [0,1,2,3] rfl rfl,h⟩
  ·
   intro a h; simp [dK] at h
  ·
   intro k42 a S36 H37 h
   obtain ⟨x38,ws39,w40,x41⟩:=a
   replace h:dK (eT n) z7 (k42 + 1) x38 x41=some r:=h
   replace H37:Has B0 S36 [aG (gU 5 ws4 (Int.toNat (IntKind.wrap .i64 (a6 - 1)))) z7.kids,.box b1 [v3,w40],ay ae ah.kids 7 5 v3 ws39 x38.l none,aG w40 x38.freed]:=H37
   unfold dK at h
   refine aA.seq ?_
   refine aA.region (dG E) rfl ?_
   refine ai.val rfl (aB rfl rfl dN) rfl ?_
   refine ai.nil ?_
   refine aA.seq ?_
   refine aA.cond rfl (fun hb43=>?_) (fun hb43=>?_)
   ·
    replace h:=dF hb43 h
    refine aA.skip ?_
    refine aA.seq ?_
    refine aA.block ?_
    refine aA.seq ?_
    refine aA.region (dG E) rfl ?_
    obtain ⟨z44,hzz44,h⟩:=bind_some h
    refine ai.val rfl (qg H37 (q:=0) rfl hzz44 rfl rfl eH nZ jL) rfl ?_
    refine ai.val rfl (pq H37 (q:=0) rfl hzz44 rfl ni) rfl ?_
    refine ai.val rfl (aj rfl) rfl ?_
    refine ai.nil ?_
    refine aA.region (dG E) rfl ?_
    refine ai.val rfl (aa rfl) rfl ?_
    refine ai.val rfl (aa rfl) rfl ?_
    obtain ⟨z45,hzz45,h⟩:=bind_some h
    refine ai.eB (ins:=[.box b1 [v3,w40],ay ae ah.kids 7 5 v3 ws39 x38.l none,aG w40 x38.freed]) (more:=[aG (gU 5 ws4 (Int.toNat (IntKind.wrap .i64 (a6 - 1)))) z7.kids]) (H37.sl [1,2,3,0] rfl rfl) rfl (aI rfl rfl) (ih _ _ _ hzz45 b1 v3 ws39 w40) (.cons (.refl _) (.cons (.refl _) .nil)) rfl ?_
    rintro _ S48 _ ⟨rfl,ws46,w47,rfl⟩ H49
    have H50:Has B0 S48 [aG (gU 5 ws4 (Int.toNat (IntKind.wrap .i64 (a6 - 1)))) z7.kids,.box b1 [v3,w47],ay ae ah.kids 7 5 v3 ws46 z45.l none,aG w47 z45.freed]:=H49.sl [3,0,1,2] rfl rfl
    refine ai.nil ?_
    refine aA.region (dG E) rfl ?_
    refine ai.val rfl (aB rfl rfl cO) rfl ?_
    refine ai.val rfl (aa rfl) rfl ?_
    refine ai.nil ?_
    exact ⟨⟨z45,ws46,w47,(IntKind.wrap .i64 (x41 + 1))⟩,_,_,S48,.refl _ _,.refl _,(ak.r rfl (ak.r rfl (ak.r rfl (ak.r rfl ak.nil)))),H50.sl [0,1,2,3] rfl rfl,h⟩
   ·
    replace h:=dH hb43 h
    refine aA.exit ?_
    have hr:=Option.some.inj h
    subst hr
    exact ⟨_,rfl,rfl,_,_,_,.refl _,(.refl _),⟨rfl,ws39,w40,rfl⟩,H37.sl [1,2,3] rfl rfl⟩
set_option maxRecDepth 20000 in
set_option maxHeartbeats 4000000 in
theorem vO (n:Nat) (a2:au) (a6:Int) (r:(Bool × au)) (h:jY n a2 a6=some r) (b1:Nat) (v3:AV) (ws4:List (List AV)) (w5:AV):cK R cfg.P 16 [.ptr b1 0 0,.d (.int .i64 a6)] [.box b1 [v3,w5],ay ae ah.kids 7 5 v3 ws4 a2.l none,aG w5 a2.freed] (fun v l=>v=.d (.bool r.1)∧∃ dws0 dw0,l=[.box b1 [v3,dw0],ay ae ah.kids 7 5 v3 dws0 r.2.l none,aG dw0 r.2.freed]):=by
 unfold jY at h
 refine cK.of_wp (C:=cfg) Try.func16 rfl JJ rfl (fun B0 S0 H0=>?_)
 replace H0:Has B0 S0 [.box b1 [v3,w5],ay ae ah.kids 7 5 v3 ws4 a2.l none,aG w5 a2.freed]:=H0
 refine aA.seq ?_
 refine aA.region E.obj rfl ?_
 refine ai.val rfl (aj rfl) rfl ?_
 refine ai.nil ?_
 refine aA.seq ?_
 refine aA.region E.obj rfl ?_
 refine ai.val rfl (aa rfl) rfl ?_
 refine ai.val rfl (aa rfl) rfl ?_
 obtain ⟨z7,hzz7,h⟩:=bind_some h
 refine ai.eB (ins:=[.box b1 [v3,w5],ay ae ah.kids 7 5 v3 ws4 a2.l none,aG w5 a2.freed]) (more:=[]) (H0.sl [0,1,2] rfl rfl) rfl (aI rfl rfl) (fJ E n _ _ _ hzz7 b1 v3 ws4 w5) (.cons (.refl _) (.cons (.refl _) .nil)) rfl ?_
 rintro v8 S9 l10 hr11 H12
 rcases z7 with _ | _
 ·
  obtain ⟨rfl,rfl⟩:=hr11
  replace h:=dH rfl h
  replace H12:Has B0 S9 [.box b1 [v3,w5],ay ae ah.kids 7 5 v3 ws4 a2.l none,aG w5 a2.freed]:=H12
  have H13:Has B0 S9 [.box b1 [v3,w5],ay ae ah.kids 7 5 v3 ws4 a2.l none,aG w5 a2.freed]:=H12.sl [0,1,2] rfl rfl
  refine ai.val rfl (aj rfl) rfl ?_
  refine ai.nil ?_
  refine aA.seq ?_
  refine aA.seq ?_
  refine aA.region E.obj rfl ?_
  refine ai.val rfl (aa rfl) rfl ?_
  refine ai.val rfl (aB rfl rfl (jP pX)) rfl ?_
  refine ai.val rfl (aa rfl) rfl ?_
  refine ai.no rfl rfl ?_
  refine ai.no rfl rfl ?_
  refine ai.val rfl (aF (b:=true) rfl rfl) rfl ?_
  refine ai.val rfl (aa rfl) rfl ?_
  refine ai.no rfl rfl ?_
  refine ai.no rfl rfl ?_
  refine ai.no rfl rfl ?_
  refine ai.no rfl rfl ?_
  refine ai.no rfl rfl ?_
  refine ai.val rfl (aF (b:=true) rfl rfl) rfl ?_
  refine ai.nil ?_
  refine aA.cond rfl (fun hb=>?_) (fun hb=>?_)
  ·
   refine aA.seq ?_
   refine aA.region E.obj rfl ?_
   refine ai.val rfl (aj rfl) rfl ?_
   refine ai.nil ?_
   have hr:=Option.some.inj h
   subst hr
   exact aA.ret ⟨_,rfl,rfl,_,_,_,.refl _,(.refl _),⟨rfl,ws4,w5,rfl⟩,H13.sl [0,1,2] rfl rfl⟩
  ·
   cases hb
 ·
  obtain ⟨rfl,rfl⟩:=hr11
  replace h:=dF rfl h
  have H14:Has B0 S9 [.box b1 [v3,w5],ay ae ah.kids 7 5 v3 ws4 a2.l none,aG w5 a2.freed]:=H12.sl [0,1,2] rfl rfl
  refine ai.val rfl (aj rfl) rfl ?_
  refine ai.nil ?_
  refine aA.seq ?_
  refine aA.seq ?_
  refine aA.region E.obj rfl ?_
  refine ai.val rfl (aa rfl) rfl ?_
  obtain ⟨z15,hzz15,h⟩:=bind_some h
  refine ai.val rfl (jX H14 (q:=1) rfl hzz15 rfl rfl pX) rfl ?_
  refine ai.val rfl (aa rfl) rfl ?_
  refine ai.val rfl (aa rfl) rfl ?_
  refine ai.val rfl (aB rfl rfl bC) rfl ?_
  refine ai.val rfl (aF (b:=false) rfl rfl) rfl ?_
  refine ai.val rfl (aa rfl) rfl ?_
  refine ai.jr 6 21 (.d (.bool ((a6 == 1) || (z15.parent != 0)))) ?_ ?_
  ·
   rcases Bool.eq_false_or_eq_true ((a6 == 1)) with hB16 | hB16
   ·
    refine ai.bool hB16 ?_
    refine ai.no rfl rfl ?_
    refine ai.no rfl rfl ?_
    refine ai.no rfl rfl ?_
    refine ai.no rfl rfl ?_
    refine ai.no rfl rfl ?_
    refine ai.val rfl (aF (b:=true) rfl rfl) rfl ?_
    exact ai.nil ⟨_,rfl,(ak.put (ak.push rfl (ak.push rfl (ak.push rfl (ak.push rfl (ak.push rfl (ak.put (.refl _) (Less.eq (by rw [hB16])))))))) (Less.eq (by rw [hB16]; rw [Bool.true_or])))⟩
   ·
    refine ai.bool hB16 ?_
    refine ai.val rfl (aa rfl) rfl ?_
    refine ai.val rfl (bF H14 (q:=1) rfl hzz15 rfl) rfl ?_
    refine ai.val rfl (aZ H14 (i:=1) rfl hzz15 rfl qm G6 rfl) rfl ?_
    refine ai.jq H14 rfl (q:=1) rfl hzz15 rfl ni rfl rfl rfl ?_
    refine ai.val rfl (aB rfl rfl ku) rfl ?_
    refine ai.val rfl (aF (b:=false) rfl rfl) rfl ?_
    exact ai.nil ⟨_,rfl,(ak.put (ak.push rfl (ak.push rfl (ak.push rfl (ak.push rfl (ak.push rfl (ak.put (.refl _) (Less.eq (by rw [hB16])))))))) (Less.eq (by rw [hB16]; rw [Bool.false_or])))⟩
  ·
   refine ai.nil ?_
   refine aA.cond rfl (fun hb17=>?_) (fun hb17=>?_)
   ·
    replace h:=dF hb17 h
    refine aA.seq ?_
    refine aA.region E.obj rfl ?_
    refine ai.val rfl (aj rfl) rfl ?_
    refine ai.nil ?_
    have hr:=Option.some.inj h
    subst hr
    exact aA.ret ⟨_,rfl,rfl,_,_,_,.refl _,(.refl _),⟨rfl,ws4,w5,rfl⟩,H14.sl [0,1,2] rfl rfl⟩
   ·
    replace h:=dH hb17 h
    refine aA.skip ?_
    refine aA.seq ?_
    refine aA.region E.obj rfl ?_
    refine ai.val rfl (aa rfl) rfl ?_
    refine ai.val rfl (aa rfl) rfl ?_
    obtain ⟨z18,hzz18,h⟩:=bind_some h
    refine ai.eB (ins:=[.box b1 [v3,w5],ay ae ah.kids 7 5 v3 ws4 a2.l none,aG w5 a2.freed]) (more:=[]) (H14.sl [0,1,2] rfl rfl) rfl (aI rfl rfl) (pQ E n _ _ _ hzz18 b1 v3 ws4 w5) (.cons (.refl _) (.cons (.refl _) .nil)) rfl ?_
    rintro _ S21 _ ⟨rfl,ws19,w20,rfl⟩ H22
    have H23:Has B0 S21 [.box b1 [v3,w20],ay ae ah.kids 7 5 v3 ws19 z18.l none,aG w20 z18.freed]:=H22.sl [0,1,2] rfl rfl
    refine ai.nil ?_
    refine aA.seq ?_
    refine aA.region E.obj rfl ?_
    refine ai.val rfl (aj rfl) rfl ?_
    refine ai.nil ?_
    have hr:=Option.some.inj h
    subst hr
    exact aA.ret ⟨_,rfl,rfl,_,_,_,.refl _,(.refl _),⟨rfl,ws19,w20,rfl⟩,H23.sl [0,1,2] rfl rfl⟩
set_option maxRecDepth 20000 in
set_option maxHeartbeats 4000000 in
theorem vS (n:Nat) (a2:au) (r:Int) (h:lF n a2=some r) (b1:Nat) (v3:AV) (ws4:List (List AV)) (w5:AV):cK R cfg.P 17 [.ptr b1 0 0] [.box b1 [v3,w5],ay ae ah.kids 7 5 v3 ws4 a2.l none,aG w5 a2.freed] (fun v l=>v=.d (.int .i64 r)∧l=[.box b1 [v3,w5],ay ae ah.kids 7 5 v3 ws4 a2.l none,aG w5 a2.freed]):=by
 unfold lF at h
 refine cK.of_wp (C:=cfg) Try.func17 rfl Kn rfl (fun B0 S0 H0=>?_)
 replace H0:Has B0 S0 [.box b1 [v3,w5],ay ae ah.kids 7 5 v3 ws4 a2.l none,aG w5 a2.freed]:=H0
 refine aA.seq ?_
 refine aA.region E.obj rfl ?_
 refine ai.val rfl (aj rfl) rfl ?_
 refine ai.nil ?_
 refine aA.seq ?_
 refine aA.region E.obj rfl ?_
 refine ai.val rfl (aj rfl) rfl ?_
 refine ai.nil ?_
 have hr:=Option.some.inj h
 subst hr
 exact aA.ret ⟨_,rfl,rfl,_,_,_,.refl _,(.refl _),⟨rfl,rfl⟩,H0.sl [0,1,2] rfl rfl⟩
set_option maxRecDepth 20000 in
set_option maxHeartbeats 4000000 in
theorem nG (n:Nat) (a2:au) (a6:Int) (r:(Int × au)) (h:jG n a2 a6=some r) (b1:Nat) (v3:AV) (ws4:List (List AV)) (w5:AV):cK R cfg.P 46 [.ptr b1 0 0,.d (.int .i64 a6)] [.box b1 [v3,w5],ay ae ah.kids 7 5 v3 ws4 a2.l none,aG w5 a2.freed] (fun v l=>v=.d (.int .i64 r.1)∧∃ dws0 dw0,l=[.box b1 [v3,dw0],ay ae ah.kids 7 5 v3 dws0 r.2.l none,aG dw0 r.2.freed]):=by
 unfold jG at h
 refine cK.of_wp (C:=cfg) Try.func46 rfl Ky rfl (fun B0 S0 H0=>?_)
 replace H0:Has B0 S0 [.box b1 [v3,w5],ay ae ah.kids 7 5 v3 ws4 a2.l none,aG w5 a2.freed]:=H0
 refine aA.seq ?_
 refine aA.region E.obj rfl ?_
 refine ai.val rfl (aj rfl) rfl ?_
 refine ai.nil ?_
 refine aA.seq ?_
 refine aA.seq ?_
 refine aA.region E.obj rfl ?_
 refine ai.val rfl (aa rfl) rfl ?_
 refine ai.val rfl (aa rfl) rfl ?_
 obtain ⟨z7,hzz7,h⟩:=bind_some h
 refine ai.eB (ins:=[.box b1 [v3,w5],ay ae ah.kids 7 5 v3 ws4 a2.l none,aG w5 a2.freed]) (more:=[]) (H0.sl [0,1,2] rfl rfl) rfl (aI rfl rfl) (vS E n _ _ hzz7 b1 v3 ws4 w5) (.cons (.refl _) .nil) rfl ?_
 rintro _ S8 _ ⟨rfl,rfl⟩ H9
 have H10:Has B0 S8 [.box b1 [v3,w5],ay ae ah.kids 7 5 v3 ws4 a2.l none,aG w5 a2.freed]:=H9.sl [0,1,2] rfl rfl
 refine ai.val rfl (aB rfl rfl bC) rfl ?_
 refine ai.nil ?_
 refine aA.cond rfl (fun hb11=>?_) (fun hb11=>?_)
 ·
  replace h:=dF hb11 h
  refine aA.seq ?_
  refine aA.region E.obj rfl ?_
  refine ai.val rfl (aj rfl) rfl ?_
  refine ai.nil ?_
  have hr:=Option.some.inj h
  subst hr
  exact aA.ret ⟨_,rfl,rfl,_,_,_,.refl _,(.refl _),⟨rfl,ws4,w5,rfl⟩,H10.sl [0,1,2] rfl rfl⟩
 ·
  replace h:=dH hb11 h
  refine aA.skip ?_
  refine aA.seq ?_
  refine aA.region E.obj rfl ?_
  refine ai.val rfl (aa rfl) rfl ?_
  obtain ⟨z12,hzz12,h⟩:=bind_some h
  refine ai.eB (ins:=[.box b1 [v3,w5],ay ae ah.kids 7 5 v3 ws4 a2.l none,aG w5 a2.freed]) (more:=[]) (H10.sl [0,1,2] rfl rfl) rfl (aI rfl rfl) (jk E n _ _ hzz12 b1 v3 ws4 w5) (.cons (.refl _) .nil) rfl ?_
  rintro _ S13 _ ⟨rfl,rfl⟩ H14
  have H15:Has B0 S13 [.box b1 [v3,w5],ay ae ah.kids 7 5 v3 ws4 a2.l none,aG w5 a2.freed]:=H14.sl [0,1,2] rfl rfl
  refine ai.val rfl (aj rfl) rfl ?_
  refine ai.nil ?_
  refine aA.seq ?_
  refine aA.region E.obj rfl ?_
  refine ai.val rfl (aa rfl) rfl ?_
  refine ai.val rfl (aa rfl) rfl ?_
  obtain ⟨z16,hzz16,h⟩:=bind_some h
  refine ai.eB (ins:=[.box b1 [v3,w5],ay ae ah.kids 7 5 v3 ws4 a2.l none,aG w5 a2.freed]) (more:=[]) (H15.sl [0,1,2] rfl rfl) rfl (aI rfl rfl) (tX E n _ _ _ hzz16 b1 v3 ws4 w5) (.cons (.refl _) (.cons (.refl _) .nil)) rfl ?_
  rintro _ S19 _ ⟨rfl,ws17,w18,rfl⟩ H20
  have H21:Has B0 S19 [.box b1 [v3,w18],ay ae ah.kids 7 5 v3 ws17 z16.2.l none,aG w18 z16.2.freed]:=H20.sl [0,1,2] rfl rfl
  refine ai.nil ?_
  refine aA.seq ?_
  refine aA.region E.obj rfl ?_
  refine ai.val rfl (aa rfl) rfl ?_
  refine ai.val rfl (aa rfl) rfl ?_
  obtain ⟨z22,hzz22,h⟩:=bind_some h
  refine ai.eB (ins:=[.box b1 [v3,w18],ay ae ah.kids 7 5 v3 ws17 z16.2.l none,aG w18 z16.2.freed]) (more:=[]) (H21.sl [0,1,2] rfl rfl) rfl (aI rfl rfl) (vO E n _ _ _ hzz22 b1 v3 ws17 w18) (.cons (.refl _) (.cons (.refl _) .nil)) rfl ?_
  rintro _ S25 _ ⟨rfl,ws23,w24,rfl⟩ H26
  have H27:Has B0 S25 [.box b1 [v3,w24],ay ae ah.kids 7 5 v3 ws23 z22.2.l none,aG w24 z22.2.freed]:=H26.sl [0,1,2] rfl rfl
  refine ai.nil ?_
  refine aA.seq ?_
  refine aA.region E.obj rfl ?_
  refine ai.val rfl (aa rfl) rfl ?_
  refine ai.val rfl (aa rfl) rfl ?_
  obtain ⟨z28,hzz28,h⟩:=bind_some h
  refine ai.eB (ins:=[.box b1 [v3,w24],ay ae ah.kids 7 5 v3 ws23 z22.2.l none,aG w24 z22.2.freed]) (more:=[]) (H27.sl [0,1,2] rfl rfl) rfl (aI rfl rfl) (jk E n _ _ hzz28 b1 v3 ws23 w24) (.cons (.refl _) .nil) rfl ?_
  rintro _ S29 _ ⟨rfl,rfl⟩ H30
  have H31:Has B0 S29 [.box b1 [v3,w24],ay ae ah.kids 7 5 v3 ws23 z22.2.l none,aG w24 z22.2.freed]:=H30.sl [0,1,2] rfl rfl
  refine ai.val rfl (aB rfl rfl gV) rfl ?_
  refine ai.val rfl (aj rfl) rfl ?_
  refine ai.nil ?_
  have hr:=Option.some.inj h
  subst hr
  exact aA.ret ⟨_,rfl,rfl,_,_,_,.refl _,(.refl _),⟨rfl,ws23,w24,rfl⟩,H31.sl [0,1,2] rfl rfl⟩
set_option maxRecDepth 20000 in
set_option maxHeartbeats 4000000 in
theorem yh (n:Nat) (a2:au) (a6:(List Int)) (r:(List Tree)) (h:lX n a2 a6=some r) (b1:Nat) (v3:AV) (ws4:List (List AV)) (w5:AV):cK R cfg.P 73 [.ptr b1 0 0,.d (.sl ((a6).map (D.int .i64)) false)] [.box b1 [v3,w5],ay ae ah.kids 7 5 v3 ws4 a2.l none,aG w5 a2.freed] (fun v l=>v=.d (.sl ((r).map ax) false)∧l=[.box b1 [v3,w5],ay ae ah.kids 7 5 v3 ws4 a2.l none,aG w5 a2.freed]):=by
 unfold lX at h
 refine cK.of_wp (C:=cfg) Try.func73 rfl Kr rfl (fun B0 S0 H0=>?_)
 replace H0:Has B0 S0 [.box b1 [v3,w5],ay ae ah.kids 7 5 v3 ws4 a2.l none,aG w5 a2.freed]:=H0
 refine aA.seq ?_
 refine aA.region E.obj rfl ?_
 refine ai.val rfl (aj rfl) rfl ?_
 refine ai.nil ?_
 refine aA.seq ?_
 refine aA.region E.obj rfl ?_
 refine ai.val rfl (aj rfl) rfl ?_
 refine ai.nil ?_
 refine aA.seq ?_
 refine aA.seq ?_
 refine aA.region E.obj rfl ?_
 refine ai.val rfl (aa rfl) rfl ?_
 refine ai.val rfl (bE rfl iZ) rfl ?_
 refine ai.val rfl (aa rfl) rfl ?_
 refine ai.nil ?_
 refine aA.block ?_
 have H35:=H0.Ei
 refine pM.start (B:=B0) (α:=(List Tree) × AV × Int) (fun k a=>eO n a2 a6 k a.1 a.2.2=some r) (fun a=>[(0,(.ptr b1 0 0)),(5,a.2.1),(10,(.d (.sl ((a6).map (D.int .i64)) false))),(11,(.d (.int .i64 ((a6).length:Int)))),(12,(.d (.int .i64 a.2.2)))]) (fun a=>[.grow a.2.1 ((a.1).map ax),.box b1 [v3,w5],ay ae ah.kids 7 5 v3 ws4 a2.l none,aG w5 a2.freed]) ?_ ?_ n ⟨⟨[],(.d .aT),0⟩,_,_,S0,.refl _ _,.refl _,(ak.r rfl (ak.r rfl (ak.r rfl (ak.r rfl (ak.r rfl ak.nil))))),H35.sl [0,1,2,3] rfl rfl,h⟩
 ·
  intro a h; simp [eO] at h
 ·
  intro k19 a S14 H15 h
  obtain ⟨x16,v17,x18⟩:=a
  replace h:eO n a2 a6 (k19 + 1) x16 x18=some r:=h
  replace H15:Has B0 S14 [.grow v17 ((x16).map ax),.box b1 [v3,w5],ay ae ah.kids 7 5 v3 ws4 a2.l none,aG w5 a2.freed]:=H15
  unfold eO at h
  refine aA.seq ?_
  refine aA.region E.obj rfl ?_
  refine ai.val rfl (aB rfl rfl dN) rfl ?_
  refine ai.nil ?_
  refine aA.seq ?_
  refine aA.cond rfl (fun hb20=>?_) (fun hb20=>?_)
  ·
   replace h:=dF hb20 h
   refine aA.skip ?_
   refine aA.seq ?_
   refine aA.block ?_
   refine aA.seq ?_
   refine aA.region E.obj rfl ?_
   obtain ⟨z21,hzz21,h⟩:=bind_some h
   refine ai.val rfl (bD rfl rfl (bU (enc:=(D.int .i64)) hzz21 eH nZ (((fun _=>rfl) _).trans jL.symm))) rfl ?_
   refine ai.val rfl (aX rfl (bP ni rfl)) rfl ?_
   refine ai.val rfl (aj rfl) rfl ?_
   refine ai.nil ?_
   refine aA.seq ?_
   refine aA.region E.obj rfl ?_
   refine ai.val rfl (aa rfl) rfl ?_
   refine ai.val rfl (aa rfl) rfl ?_
   obtain ⟨z22,hzz22,h⟩:=bind_some h
   refine ai.eB (ins:=[.box b1 [v3,w5],ay ae ah.kids 7 5 v3 ws4 a2.l none,aG w5 a2.freed]) (more:=[.grow v17 ((x16).map ax)]) (H15.sl [1,2,3,0] rfl rfl) rfl (aI rfl rfl) (lu E n _ _ _ hzz22 b1 v3 ws4 w5) (.cons (.refl _) (.cons (.refl _) .nil)) rfl ?_
   rintro _ S23 _ ⟨rfl,rfl⟩ H24
   have H25:Has B0 S23 [.grow v17 ((x16).map ax),.box b1 [v3,w5],ay ae ah.kids 7 5 v3 ws4 a2.l none,aG w5 a2.freed]:=H24.sl [3,0,1,2] rfl rfl
   refine ai.val rfl (aa rfl) rfl ?_
   refine ai.val rfl (dX rfl rfl) rfl ?_
   refine ai.val rfl (dX rfl rfl) rfl ?_
   refine ai.alloc H25 rfl yg jZ rfl rfl (fun b26 S27 H28=>?_)
   refine ai.store H28 (i:=0) rfl rfl rfl rfl (Tree.gu _) rfl fw rfl ow rfl rfl rfl (fun S29 H30=>?_)
   refine ai.val rfl (aj rfl) rfl ?_
   refine ai.nil ?_
   refine aA.region E.obj rfl ?_
   refine ai.val rfl (aa rfl) rfl ?_
   refine ai.val rfl (aL H30 (i:=0) rfl rfl (dO jA fw rfl)) rfl ?_
   refine ai.less (Less.agg' (d:=ax z22.1) (aH.eq rfl (aH.eq rfl (aH.eq rfl (aH.eq rfl (aH.eq rfl .nil))))) ((Tree.eq _).trans rfl)) ?_
   refine ai.val rfl (dz (vs:=[(.d (ax z22.1))]) (ds:=[(ax z22.1)]) zT qY jA jZ fw rfl (by decide) (.cons rfl (Tree.len _) .nil) rfl (by intro d hd; simp only [List.mem_cons,List.not_mem_nil,or_false] at hd; rcases hd with rfl <;> exact Tree.agg _) rfl) rfl ?_
   obtain ⟨z31,hzz31,h⟩:=bind_some h
   refine ai.append (xs:=(x16).map ax) (ys:=([z22.1]).map ax) (zs:=(z31).map ax) H30 rfl rfl rfl (i:=1) rfl rfl zT IE qY (kE hzz31) Iw rfl (fC (enc:=ax) (fun z=>(Tree.len z).trans fw.symm) _) (fC (enc:=ax) (fun z=>(Tree.len z).trans fw.symm) _) IA rfl (rQ hzz31) (fun v32 S33 H34=>?_)
   refine ai.val rfl (aj rfl) rfl ?_
   refine ai.nil ?_
   refine aA.region E.obj rfl ?_
   refine ai.val rfl (aB rfl rfl cO) rfl ?_
   refine ai.val rfl (aa rfl) rfl ?_
   refine ai.nil ?_
   exact ⟨⟨z31,v32,(IntKind.wrap .i64 (x18 + 1))⟩,_,_,S33,.refl _ _,.refl _,(ak.r rfl (ak.r rfl (ak.r rfl (ak.r rfl (ak.r rfl ak.nil))))),H34.sl [1,2,3,4] rfl rfl,h⟩
  ·
   replace h:=dH hb20 h
   refine aA.exit ?_
   refine aA.seq ?_
   refine aA.region E.obj rfl ?_
   refine ai.val rfl (aa rfl) rfl ?_
   refine ai.val rfl (aj rfl) rfl ?_
   refine ai.nil ?_
   have hr:=Option.some.inj h
   subst hr
   exact aA.ret ⟨_,rfl,rfl,_,_,_,.refl _,(He H15 (i:=0) rfl),⟨rfl,rfl⟩,H15.sl [1,2,3] rfl rfl⟩
set_option maxRecDepth 20000 in
set_option maxHeartbeats 4000000 in
theorem yn (n:Nat) (a1:Int) (a2:(List Int)) (r:(List Int)) (h:mg n a1 a2=some r):gY R cfg.P 74 [(.int .i64 a1),(.sl ((a2).map (D.int .i64)) false)] (.d (.sl ((r).map (D.int .i64)) false)):=by
 unfold mg at h
 refine gY.of_wp E.obj.toObjOk (C:=cfg) Try.func74 rfl Ka rfl ?_
 have H0:Has aM aM []:=Has.pure
 refine aA.seq ?_
 refine aA.region E.obj rfl ?_
 refine ai.val rfl (aj rfl) rfl ?_
 refine ai.nil ?_
 refine aA.seq ?_
 refine aA.region E.obj rfl ?_
 refine ai.makeMap (D.int .i64) (D.int .i64) H0 rfl Ce rfl (fun b3 S4 H5=>?_)
 refine ai.val rfl (aj rfl) rfl ?_
 refine ai.nil ?_
 refine aA.seq ?_
 refine aA.seq ?_
 refine aA.region E.obj rfl ?_
 refine ai.val rfl (aa rfl) rfl ?_
 refine ai.val rfl (bE rfl iZ) rfl ?_
 refine ai.val rfl (aa rfl) rfl ?_
 refine ai.nil ?_
 refine aA.block ?_
 refine pM.start (B:=aM) (α:=(List (Int × Int)) × Int) (fun k a=>fq n a1 a2 k a.1 a.2=some r) (fun a=>[(0,(.d (.int .i64 a1))),(5,(.map b3)),(11,(.d (.sl ((a2).map (D.int .i64)) false))),(12,(.d (.int .i64 ((a2).length:Int)))),(13,(.d (.int .i64 a.2)))]) (fun a=>[.map b3 (mD (D.int .i64) (D.int .i64) a.1)]) ?_ ?_ n ⟨⟨[],0⟩,_,_,S4,.refl _ _,.refl _,(ak.r rfl (ak.r rfl (ak.r rfl (ak.r rfl (ak.r rfl ak.nil))))),H5.sl [0] rfl rfl,h⟩
 ·
  intro a h; simp [fq] at h
 ·
  intro k16 a S12 H13 h
  obtain ⟨x14,x15⟩:=a
  replace h:fq n a1 a2 (k16 + 1) x14 x15=some r:=h
  replace H13:Has aM S12 [.map b3 (mD (D.int .i64) (D.int .i64) x14)]:=H13
  unfold fq at h
  refine aA.seq ?_
  refine aA.region E.obj rfl ?_
  refine ai.val rfl (aB rfl rfl dN) rfl ?_
  refine ai.nil ?_
  refine aA.seq ?_
  refine aA.cond rfl (fun hb17=>?_) (fun hb17=>?_)
  ·
   replace h:=dF hb17 h
   refine aA.skip ?_
   refine aA.seq ?_
   refine aA.block ?_
   refine aA.seq ?_
   refine aA.region E.obj rfl ?_
   obtain ⟨z18,hzz18,h⟩:=bind_some h
   refine ai.val rfl (bD rfl rfl (bU (enc:=(D.int .i64)) hzz18 eH nZ (((fun _=>rfl) _).trans jL.symm))) rfl ?_
   refine ai.val rfl (aX rfl (bP ni rfl)) rfl ?_
   refine ai.val rfl (aj rfl) rfl ?_
   refine ai.nil ?_
   refine aA.region E.obj rfl ?_
   refine ai.val rfl (aa rfl) rfl ?_
   refine ai.val rfl (aa rfl) rfl ?_
   refine ai.val rfl (o7 (ek:=(D.int .i64)) (ev:=(D.int .i64)) (k:=z18) (z:=0) H13 (i:=0) rfl rfl rfl Ce (rZ Ir) Ex) rfl ?_
   refine ai.val rfl (aB rfl rfl cO) rfl ?_
   refine ai.mapUpdate (ek:=(D.int .i64)) (ev:=(D.int .i64)) (k:=z18) (v:=(IntKind.wrap .i64 ((fe x14 z18 0) + 1))) H13 rfl (i:=0) rfl rfl rfl rfl Ce (rZ Ir) (fun S19 H20=>?_)
   refine ai.nil ?_
   refine aA.region E.obj rfl ?_
   refine ai.val rfl (aB rfl rfl cO) rfl ?_
   refine ai.val rfl (aa rfl) rfl ?_
   refine ai.nil ?_
   exact ⟨⟨(iD x14 z18 (IntKind.wrap .i64 ((fe x14 z18 0) + 1))),(IntKind.wrap .i64 (x15 + 1))⟩,_,_,S19,.refl _ _,.refl _,(ak.r rfl (ak.r rfl (ak.r rfl (ak.r rfl (ak.r rfl ak.nil))))),H20.sl [0] rfl rfl,h⟩
  ·
   replace h:=dH hb17 h
   refine aA.exit ?_
   refine aA.seq ?_
   refine aA.region E.obj rfl ?_
   refine ai.val rfl (aj rfl) rfl ?_
   refine ai.nil ?_
   refine aA.seq ?_
   refine aA.seq ?_
   refine aA.region E.obj rfl ?_
   refine ai.val rfl (aa rfl) rfl ?_
   refine ai.val rfl (wC rfl rfl) rfl ?_
   refine ai.val rfl (aa rfl) rfl ?_
   refine ai.nil ?_
   refine aA.block ?_
   have H45:=H13.Ei
   refine pM.start (B:=aM) (α:=(List Int) × AV × Int) (fun k a=>dx a1 x14 k a.1 a.2.2=some r) (fun a=>[(5,(.map b3)),(8,a.2.1),(23,(.d (.int .i64 (sN a1 0)))),(24,(.d (.int .i64 a.2.2)))]) (fun a=>[.map b3 (mD (D.int .i64) (D.int .i64) x14),.grow a.2.1 ((a.1).map (D.int .i64))]) ?_ ?_ n ⟨⟨[],(.d .aT),0⟩,_,_,S12,.refl _ _,.refl _,(ak.r rfl (ak.r rfl (ak.r rfl (ak.r rfl ak.nil)))),H45.sl [1,0] rfl rfl,h⟩
   ·
    intro a h; simp [dx] at h
   ·
    intro k33 a S28 H29 h
    obtain ⟨x30,v31,x32⟩:=a
    replace h:dx a1 x14 (k33 + 1) x30 x32=some r:=h
    replace H29:Has aM S28 [.map b3 (mD (D.int .i64) (D.int .i64) x14),.grow v31 ((x30).map (D.int .i64))]:=H29
    unfold dx at h
    refine aA.seq ?_
    refine aA.region E.obj rfl ?_
    refine ai.val rfl (aB rfl rfl dN) rfl ?_
    refine ai.nil ?_
    refine aA.seq ?_
    refine aA.cond rfl (fun hb34=>?_) (fun hb34=>?_)
    ·
     replace h:=dF hb34 h
     refine aA.skip ?_
     refine aA.join (B:=aM) (α:=(List Int) × AV) (fun a=>gJ x32 (dx a1 x14 k33) a.1=some r) (fun a=>[(5,(.map b3)),(8,a.2),(23,(.d (.int .i64 (sN a1 0)))),(24,(.d (.int .i64 x32)))]) (fun a=>[.map b3 (mD (D.int .i64) (D.int .i64) x14),.grow a.2 ((a.1).map (D.int .i64))]) ?_ ?_
     ·
      intro a S35 H36 h
      obtain ⟨x37,v38⟩:=a
      replace h:gJ x32 (dx a1 x14 k33) x37=some r:=h
      replace H36:Has aM S35 [.map b3 (mD (D.int .i64) (D.int .i64) x14),.grow v38 ((x37).map (D.int .i64))]:=H36
      unfold gJ at h
      refine aA.region E.obj rfl ?_
      refine ai.val rfl (aB rfl rfl cO) rfl ?_
      refine ai.val rfl (aa rfl) rfl ?_
      refine ai.nil ?_
      exact ⟨⟨x37,v38,(IntKind.wrap .i64 (x32 + 1))⟩,_,_,S35,.refl _ _,.refl _,(ak.r rfl (ak.r rfl (ak.r rfl (ak.r rfl ak.nil)))),H36.sl [0,1] rfl rfl,h⟩
     ·
      refine aA.block ?_
      refine aA.seq ?_
      refine aA.region E.obj rfl ?_
      refine ai.val rfl (aa rfl) rfl ?_
      refine ai.val rfl (aj rfl) rfl ?_
      refine ai.nil ?_
      refine aA.seq ?_
      refine aA.region E.obj rfl ?_
      refine ai.val rfl (aa rfl) rfl ?_
      refine ai.val rfl (aa rfl) rfl ?_
      refine ai.val rfl (o7 (ek:=(D.int .i64)) (ev:=(D.int .i64)) (k:=x32) (z:=0) H29 (i:=0) rfl rfl rfl Ce (rZ Ir) Ex) rfl ?_
      refine ai.val rfl (aB rfl rfl bC) rfl ?_
      refine ai.nil ?_
      refine aA.cond rfl (fun hb40=>?_) (fun hb40=>?_)
      ·
       replace h:=dF hb40 h
       refine aA.region E.obj rfl ?_
       refine ai.val rfl (aa rfl) rfl ?_
       refine ai.val rfl (aa rfl) rfl ?_
       refine ai.val rfl (dz (vs:=[(.d (.int .i64 x32))]) (ds:=[(.int .i64 x32)]) D7 eH ni Ex jL rfl (by decide) (.cons rfl rfl .nil) rfl (by intro d hd; simp only [List.mem_cons,List.not_mem_nil,or_false] at hd; rcases hd with rfl <;> rfl) rfl) rfl ?_
       obtain ⟨z41,hzz41,h⟩:=bind_some h
       refine ai.append (xs:=(x30).map (D.int .i64)) (ys:=([x32]).map (D.int .i64)) (zs:=(z41).map (D.int .i64)) H29 rfl rfl rfl (i:=1) rfl rfl D7 Gc eH (kE hzz41) Hd rfl (fC (enc:=(D.int .i64)) (fun _=>jL.symm) _) (fC (enc:=(D.int .i64)) (fun _=>jL.symm) _) Jw rfl (rQ hzz41) (fun v42 S43 H44=>?_)
       refine ai.val rfl (aj rfl) rfl ?_
       refine ai.nil ?_
       exact ⟨⟨z41,v42⟩,_,_,S43,.refl _ _,.refl _,(ak.r rfl (ak.r rfl (ak.r rfl (ak.r rfl ak.nil)))),H44.sl [0,1] rfl rfl,h⟩
      ·
       replace h:=dH hb40 h
       refine aA.skip ?_
       exact ⟨⟨x30,v31⟩,_,_,S28,.refl _ _,.refl _,(ak.r rfl (ak.r rfl (ak.r rfl (ak.r rfl ak.nil)))),H29.sl [0,1] rfl rfl,h⟩
    ·
     replace h:=dH hb34 h
     refine aA.exit ?_
     refine aA.seq ?_
     refine aA.region E.obj rfl ?_
     refine ai.val rfl (aa rfl) rfl ?_
     refine ai.val rfl (aj rfl) rfl ?_
     refine ai.nil ?_
     have hr:=Option.some.inj h
     subst hr
     exact aA.ret ⟨_,rfl,rfl,lM (bO.grow H29 (i:=1) rfl .nil)⟩
end
end Pr
end Go.Ev

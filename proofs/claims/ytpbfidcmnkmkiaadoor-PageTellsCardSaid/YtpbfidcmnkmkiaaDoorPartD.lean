import Derived.Test.YtpbfidcmnkmkiaaDoorPartC
import Derived.Test.YtpbfidcmnkmkiaaDoorProg
import Derived.WalkKit
import Derived.ProofKit
namespace Go.Ev
theorem aa.r {t:Nat} {x:AV} {e2 e:Env} (h:AL.get e t=some x) (k:aa e2 e):aa ((t,x) :: e2) e:=.cons h (.refl _) k
theorem kZ.o {x:AV} {a b:List (Option AV)} (k:kZ a b):kZ (some x :: a) (some x :: b):=.old (.refl _) k
theorem kZ.w (x:AV) {a b:List (Option AV)} (k:kZ a b):kZ (some x :: a) (none :: b):=.new k
theorem kZ.n {a b:List (Option AV)} (k:kZ a b):kZ (none :: a) (none :: b):=.new k
theorem kZ.z {a b:List (Option AV)} (k:kZ a b):kZ (some (.tup []) :: a) (none :: b):=.new k
theorem kZ.q {x y z u:AV} {a b:List (Option AV)} (k:kZ a b):kZ (some x :: some y :: some z :: some u :: a) (some x :: some y :: some z :: some u :: b):=.o (.o (.o (.o k)))
theorem kZ.m {a b:List (Option AV)} (k:kZ a b):kZ (none :: none :: none :: none :: a) (none :: none :: none :: none :: b):=.n (.n (.n (.n k)))
theorem RL.v {R:bT} {C:gq} {nt:Nat} {ops:Array Oper} {srcs:List Src} {e0:Env} {ws:List (Option AV)} {S:St} {i:Nat} {o:Oper} {x:AV} {e:Env} {os:List Nat} (ho:ops[i]? = some o) (hx:ws[i]? = some (some x)) (he:oh ws e0 (srcs.getD i [])=some e) (hw:dn ops e o=some true) (h:oper C (dX e) S o.op=some (.val x S)) (k:RL R C nt ops srcs e0 ws S os):RL R C nt ops srcs e0 ws S (i :: os):=.cons ho hx he (.val hw h (.refl _)) k
theorem Has.sl {B S:St} {l:List bU} (h:Has B S l) (is:List Nat) (hn:decide is.Nodup=true) {l':List bU} (hl:is.map (fun i=>l[i]?)=l'.map some):Has B S l':=h.K7 is (of_decide_eq_true hn) hl
namespace Pr
set_option linter.unusedVariables false
set_option linter.unusedSimpArgs false
open Go.Proofs
noncomputable def cfg:gq:={ P:=Tryd.prog,good:=fun _=>true,rowT:=fun _=>false,prim:=fun _ _ _=>none,objT:=fun _=>none,hasPrim:=fun _=>false }
noncomputable def FY:gq:={ cfg with rowT:=fun t=>Nat.beq t 32 }
theorem J9:(Tryd.f29.name == "runtime.NumGoroutine")=false:=by kernel_rfl
theorem Ki:(Tryd.f53.name == "runtime.NumGoroutine")=false:=by kernel_rfl
theorem Js:∀ v w,(Instr.typeAssert (.iface 70 v) 20 70 true).run cfg.P w=.ok (.tuple #[v,.bool true]) w:=fun _ _=>by kernel_rfl
theorem Gr:cfg.objT 70=none:=by kernel_rfl
theorem D9:zeroOf cfg.P 70=some (.agg [.int .i64 0,.str [],.int .i64 0]):=by kernel_rfl
theorem AQ:aK cfg.P 70=3:=by kernel_rfl
theorem FE:(eZ cfg.P 70).isSome=true:=by kernel_rfl
theorem Hr:eZ cfg.P 70=some true:=by kernel_rfl
theorem KX:cfg.objT 4=none:=by kernel_rfl
theorem KL:zeroOf cfg.P 4=some (.bool false):=by kernel_rfl
theorem K6:aK cfg.P 4=1:=by kernel_rfl
theorem KY:(eZ cfg.P 4).isSome=true:=by kernel_rfl
theorem I8:eZ cfg.P 4=some false:=by kernel_rfl
theorem pV:dU cfg.P 47 0=some (0,9):=by kernel_rfl
theorem kI:Nat.beq (aK cfg.P 9) 0=false:=by kernel_rfl
theorem j5:eZ cfg.P 9=some false:=by kernel_rfl
theorem Jz:(Tryd.f75.name == "runtime.NumGoroutine")=false:=by kernel_rfl
theorem xH:(bL cfg.P 22).isSome=true:=by kernel_rfl
theorem zx:bL cfg.P 22=some 47:=by kernel_rfl
theorem Cu:(eZ cfg.P 47).isSome=true:=by kernel_rfl
theorem pG:aK cfg.P 47=2:=by kernel_rfl
theorem Et:eZ cfg.P 47=some true:=by kernel_rfl
theorem Jy:(Tryd.f89.name == "runtime.NumGoroutine")=false:=by kernel_rfl
theorem Kt:(Tryd.f76.name == "runtime.NumGoroutine")=false:=by kernel_rfl
theorem mY:dU cfg.P 28 0=some (0,9):=by kernel_rfl
theorem zU:qY cfg.P 9=true:=by kernel_rfl
theorem tC:dU cfg.P 28 2=some (2,9):=by kernel_rfl
theorem j3:dU cfg.P 28 4=some (4,26):=by kernel_rfl
theorem sK:Nat.beq (aK cfg.P 26) 0=false:=by kernel_rfl
theorem sZ:eZ cfg.P 26=some false:=by kernel_rfl
theorem pO:(bL cfg.P 26).isSome=true:=by kernel_rfl
theorem mh:dU cfg.P 28 1=some (1,9):=by kernel_rfl
theorem oK:dU cfg.P 28 3=some (3,22):=by kernel_rfl
theorem tK:Nat.beq (aK cfg.P 22) 0=false:=by kernel_rfl
theorem ve:eZ cfg.P 22=some false:=by kernel_rfl
theorem Ip:cfg.objT 47=none:=by kernel_rfl
theorem Gm:zeroOf cfg.P 47=some (.agg [.str [],.str []]):=by kernel_rfl
theorem FU:dU cfg.P 47 1=some (1,9):=by kernel_rfl
theorem JD:(cfg.P.underlying 47).isSome=true:=by kernel_rfl
theorem JG:(Tryd.f63.name == "runtime.NumGoroutine")=false:=by kernel_rfl
theorem iq:eZ cfg.P 28=some true:=by kernel_rfl
theorem dO:aK cfg.P 28=5:=by kernel_rfl
theorem jI:bL cfg.P 26=some 28:=by kernel_rfl
theorem jY:(eZ cfg.P 28).isSome=true:=by kernel_rfl
theorem uf:cfg.objT 28=none:=by kernel_rfl
theorem iA:zeroOf cfg.P 28=some (.agg [.str [],.str [],.str [],.aY,.aY]):=by kernel_rfl
theorem Ju:(Tryd.f45.name == "runtime.NumGoroutine")=false:=by kernel_rfl
theorem Kb:(Tryd.f46.name == "runtime.NumGoroutine")=false:=by kernel_rfl
theorem JM:(Tryd.f47.name == "runtime.NumGoroutine")=false:=by kernel_rfl
theorem Kv:(Tryd.f21.name == "runtime.NumGoroutine")=false:=by kernel_rfl
theorem Ky:(Tryd.f73.name == "runtime.NumGoroutine")=false:=by kernel_rfl
theorem Kz:∀ v w,(Instr.makeInterface 70 v).run cfg.P w=.ok (.iface 70 v) w:=fun _ _=>by kernel_rfl
theorem JW:(Tryd.f59.name == "runtime.NumGoroutine")=false:=by kernel_rfl
theorem Jv:(Tryd.f32.name == "runtime.NumGoroutine")=false:=by kernel_rfl
theorem w9:(bL cfg.P 23).isSome=true:=by kernel_rfl
theorem qh:bL cfg.P 23=some 25:=by kernel_rfl
theorem mZ:(eZ cfg.P 25).isSome=true:=by kernel_rfl
theorem dY:aK cfg.P 25=6:=by kernel_rfl
theorem gY:eZ cfg.P 25=some true:=by kernel_rfl
theorem uB:cfg.objT 25=none:=by kernel_rfl
theorem lC:zeroOf cfg.P 25=some (.agg [.int .i64 0,.int .i64 0,.str [],.str [],.aY,.aY]):=by kernel_rfl
theorem pz:cfg.rowT 26=false:=by kernel_rfl
theorem Gl:kD cfg 26=true:=by kernel_rfl
theorem Gp:bytesOf cfg.P 28=96:=by kernel_rfl
theorem Gs:iD cfg 28=true:=by kernel_rfl
theorem Jm:(Tryd.f54.name == "runtime.NumGoroutine")=false:=by kernel_rfl
theorem Iq:(cfg.P.underlying 114).isSome=true:=by kernel_rfl
theorem KW:Ct cfg.P 5=some .u8:=by kernel_rfl
theorem JL:(cfg.P.underlying 5).isSome=true:=by kernel_rfl
theorem ED:dU cfg.P 68 0=some (0,32):=by kernel_rfl
theorem zf:Nat.beq (aK cfg.P 32) 0=false:=by kernel_rfl
theorem y7:eZ cfg.P 32=some false:=by kernel_rfl
theorem oF:(bL cfg.P 32).isSome=true:=by kernel_rfl
theorem mH:bL cfg.P 32=some 3:=by kernel_rfl
theorem C9:(eZ cfg.P 3).isSome=true:=by kernel_rfl
theorem tu:aK cfg.P 3=1:=by kernel_rfl
theorem jL:eZ cfg.P 3=some false:=by kernel_rfl
theorem JB:(Tryd.f56.name == "runtime.NumGoroutine")=false:=by kernel_rfl
theorem Ik:dU cfg.P 68 1=some (1,38):=by kernel_rfl
theorem JP:Nat.beq (aK cfg.P 38) 0=false:=by kernel_rfl
theorem Jh:eZ cfg.P 38=some false:=by kernel_rfl
theorem Ij:(bL cfg.P 38).isSome=true:=by kernel_rfl
theorem EP:bL cfg.P 38=some 104:=by kernel_rfl
theorem Dz:(eZ cfg.P 104).isSome=true:=by kernel_rfl
theorem sO:aK cfg.P 104=2:=by kernel_rfl
theorem Fu:eZ cfg.P 104=some true:=by kernel_rfl
theorem GX:cfg.objT 104=none:=by kernel_rfl
theorem G6:zeroOf cfg.P 104=some (.agg [.str [],.str []]):=by kernel_rfl
theorem CQ:dU cfg.P 104 0=some (0,9):=by kernel_rfl
theorem Dc:dU cfg.P 104 1=some (1,9):=by kernel_rfl
theorem Ji:(Tryd.f57.name == "runtime.NumGoroutine")=false:=by kernel_rfl
theorem mW:dU cfg.P 25 1=some (1,3):=by kernel_rfl
theorem l7:Nat.beq (aK cfg.P 3) 0=false:=by kernel_rfl
theorem jd:dU cfg.P 25 5=some (5,23):=by kernel_rfl
theorem pF:Nat.beq (aK cfg.P 23) 0=false:=by kernel_rfl
theorem qi:eZ cfg.P 23=some false:=by kernel_rfl
theorem Ey:aK cfg.P 9=1:=by kernel_rfl
theorem Gx:(eZ cfg.P 9).isSome=true:=by kernel_rfl
theorem JU:(Tryd.f58.name == "runtime.NumGoroutine")=false:=by kernel_rfl
theorem tN:dU cfg.P 68 2=some (2,3):=by kernel_rfl
theorem nQ:cfg.P.follows .mixedOrders=true:=by kernel_rfl
theorem fe:dU cfg.P 25 0=some (0,3):=by kernel_rfl
theorem oL:dU cfg.P 25 2=some (2,9):=by kernel_rfl
theorem zq:dU cfg.P 25 4=some (4,22):=by kernel_rfl
theorem Ic:cfg.rowT 22=false:=by kernel_rfl
theorem IL:kD cfg 22=true:=by kernel_rfl
theorem Ir:bytesOf cfg.P 47=32:=by kernel_rfl
theorem Iy:iD cfg 47=true:=by kernel_rfl
theorem ug:dU cfg.P 25 3=some (3,9):=by kernel_rfl
theorem JO:(Tryd.f31.name == "runtime.NumGoroutine")=false:=by kernel_rfl
theorem Jw:eZ cfg.P 66=some false:=by kernel_rfl
theorem Kg:(Tryd.f30.name == "runtime.NumGoroutine")=false:=by kernel_rfl
theorem Jo:zeroOf cfg.P 68=some (.agg [.aY,.aY,.int .i64 0]):=by kernel_rfl
theorem Kk:cfg.objT 66=none:=by kernel_rfl
theorem Jj:zeroOf cfg.P 66=some (.nilp):=by kernel_rfl
theorem J5:aK cfg.P 66=1:=by kernel_rfl
theorem Kc:(eZ cfg.P 66).isSome=true:=by kernel_rfl
theorem FH:dU cfg.P 70 0=some (0,29):=by kernel_rfl
theorem IV:Nat.beq (aK cfg.P 29) 0=false:=by kernel_rfl
theorem IU:eZ cfg.P 29=some false:=by kernel_rfl
theorem KR:(Tryd.f9.name == "runtime.NumGoroutine")=false:=by kernel_rfl
theorem JQ:(Tryd.f33.name == "runtime.NumGoroutine")=false:=by kernel_rfl
theorem Kr:(Tryd.f10.name == "runtime.NumGoroutine")=false:=by kernel_rfl
theorem J4:(Tryd.f34.name == "runtime.NumGoroutine")=false:=by kernel_rfl
theorem JR:(Tryd.f35.name == "runtime.NumGoroutine")=false:=by kernel_rfl
theorem JS:(Tryd.f11.name == "runtime.NumGoroutine")=false:=by kernel_rfl
theorem Aq:cfg.rowT 23=false:=by kernel_rfl
theorem Cc:cfg.rowT 32=false:=by kernel_rfl
theorem Io:zeroOf cfg.P 3=some (.int .i64 0):=by kernel_rfl
theorem KV:(Tryd.f3.name == "runtime.NumGoroutine")=false:=by kernel_rfl
theorem Kn:(Tryd.f13.name == "runtime.NumGoroutine")=false:=by kernel_rfl
theorem Hy:cfg.rowT 79=false:=by kernel_rfl
theorem BV:bL cfg.P 79=some 9:=by kernel_rfl
theorem JE:zeroOf cfg.P 9=some (.str []):=by kernel_rfl
theorem JZ:(Tryd.f36.name == "runtime.NumGoroutine")=false:=by kernel_rfl
theorem Ka:(Tryd.f37.name == "runtime.NumGoroutine")=false:=by kernel_rfl
theorem Kw:(Tryd.f38.name == "runtime.NumGoroutine")=false:=by kernel_rfl
theorem Iw:kD cfg 23=true:=by kernel_rfl
theorem IE:bytesOf cfg.P 25=96:=by kernel_rfl
theorem IQ:iD cfg 25=true:=by kernel_rfl
theorem J7:aK cfg.P 23=1:=by kernel_rfl
theorem JX:(eZ cfg.P 23).isSome=true:=by kernel_rfl
theorem JC:(Tryd.f39.name == "runtime.NumGoroutine")=false:=by kernel_rfl
theorem EB:dU cfg.P 37 0=some (0,32):=by kernel_rfl
theorem Ez:dU cfg.P 37 1=some (1,32):=by kernel_rfl
theorem Fz:dU cfg.P 37 2=some (2,32):=by kernel_rfl
theorem Hw:dU cfg.P 37 3=some (3,32):=by kernel_rfl
theorem GA:(bL cfg.P 79).isSome=true:=by kernel_rfl
theorem Kq:aK cfg.P 22=1:=by kernel_rfl
theorem KA:(eZ cfg.P 22).isSome=true:=by kernel_rfl
theorem IM:kD cfg 32=true:=by kernel_rfl
theorem Jn:bytesOf cfg.P 3=8:=by kernel_rfl
theorem KH:iD cfg 3=true:=by kernel_rfl
theorem Jp:(Tryd.f12.name == "runtime.NumGoroutine")=false:=by kernel_rfl
theorem G9:FY.rowT 32=true:=by kernel_rfl
theorem Jk:(Tryd.f14.name == "runtime.NumGoroutine")=false:=by kernel_rfl
theorem Ku:(Tryd.f60.name == "runtime.NumGoroutine")=false:=by kernel_rfl
theorem K8:(cfg.P.underlying 3).isSome=true:=by kernel_rfl
theorem IA:Ct cfg.P 114=some .u64:=by kernel_rfl
theorem IP:cfg.rowT 115=false:=by kernel_rfl
theorem I4:bL cfg.P 115=some 5:=by kernel_rfl
theorem KO:eZ cfg.P 5=some false:=by kernel_rfl
theorem K4:zeroOf cfg.P 5=some (.int .u8 0):=by kernel_rfl
theorem K5:aK cfg.P 5=1:=by kernel_rfl
theorem IJ:qf cfg 115=true:=by kernel_rfl
theorem JH:(Tryd.f61.name == "runtime.NumGoroutine")=false:=by kernel_rfl
theorem J2:(Tryd.f40.name == "runtime.NumGoroutine")=false:=by kernel_rfl
theorem J8:(Tryd.f62.name == "runtime.NumGoroutine")=false:=by kernel_rfl
theorem Fv:qI cfg 105=some (9,4):=by kernel_rfl
theorem KF:cfg.P.underlying 9=some .string:=by kernel_rfl
theorem Kh:(Tryd.f41.name == "runtime.NumGoroutine")=false:=by kernel_rfl
theorem K3:cfg.objT 3=none:=by kernel_rfl
theorem JK:(Tryd.f15.name == "runtime.NumGoroutine")=false:=by kernel_rfl
theorem Jf:(Tryd.f27.name == "runtime.NumGoroutine")=false:=by kernel_rfl
theorem GL:(cfg.P.underlying 3).isSome=true:=by kernel_rfl
theorem JJ:(Tryd.f16.name == "runtime.NumGoroutine")=false:=by kernel_rfl
theorem Jt:(Tryd.f17.name == "runtime.NumGoroutine")=false:=by kernel_rfl
theorem Jl:(Tryd.f18.name == "runtime.NumGoroutine")=false:=by kernel_rfl
theorem JF:(Tryd.f42.name == "runtime.NumGoroutine")=false:=by kernel_rfl
theorem Km:(Tryd.f19.name == "runtime.NumGoroutine")=false:=by kernel_rfl
theorem J3:eZ cfg.P 37=some true:=by kernel_rfl
theorem JN:aK cfg.P 37=4:=by kernel_rfl
theorem IC:cfg.rowT 38=false:=by kernel_rfl
theorem JY:(cfg.P.underlying 104).isSome=true:=by kernel_rfl
theorem Ke:kD cfg 38=true:=by kernel_rfl
theorem IG:bytesOf cfg.P 104=32:=by kernel_rfl
theorem I5:iD cfg 104=true:=by kernel_rfl
theorem KN:cfg.P.underlying 4=some .bool:=by kernel_rfl
theorem KQ:(Tryd.f5.name == "runtime.NumGoroutine")=false:=by kernel_rfl
theorem qy:oper.P_place cfg 70=some (rA [(0,1),(1,1),(2,1)]):=oC (by kernel_rfl)
theorem cK:oper.P_place cfg 28=some (rA [(0,1),(1,1),(2,1),(3,1),(4,1)]):=oC (by kernel_rfl)
theorem wX:oper.P_place cfg 68=some (rA [(0,1),(1,1),(2,1)]):=oC (by kernel_rfl)
theorem ig:oper.P_place cfg 25=some (rA [(0,1),(1,1),(2,1),(3,1),(4,1),(5,1)]):=oC (by kernel_rfl)
theorem wN:oper.P_place cfg 47=some (rA [(0,1),(1,1)]):=oC (by kernel_rfl)
theorem Iu (x y:Attr):AV.eqv cfg.P 47 (.d (.agg [(.str x.Name),(.str x.Value)])) (.d (.agg [(.str y.Name),(.str y.Value)]))=some (Attr.beq x y) :=
 EA (by kernel_rfl) Tryd.underlying47 (by kernel_rfl) (by kernel_rfl)
def KD:List Src:=[[(0,none)],[(12,some 0)],[(13,some 1)],[(14,some 2)],[(15,some 3)],[(0,none)],[(17,some 5)],[(18,some 6)],[(19,some 7)],[(16,some 4),(20,some 8)]]
def KG:List Src:=[[(3,none)],[(26,some 0)],[(3,none)],[(28,some 2)],[(29,some 3)],[(0,none)],[(3,none)],[(32,some 6)],[(31,some 5),(33,some 7)],[(27,some 1),(30,some 4),(34,some 8)],[(35,some 9)],[(36,some 10)]]
def K9:List Src:=[[],[(10,none)],[(24,some 1)],[(6,none),(23,some 0)],[(25,some 2)]]
def KE:List Src:=[[(0,none)],[(5,none)],[(17,some 0),(18,some 1)],[(19,some 2)],[(1,none)],[(5,none)],[(21,some 4),(22,some 5)],[(23,some 6)],[(20,some 3),(24,some 7)]]
def KP:List Src:=[[(2,none)],[(48,some 0)],[(5,none)],[(49,some 1),(50,some 2)],[(51,some 3)],[(3,none)],[(53,some 5)],[(5,none)],[(54,some 6),(55,some 7)],[(56,some 8)],[(52,some 4),(57,some 9)],[(58,some 10)]]
def KS:List Src:=[[(5,none)],[(12,some 0)],[(0,none)],[(1,none)],[(14,some 2),(15,some 3)],[(16,some 4)],[(13,some 1)],[(17,some 5)]]
def KZ:List Src:=[[(7,none)],[(24,some 0)],[(0,none)],[(1,none)],[(8,none)],[(26,some 2),(27,some 3),(28,some 4)],[(29,some 5)],[(25,some 1),(30,some 6)],[(7,none)],[(31,some 7),(32,some 8)]]
def KU:List Src:=[[(1,none)],[(60,some 0)],[(8,none)],[(61,some 1),(62,some 2)],[(63,some 3)],[(1,none)],[(65,some 5)],[(8,none)],[(66,some 6),(67,some 7)],[(68,some 8)],[(64,some 4),(69,some 9)],[],[(11,some 11),(70,some 10)]]
def KM:List Src:=[[(4,none)],[(32,some 0)],[(33,some 1)],[(34,some 2)],[(4,none),(35,some 3)],[(36,some 4),(35,some 3)],[(1,none),(35,some 3)],[(38,some 6),(35,some 3)],[(37,some 5),(39,some 7),(35,some 3)],[(35,some 3),(40,some 8)],[],[(41,some 9)]]
def Jc:List Src:=[[(1,none)],[(18,some 0)],[(19,some 1)],[(20,some 2)],[(1,none),(21,some 3)],[(22,some 4),(21,some 3)],[(23,some 5),(21,some 3)],[(24,some 6),(21,some 3)],[(21,some 3),(25,some 7)],[(26,some 8)],[(1,none),(27,some 9)],[(28,some 10),(27,some 9)],[(29,some 11),(27,some 9)],[(30,some 12),(27,some 9)],[(27,some 9),(31,some 13)],[(32,some 14)],[(1,none),(33,some 15)],[(34,some 16),(33,some 15)],[(35,some 17),(33,some 15)],[(36,some 18),(33,some 15)],[(33,some 15),(37,some 19)],[],[],[(38,some 20)]]
def JI:List Src:=[[(9,none)],[(12,none)],[(10,none)],[(38,some 2)],[(37,some 1),(39,some 3)],[(11,none)],[(36,some 0),(40,some 4),(41,some 5)],[(42,some 6)],[(35,some 7)],[(35,some 7)],[],[(13,some 10),(43,some 8)],[(44,some 9)]]
def Ii:List Src:=[[(9,none)],[(67,some 0)],[(9,none)],[(69,some 2)],[(68,some 1),(70,some 3)],[(71,some 4)],[(9,none),(72,some 5)],[(3,none),(72,some 5)],[(73,some 6),(74,some 7),(72,some 5)],[(9,none),(72,some 5)],[(3,none),(72,some 5)],[(76,some 9),(77,some 10),(72,some 5)],[(75,some 8),(78,some 11),(72,some 5)],[(72,some 5),(79,some 12)],[(80,some 13)],[(81,some 14)],[(81,some 14),(82,some 15)],[(83,some 16)]]
structure I1 (R:bT):Prop where
 obj:mE R cfg
 strconv_Itoa_ok:∀ (n:Nat) (x0:Int) (r:Str),strconv_Itoa n x0=some r→di R cfg.P 55 [(.int .i64 x0)] (.d (.str r))
 strings_Trim_ok:∀ (n:Nat) (x0:Str) (x1:Str) (r:Str),iU n x0 x1=some r→di R cfg.P 74 [(.str x0),(.str x1)] (.d (.str r))
section
variable {R:bT} (E:I1 R)
include E
theorem qL:mE R FY:=⟨E.obj.toObjOk,E.obj.new⟩
theorem Ap {α:Type} {g:Nat} {caps:List AV} {ins:List bU} {z:Option α} {res:α→AV→List bU→Prop} (hc:iW R cfg.P 70 g caps ins z res):rZ R cfg.P 29 [.fn g caps] ins (He z res):=by
 intro B S hB
 refine ⟨⟨Tryd.f29,Tryd.func29,rfl,by simpa using J9⟩,fun cx w us hS hl hr=>?_⟩
 refine calls_of_wp_defers Tryd.func29 rfl ?_
 have he0:=uD (n:=11) hl (Nat.le_of_ble_eq_true rfl) hr
 refine wp_seq (ax.run (Q:=fun r=>∃ b2 b3 S1,r=(.normal,[(3,.ptr b3 0 0),(2,.ptr b2 0 0),(0,.fn g caps)],S1)∧Has B S1 (.box b3 [.d (.bool false)] :: .box b2 [.d (.int .i64 0),.d (.str []),.d (.int .i64 0)] :: ins)) ?_ hS he0 (fun r hr=>?_))
 ·
  refine ax.region E.obj rfl ?_
  refine ah.alloc hB rfl Gr D9 rfl rfl (fun b2 S1 H1=>?_)
  refine ah.alloc H1 rfl KX KL rfl rfl (fun b3 S2 H2=>?_)
  exact ah.nil ⟨b2,b3,S2,rfl,H2⟩
 obtain ⟨b2,b3,S1,rfl,H1⟩:=hr
 intro cx1 a1 w1 s1 x1 er1 d1
 refine wp_seq (ax.run (Q:=fun r=>r=(.normal,[(3,.ptr b3 0 0),(2,.ptr b2 0 0),(0,.fn g caps)],S1)) ?_ s1 er1 (fun r hr=>?_))
 ·
  refine ax.seq ?_
  refine ax.region E.obj rfl ?_
  refine ah.val rfl (ae rfl) rfl ?_
  refine ah.IX (f:=g) (caps:=caps) rfl rfl (fun _=>rfl) (fun vs w=>by kernel_rfl) rfl ?_
  refine ah.nil ?_
  refine ax.cond rfl (fun hb=>by cases hb) (fun hb=>?_)
  refine ax.sub (e2:=[(3,.ptr b3 0 0),(2,.ptr b2 0 0),(0,.fn g caps)]) ?_ (ax.skip rfl)
  exact .cons rfl (.cons rfl (.cons rfl .nil))
 subst hr
 intro cx2 a2 w2 s2 x2 er2 d2
 have dd:a2.defers=[]:=d2.trans d1
 obtain ⟨cx3,w3,u7,q1,s3,x3,q4⟩:=fO E.obj s2 er2.eval { dst:=some 7,op:=Op.makeFunc (Fn.func 53) #[] #[Operand.tmp 3,Operand.tmp 2],type:=1,pos := "trap.go:28", after:=#[],guard:=none } (nM (g:=53) (cs:=[AV.ptr b3 0 0,AV.ptr b2 0 0]) rfl)
 cases q4 with
 | fn _ _ vs hl7 h7 =>
 match vs,hl7,h7,q1 with
 | [v3,v2],_,h7,q1 =>
 have r3:=h7 0 _ _ rfl rfl
 have r2:=h7 1 _ _ rfl rfl
 refine wp_seq (wp_region (yo rfl rfl rfl q1 ?_))
 have er3:gD cx3 S1 w3 11 [(7,.any),(3,.ptr b3 0 0),(2,.ptr b2 0 0),(0,.fn g caps)] (a2.put (some 7) (.func (.func 53) #[] #[v3,v2])):=(er2.mono x3).put rfl (.any _)
 have e7:(a2.put (some 7) (.func (.func 53) #[] #[v3,v2])).tmps[7]? = some (.func (.func 53) #[] #[v3,v2]):=by
  have hz:=er2.size
  show (a2.tmps.setIfInBounds 7 _)[7]? = _
  rw [Array.getElem?_setIfInBounds_self_of_lt (by omega)]
 let dfd:Deferred:={ target:=.fn (.func 53) #[v3,v2],args:=#[] }
 have erun:(execOp (a2.put (some 7) (.func (.func 53) #[] #[v3,v2])).eval { dst:=none,op:=Op.defer { callee:=Callee.value (Operand.tmp 7),args:=#[],argTypes:=#[] },type:=0,pos := "trap.go:28", after:=#[{ on:=0,ground:=Ground.data }],guard:=none }).run cfg.P w3=.ok (.defer dfd) w3:=by
  simp [execOp,resolve,Deferred.ofValue,Act.A8 e7,dfd]
 rw [show (a2.put (some 7) (Value.func (Fn.func 53) #[] [v3,v2].toArray))=(a2.put (some 7) (.func (.func 53) #[] #[v3,v2])) from rfl]
 rw [erun]
 have hinv:∀ w:World,(invoke (.fn (.func 53) #[v3,v2]) #[]).run cfg.P w=.ok (.enter 53 #[v3,v2]) w:=fun w=>by
  have hf:cfg.P.funcs[53]? = some Tryd.f53:=Tryd.func53
  have hb:Tryd.f53.body.isNone=false:=rfl
  simp only [invoke,callFunc,Sem.run_bind,Sem.run_pure,Result.andThen_ok,run_program,hf,Ki,hb,Bool.false_eq_true,if_false]
  rfl
 let a3:Act:={ tmps:=a2.tmps.setIfInBounds 7 (.func (.func 53) #[] #[v3,v2]),defers:=dfd :: a2.defers }
 have er3':gD cx3 S1 w3 11 [(7,.any),(3,.ptr b3 0 0),(2,.ptr b2 0 0),(0,.fn g caps)] a3:=⟨er3.size,er3.rel⟩
 show (Code.seq _ _).wp cfg.P _ a3 w3
 obtain ⟨cx4,w4,u8,q8,s4,x4,r8⟩:=fO E.obj s3 er3'.eval { dst:=some 8,op:=Op.move (Operand.tmp 0),type:=1,pos := "trap.go:39", after:=#[],guard:=none } (ae rfl)
 refine wp_seq (wp_region (yo rfl rfl rfl q8 ?_))
 have er4:gD cx4 S1 w4 11 [(8,.fn g caps),(7,.any),(3,.ptr b3 0 0),(2,.ptr b2 0 0),(0,.fn g caps)] (a3.put (some 8) u8):=(er3'.mono x4).put rfl r8
 obtain ⟨JL,k1,k2,k3⟩:=fO E.obj s4 er4.eval { dst:=some 9,op:=Op.call { callee:=Callee.value (Operand.tmp 8),args:=#[],argTypes:=#[] },type:=0,pos := "trap.go:39", after:=#[{ on:=0,ground:=Ground.data }],guard:=none } (wF rfl rfl)
 have H1':Has B S1 (ins ++ [.box b3 [.d (.bool false)],.box b2 [.d (.int .i64 0),.d (.str []),.d (.int .i64 0)]]):=H1.perm (List.perm_append_comm (l₁:=[bU.box b3 [.d (.bool false)],bU.box b2 [.d (.int .i64 0),.d (.str []),.d (.int .i64 0)]]) (l₂:=ins))
 obtain ⟨B',f1,f2⟩:=H1'.frame
 obtain ⟨⟨fn,g1,g2,g3⟩,hcalls⟩:=(hc B' S1 f1).pJ
 rw [k3 fn g1 g2 g3]
 show Calls cfg.P g JL.toArray w4 _
 refine (hcalls cx4 w4 JL s4 k1 k2).mono (fun en w5 hen=>?_)
 obtain ⟨⟨p,v,S5⟩,⟨hq,hd⟩,cx5,m1,m2,m3⟩:=hen
 simp only at hd m1 m2 m3
 have r3':=r3.mono (x4.trans m2)
 have r2':=r2.mono (x4.trans m2)
 have er5:=er4.mono m2
 cases z with
 | none =>
  obtain ⟨note,n,q1,q2⟩:=hq
  simp only at q1 q2
  subst q1
  obtain ⟨u,rfl,m3⟩:=m3
  have H5:=f2 S5 [] q2 hd
  show Go.Leaves cfg.P Tryd.f29 _ _ (dfd :: a2.defers) _ w5
  rw [dd]
  refine leaves_cons (f:=53) (args:=#[v3,v2]) (by simp) (hinv w5) ?_
  refine CallsD.mono (R:=fun e u' w'=>e=.returned (.tuple #[])∧u'=.panicking [{ v:=u,recovered:=true }]∧∃ cx6 S6,bf R cx6 S6 w'∧Ext cx5 S5 w5 cx6 S6 w'∧Has B S6 [.box b3 [.d (.bool false)],.box b2 [.d (.int .i64 6),.d (.str note),.d (.int .i64 n)]]) (callsD_of_wpS Tryd.func53 rfl (fun c0 cs hu=>?_)) ?_
  ·
   have he6:=uD (cx:=cx5) (S:=S5) (w:=w5) (args:=[.ptr b3 0 0,.ptr b2 0 0]) (us:=[v3,v2]) (n:=16) rfl (Nat.le_of_ble_eq_true rfl) (fun i x y hx hy=>by
    match i,hx,hy with
    | 0,hx,hy=>cases hx; cases hy; exact r3'
    | 1,hx,hy=>cases hx; cases hy; exact r2')
   refine wpS_seq (wpS_of_wp (ax.run (Q:=fun r=>r=(.normal,[(0,.ptr b3 0 0),(1,.ptr b2 0 0)],S5)) ?_ m1 he6 (fun r hr=>?_)))
   ·
    refine ax.seq ?_
    refine ax.region E.obj rfl ?_
    refine ah.val rfl (av H5 (i:=0) rfl rfl (aA I8 rfl)) rfl ?_
    refine ah.nil ?_
    refine ax.cond rfl (fun hb=>by cases hb) (fun hb=>?_)
    exact ax.sub (e2:=[(0,.ptr b3 0 0),(1,.ptr b2 0 0)]) (.cons rfl (.cons rfl .nil)) (ax.skip rfl)
   subst hr
   intro cx6 a6 w6 s6 x6 er6 d6
   have hrc:recoverD (c0 :: cs)=some (u,{ c0 with mode:=.panicking [{ v:=u,recovered:=true }] } :: cs):=by
    simp only [recoverD,hu]
   refine wpS_seq (wpS_region (wC rfl rfl rfl rfl hrc rfl ?_))
   have m36:aM cx6 S5 w6 (.d (vX 70 note n)) u:=m3.mono x6
   have e6:(a6.put (some 6) u).eval (.tmp 6)=u:=Act.A8 (by
    have hz:=er6.size
    show (a6.tmps.setIfInBounds 6 u)[6]? = _
    rw [Array.getElem?_setIfInBounds_self_of_lt (by omega)])
   have er7:gD cx6 S5 w6 16 [(2,.d (vX 70 note n)),(6,.any),(0,.ptr b3 0 0),(1,.ptr b2 0 0)] ((a6.put (some 6) u).put (some 2) ((a6.put (some 6) u).eval (.tmp 6))):=(er6.put (dst:=some 6) (x:=.any) rfl (.any _)).put (dst:=some 2) rfl (by rw [e6]; exact m36)
   refine wpS_of_wp (ax.run (Q:=fun r=>∃ e6 S6,r=(.normal,e6,S6)∧Has B S6 [.box b3 [.d (.bool false)],.box b2 [.d (.int .i64 6),.d (.str note),.d (.int .i64 n)]]) ?_ s6 er7 (fun r hr=>?_))
   ·
    refine ax.seq ?_
    refine ax.region E.obj rfl ?_
    refine ah.val rfl (ae rfl) rfl ?_
    refine ah.EM (d:=tH note n) rfl rfl Js rfl ?_
    refine ah.val rfl (ae rfl) rfl ?_
    refine ah.val rfl (aN rfl rfl) rfl ?_
    refine ah.val rfl (aN rfl rfl) rfl ?_
    refine ah.alloc H5 rfl Gr D9 rfl rfl (fun b6 S6 H6=>?_)
    refine ah.store H6 (i:=0) rfl rfl rfl rfl rfl rfl AQ rfl FE rfl rfl rfl (fun S7 H7=>?_)
    refine ah.val rfl (ai rfl) rfl ?_
    refine ah.nil ?_
    refine ax.seq ?_
    refine ax.seq ?_
    refine ax.region E.obj rfl ?_
    refine ah.val rfl (ae rfl) rfl ?_
    refine ah.val rfl (dW rfl) rfl ?_
    refine ah.nil ?_
    refine ax.cond rfl (fun hb=>by cases hb) (fun hb=>?_)
    refine ax.skip ?_
    refine ax.region E.obj rfl ?_
    refine ah.val rfl (av H7 (i:=0) rfl rfl (aW Hr AQ rfl)) rfl ?_
    refine ah.store H7 (i:=2) rfl rfl rfl rfl rfl rfl AQ rfl FE rfl rfl rfl (fun S8 H8=>?_)
    refine ah.nil ⟨_,S8,rfl,?_⟩
    exact H8.sl [1,2] rfl rfl
   obtain ⟨e8,S6,rfl,H6⟩:=hr
   intro cx8 a8 w8 s8 x8 er8 d8
   exact ⟨d8.trans ((put_defers _ _ _).trans ((put_defers _ _ _).trans d6)),_,rfl,_,results_none rfl _ _ _,rfl,rfl,cx8,S6,s8,x6.trans x8,H6⟩
  ·
   rintro e u' w' ⟨rfl,rfl,cx6,S6,s6,x6,H6⟩
   obtain ⟨uv,h1,h2⟩:=kW (C:=cfg) s6 (er5.mono x6) (fn:=Tryd.f29) (uV H6 (i:=1) (i2:=0) rfl rfl rfl (aW Hr AQ rfl) rfl rfl (aA I8 rfl))
   exact ⟨uv,h1,(none,.tup [.d (tH note n),.d (.bool false)],S6),⟨rfl,_,[],.refl _,⟨rfl,note,n,rfl⟩,H6.weaken (List.nil_sublist _)⟩,cx6,s6,x1.trans (x2.trans (x3.trans (x4.trans (m2.trans x6)))),uv,rfl,h2⟩
 | some x =>
  obtain ⟨q1,v',l',q2,q3,q4⟩:=hq
  simp only at q1 q2 q3 q4
  subst q1
  obtain ⟨u,rfl,m3⟩:=m3
  have H5:Has B S5 (.box b3 [.d (.bool false)] :: .box b2 [.d (.int .i64 0),.d (.str []),.d (.int .i64 0)] :: l'):=(f2 S5 l' q4 hd).perm (List.perm_append_comm (l₁:=l') (l₂:=[bU.box b3 [.d (.bool false)],bU.box b2 [.d (.int .i64 0),.d (.str []),.d (.int .i64 0)]]))
  have er6:gD cx5 S5 w5 11 [(3,.ptr b3 0 0),(2,.ptr b2 0 0)] ((a3.put (some 8) u8).put (some 9) u):=(er5.put (dst:=some 9) (x:=.any) rfl (.any _)).sub (.cons rfl (.cons rfl .nil))
  show (Code.seq _ _).wp cfg.P _ ((a3.put (some 8) u8).put (some 9) u) w5
  refine ax.run (Q:=fun r=>∃ S6,r=(.ret,[(3,.ptr b3 0 0),(2,.ptr b2 0 0)],S6)∧Has B S6 (.box b3 [.d (.bool true)] :: .box b2 [.d (.int .i64 0),.d (.str []),.d (.int .i64 0)] :: l')) ?_ m1 er6 (fun r hr=>?_)
  ·
   refine ax.seq ?_
   refine ax.region E.obj rfl ?_
   refine ah.val rfl (bW (cs:=[.d (.int .i64 0),.d (.str []),.d (.int .i64 0)]) D9 rfl (qy) rfl) rfl ?_
   refine ah.store H5 (i:=1) rfl rfl rfl rfl rfl rfl AQ rfl FE rfl rfl rfl (fun S6 H6=>?_)
   refine ah.store H6 (i:=0) rfl rfl rfl rfl rfl rfl K6 rfl KY rfl rfl rfl (fun S7 H7=>?_)
   refine ah.nil ?_
   refine ax.sub (e2:=[(3,.ptr b3 0 0),(2,.ptr b2 0 0)]) (.cons rfl (.cons rfl .nil)) (ax.ret ⟨S7,rfl,H7⟩)
  obtain ⟨S6,rfl,H6⟩:=hr
  intro cx7 a7 w7 s7 x7 er7 d7
  have r3'':=r3'.mono x7
  have r2'':=r2'.mono x7
  have d7':a7.defers=[dfd]:=d7.trans (by show dfd :: a2.defers=_; rw [dd])
  show Go.Leaves cfg.P Tryd.f29 _ _ a7.defers _ w7
  rw [d7']
  refine leaves_cons (f:=53) (args:=#[v3,v2]) (by simp) (hinv w7) ?_
  refine CallsD.mono (R:=fun e u' w'=>u'=.returning∧e=.returned (.tuple #[])∧∃ cx8,bf R cx8 S6 w'∧Ext cx7 S6 w7 cx8 S6 w') (callsD_of_wp Tryd.func53 rfl ?_) ?_
  ·
   have he8:=uD (cx:=cx7) (S:=S6) (w:=w7) (args:=[.ptr b3 0 0,.ptr b2 0 0]) (us:=[v3,v2]) (n:=16) rfl (Nat.le_of_ble_eq_true rfl) (fun i x y hx hy=>by
    match i,hx,hy with
    | 0,hx,hy=>cases hx; cases hy; exact r3''
    | 1,hx,hy=>cases hx; cases hy; exact r2'')
   refine ax.run (Q:=fun r=>∃ e8,r=(.ret,e8,S6)) ?_ s7 he8 (fun r hr=>?_)
   ·
    refine ax.seq ?_
    refine ax.seq ?_
    refine ax.region E.obj rfl ?_
    refine ah.val rfl (av H6 (i:=0) rfl rfl (aA I8 rfl)) rfl ?_
    refine ah.nil ?_
    refine ax.cond rfl (fun hb=>?_) (fun hb=>by cases hb)
    exact ax.ret ⟨_,rfl⟩
   obtain ⟨e8,rfl⟩:=hr
   intro cx8 a8 w8 s8 x8 er8 d8
   exact ⟨d8,_,results_none rfl _ _ _,rfl,cx8,s8,x8⟩
  ·
   rintro e u' w' ⟨rfl,rfl,cx8,s8,x8⟩
   obtain ⟨uv,h1,h2⟩:=kW (C:=cfg) s8 (er7.mono x8) (fn:=Tryd.f29) (uV H6 (i:=1) (i2:=0) rfl rfl rfl (aW Hr AQ rfl) rfl rfl (aA I8 rfl))
   exact ⟨uv,h1,(none,.tup [.d (.agg [.int .i64 0,.str [],.int .i64 0]),.d (.bool true)],S6),⟨rfl,_,l',.refl _,⟨v',q3,rfl⟩,H6.weaken ((List.sublist_cons_self _ _).trans (List.sublist_cons_self _ _))⟩,cx8,s8,x1.trans (x2.trans (x3.trans (x4.trans (m2.trans (x7.trans x8))))),uv,rfl,h2⟩
set_option maxRecDepth 20000 in
set_option maxHeartbeats 4000000 in
theorem rD (n:Nat) (a1:Attr) (a2:Attr) (S0:St) (b3:Nat) (hb4:S0.H.get b3=some (.cells 0 [(.d (.str a2.Name)),(.d (.str a2.Value))])) (r:Bool) (h:gI n a1 a2=some r):fT R cfg.P 75 [.d (aB a1),.ptr b3 0 0] S0 (fun o=>o=(none,.d (.bool r),S0)):=by
 unfold gI at h
 refine SpecS.of_wp (C:=cfg) Tryd.func75 rfl Jz rfl (fun wf0=>?_)
 have H0:Has S0 S0 []:=Has.start wf0
 refine ax.seq ?_
 refine ax.region E.obj rfl ?_
 refine ah.box H0 rfl rfl rfl (Attr.bD _) rfl (fun b5 S6 H7=>?_)
 refine ah.val rfl (ai rfl) rfl ?_
 refine ah.nil ?_
 refine ax.seq ?_
 refine ax.region E.obj rfl ?_
 refine ah.val rfl (aj rfl pV kI rfl) rfl ?_
 refine ah.val rfl (av H7 (i:=0) rfl rfl (aA j5 rfl)) rfl ?_
 refine ah.val rfl (aj rfl pV kI rfl) rfl ?_
 refine ah.val rfl (BM H7 hb4 rfl (aA j5 rfl)) rfl ?_
 refine ah.val rfl (au rfl rfl gG) rfl ?_
 refine ah.val rfl (ai rfl) rfl ?_
 refine ah.nil ?_
 have hr:=Option.some.inj h
 subst hr
 exact ax.ret ⟨_,rfl,rfl,H7.keeps,gL (aF.eq .nil)⟩
set_option maxRecDepth 20000 in
set_option maxHeartbeats 4000000 in
theorem jf (n:Nat) (S0:St) (a1:(List Attr)) (fg3:Nat) (fc4:List AV) (p2:Attr→Option Bool) (hpp2:∀ S',o8 S0 S'→S'.Wf→∀ (y0:Attr) (r:Bool),p2 y0=some r→fT R cfg.P fg3 ([.d (aB y0)] ++ fc4) S' (fun o=>o=(none,.d (.bool r),S'))) (r:Int) (h:dm n a1 p2=some r):fT R cfg.P 89 [.d (.sl ((a1).map aB) false),.fn fg3 fc4] S0 (fun o=>o=(none,.d (.int .i64 r),S0)):=by
 unfold dm at h
 refine SpecS.of_wp (C:=cfg) Tryd.func89 rfl Jy rfl (fun wf0=>?_)
 have H0:Has S0 S0 []:=Has.start wf0
 refine ax.seq ?_
 refine ax.region E.obj rfl ?_
 refine ah.val rfl (ai rfl) rfl ?_
 refine ah.nil ?_
 refine ax.seq ?_
 refine ax.seq ?_
 refine ax.region E.obj rfl ?_
 refine ah.val rfl (ae rfl) rfl ?_
 refine ah.val rfl (aO rfl xH) rfl ?_
 refine ah.val rfl (ae rfl) rfl ?_
 refine ah.nil ?_
 refine ax.block ?_
 refine lV.start (B:=S0) (α:=Int) (fun k a=>aL a1 p2 k a=some r) (fun a=>[(0,(.d (.sl ((a1).map aB) false))),(1,(.fn fg3 fc4)),(7,(.d (.int .i64 ((a1).length:Int)))),(8,(.d (.int .i64 a)))]) (fun a=>[]) ?_ ?_ n ⟨0,_,_,S0,.refl _ _,.refl _,(aa.r rfl (aa.r rfl (aa.r rfl (aa.r rfl aa.nil)))),H0.sl [] rfl rfl,h⟩
 ·
  intro a h; simp [aL] at h
 intro k13 x12 S10 H11 h
 replace h:aL a1 p2 (k13 + 1) x12=some r:=h
 replace H11:Has S0 S10 []:=H11
 unfold aL at h
 refine ax.seq ?_
 refine ax.region E.obj rfl ?_
 refine ah.val rfl (au rfl rfl bJ) rfl ?_
 refine ah.nil ?_
 refine ax.seq ?_
 refine ax.cond rfl (fun hb14=>?_) (fun hb14=>?_)
 ·
  replace h:=bO hb14 h
  refine ax.skip ?_
  refine ax.seq ?_
  refine ax.block ?_
  refine ax.seq ?_
  refine ax.region E.obj rfl ?_
  refine ah.val rfl (ae rfl) rfl ?_
  refine ah.val rfl (ai rfl) rfl ?_
  refine ah.nil ?_
  refine ax.seq ?_
  refine ax.region E.obj rfl ?_
  refine ah.val rfl (ae rfl) rfl ?_
  refine ah.val rfl (ae rfl) rfl ?_
  refine ah.val rfl (ae rfl) rfl ?_
  obtain ⟨z15,hzz15,h⟩:=bind_some h
  refine ah.val rfl (bA rfl rfl (cZ (enc:=aB) hzz15 zx Cu ((Attr.len _).trans pG.symm))) rfl ?_
  refine ah.val rfl (aV rfl (Attr.ib Et pG)) rfl ?_
  obtain ⟨z16,hzz16,h⟩:=bind_some h
  refine ah.ret rfl (wF rfl rfl) (hpp2 _ H11.keeps H11.wf _ _ hzz16) rfl ?_
  refine ah.nil ?_
  refine ax.cond rfl (fun hb17=>?_) (fun hb17=>?_)
  ·
   replace h:=bO hb17 h
   refine ax.seq ?_
   refine ax.region E.obj rfl ?_
   refine ah.val rfl (ae rfl) rfl ?_
   refine ah.val rfl (ai rfl) rfl ?_
   refine ah.nil ?_
   have hr:=Option.some.inj h
   subst hr
   exact ax.ret ⟨_,rfl,rfl,H11.keeps,gL (aF.eq .nil)⟩
  replace h:=bQ hb17 h
  refine ax.skip ?_
  refine ax.region E.obj rfl ?_
  refine ah.val rfl (au rfl rfl bq) rfl ?_
  refine ah.val rfl (ae rfl) rfl ?_
  refine ah.nil ?_
  exact ⟨(IntKind.wrap .i64 (x12 + 1)),_,_,S10,.refl _ _,.refl _,(aa.r rfl (aa.r rfl (aa.r rfl (aa.r rfl aa.nil)))),H11.sl [] rfl rfl,h⟩
 replace h:=bQ hb14 h
 refine ax.exit ?_
 refine ax.seq ?_
 refine ax.region E.obj rfl ?_
 refine ah.val rfl (ai rfl) rfl ?_
 refine ah.nil ?_
 have hr:=Option.some.inj h
 subst hr
 exact ax.ret ⟨_,rfl,rfl,H11.keeps,gL (aF.eq .nil)⟩
set_option maxRecDepth 20000 in
set_option maxHeartbeats 4000000 in
theorem iV (n:Nat) (S0:St) (a1:(List Attr)) (fg3:Nat) (fc4:List AV) (p2:Attr→Option Bool) (hpp2:∀ S',o8 S0 S'→S'.Wf→∀ (y0:Attr) (r:Bool),p2 y0=some r→fT R cfg.P fg3 ([.d (aB y0)] ++ fc4) S' (fun o=>o=(none,.d (.bool r),S'))) (r:Bool) (h:bg n a1 p2=some r):fT R cfg.P 76 [.d (.sl ((a1).map aB) false),.fn fg3 fc4] S0 (fun o=>o=(none,.d (.bool r),S0)):=by
 unfold bg at h
 refine SpecS.of_wp (C:=cfg) Tryd.func76 rfl Kt rfl (fun wf0=>?_)
 have H0:Has S0 S0 []:=Has.start wf0
 refine ax.seq ?_
 refine ax.region E.obj rfl ?_
 refine ah.val rfl (ai rfl) rfl ?_
 refine ah.nil ?_
 refine ax.seq ?_
 refine ax.region E.obj rfl ?_
 refine ah.val rfl (ae rfl) rfl ?_
 refine ah.val rfl (ae rfl) rfl ?_
 obtain ⟨z6,hzz6,h⟩:=bind_some h
 refine ah.ret rfl (aC rfl rfl) (fT.xZ (jf E n S0 _ _ _ p2 (fun S' hk hw y5 r hr=>hpp2 S' (H0.keeps.trans hk) hw y5 r hr) _ hzz6) (.cons (.refl _) (.cons (.refl _) .nil))) rfl ?_
 refine ah.val rfl (au rfl rfl kz) rfl ?_
 refine ah.val rfl (ai rfl) rfl ?_
 refine ah.nil ?_
 have hr:=Option.some.inj h
 subst hr
 exact ax.ret ⟨_,rfl,rfl,H0.keeps,gL (aF.eq .nil)⟩
set_option maxRecDepth 20000 in
set_option maxHeartbeats 4000000 in
theorem tF (n:Nat) (a1:Tree) (r:Bool) (h:iY n a1=some r):di R cfg.P 63 [(az a1)] (.d (.bool r)):=by
 unfold iY at h
 refine di.of_wp E.obj.toObjOk (C:=cfg) Tryd.func63 rfl JG rfl ?_
 have H0:Has aI aI []:=Has.pure
 refine ax.seq ?_
 refine ax.region E.obj rfl ?_
 refine ah.box H0 rfl rfl rfl (Tree.bD _) rfl (fun b2 S3 H4=>?_)
 refine ah.val rfl (ai rfl) rfl ?_
 refine ah.nil ?_
 refine ax.seq ?_
 refine ax.seq ?_
 refine ax.region E.obj rfl ?_
 refine ah.val rfl (aj rfl mY kI rfl) rfl ?_
 refine ah.val rfl (av H4 (i:=0) rfl rfl (aA j5 rfl)) rfl ?_
 refine ah.val rfl (gJ rfl (gV zU) rfl) rfl ?_
 refine ah.val rfl (au rfl rfl fJ) rfl ?_
 refine ah.val rfl (ae rfl) rfl ?_
 obtain ⟨z6,hzz6,h⟩:=bind_some h
 refine ah.aZ 5 15 (.d (.bool z6)) ?_ ?_
 ·
  rcases Bool.eq_false_or_eq_true ((decide (16 < ((a1.Tag).length:Int)))) with hB5 | hB5
  ·
   refine ah.bool hB5 ?_
   refine ah.no rfl rfl ?_
   refine ah.no rfl rfl ?_
   refine ah.no rfl rfl ?_
   refine ah.no rfl rfl ?_
   refine ah.val rfl (ay (b:=true) rfl rfl) rfl ?_
   replace hzz6:=bO hB5 hzz6
   cases hzz6
   exact ah.nil ⟨_,rfl,(aa.put (aa.push rfl (aa.push rfl (aa.push rfl (aa.push rfl (aa.put (.refl _) (Less.eq (by rw [hB5]))))))) (.refl _))⟩
  refine ah.bool hB5 ?_
  replace hzz6:=bQ hB5 hzz6
  refine ah.val rfl (aj rfl mY kI rfl) rfl ?_
  refine ah.val rfl (av H4 (i:=0) rfl rfl (aA j5 rfl)) rfl ?_
  obtain ⟨z7,hzz7,hzz6⟩:=bind_some hzz6
  refine ah.ret rfl (aC rfl rfl) (E.strings_Trim_ok _ _ _ _ hzz7 _ _ (aF.eq (aF.eq .nil))) rfl ?_
  refine ah.val rfl (au rfl rfl jc) rfl ?_
  refine ah.val rfl (ay (b:=false) rfl rfl) rfl ?_
  cases hzz6
  exact ah.nil ⟨_,rfl,(aa.put (aa.push rfl (aa.push rfl (aa.push rfl (aa.push rfl (aa.put (.refl _) (Less.eq (by rw [hB5]))))))) (.refl _))⟩
 refine ah.val rfl (ae rfl) rfl ?_
 refine ah.aZ 4 20 (.d (.bool (z6 || (!(a1.Text == []))))) ?_ ?_
 ·
  rcases Bool.eq_false_or_eq_true (z6) with hB8 | hB8
  ·
   refine ah.bool hB8 ?_
   refine ah.no rfl rfl ?_
   refine ah.no rfl rfl ?_
   refine ah.no rfl rfl ?_
   refine ah.val rfl (ay (b:=true) rfl rfl) rfl ?_
   exact ah.nil ⟨_,rfl,(aa.put (aa.push rfl (aa.push rfl (aa.push rfl (aa.put (.refl _) (Less.eq (by rw [hB8])))))) (Less.eq (by rw [hB8]; rw [Bool.true_or])))⟩
  refine ah.bool hB8 ?_
  refine ah.val rfl (aj rfl tC kI rfl) rfl ?_
  refine ah.val rfl (av H4 (i:=0) rfl rfl (aA j5 rfl)) rfl ?_
  refine ah.val rfl (au rfl rfl jc) rfl ?_
  refine ah.val rfl (ay (b:=false) rfl rfl) rfl ?_
  exact ah.nil ⟨_,rfl,(aa.put (aa.push rfl (aa.push rfl (aa.push rfl (aa.put (.refl _) (Less.eq (by rw [hB8])))))) (Less.eq (by rw [hB8]; rw [Bool.false_or])))⟩
 refine ah.val rfl (ae rfl) rfl ?_
 refine ah.aZ 5 26 (.d (.bool ((z6 || (!(a1.Text == []))) || (decide (24 < ((a1.Kids).length:Int)))))) ?_ ?_
 ·
  rcases Bool.eq_false_or_eq_true ((z6 || (!(a1.Text == [])))) with hB9 | hB9
  ·
   refine ah.bool hB9 ?_
   refine ah.no rfl rfl ?_
   refine ah.no rfl rfl ?_
   refine ah.no rfl rfl ?_
   refine ah.no rfl rfl ?_
   refine ah.val rfl (ay (b:=true) rfl rfl) rfl ?_
   exact ah.nil ⟨_,rfl,(aa.put (aa.push rfl (aa.push rfl (aa.push rfl (aa.push rfl (aa.put (.refl _) (Less.eq (by rw [hB9]))))))) (Less.eq (by rw [hB9]; rw [Bool.true_or])))⟩
  refine ah.bool hB9 ?_
  refine ah.val rfl (aj rfl j3 sK rfl) rfl ?_
  refine ah.val rfl (av H4 (i:=0) rfl rfl (aA sZ rfl)) rfl ?_
  refine ah.val rfl (aO rfl pO) rfl ?_
  refine ah.val rfl (au rfl rfl fJ) rfl ?_
  refine ah.val rfl (ay (b:=false) rfl rfl) rfl ?_
  exact ah.nil ⟨_,rfl,(aa.put (aa.push rfl (aa.push rfl (aa.push rfl (aa.push rfl (aa.put (.refl _) (Less.eq (by rw [hB9]))))))) (Less.eq (by rw [hB9]; rw [Bool.false_or])))⟩
 refine ah.val rfl (ae rfl) rfl ?_
 refine ah.aZ 5 32 (.d (.bool (((z6 || (!(a1.Text == []))) || (decide (24 < ((a1.Kids).length:Int)))) || (decide (64 < ((a1.Key).length:Int)))))) ?_ ?_
 ·
  rcases Bool.eq_false_or_eq_true (((z6 || (!(a1.Text == []))) || (decide (24 < ((a1.Kids).length:Int))))) with hB10 | hB10
  ·
   refine ah.bool hB10 ?_
   refine ah.no rfl rfl ?_
   refine ah.no rfl rfl ?_
   refine ah.no rfl rfl ?_
   refine ah.no rfl rfl ?_
   refine ah.val rfl (ay (b:=true) rfl rfl) rfl ?_
   exact ah.nil ⟨_,rfl,(aa.put (aa.push rfl (aa.push rfl (aa.push rfl (aa.push rfl (aa.put (.refl _) (Less.eq (by rw [hB10]))))))) (Less.eq (by rw [hB10]; rw [Bool.true_or])))⟩
  refine ah.bool hB10 ?_
  refine ah.val rfl (aj rfl mh kI rfl) rfl ?_
  refine ah.val rfl (av H4 (i:=0) rfl rfl (aA j5 rfl)) rfl ?_
  refine ah.val rfl (gJ rfl (gV zU) rfl) rfl ?_
  refine ah.val rfl (au rfl rfl fJ) rfl ?_
  refine ah.val rfl (ay (b:=false) rfl rfl) rfl ?_
  exact ah.nil ⟨_,rfl,(aa.put (aa.push rfl (aa.push rfl (aa.push rfl (aa.push rfl (aa.put (.refl _) (Less.eq (by rw [hB10]))))))) (Less.eq (by rw [hB10]; rw [Bool.false_or])))⟩
 refine ah.nil ?_
 refine ax.cond rfl (fun hb11=>?_) (fun hb11=>?_)
 ·
  replace h:=bO hb11 h
  refine ax.seq ?_
  refine ax.region E.obj rfl ?_
  refine ah.val rfl (ai rfl) rfl ?_
  refine ah.nil ?_
  have hr:=Option.some.inj h
  subst hr
  exact ax.ret ⟨_,rfl,rfl,gL (aF.eq .nil)⟩
 replace h:=bQ hb11 h
 refine ax.skip ?_
 refine ax.seq ?_
 refine ax.seq ?_
 refine ax.region E.obj rfl ?_
 refine ah.val rfl (aj rfl oK tK rfl) rfl ?_
 refine ah.val rfl (av H4 (i:=0) rfl rfl (aA ve rfl)) rfl ?_
 refine ah.val rfl (aO rfl xH) rfl ?_
 refine ah.val rfl (ae rfl) rfl ?_
 refine ah.nil ?_
 refine ax.block ?_
 refine lV.start (B:=aI) (α:=Int) (fun k a=>bZ n a1 k a=some r) (fun a=>[(1,(.ptr b2 0 0)),(34,(.d (.sl ((a1.aH).map aB) false))),(35,(.d (.int .i64 ((a1.aH).length:Int)))),(36,(.d (.int .i64 a)))]) (fun a=>[.box b2 [(.d (.str a1.Tag)),(.d (.str a1.Key)),(.d (.str a1.Text)),(.d (.sl ((a1.aH).map aB) false)),(.d (.sl ((a1.Kids).map az) false))]]) ?_ ?_ n ⟨0,_,_,S3,.refl _ _,.refl _,(aa.r rfl (aa.r rfl (aa.r rfl (aa.r rfl aa.nil)))),H4.sl [0] rfl rfl,h⟩
 ·
  intro a h; simp [bZ] at h
 intro k20 x19 S17 H18 h
 replace h:bZ n a1 (k20 + 1) x19=some r:=h
 replace H18:Has aI S17 [.box b2 [(.d (.str a1.Tag)),(.d (.str a1.Key)),(.d (.str a1.Text)),(.d (.sl ((a1.aH).map aB) false)),(.d (.sl ((a1.Kids).map az) false))]]:=H18
 unfold bZ at h
 refine ax.seq ?_
 refine ax.region E.obj rfl ?_
 refine ah.val rfl (au rfl rfl bJ) rfl ?_
 refine ah.nil ?_
 refine ax.seq ?_
 refine ax.cond rfl (fun hb21=>?_) (fun hb21=>?_)
 ·
  replace h:=bO hb21 h
  refine ax.skip ?_
  refine ax.seq ?_
  refine ax.block ?_
  refine ax.seq ?_
  refine ax.region E.obj rfl ?_
  refine ah.val rfl (ae rfl) rfl ?_
  obtain ⟨z22,hzz22,h⟩:=bind_some h
  refine ah.val rfl (bA rfl rfl (cZ (enc:=aB) hzz22 zx Cu ((Attr.len _).trans pG.symm))) rfl ?_
  refine ah.val rfl (aV rfl (Attr.ib Et pG)) rfl ?_
  refine ah.alloc H18 rfl Ip Gm rfl rfl (fun b23 S24 H25=>?_)
  refine ah.val rfl (ai rfl) rfl ?_
  refine ah.store H25 (i:=0) rfl rfl rfl rfl (Attr.bD _) rfl pG rfl Cu rfl rfl rfl (fun S26 H27=>?_)
  refine ah.nil ?_
  refine ax.seq ?_
  refine ax.region E.obj rfl ?_
  refine ah.val rfl (nM rfl) rfl ?_
  refine ah.val rfl (ai rfl) rfl ?_
  refine ah.nil ?_
  refine ax.seq ?_
  refine ax.region E.obj rfl ?_
  refine ah.val rfl (aj rfl pV kI rfl) rfl ?_
  refine ah.val rfl (av H27 (i:=0) rfl rfl (aA j5 rfl)) rfl ?_
  refine ah.val rfl (au rfl rfl gG) rfl ?_
  refine ah.val rfl (ae rfl) rfl ?_
  refine ah.aZ 5 50 (.d (.bool ((z22.Name == []) || (decide (64 < ((z22.Name).length:Int)))))) ?_ ?_
  ·
   rcases Bool.eq_false_or_eq_true ((z22.Name == [])) with hB28 | hB28
   ·
    refine ah.bool hB28 ?_
    refine ah.no rfl rfl ?_
    refine ah.no rfl rfl ?_
    refine ah.no rfl rfl ?_
    refine ah.no rfl rfl ?_
    refine ah.val rfl (ay (b:=true) rfl rfl) rfl ?_
    exact ah.nil ⟨_,rfl,(aa.put (aa.push rfl (aa.push rfl (aa.push rfl (aa.push rfl (aa.put (.refl _) (Less.eq (by rw [hB28]))))))) (Less.eq (by rw [hB28]; rw [Bool.true_or])))⟩
   refine ah.bool hB28 ?_
   refine ah.val rfl (aj rfl pV kI rfl) rfl ?_
   refine ah.val rfl (av H27 (i:=0) rfl rfl (aA j5 rfl)) rfl ?_
   refine ah.val rfl (gJ rfl (gV zU) rfl) rfl ?_
   refine ah.val rfl (au rfl rfl fJ) rfl ?_
   refine ah.val rfl (ay (b:=false) rfl rfl) rfl ?_
   exact ah.nil ⟨_,rfl,(aa.put (aa.push rfl (aa.push rfl (aa.push rfl (aa.push rfl (aa.put (.refl _) (Less.eq (by rw [hB28]))))))) (Less.eq (by rw [hB28]; rw [Bool.false_or])))⟩
  refine ah.val rfl (ae rfl) rfl ?_
  refine ah.aZ 5 56 (.d (.bool (((z22.Name == []) || (decide (64 < ((z22.Name).length:Int)))) || (decide (64 < ((z22.Value).length:Int)))))) ?_ ?_
  ·
   rcases Bool.eq_false_or_eq_true (((z22.Name == []) || (decide (64 < ((z22.Name).length:Int))))) with hB29 | hB29
   ·
    refine ah.bool hB29 ?_
    refine ah.no rfl rfl ?_
    refine ah.no rfl rfl ?_
    refine ah.no rfl rfl ?_
    refine ah.no rfl rfl ?_
    refine ah.val rfl (ay (b:=true) rfl rfl) rfl ?_
    exact ah.nil ⟨_,rfl,(aa.put (aa.push rfl (aa.push rfl (aa.push rfl (aa.push rfl (aa.put (.refl _) (Less.eq (by rw [hB29]))))))) (Less.eq (by rw [hB29]; rw [Bool.true_or])))⟩
   refine ah.bool hB29 ?_
   refine ah.val rfl (aj rfl FU kI rfl) rfl ?_
   refine ah.val rfl (av H27 (i:=0) rfl rfl (aA j5 rfl)) rfl ?_
   refine ah.val rfl (gJ rfl (gV zU) rfl) rfl ?_
   refine ah.val rfl (au rfl rfl fJ) rfl ?_
   refine ah.val rfl (ay (b:=false) rfl rfl) rfl ?_
   exact ah.nil ⟨_,rfl,(aa.put (aa.push rfl (aa.push rfl (aa.push rfl (aa.push rfl (aa.put (.refl _) (Less.eq (by rw [hB29]))))))) (Less.eq (by rw [hB29]; rw [Bool.false_or])))⟩
  refine ah.val rfl (ae rfl) rfl ?_
  obtain ⟨z31,hzz31,h⟩:=bind_some h
  refine ah.aZ 7 64 (.d (.bool z31)) ?_ ?_
  ·
   rcases Bool.eq_false_or_eq_true ((((z22.Name == []) || (decide (64 < ((z22.Name).length:Int)))) || (decide (64 < ((z22.Value).length:Int))))) with hB30 | hB30
   ·
    refine ah.bool hB30 ?_
    refine ah.no rfl rfl ?_
    refine ah.no rfl rfl ?_
    refine ah.no rfl rfl ?_
    refine ah.no rfl rfl ?_
    refine ah.no rfl rfl ?_
    refine ah.no rfl rfl ?_
    refine ah.val rfl (ay (b:=true) rfl rfl) rfl ?_
    replace hzz31:=bO hB30 hzz31
    cases hzz31
    exact ah.nil ⟨_,rfl,(aa.put (aa.push rfl (aa.push rfl (aa.push rfl (aa.push rfl (aa.push rfl (aa.push rfl (aa.put (.refl _) (Less.eq (by rw [hB30]))))))))) (.refl _))⟩
   refine ah.bool hB30 ?_
   replace hzz31:=bQ hB30 hzz31
   refine ah.val rfl (aj rfl oK tK rfl) rfl ?_
   refine ah.val rfl (av H27 (i:=1) rfl rfl (aA ve rfl)) rfl ?_
   refine ah.val rfl (ae rfl) rfl ?_
   obtain ⟨z32,hzz32,hzz31⟩:=bind_some hzz31
   refine ah.val rfl (kR rfl rfl zx JD (fun z=>(Attr.len z).trans pG.symm) hzz32) rfl ?_
   refine ah.val rfl (ae rfl) rfl ?_
   obtain ⟨z34,hzz34,hzz31⟩:=bind_some hzz31
   refine ah.ret rfl (aC rfl rfl) (fT.xZ (iV E n S26 _ _ _ (fun y33=>gI n y33 z22) (fun S' hk hw y33 r hr=>rD E n y33 z22 S' _ (hk.H _ _ (H27.at (i:=0) rfl)) r hr) _ hzz34) (.cons (.refl _) (.cons (.refl _) .nil))) rfl ?_
   refine ah.val rfl (ay (b:=false) rfl rfl) rfl ?_
   cases hzz31
   exact ah.nil ⟨_,rfl,(aa.put (aa.push rfl (aa.push rfl (aa.push rfl (aa.push rfl (aa.push rfl (aa.push rfl (aa.put (.refl _) (Less.eq (by rw [hB30]))))))))) (.refl _))⟩
  refine ah.nil ?_
  refine ax.cond rfl (fun hb35=>?_) (fun hb35=>?_)
  ·
   replace h:=bO hb35 h
   refine ax.seq ?_
   refine ax.region E.obj rfl ?_
   refine ah.val rfl (ai rfl) rfl ?_
   refine ah.nil ?_
   have hr:=Option.some.inj h
   subst hr
   exact ax.ret ⟨_,rfl,rfl,gL (aF.eq .nil)⟩
  replace h:=bQ hb35 h
  refine ax.skip ?_
  refine ax.region E.obj rfl ?_
  refine ah.val rfl (au rfl rfl bq) rfl ?_
  refine ah.val rfl (ae rfl) rfl ?_
  refine ah.nil ?_
  exact ⟨(IntKind.wrap .i64 (x19 + 1)),_,_,S26,.refl _ _,.refl _,(aa.r rfl (aa.r rfl (aa.r rfl (aa.r rfl aa.nil)))),H27.sl [1] rfl rfl,h⟩
 replace h:=bQ hb21 h
 refine ax.exit ?_
 refine ax.seq ?_
 refine ax.region E.obj rfl ?_
 refine ah.val rfl (ai rfl) rfl ?_
 refine ah.nil ?_
 have hr:=Option.some.inj h
 subst hr
 exact ax.ret ⟨_,rfl,rfl,gL (aF.eq .nil)⟩
set_option maxRecDepth 20000 in
set_option maxHeartbeats 4000000 in
theorem qo:∀ (n:Nat) (a1:Tree) (r:Bool),fC n a1=some r→di R cfg.P 45 [(az a1)] (.d (.bool r))
 | 0,a1,r,h=>by simp [fC] at h
 | n + 1,a1,r,h=>by
  have ih:=qo n
  unfold fC at h
  refine di.of_wp E.obj.toObjOk (C:=cfg) Tryd.func45 rfl Ju rfl ?_
  have H0:Has aI aI []:=Has.pure
  refine ax.seq ?_
  refine ax.region E.obj rfl ?_
  refine ah.box H0 rfl rfl rfl (Tree.bD _) rfl (fun b2 S3 H4=>?_)
  refine ah.val rfl (ai rfl) rfl ?_
  refine ah.nil ?_
  refine ax.seq ?_
  refine ax.seq ?_
  refine ax.region E.obj rfl ?_
  refine ah.val rfl (aj rfl mY kI rfl) rfl ?_
  refine ah.val rfl (av H4 (i:=0) rfl rfl (aA j5 rfl)) rfl ?_
  refine ah.val rfl (au rfl rfl gG) rfl ?_
  refine ah.nil ?_
  refine ax.cond rfl (fun hb5=>?_) (fun hb5=>?_)
  ·
   replace h:=bO hb5 h
   refine ax.seq ?_
   refine ax.region E.obj rfl ?_
   refine ah.val rfl (aj rfl mh kI rfl) rfl ?_
   refine ah.val rfl (av H4 (i:=0) rfl rfl (aA j5 rfl)) rfl ?_
   refine ah.val rfl (au rfl rfl gG) rfl ?_
   refine ah.val rfl (ae rfl) rfl ?_
   refine ah.aZ 5 16 (.d (.bool ((a1.Key == []) && (((a1.aH).length:Int) == 0)))) ?_ ?_
   ·
    rcases Bool.eq_false_or_eq_true ((a1.Key == [])) with hB6 | hB6
    ·
     refine ah.bool hB6 ?_
     refine ah.val rfl (aj rfl oK tK rfl) rfl ?_
     refine ah.val rfl (av H4 (i:=0) rfl rfl (aA ve rfl)) rfl ?_
     refine ah.val rfl (aO rfl xH) rfl ?_
     refine ah.val rfl (au rfl rfl aU) rfl ?_
     refine ah.val rfl (ay (b:=true) rfl rfl) rfl ?_
     exact ah.nil ⟨_,rfl,(aa.put (aa.push rfl (aa.push rfl (aa.push rfl (aa.push rfl (aa.put (.refl _) (Less.eq (by rw [hB6]))))))) (Less.eq (by rw [hB6]; rw [Bool.true_and])))⟩
    refine ah.bool hB6 ?_
    refine ah.no rfl rfl ?_
    refine ah.no rfl rfl ?_
    refine ah.no rfl rfl ?_
    refine ah.no rfl rfl ?_
    refine ah.val rfl (ay (b:=false) rfl rfl) rfl ?_
    exact ah.nil ⟨_,rfl,(aa.put (aa.push rfl (aa.push rfl (aa.push rfl (aa.push rfl (aa.put (.refl _) (Less.eq (by rw [hB6]))))))) (Less.eq (by rw [hB6]; rw [Bool.false_and])))⟩
   refine ah.val rfl (ae rfl) rfl ?_
   refine ah.aZ 5 22 (.d (.bool (((a1.Key == []) && (((a1.aH).length:Int) == 0)) && (((a1.Kids).length:Int) == 0)))) ?_ ?_
   ·
    rcases Bool.eq_false_or_eq_true (((a1.Key == []) && (((a1.aH).length:Int) == 0))) with hB7 | hB7
    ·
     refine ah.bool hB7 ?_
     refine ah.val rfl (aj rfl j3 sK rfl) rfl ?_
     refine ah.val rfl (av H4 (i:=0) rfl rfl (aA sZ rfl)) rfl ?_
     refine ah.val rfl (aO rfl pO) rfl ?_
     refine ah.val rfl (au rfl rfl aU) rfl ?_
     refine ah.val rfl (ay (b:=true) rfl rfl) rfl ?_
     exact ah.nil ⟨_,rfl,(aa.put (aa.push rfl (aa.push rfl (aa.push rfl (aa.push rfl (aa.put (.refl _) (Less.eq (by rw [hB7]))))))) (Less.eq (by rw [hB7]; rw [Bool.true_and])))⟩
    refine ah.bool hB7 ?_
    refine ah.no rfl rfl ?_
    refine ah.no rfl rfl ?_
    refine ah.no rfl rfl ?_
    refine ah.no rfl rfl ?_
    refine ah.val rfl (ay (b:=false) rfl rfl) rfl ?_
    exact ah.nil ⟨_,rfl,(aa.put (aa.push rfl (aa.push rfl (aa.push rfl (aa.push rfl (aa.put (.refl _) (Less.eq (by rw [hB7]))))))) (Less.eq (by rw [hB7]; rw [Bool.false_and])))⟩
   refine ah.val rfl (ae rfl) rfl ?_
   refine ah.aZ 5 28 (.d (.bool ((((a1.Key == []) && (((a1.aH).length:Int) == 0)) && (((a1.Kids).length:Int) == 0)) && (decide (((a1.Text).length:Int) ≤ 64))))) ?_ ?_
   ·
    rcases Bool.eq_false_or_eq_true ((((a1.Key == []) && (((a1.aH).length:Int) == 0)) && (((a1.Kids).length:Int) == 0))) with hB8 | hB8
    ·
     refine ah.bool hB8 ?_
     refine ah.val rfl (aj rfl tC kI rfl) rfl ?_
     refine ah.val rfl (av H4 (i:=0) rfl rfl (aA j5 rfl)) rfl ?_
     refine ah.val rfl (gJ rfl (gV zU) rfl) rfl ?_
     refine ah.val rfl (au rfl rfl iG) rfl ?_
     refine ah.val rfl (ay (b:=true) rfl rfl) rfl ?_
     exact ah.nil ⟨_,rfl,(aa.put (aa.push rfl (aa.push rfl (aa.push rfl (aa.push rfl (aa.put (.refl _) (Less.eq (by rw [hB8]))))))) (Less.eq (by rw [hB8]; rw [Bool.true_and])))⟩
    refine ah.bool hB8 ?_
    refine ah.no rfl rfl ?_
    refine ah.no rfl rfl ?_
    refine ah.no rfl rfl ?_
    refine ah.no rfl rfl ?_
    refine ah.val rfl (ay (b:=false) rfl rfl) rfl ?_
    exact ah.nil ⟨_,rfl,(aa.put (aa.push rfl (aa.push rfl (aa.push rfl (aa.push rfl (aa.put (.refl _) (Less.eq (by rw [hB8]))))))) (Less.eq (by rw [hB8]; rw [Bool.false_and])))⟩
   refine ah.val rfl (ai rfl) rfl ?_
   refine ah.nil ?_
   have hr:=Option.some.inj h
   subst hr
   exact ax.ret ⟨_,rfl,rfl,gL (aF.eq .nil)⟩
  replace h:=bQ hb5 h
  refine ax.skip ?_
  refine ax.seq ?_
  refine ax.seq ?_
  refine ax.region E.obj rfl ?_
  refine ah.val rfl (av H4 (i:=0) rfl rfl (aW iq dO rfl)) rfl ?_
  refine ah.less (Less.agg' (d:=az a1) (ak.eq rfl (ak.eq rfl (ak.eq rfl (ak.eq rfl (ak.eq rfl .nil))))) ((Tree.eq _).trans rfl)) ?_
  obtain ⟨z9,hzz9,h⟩:=bind_some h
  refine ah.ret rfl (aC rfl rfl) (tF E _ _ _ hzz9 _ _ (aF.eq .nil)) rfl ?_
  refine ah.val rfl (dW rfl) rfl ?_
  refine ah.nil ?_
  refine ax.cond rfl (fun hb10=>?_) (fun hb10=>?_)
  ·
   replace h:=bO hb10 h
   refine ax.seq ?_
   refine ax.region E.obj rfl ?_
   refine ah.val rfl (ai rfl) rfl ?_
   refine ah.nil ?_
   have hr:=Option.some.inj h
   subst hr
   exact ax.ret ⟨_,rfl,rfl,gL (aF.eq .nil)⟩
  replace h:=bQ hb10 h
  refine ax.skip ?_
  refine ax.seq ?_
  refine ax.seq ?_
  refine ax.region E.obj rfl ?_
  refine ah.val rfl (aj rfl j3 sK rfl) rfl ?_
  refine ah.val rfl (av H4 (i:=0) rfl rfl (aA sZ rfl)) rfl ?_
  refine ah.val rfl (aO rfl pO) rfl ?_
  refine ah.val rfl (ae rfl) rfl ?_
  refine ah.nil ?_
  refine ax.block ?_
  refine lV.start (B:=aI) (α:=Int) (fun k a=>dM (fC n) a1 k a=some r) (fun a=>[(33,(.d (.sl ((a1.Kids).map az) false))),(34,(.d (.int .i64 ((a1.Kids).length:Int)))),(35,(.d (.int .i64 a)))]) (fun a=>[]) ?_ ?_ n ⟨0,_,_,S3,.refl _ _,.refl _,(aa.r rfl (aa.r rfl (aa.r rfl aa.nil))),H4.sl [] rfl rfl,h⟩
  ·
   intro a h; simp [dM] at h
  intro k19 x18 S16 H17 h
  replace h:dM (fC n) a1 (k19 + 1) x18=some r:=h
  replace H17:Has aI S16 []:=H17
  unfold dM at h
  refine ax.seq ?_
  refine ax.region E.obj rfl ?_
  refine ah.val rfl (au rfl rfl bJ) rfl ?_
  refine ah.nil ?_
  refine ax.seq ?_
  refine ax.cond rfl (fun hb20=>?_) (fun hb20=>?_)
  ·
   replace h:=bO hb20 h
   refine ax.skip ?_
   refine ax.seq ?_
   refine ax.block ?_
   refine ax.seq ?_
   refine ax.region E.obj rfl ?_
   obtain ⟨z21,hzz21,h⟩:=bind_some h
   refine ah.val rfl (bA rfl rfl (cZ (enc:=az) hzz21 jI jY ((Tree.len _).trans dO.symm))) rfl ?_
   refine ah.val rfl (aV rfl (Tree.ib iq dO)) rfl ?_
   refine ah.alloc H17 rfl uf iA rfl rfl (fun b22 S23 H24=>?_)
   refine ah.store H24 (i:=0) rfl rfl rfl rfl (Tree.bD _) rfl dO rfl jY rfl rfl rfl (fun S25 H26=>?_)
   refine ah.nil ?_
   refine ax.seq ?_
   refine ax.region E.obj rfl ?_
   refine ah.val rfl (av H26 (i:=0) rfl rfl (aW iq dO rfl)) rfl ?_
   refine ah.less (Less.agg' (d:=az z21) (ak.eq rfl (ak.eq rfl (ak.eq rfl (ak.eq rfl (ak.eq rfl .nil))))) ((Tree.eq _).trans rfl)) ?_
   obtain ⟨z27,hzz27,h⟩:=bind_some h
   refine ah.ret rfl (aC rfl rfl) (ih _ _ hzz27 _ _ (aF.eq .nil)) rfl ?_
   refine ah.val rfl (dW rfl) rfl ?_
   refine ah.nil ?_
   refine ax.cond rfl (fun hb28=>?_) (fun hb28=>?_)
   ·
    replace h:=bO hb28 h
    refine ax.seq ?_
    refine ax.region E.obj rfl ?_
    refine ah.val rfl (ai rfl) rfl ?_
    refine ah.nil ?_
    have hr:=Option.some.inj h
    subst hr
    exact ax.ret ⟨_,rfl,rfl,gL (aF.eq .nil)⟩
   replace h:=bQ hb28 h
   refine ax.skip ?_
   refine ax.region E.obj rfl ?_
   refine ah.val rfl (au rfl rfl bq) rfl ?_
   refine ah.val rfl (ae rfl) rfl ?_
   refine ah.nil ?_
   exact ⟨(IntKind.wrap .i64 (x18 + 1)),_,_,S25,.refl _ _,.refl _,(aa.r rfl (aa.r rfl (aa.r rfl aa.nil))),H26.sl [] rfl rfl,h⟩
  replace h:=bQ hb20 h
  refine ax.exit ?_
  refine ax.seq ?_
  refine ax.region E.obj rfl ?_
  refine ah.val rfl (ai rfl) rfl ?_
  refine ah.nil ?_
  have hr:=Option.some.inj h
  subst hr
  exact ax.ret ⟨_,rfl,rfl,gL (aF.eq .nil)⟩
set_option maxRecDepth 20000 in
set_option maxHeartbeats 4000000 in
theorem qg:∀ (n:Nat) (a1:Tree) (r:Int),gB n a1=some r→di R cfg.P 46 [(az a1)] (.d (.int .i64 r))
 | 0,a1,r,h=>by simp [gB] at h
 | n + 1,a1,r,h=>by
  have ih:=qg n
  unfold gB at h
  refine di.of_wp E.obj.toObjOk (C:=cfg) Tryd.func46 rfl Kb rfl ?_
  have H0:Has aI aI []:=Has.pure
  refine ax.seq ?_
  refine ax.region E.obj rfl ?_
  refine ah.box H0 rfl rfl rfl (Tree.bD _) rfl (fun b2 S3 H4=>?_)
  refine ah.val rfl (ai rfl) rfl ?_
  refine ah.nil ?_
  refine ax.seq ?_
  refine ax.region E.obj rfl ?_
  refine ah.val rfl (ai rfl) rfl ?_
  refine ah.nil ?_
  refine ax.seq ?_
  refine ax.seq ?_
  refine ax.region E.obj rfl ?_
  refine ah.val rfl (aj rfl j3 sK rfl) rfl ?_
  refine ah.val rfl (av H4 (i:=0) rfl rfl (aA sZ rfl)) rfl ?_
  refine ah.val rfl (aO rfl pO) rfl ?_
  refine ah.val rfl (ae rfl) rfl ?_
  refine ah.nil ?_
  refine ax.block ?_
  refine lV.start (B:=aI) (α:=Int × Int) (fun k a=>fA (gB n) a1 k a.1 a.2=some r) (fun a=>[(3,(.d (.int .i64 a.1))),(7,(.d (.sl ((a1.Kids).map az) false))),(8,(.d (.int .i64 ((a1.Kids).length:Int)))),(9,(.d (.int .i64 a.2)))]) (fun a=>[]) ?_ ?_ n ⟨⟨1,0⟩,_,_,S3,.refl _ _,.refl _,(aa.r rfl (aa.r rfl (aa.r rfl (aa.r rfl aa.nil)))),H4.sl [] rfl rfl,h⟩
  ·
   intro a h; simp [fA] at h
  intro k15 a S11 H12 h
  obtain ⟨x13,x14⟩:=a
  replace h:fA (gB n) a1 (k15 + 1) x13 x14=some r:=h
  replace H12:Has aI S11 []:=H12
  unfold fA at h
  refine ax.seq ?_
  refine ax.region E.obj rfl ?_
  refine ah.val rfl (au rfl rfl bJ) rfl ?_
  refine ah.nil ?_
  refine ax.seq ?_
  refine ax.cond rfl (fun hb16=>?_) (fun hb16=>?_)
  ·
   replace h:=bO hb16 h
   refine ax.skip ?_
   refine ax.seq ?_
   refine ax.block ?_
   refine ax.seq ?_
   refine ax.region E.obj rfl ?_
   obtain ⟨z17,hzz17,h⟩:=bind_some h
   refine ah.val rfl (bA rfl rfl (cZ (enc:=az) hzz17 jI jY ((Tree.len _).trans dO.symm))) rfl ?_
   refine ah.val rfl (aV rfl (Tree.ib iq dO)) rfl ?_
   refine ah.alloc H12 rfl uf iA rfl rfl (fun b18 S19 H20=>?_)
   refine ah.store H20 (i:=0) rfl rfl rfl rfl (Tree.bD _) rfl dO rfl jY rfl rfl rfl (fun S21 H22=>?_)
   refine ah.nil ?_
   refine ax.region E.obj rfl ?_
   refine ah.val rfl (ae rfl) rfl ?_
   refine ah.val rfl (av H22 (i:=0) rfl rfl (aW iq dO rfl)) rfl ?_
   refine ah.less (Less.agg' (d:=az z17) (ak.eq rfl (ak.eq rfl (ak.eq rfl (ak.eq rfl (ak.eq rfl .nil))))) ((Tree.eq _).trans rfl)) ?_
   obtain ⟨z23,hzz23,h⟩:=bind_some h
   refine ah.ret rfl (aC rfl rfl) (ih _ _ hzz23 _ _ (aF.eq .nil)) rfl ?_
   refine ah.val rfl (au rfl rfl bq) rfl ?_
   refine ah.val rfl (ai rfl) rfl ?_
   refine ah.nil ?_
   refine ax.region E.obj rfl ?_
   refine ah.val rfl (au rfl rfl bq) rfl ?_
   refine ah.val rfl (ae rfl) rfl ?_
   refine ah.nil ?_
   exact ⟨⟨(IntKind.wrap .i64 (x13 + z23)),(IntKind.wrap .i64 (x14 + 1))⟩,_,_,S21,.refl _ _,.refl _,(aa.r rfl (aa.r rfl (aa.r rfl (aa.r rfl aa.nil)))),H22.sl [] rfl rfl,h⟩
  replace h:=bQ hb16 h
  refine ax.exit ?_
  refine ax.seq ?_
  refine ax.region E.obj rfl ?_
  refine ah.val rfl (ae rfl) rfl ?_
  refine ah.val rfl (ai rfl) rfl ?_
  refine ah.nil ?_
  have hr:=Option.some.inj h
  subst hr
  exact ax.ret ⟨_,rfl,rfl,gL (aF.eq .nil)⟩
set_option maxRecDepth 20000 in
set_option maxHeartbeats 4000000 in
theorem qR:∀ (n:Nat) (a1:Tree) (r:Int),ic n a1=some r→di R cfg.P 47 [(az a1)] (.d (.int .i64 r))
 | 0,a1,r,h=>by simp [ic] at h
 | n + 1,a1,r,h=>by
  have ih:=qR n
  unfold ic at h
  refine di.of_wp E.obj.toObjOk (C:=cfg) Tryd.func47 rfl JM rfl ?_
  have H0:Has aI aI []:=Has.pure
  refine ax.seq ?_
  refine ax.region E.obj rfl ?_
  refine ah.box H0 rfl rfl rfl (Tree.bD _) rfl (fun b2 S3 H4=>?_)
  refine ah.val rfl (ai rfl) rfl ?_
  refine ah.nil ?_
  refine ax.seq ?_
  refine ax.region E.obj rfl ?_
  refine ah.val rfl (ai rfl) rfl ?_
  refine ah.nil ?_
  refine ax.seq ?_
  refine ax.seq ?_
  refine ax.region E.obj rfl ?_
  refine ah.val rfl (aj rfl j3 sK rfl) rfl ?_
  refine ah.val rfl (av H4 (i:=0) rfl rfl (aA sZ rfl)) rfl ?_
  refine ah.val rfl (aO rfl pO) rfl ?_
  refine ah.val rfl (ae rfl) rfl ?_
  refine ah.nil ?_
  refine ax.block ?_
  refine lV.start (B:=aI) (α:=Int × Int) (fun k a=>fG (ic n) a1 k a.1 a.2=some r) (fun a=>[(3,(.d (.int .i64 a.1))),(7,(.d (.sl ((a1.Kids).map az) false))),(8,(.d (.int .i64 ((a1.Kids).length:Int)))),(9,(.d (.int .i64 a.2)))]) (fun a=>[]) ?_ ?_ n ⟨⟨0,0⟩,_,_,S3,.refl _ _,.refl _,(aa.r rfl (aa.r rfl (aa.r rfl (aa.r rfl aa.nil)))),H4.sl [] rfl rfl,h⟩
  ·
   intro a h; simp [fG] at h
  intro k15 a S11 H12 h
  obtain ⟨x13,x14⟩:=a
  replace h:fG (ic n) a1 (k15 + 1) x13 x14=some r:=h
  replace H12:Has aI S11 []:=H12
  unfold fG at h
  refine ax.seq ?_
  refine ax.region E.obj rfl ?_
  refine ah.val rfl (au rfl rfl bJ) rfl ?_
  refine ah.nil ?_
  refine ax.seq ?_
  refine ax.cond rfl (fun hb16=>?_) (fun hb16=>?_)
  ·
   replace h:=bO hb16 h
   refine ax.skip ?_
   refine ax.seq ?_
   refine ax.block ?_
   refine ax.seq ?_
   refine ax.region E.obj rfl ?_
   obtain ⟨z17,hzz17,h⟩:=bind_some h
   refine ah.val rfl (bA rfl rfl (cZ (enc:=az) hzz17 jI jY ((Tree.len _).trans dO.symm))) rfl ?_
   refine ah.val rfl (aV rfl (Tree.ib iq dO)) rfl ?_
   refine ah.alloc H12 rfl uf iA rfl rfl (fun b18 S19 H20=>?_)
   refine ah.store H20 (i:=0) rfl rfl rfl rfl (Tree.bD _) rfl dO rfl jY rfl rfl rfl (fun S21 H22=>?_)
   refine ah.nil ?_
   refine ax.region E.obj rfl ?_
   refine ah.val rfl (ae rfl) rfl ?_
   refine ah.val rfl (av H22 (i:=0) rfl rfl (aW iq dO rfl)) rfl ?_
   refine ah.less (Less.agg' (d:=az z17) (ak.eq rfl (ak.eq rfl (ak.eq rfl (ak.eq rfl (ak.eq rfl .nil))))) ((Tree.eq _).trans rfl)) ?_
   obtain ⟨z23,hzz23,h⟩:=bind_some h
   refine ah.ret rfl (aC rfl rfl) (ih _ _ hzz23 _ _ (aF.eq .nil)) rfl ?_
   refine ah.val rfl (p9 rfl rfl) rfl ?_
   refine ah.val rfl (ai rfl) rfl ?_
   refine ah.nil ?_
   refine ax.region E.obj rfl ?_
   refine ah.val rfl (au rfl rfl bq) rfl ?_
   refine ah.val rfl (ae rfl) rfl ?_
   refine ah.nil ?_
   exact ⟨⟨(lQ x13 z23),(IntKind.wrap .i64 (x14 + 1))⟩,_,_,S21,.refl _ _,.refl _,(aa.r rfl (aa.r rfl (aa.r rfl (aa.r rfl aa.nil)))),H22.sl [] rfl rfl,h⟩
  replace h:=bQ hb16 h
  refine ax.exit ?_
  refine ax.seq ?_
  refine ax.region E.obj rfl ?_
  refine ah.val rfl (ae rfl) rfl ?_
  refine ah.val rfl (au rfl rfl bq) rfl ?_
  refine ah.val rfl (ai rfl) rfl ?_
  refine ah.nil ?_
  have hr:=Option.some.inj h
  subst hr
  exact ax.ret ⟨_,rfl,rfl,gL (aF.eq .nil)⟩
set_option maxRecDepth 20000 in
set_option maxHeartbeats 4000000 in
theorem vY (n:Nat) (a1:Tree) (r:Bool) (h:iy n a1=some r):di R cfg.P 21 [(az a1)] (.d (.bool r)):=by
 unfold iy at h
 refine di.of_wp E.obj.toObjOk (C:=cfg) Tryd.func21 rfl Kv rfl ?_
 have H0:Has aI aI []:=Has.pure
 refine ax.seq ?_
 refine ax.region E.obj rfl ?_
 refine ah.box H0 rfl rfl rfl (Tree.bD _) rfl (fun b2 S3 H4=>?_)
 refine ah.val rfl (ai rfl) rfl ?_
 refine ah.nil ?_
 refine ax.seq ?_
 refine ax.region E.obj rfl ?_
 refine ah.val rfl (av H4 (i:=0) rfl rfl (aW iq dO rfl)) rfl ?_
 refine ah.less (Less.agg' (d:=az a1) (ak.eq rfl (ak.eq rfl (ak.eq rfl (ak.eq rfl (ak.eq rfl .nil))))) ((Tree.eq _).trans rfl)) ?_
 obtain ⟨z5,hzz5,h⟩:=bind_some h
 refine ah.ret rfl (aC rfl rfl) (qo E _ _ _ hzz5 _ _ (aF.eq .nil)) rfl ?_
 refine ah.val rfl (ae rfl) rfl ?_
 obtain ⟨z7,hzz7,h⟩:=bind_some h
 refine ah.aZ 4 9 (.d (.bool z7)) ?_ ?_
 ·
  rcases Bool.eq_false_or_eq_true (z5) with hB6 | hB6
  ·
   refine ah.bool hB6 ?_
   replace hzz7:=bO hB6 hzz7
   refine ah.val rfl (av H4 (i:=0) rfl rfl (aW iq dO rfl)) rfl ?_
   refine ah.less (Less.agg' (d:=az a1) (ak.eq rfl (ak.eq rfl (ak.eq rfl (ak.eq rfl (ak.eq rfl .nil))))) ((Tree.eq _).trans rfl)) ?_
   obtain ⟨z8,hzz8,hzz7⟩:=bind_some hzz7
   refine ah.ret rfl (aC rfl rfl) (qg E _ _ _ hzz8 _ _ (aF.eq .nil)) rfl ?_
   refine ah.val rfl (au rfl rfl iG) rfl ?_
   refine ah.val rfl (ay (b:=true) rfl rfl) rfl ?_
   cases hzz7
   exact ah.nil ⟨_,rfl,(aa.put (aa.push rfl (aa.push rfl (aa.push rfl (aa.put (.refl _) (Less.eq (by rw [hB6])))))) (.refl _))⟩
  refine ah.bool hB6 ?_
  refine ah.no rfl rfl ?_
  refine ah.no rfl rfl ?_
  refine ah.no rfl rfl ?_
  refine ah.val rfl (ay (b:=false) rfl rfl) rfl ?_
  replace hzz7:=bQ hB6 hzz7
  cases hzz7
  exact ah.nil ⟨_,rfl,(aa.put (aa.push rfl (aa.push rfl (aa.push rfl (aa.put (.refl _) (Less.eq (by rw [hB6])))))) (.refl _))⟩
 refine ah.val rfl (ae rfl) rfl ?_
 obtain ⟨z10,hzz10,h⟩:=bind_some h
 refine ah.aZ 4 14 (.d (.bool z10)) ?_ ?_
 ·
  rcases Bool.eq_false_or_eq_true (z7) with hB9 | hB9
  ·
   refine ah.bool hB9 ?_
   replace hzz10:=bO hB9 hzz10
   refine ah.val rfl (av H4 (i:=0) rfl rfl (aW iq dO rfl)) rfl ?_
   refine ah.less (Less.agg' (d:=az a1) (ak.eq rfl (ak.eq rfl (ak.eq rfl (ak.eq rfl (ak.eq rfl .nil))))) ((Tree.eq _).trans rfl)) ?_
   obtain ⟨z11,hzz11,hzz10⟩:=bind_some hzz10
   refine ah.ret rfl (aC rfl rfl) (qR E _ _ _ hzz11 _ _ (aF.eq .nil)) rfl ?_
   refine ah.val rfl (au rfl rfl iG) rfl ?_
   refine ah.val rfl (ay (b:=true) rfl rfl) rfl ?_
   cases hzz10
   exact ah.nil ⟨_,rfl,(aa.put (aa.push rfl (aa.push rfl (aa.push rfl (aa.put (.refl _) (Less.eq (by rw [hB9])))))) (.refl _))⟩
  refine ah.bool hB9 ?_
  refine ah.no rfl rfl ?_
  refine ah.no rfl rfl ?_
  refine ah.no rfl rfl ?_
  refine ah.val rfl (ay (b:=false) rfl rfl) rfl ?_
  replace hzz10:=bQ hB9 hzz10
  cases hzz10
  exact ah.nil ⟨_,rfl,(aa.put (aa.push rfl (aa.push rfl (aa.push rfl (aa.put (.refl _) (Less.eq (by rw [hB9])))))) (.refl _))⟩
 refine ah.val rfl (ai rfl) rfl ?_
 refine ah.nil ?_
 have hr:=Option.some.inj h
 subst hr
 exact ax.ret ⟨_,rfl,rfl,gL (aF.eq .nil)⟩
theorem qJ (n:Nat) (a1:Int) (a2:Str) (a3:Int) (r:Option Unit) (h:q9 n a1 a2 a3=some r):iW R cfg.P 70 73 [.d (.int .i64 a1),.d (.str a2),.d (.int .i64 a3)] [] r (fun _ v l=>v=.tup []∧l=[]):=by
 unfold q9 at h
 split at h
 ·
  rename_i he
  subst he
  cases h
  refine iW.of_wp (C:=cfg) Tryd.func73 rfl Ky rfl (fun B0 S0 H0=>?_)
  refine ax.region E.obj rfl ?_
  refine ah.val rfl (ae rfl) rfl ?_
  refine ah.val rfl (ae rfl) rfl ?_
  refine ah.val rfl (ae rfl) rfl ?_
  refine ah.val rfl (bW (cs:=[.d (.int .i64 6),.d (.str a2),.d (.int .i64 a3)]) D9 rfl (qy) (eG rfl rfl rfl rfl (eG rfl rfl rfl rfl (eG rfl rfl rfl rfl rfl)))) rfl ?_
  refine ah.Ef (d:=tH a2 a3) rfl rfl Kz rfl ?_
  refine ah.panic (d:=tH a2 a3) rfl rfl ?_
  exact ⟨a2,a3,rfl,H0⟩
 ·
  cases h
set_option maxRecDepth 20000 in
set_option maxHeartbeats 4000000 in
theorem su (n:Nat) (a1:Bool) (a2:Int) (a3:Str) (a4:Int) (r:(Option Unit)) (h:uq n a1 a2 a3 a4=some r):iW R cfg.P 70 59 [.d (.bool a1),.d (.int .i64 a2),.d (.str a3),.d (.int .i64 a4)] [] r (fun r v l=>v=.tup []∧l=[]):=by
 unfold uq at h
 refine iW.of_wp (C:=cfg) Tryd.func59 rfl JW rfl (fun B0 S0 H0=>?_)
 replace H0:Has B0 S0 []:=H0
 refine ax.seq ?_
 refine ax.region E.obj rfl ?_
 refine ah.val rfl (ae rfl) rfl ?_
 refine ah.val rfl (dW rfl) rfl ?_
 refine ah.nil ?_
 refine ax.cond rfl (fun hb5=>?_) (fun hb5=>?_)
 ·
  replace h:=bO hb5 h
  refine ax.region E.obj rfl ?_
  refine ah.val rfl (ae rfl) rfl ?_
  refine ah.val rfl (ae rfl) rfl ?_
  refine ah.val rfl (ae rfl) rfl ?_
  obtain ⟨z6,hzz6,h⟩:=bind_some h
  rcases z6 with _ | x7
  ·
   replace h:=pE h
   subst h
   refine ah.thrown (ins:=[]) (more:=[]) rfl (H0.sl [] rfl rfl) rfl (aC rfl rfl) (qJ E n _ _ _ _ hzz6 ) (.cons (.refl _) (.cons (.refl _) (.cons (.refl _) .nil))) (fun _ _ S8 H9=>?_)
   exact ⟨_,_,rfl,H9.weaken (List.nil_sublist _)⟩
  replace h:=pK h
  refine ah.pI (ins:=[]) (more:=[]) (H0.sl [] rfl rfl) rfl (aC rfl rfl) (qJ E n _ _ _ _ hzz6 ) (.cons (.refl _) (.cons (.refl _) (.cons (.refl _) .nil))) rfl ?_
  rintro _ S10 _ ⟨rfl,rfl⟩ H11
  replace H11:Has B0 S10 []:=H11
  refine ah.nil ?_
  have hr:=Option.some.inj h
  subst hr
  exact ⟨_,rfl,rfl,_,_,_,.refl _,(.refl _),⟨rfl,rfl⟩,H11.sl [] rfl rfl⟩
 replace h:=bQ hb5 h
 refine ax.skip ?_
 have hr:=Option.some.inj h
 subst hr
 exact ⟨_,rfl,rfl,_,_,_,.refl _,(.refl _),⟨rfl,rfl⟩,H0.sl [] rfl rfl⟩
set_option maxRecDepth 20000 in
set_option maxHeartbeats 4000000 in
theorem fu (n:Nat) (a1:Bool) (a2:Str) (a3:Int) (r:(Option Unit)) (h:jw n a1 a2 a3=some r):iW R cfg.P 70 32 [.d (.bool a1),.d (.str a2),.d (.int .i64 a3)] [] r (fun r v l=>v=.tup []∧l=[]):=by
 unfold jw at h
 refine iW.of_wp (C:=cfg) Tryd.func32 rfl Jv rfl (fun B0 S0 H0=>?_)
 replace H0:Has B0 S0 []:=H0
 refine ax.region E.obj rfl ?_
 refine ah.val rfl (ae rfl) rfl ?_
 refine ah.val rfl (ae rfl) rfl ?_
 refine ah.val rfl (ae rfl) rfl ?_
 obtain ⟨z4,hzz4,h⟩:=bind_some h
 rcases z4 with _ | x5
 ·
  replace h:=pE h
  subst h
  refine ah.thrown (ins:=[]) (more:=[]) rfl (H0.sl [] rfl rfl) rfl (aC rfl rfl) (su E n _ _ _ _ _ hzz4 ) (.cons (.refl _) (.cons (.refl _) (.cons (.refl _) (.cons (.refl _) .nil)))) (fun _ _ S6 H7=>?_)
  exact ⟨_,_,rfl,H7.weaken (List.nil_sublist _)⟩
 replace h:=pK h
 refine ah.pI (ins:=[]) (more:=[]) (H0.sl [] rfl rfl) rfl (aC rfl rfl) (su E n _ _ _ _ _ hzz4 ) (.cons (.refl _) (.cons (.refl _) (.cons (.refl _) (.cons (.refl _) .nil)))) rfl ?_
 rintro _ S8 _ ⟨rfl,rfl⟩ H9
 replace H9:Has B0 S8 []:=H9
 refine ah.nil ?_
 have hr:=Option.some.inj h
 subst hr
 exact ⟨_,rfl,rfl,_,_,_,.refl _,(.refl _),⟨rfl,rfl⟩,H9.sl [] rfl rfl⟩
set_option maxRecDepth 20000 in
set_option maxHeartbeats 4000000 in
theorem gU (prow:aG→aT→Option (Option ((List Tree) × aG))) (hprow:∀ (x0:aG) (x1:aT) (r:Option ((List Tree) × aG)),prow x0 x1=some r→∀ (b:Nat),iW R cfg.P 70 31 [.ptr b 0 0,.d (aD x1)] [.box b [.d (.sl ((x0.state).map (D.int .i64)) false),.d (.sl ((x0.params).map aJ) false),.d (.int .i64 x0.steps)]] r (fun r v l=>v=.d (.sl ((r.1).map az) false)∧l=[.box b [.d (.sl ((r.2.state).map (D.int .i64)) false),.d (.sl ((r.2.params).map aJ) false),.d (.int .i64 r.2.steps)]])) (n:Nat) (a2:aG) (a3:(List aT)) (r:(Option ((List Tree) × aG))) (h:fD prow n a2 a3=some r) (b1:Nat):iW R cfg.P 70 54 [.ptr b1 0 0,.d (.sl ((a3).map aD) false)] [.box b1 [(.d (.sl ((a2.state).map (D.int .i64)) false)),(.d (.sl ((a2.params).map aJ) false)),(.d (.int .i64 a2.steps))]] r (fun r v l=>v=.d (.sl ((r.1).map az) false)∧l=[.box b1 [.d (.sl ((r.2.state).map (D.int .i64)) false),.d (.sl ((r.2.params).map aJ) false),.d (.int .i64 r.2.steps)]]):=by
 unfold fD at h
 refine iW.of_wp (C:=cfg) Tryd.func54 rfl Jm rfl (fun B0 S0 H0=>?_)
 replace H0:Has B0 S0 [.box b1 [(.d (.sl ((a2.state).map (D.int .i64)) false)),(.d (.sl ((a2.params).map aJ) false)),(.d (.int .i64 a2.steps))]]:=H0
 refine ax.seq ?_
 refine ax.region E.obj rfl ?_
 refine ah.val rfl (ai rfl) rfl ?_
 refine ah.nil ?_
 refine ax.seq ?_
 refine ax.region E.obj rfl ?_
 refine ah.val rfl (ai rfl) rfl ?_
 refine ah.nil ?_
 refine ax.seq ?_
 refine ax.seq ?_
 refine ax.region E.obj rfl ?_
 refine ah.val rfl (ae rfl) rfl ?_
 refine ah.val rfl (aO rfl w9) rfl ?_
 refine ah.val rfl (ae rfl) rfl ?_
 refine ah.nil ?_
 refine ax.block ?_
 have H40:=H0.Cn
 refine lV.start (B:=B0) (α:=(List Int) × (List dQ) × Int × (List Tree) × AV × Int) (fun k a=>dP prow a3 k a.1 a.2.1 a.2.2.1 a.2.2.2.1 a.2.2.2.2.2=some r) (fun a=>[(0,(.ptr b1 0 0)),(5,a.2.2.2.2.1),(8,(.d (.sl ((a3).map aD) false))),(9,(.d (.int .i64 ((a3).length:Int)))),(10,(.d (.int .i64 a.2.2.2.2.2)))]) (fun a=>[.box b1 [(.d (.sl ((a.1).map (D.int .i64)) false)),(.d (.sl ((a.2.1).map aJ) false)),(.d (.int .i64 a.2.2.1))],.grow a.2.2.2.2.1 ((a.2.2.2.1).map az)]) ?_ ?_ n ⟨⟨a2.state,a2.params,a2.steps,[],(.d .aY),0⟩,_,_,S0,.refl _ _,.refl _,(aa.r rfl (aa.r rfl (aa.r rfl (aa.r rfl (aa.r rfl aa.nil))))),H40.sl [1,0] rfl rfl,h⟩
 ·
  intro a h; simp [dP] at h
 intro k22 a S14 H15 h
 obtain ⟨x16,x17,x18,x19,v20,x21⟩:=a
 replace h:dP prow a3 (k22 + 1) x16 x17 x18 x19 x21=some r:=h
 replace H15:Has B0 S14 [.box b1 [(.d (.sl ((x16).map (D.int .i64)) false)),(.d (.sl ((x17).map aJ) false)),(.d (.int .i64 x18))],.grow v20 ((x19).map az)]:=H15
 unfold dP at h
 refine ax.seq ?_
 refine ax.region E.obj rfl ?_
 refine ah.val rfl (au rfl rfl bJ) rfl ?_
 refine ah.nil ?_
 refine ax.seq ?_
 refine ax.cond rfl (fun hb23=>?_) (fun hb23=>?_)
 ·
  replace h:=bO hb23 h
  refine ax.skip ?_
  refine ax.seq ?_
  refine ax.block ?_
  refine ax.seq ?_
  refine ax.region E.obj rfl ?_
  obtain ⟨z24,hzz24,h⟩:=bind_some h
  refine ah.val rfl (bA rfl rfl (cZ (enc:=aD) hzz24 qh mZ ((aT.len _).trans dY.symm))) rfl ?_
  refine ah.val rfl (aV rfl (aT.ib gY dY)) rfl ?_
  refine ah.alloc H15 rfl uB lC rfl rfl (fun b25 S26 H27=>?_)
  refine ah.store H27 (i:=0) rfl rfl rfl rfl (aT.bD _) rfl dY rfl mZ rfl rfl rfl (fun S28 H29=>?_)
  refine ah.nil ?_
  refine ax.region E.obj rfl ?_
  refine ah.val rfl (ae rfl) rfl ?_
  refine ah.val rfl (ae rfl) rfl ?_
  refine ah.val rfl (av H29 (i:=0) rfl rfl (aW gY dY rfl)) rfl ?_
  refine ah.less (Less.agg' (d:=aD z24) (ak.eq rfl (ak.eq rfl (ak.eq rfl (ak.eq rfl (ak.eq rfl (ak.eq rfl .nil)))))) ((aT.eq _).trans rfl)) ?_
  obtain ⟨z30,hzz30,h⟩:=bind_some h
  rcases z30 with _ | x31
  ·
   replace h:=pE h
   subst h
   refine ah.thrown (ins:=[.box b1 [(.d (.sl ((x16).map (D.int .i64)) false)),(.d (.sl ((x17).map aJ) false)),(.d (.int .i64 x18))]]) (more:=[.box b25 [(.d (.int .i64 z24.Kind)),(.d (.int .i64 z24.N)),(.d (.str z24.Tag)),(.d (.str z24.Text)),(.d (.sl ((z24.aH).map aB) false)),(.d (.sl ((z24.Kids).map aD) false))],.grow v20 ((x19).map az)]) rfl (H29.sl [1,0,2] rfl rfl) rfl (aC rfl rfl) (hprow _ _ _ hzz30 b1) (.cons (.refl _) (.cons (.refl _) .nil)) (fun _ _ S32 H33=>?_)
   exact ⟨_,_,rfl,H33.weaken (List.nil_sublist _)⟩
  replace h:=pK h
  refine ah.pI (ins:=[.box b1 [(.d (.sl ((x16).map (D.int .i64)) false)),(.d (.sl ((x17).map aJ) false)),(.d (.int .i64 x18))]]) (more:=[.box b25 [(.d (.int .i64 z24.Kind)),(.d (.int .i64 z24.N)),(.d (.str z24.Tag)),(.d (.str z24.Text)),(.d (.sl ((z24.aH).map aB) false)),(.d (.sl ((z24.Kids).map aD) false))],.grow v20 ((x19).map az)]) (H29.sl [1,0,2] rfl rfl) rfl (aC rfl rfl) (hprow _ _ _ hzz30 b1) (.cons (.refl _) (.cons (.refl _) .nil)) rfl ?_
  rintro _ S34 _ ⟨rfl,rfl⟩ H35
  replace H35:Has B0 S34 [.box b1 [(.d (.sl ((x31.2.state).map (D.int .i64)) false)),(.d (.sl ((x31.2.params).map aJ) false)),(.d (.int .i64 x31.2.steps))],.box b25 [(.d (.int .i64 z24.Kind)),(.d (.int .i64 z24.N)),(.d (.str z24.Tag)),(.d (.str z24.Text)),(.d (.sl ((z24.aH).map aB) false)),(.d (.sl ((z24.Kids).map aD) false))],.grow v20 ((x19).map az)]:=H35
  obtain ⟨z36,hzz36,h⟩:=bind_some h
  refine ah.append (xs:=(x19).map az) (ys:=(x31.1).map az) (zs:=(z36).map az) H35 rfl rfl rfl (i:=2) rfl rfl pz Gl jI (iL hzz36) Gp rfl (dK (enc:=az) (fun z=>(Tree.len z).trans dO.symm) _) (dK (enc:=az) (fun z=>(Tree.len z).trans dO.symm) _) Gs rfl (mM hzz36) (fun v37 S38 H39=>?_)
  refine ah.val rfl (ai rfl) rfl ?_
  refine ah.nil ?_
  refine ax.region E.obj rfl ?_
  refine ah.val rfl (au rfl rfl bq) rfl ?_
  refine ah.val rfl (ae rfl) rfl ?_
  refine ah.nil ?_
  exact ⟨⟨x31.2.state,x31.2.params,x31.2.steps,z36,v37,(IntKind.wrap .i64 (x21 + 1))⟩,_,_,S38,.refl _ _,.refl _,(aa.r rfl (aa.r rfl (aa.r rfl (aa.r rfl (aa.r rfl aa.nil))))),H39.sl [0,2] rfl rfl,h⟩
 replace h:=bQ hb23 h
 refine ax.exit ?_
 refine ax.seq ?_
 refine ax.region E.obj rfl ?_
 refine ah.val rfl (ae rfl) rfl ?_
 refine ah.val rfl (ai rfl) rfl ?_
 refine ah.nil ?_
 have hr:=Option.some.inj h
 subst hr
 exact ax.ret ⟨_,rfl,rfl,_,_,_,.refl _,(CK H15 (i:=1) rfl),⟨rfl,rfl⟩,H15.sl [0] rfl rfl⟩
set_option maxRecDepth 20000 in
set_option maxHeartbeats 4000000 in
theorem gp (n:Nat) (a2:aG) (a3:Int) (r:(Option Int)) (h:gH n a2 a3=some r) (b1:Nat):iW R cfg.P 70 56 [.ptr b1 0 0,.d (.int .i64 a3)] [.box b1 [(.d (.sl ((a2.state).map (D.int .i64)) false)),(.d (.sl ((a2.params).map aJ) false)),(.d (.int .i64 a2.steps))]] r (fun r v l=>v=.d (.int .i64 r)∧l=[.box b1 [.d (.sl ((a2.state).map (D.int .i64)) false),.d (.sl ((a2.params).map aJ) false),.d (.int .i64 a2.steps)]]):=by
 unfold gH at h
 refine iW.of_wp (C:=cfg) Tryd.func56 rfl JB rfl (fun B0 S0 H0=>?_)
 replace H0:Has B0 S0 [.box b1 [(.d (.sl ((a2.state).map (D.int .i64)) false)),(.d (.sl ((a2.params).map aJ) false)),(.d (.int .i64 a2.steps))]]:=H0
 refine ax.seq ?_
 refine ax.region E.obj rfl ?_
 refine ah.val rfl (ai rfl) rfl ?_
 refine ah.nil ?_
 refine ax.seq ?_
 refine ax.region E.obj rfl ?_
 refine ah.val rfl (ae rfl) rfl ?_
 refine ah.val rfl (au rfl rfl kz) rfl ?_
 refine ah.val rfl (ae rfl) rfl ?_
 refine ah.aZ 8 15 (.d (.bool ((decide (0 ≤ a3)) && (decide (a3 < ((a2.state).length:Int)))))) ?_ ?_
 ·
  rcases Bool.eq_false_or_eq_true ((decide (0 ≤ a3))) with hB4 | hB4
  ·
   refine ah.bool hB4 ?_
   refine ah.val rfl (ae rfl) rfl ?_
   refine ah.val rfl (ae rfl) rfl ?_
   refine ah.val rfl (eF rfl) rfl ?_
   refine ah.val rfl (aj rfl ED zf rfl) rfl ?_
   refine ah.val rfl (av H0 (i:=0) rfl rfl (aA y7 rfl)) rfl ?_
   refine ah.val rfl (aO rfl oF) rfl ?_
   refine ah.val rfl (au rfl rfl bJ) rfl ?_
   refine ah.val rfl (ay (b:=true) rfl rfl) rfl ?_
   exact ah.nil ⟨_,rfl,(aa.put (aa.push rfl (aa.push rfl (aa.push rfl (aa.push rfl (aa.push rfl (aa.push rfl (aa.push rfl (aa.put (.refl _) (Less.eq (by rw [hB4])))))))))) (Less.eq (by rw [hB4]; rw [Bool.true_and])))⟩
  refine ah.bool hB4 ?_
  refine ah.no rfl rfl ?_
  refine ah.no rfl rfl ?_
  refine ah.no rfl rfl ?_
  refine ah.no rfl rfl ?_
  refine ah.no rfl rfl ?_
  refine ah.no rfl rfl ?_
  refine ah.no rfl rfl ?_
  refine ah.val rfl (ay (b:=false) rfl rfl) rfl ?_
  exact ah.nil ⟨_,rfl,(aa.put (aa.push rfl (aa.push rfl (aa.push rfl (aa.push rfl (aa.push rfl (aa.push rfl (aa.push rfl (aa.put (.refl _) (Less.eq (by rw [hB4])))))))))) (Less.eq (by rw [hB4]; rw [Bool.false_and])))⟩
 refine ah.val rfl (ae rfl) rfl ?_
 obtain ⟨z5,hzz5,h⟩:=bind_some h
 rcases z5 with _ | x6
 ·
  replace h:=pE h
  subst h
  refine ah.thrown (ins:=[]) (more:=[.box b1 [(.d (.sl ((a2.state).map (D.int .i64)) false)),(.d (.sl ((a2.params).map aJ) false)),(.d (.int .i64 a2.steps))]]) rfl (H0.sl [0] rfl rfl) rfl (aC rfl rfl) (fu E n _ _ _ _ hzz5 ) (.cons (.refl _) (.cons (.refl _) (.cons (.refl _) .nil))) (fun _ _ S7 H8=>?_)
  exact ⟨_,_,rfl,H8.weaken (List.nil_sublist _)⟩
 replace h:=pK h
 refine ah.pI (ins:=[]) (more:=[.box b1 [(.d (.sl ((a2.state).map (D.int .i64)) false)),(.d (.sl ((a2.params).map aJ) false)),(.d (.int .i64 a2.steps))]]) (H0.sl [0] rfl rfl) rfl (aC rfl rfl) (fu E n _ _ _ _ hzz5 ) (.cons (.refl _) (.cons (.refl _) (.cons (.refl _) .nil))) rfl ?_
 rintro _ S9 _ ⟨rfl,rfl⟩ H10
 replace H10:Has B0 S9 [.box b1 [(.d (.sl ((a2.state).map (D.int .i64)) false)),(.d (.sl ((a2.params).map aJ) false)),(.d (.int .i64 a2.steps))]]:=H10
 refine ah.nil ?_
 refine ax.seq ?_
 refine ax.region E.obj rfl ?_
 refine ah.val rfl (ae rfl) rfl ?_
 refine ah.val rfl (eF rfl) rfl ?_
 refine ah.val rfl (aj rfl ED zf rfl) rfl ?_
 refine ah.val rfl (av H10 (i:=0) rfl rfl (aA y7 rfl)) rfl ?_
 refine ah.val rfl (ae rfl) rfl ?_
 obtain ⟨z11,hzz11,h⟩:=bind_some h
 refine ah.val rfl (bA rfl rfl (cZ (enc:=(D.int .i64)) hzz11 mH C9 (((fun _=>rfl) _).trans tu.symm))) rfl ?_
 refine ah.val rfl (aV rfl (fQ jL rfl)) rfl ?_
 refine ah.val rfl (ai rfl) rfl ?_
 refine ah.nil ?_
 have hr:=Option.some.inj h
 subst hr
 exact ax.ret ⟨_,rfl,rfl,_,_,_,.refl _,(.refl _),⟨rfl,rfl⟩,H10.sl [0] rfl rfl⟩
set_option maxRecDepth 20000 in
set_option maxHeartbeats 4000000 in
theorem nz (n:Nat) (a2:aG) (a3:Str) (r:(Option Str)) (h:jo n a2 a3=some r) (b1:Nat):iW R cfg.P 70 57 [.ptr b1 0 0,.d (.str a3)] [.box b1 [(.d (.sl ((a2.state).map (D.int .i64)) false)),(.d (.sl ((a2.params).map aJ) false)),(.d (.int .i64 a2.steps))]] r (fun r v l=>v=.d (.str r)∧l=[.box b1 [.d (.sl ((a2.state).map (D.int .i64)) false),.d (.sl ((a2.params).map aJ) false),.d (.int .i64 a2.steps)]]):=by
 unfold jo at h
 refine iW.of_wp (C:=cfg) Tryd.func57 rfl Ji rfl (fun B0 S0 H0=>?_)
 replace H0:Has B0 S0 [.box b1 [(.d (.sl ((a2.state).map (D.int .i64)) false)),(.d (.sl ((a2.params).map aJ) false)),(.d (.int .i64 a2.steps))]]:=H0
 refine ax.seq ?_
 refine ax.region E.obj rfl ?_
 refine ah.val rfl (ai rfl) rfl ?_
 refine ah.nil ?_
 refine ax.seq ?_
 refine ax.seq ?_
 refine ax.region E.obj rfl ?_
 refine ah.val rfl (ae rfl) rfl ?_
 refine ah.val rfl (eF rfl) rfl ?_
 refine ah.val rfl (aj rfl Ik JP rfl) rfl ?_
 refine ah.val rfl (av H0 (i:=0) rfl rfl (aA Jh rfl)) rfl ?_
 refine ah.val rfl (aO rfl Ij) rfl ?_
 refine ah.val rfl (ae rfl) rfl ?_
 refine ah.nil ?_
 refine ax.block ?_
 refine lV.start (B:=B0) (α:=Int) (fun k a=>dS n a2 a3 k a=some r) (fun a=>[(1,(.d (.str a3))),(10,(.d (.sl ((a2.params).map aJ) false))),(11,(.d (.int .i64 ((a2.params).length:Int)))),(12,(.d (.int .i64 a)))]) (fun a=>[.box b1 [(.d (.sl ((a2.state).map (D.int .i64)) false)),(.d (.sl ((a2.params).map aJ) false)),(.d (.int .i64 a2.steps))]]) ?_ ?_ n ⟨0,_,_,S0,.refl _ _,.refl _,(aa.r rfl (aa.r rfl (aa.r rfl (aa.r rfl aa.nil)))),H0.sl [0] rfl rfl,h⟩
 ·
  intro a h; simp [dS] at h
 intro k12 x11 S9 H10 h
 replace h:dS n a2 a3 (k12 + 1) x11=some r:=h
 replace H10:Has B0 S9 [.box b1 [(.d (.sl ((a2.state).map (D.int .i64)) false)),(.d (.sl ((a2.params).map aJ) false)),(.d (.int .i64 a2.steps))]]:=H10
 unfold dS at h
 refine ax.seq ?_
 refine ax.region E.obj rfl ?_
 refine ah.val rfl (au rfl rfl bJ) rfl ?_
 refine ah.nil ?_
 refine ax.seq ?_
 refine ax.cond rfl (fun hb13=>?_) (fun hb13=>?_)
 ·
  replace h:=bO hb13 h
  refine ax.skip ?_
  refine ax.seq ?_
  refine ax.block ?_
  refine ax.seq ?_
  refine ax.region E.obj rfl ?_
  obtain ⟨z14,hzz14,h⟩:=bind_some h
  refine ah.val rfl (bA rfl rfl (cZ (enc:=aJ) hzz14 EP Dz ((dQ.len _).trans sO.symm))) rfl ?_
  refine ah.val rfl (aV rfl (dQ.ib Fu sO)) rfl ?_
  refine ah.alloc H10 rfl GX G6 rfl rfl (fun b15 S16 H17=>?_)
  refine ah.store H17 (i:=0) rfl rfl rfl rfl (dQ.bD _) rfl sO rfl Dz rfl rfl rfl (fun S18 H19=>?_)
  refine ah.nil ?_
  refine ax.seq ?_
  refine ax.region E.obj rfl ?_
  refine ah.val rfl (aj rfl CQ kI rfl) rfl ?_
  refine ah.val rfl (av H19 (i:=0) rfl rfl (aA j5 rfl)) rfl ?_
  refine ah.val rfl (ae rfl) rfl ?_
  refine ah.val rfl (au rfl rfl gG) rfl ?_
  refine ah.nil ?_
  refine ax.cond rfl (fun hb20=>?_) (fun hb20=>?_)
  ·
   replace h:=bO hb20 h
   refine ax.seq ?_
   refine ax.region E.obj rfl ?_
   refine ah.val rfl (aj rfl Dc kI rfl) rfl ?_
   refine ah.val rfl (av H19 (i:=0) rfl rfl (aA j5 rfl)) rfl ?_
   refine ah.val rfl (ai rfl) rfl ?_
   refine ah.nil ?_
   have hr:=Option.some.inj h
   subst hr
   exact ax.ret ⟨_,rfl,rfl,_,_,_,.refl _,(.refl _),⟨rfl,rfl⟩,H19.sl [1] rfl rfl⟩
  replace h:=bQ hb20 h
  refine ax.skip ?_
  refine ax.region E.obj rfl ?_
  refine ah.val rfl (au rfl rfl bq) rfl ?_
  refine ah.val rfl (ae rfl) rfl ?_
  refine ah.nil ?_
  exact ⟨(IntKind.wrap .i64 (x11 + 1)),_,_,S18,.refl _ _,.refl _,(aa.r rfl (aa.r rfl (aa.r rfl (aa.r rfl aa.nil)))),H19.sl [1] rfl rfl,h⟩
 replace h:=bQ hb13 h
 refine ax.exit ?_
 refine ax.seq ?_
 refine ax.region E.obj rfl ?_
 refine ah.val rfl (ae rfl) rfl ?_
 obtain ⟨z21,hzz21,h⟩:=bind_some h
 rcases z21 with _ | x22
 ·
  replace h:=pE h
  subst h
  refine ah.thrown (ins:=[]) (more:=[.box b1 [(.d (.sl ((a2.state).map (D.int .i64)) false)),(.d (.sl ((a2.params).map aJ) false)),(.d (.int .i64 a2.steps))]]) rfl (H10.sl [0] rfl rfl) rfl (aC rfl rfl) (fu E n _ _ _ _ hzz21 ) (.cons (.refl _) (.cons (.refl _) (.cons (.refl _) .nil))) (fun _ _ S23 H24=>?_)
  exact ⟨_,_,rfl,H24.weaken (List.nil_sublist _)⟩
 replace h:=pK h
 refine ah.pI (ins:=[]) (more:=[.box b1 [(.d (.sl ((a2.state).map (D.int .i64)) false)),(.d (.sl ((a2.params).map aJ) false)),(.d (.int .i64 a2.steps))]]) (H10.sl [0] rfl rfl) rfl (aC rfl rfl) (fu E n _ _ _ _ hzz21 ) (.cons (.refl _) (.cons (.refl _) (.cons (.refl _) .nil))) rfl ?_
 rintro _ S25 _ ⟨rfl,rfl⟩ H26
 replace H26:Has B0 S25 [.box b1 [(.d (.sl ((a2.state).map (D.int .i64)) false)),(.d (.sl ((a2.params).map aJ) false)),(.d (.int .i64 a2.steps))]]:=H26
 refine ah.nil ?_
 refine ax.seq ?_
 refine ax.region E.obj rfl ?_
 refine ah.val rfl (ai rfl) rfl ?_
 refine ah.nil ?_
 have hr:=Option.some.inj h
 subst hr
 exact ax.ret ⟨_,rfl,rfl,_,_,_,.refl _,(.refl _),⟨rfl,rfl⟩,H26.sl [0] rfl rfl⟩
set_option maxRecDepth 20000 in
set_option maxHeartbeats 4000000 in
theorem ow (prow:aG→aT→Option (Option ((List Tree) × aG))) (hprow:∀ (x0:aG) (x1:aT) (r:Option ((List Tree) × aG)),prow x0 x1=some r→∀ (b:Nat),iW R cfg.P 70 31 [.ptr b 0 0,.d (aD x1)] [.box b [.d (.sl ((x0.state).map (D.int .i64)) false),.d (.sl ((x0.params).map aJ) false),.d (.int .i64 x0.steps)]] r (fun r v l=>v=.d (.sl ((r.1).map az) false)∧l=[.box b [.d (.sl ((r.2.state).map (D.int .i64)) false),.d (.sl ((r.2.params).map aJ) false),.d (.int .i64 r.2.steps)]])) (n:Nat) (a2:aG) (a3:aT) (r:(Option ((List Tree) × aG))) (h:jJ prow n a2 a3=some r) (b1:Nat):iW R cfg.P 70 58 [.ptr b1 0 0,.d (aD a3)] [.box b1 [(.d (.sl ((a2.state).map (D.int .i64)) false)),(.d (.sl ((a2.params).map aJ) false)),(.d (.int .i64 a2.steps))]] r (fun r v l=>v=.d (.sl ((r.1).map az) false)∧l=[.box b1 [.d (.sl ((r.2.state).map (D.int .i64)) false),.d (.sl ((r.2.params).map aJ) false),.d (.int .i64 r.2.steps)]]):=by
 unfold jJ at h
 refine iW.of_wp (C:=cfg) Tryd.func58 rfl JU rfl (fun B0 S0 H0=>?_)
 replace H0:Has B0 S0 [.box b1 [(.d (.sl ((a2.state).map (D.int .i64)) false)),(.d (.sl ((a2.params).map aJ) false)),(.d (.int .i64 a2.steps))]]:=H0
 refine ax.seq ?_
 refine ax.region E.obj rfl ?_
 refine ah.box H0 rfl rfl rfl (aT.bD _) rfl (fun b4 S5 H6=>?_)
 refine ah.val rfl (ai rfl) rfl ?_
 refine ah.nil ?_
 refine ax.seq ?_
 refine ax.region E.obj rfl ?_
 refine ah.val rfl (ae rfl) rfl ?_
 refine ah.val rfl (aj rfl mW l7 rfl) rfl ?_
 refine ah.val rfl (av H6 (i:=0) rfl rfl (aA jL rfl)) rfl ?_
 obtain ⟨z7,hzz7,h⟩:=bind_some h
 rcases z7 with _ | x8
 ·
  replace h:=pE h
  subst h
  refine ah.thrown (ins:=[.box b1 [(.d (.sl ((a2.state).map (D.int .i64)) false)),(.d (.sl ((a2.params).map aJ) false)),(.d (.int .i64 a2.steps))]]) (more:=[.box b4 [(.d (.int .i64 a3.Kind)),(.d (.int .i64 a3.N)),(.d (.str a3.Tag)),(.d (.str a3.Text)),(.d (.sl ((a3.aH).map aB) false)),(.d (.sl ((a3.Kids).map aD) false))]]) rfl (H6.sl [1,0] rfl rfl) rfl (aC rfl rfl) (gp E n _ _ _ hzz7 b1) (.cons (.refl _) (.cons (.refl _) .nil)) (fun _ _ S9 H10=>?_)
  exact ⟨_,_,rfl,H10.weaken (List.nil_sublist _)⟩
 replace h:=pK h
 refine ah.pI (ins:=[.box b1 [(.d (.sl ((a2.state).map (D.int .i64)) false)),(.d (.sl ((a2.params).map aJ) false)),(.d (.int .i64 a2.steps))]]) (more:=[.box b4 [(.d (.int .i64 a3.Kind)),(.d (.int .i64 a3.N)),(.d (.str a3.Tag)),(.d (.str a3.Text)),(.d (.sl ((a3.aH).map aB) false)),(.d (.sl ((a3.Kids).map aD) false))]]) (H6.sl [1,0] rfl rfl) rfl (aC rfl rfl) (gp E n _ _ _ hzz7 b1) (.cons (.refl _) (.cons (.refl _) .nil)) rfl ?_
 rintro _ S11 _ ⟨rfl,rfl⟩ H12
 replace H12:Has B0 S11 [.box b1 [(.d (.sl ((a2.state).map (D.int .i64)) false)),(.d (.sl ((a2.params).map aJ) false)),(.d (.int .i64 a2.steps))],.box b4 [(.d (.int .i64 a3.Kind)),(.d (.int .i64 a3.N)),(.d (.str a3.Tag)),(.d (.str a3.Text)),(.d (.sl ((a3.aH).map aB) false)),(.d (.sl ((a3.Kids).map aD) false))]]:=H12
 refine ah.val rfl (ai rfl) rfl ?_
 refine ah.nil ?_
 refine ax.seq ?_
 refine ax.region E.obj rfl ?_
 refine ah.val rfl (ae rfl) rfl ?_
 refine ah.val rfl (au rfl rfl iG) rfl ?_
 refine ah.val rfl (ae rfl) rfl ?_
 obtain ⟨z13,hzz13,h⟩:=bind_some h
 rcases z13 with _ | x14
 ·
  replace h:=pE h
  subst h
  refine ah.thrown (ins:=[]) (more:=[.box b1 [(.d (.sl ((a2.state).map (D.int .i64)) false)),(.d (.sl ((a2.params).map aJ) false)),(.d (.int .i64 a2.steps))],.box b4 [(.d (.int .i64 a3.Kind)),(.d (.int .i64 a3.N)),(.d (.str a3.Tag)),(.d (.str a3.Text)),(.d (.sl ((a3.aH).map aB) false)),(.d (.sl ((a3.Kids).map aD) false))]]) rfl (H12.sl [0,1] rfl rfl) rfl (aC rfl rfl) (fu E n _ _ _ _ hzz13 ) (.cons (.refl _) (.cons (.refl _) (.cons (.refl _) .nil))) (fun _ _ S15 H16=>?_)
  exact ⟨_,_,rfl,H16.weaken (List.nil_sublist _)⟩
 replace h:=pK h
 refine ah.pI (ins:=[]) (more:=[.box b1 [(.d (.sl ((a2.state).map (D.int .i64)) false)),(.d (.sl ((a2.params).map aJ) false)),(.d (.int .i64 a2.steps))],.box b4 [(.d (.int .i64 a3.Kind)),(.d (.int .i64 a3.N)),(.d (.str a3.Tag)),(.d (.str a3.Text)),(.d (.sl ((a3.aH).map aB) false)),(.d (.sl ((a3.Kids).map aD) false))]]) (H12.sl [0,1] rfl rfl) rfl (aC rfl rfl) (fu E n _ _ _ _ hzz13 ) (.cons (.refl _) (.cons (.refl _) (.cons (.refl _) .nil))) rfl ?_
 rintro _ S17 _ ⟨rfl,rfl⟩ H18
 replace H18:Has B0 S17 [.box b1 [(.d (.sl ((a2.state).map (D.int .i64)) false)),(.d (.sl ((a2.params).map aJ) false)),(.d (.int .i64 a2.steps))],.box b4 [(.d (.int .i64 a3.Kind)),(.d (.int .i64 a3.N)),(.d (.str a3.Tag)),(.d (.str a3.Text)),(.d (.sl ((a3.aH).map aB) false)),(.d (.sl ((a3.Kids).map aD) false))]]:=H18
 refine ah.nil ?_
 refine ax.seq ?_
 refine ax.region E.obj rfl ?_
 refine ah.val rfl (ai rfl) rfl ?_
 refine ah.nil ?_
 refine ax.seq ?_
 refine ax.seq ?_
 refine ax.region E.obj rfl ?_
 refine ah.val rfl (ae rfl) rfl ?_
 refine ah.val rfl (p9 rfl rfl) rfl ?_
 refine ah.val rfl (ae rfl) rfl ?_
 refine ah.nil ?_
 refine ax.block ?_
 have H77:=H18.Cn
 refine lV.start (B:=B0) (α:=(List Int) × (List dQ) × Int × (List Tree) × AV × Int) (fun k a=>bG n prow a3 x8 k a.1 a.2.1 a.2.2.1 a.2.2.2.1 a.2.2.2.2.2=some r) (fun a=>[(0,(.ptr b1 0 0)),(3,(.ptr b4 0 0)),(6,a.2.2.2.2.1),(19,(.d (.int .i64 (lQ x8 0)))),(20,(.d (.int .i64 a.2.2.2.2.2)))]) (fun a=>[.box b1 [(.d (.sl ((a.1).map (D.int .i64)) false)),(.d (.sl ((a.2.1).map aJ) false)),(.d (.int .i64 a.2.2.1))],.box b4 [(.d (.int .i64 a3.Kind)),(.d (.int .i64 a3.N)),(.d (.str a3.Tag)),(.d (.str a3.Text)),(.d (.sl ((a3.aH).map aB) false)),(.d (.sl ((a3.Kids).map aD) false))],.grow a.2.2.2.2.1 ((a.2.2.2.1).map az)]) ?_ ?_ n ⟨⟨a2.state,a2.params,a2.steps,[],(.d .aY),0⟩,_,_,S17,.refl _ _,.refl _,(aa.r rfl (aa.r rfl (aa.r rfl (aa.r rfl (aa.r rfl aa.nil))))),H77.sl [1,2,0] rfl rfl,h⟩
 ·
  intro a h; simp [bG] at h
 intro k37 a S29 H30 h
 obtain ⟨x31,x32,x33,x34,v35,x36⟩:=a
 replace h:bG n prow a3 x8 (k37 + 1) x31 x32 x33 x34 x36=some r:=h
 replace H30:Has B0 S29 [.box b1 [(.d (.sl ((x31).map (D.int .i64)) false)),(.d (.sl ((x32).map aJ) false)),(.d (.int .i64 x33))],.box b4 [(.d (.int .i64 a3.Kind)),(.d (.int .i64 a3.N)),(.d (.str a3.Tag)),(.d (.str a3.Text)),(.d (.sl ((a3.aH).map aB) false)),(.d (.sl ((a3.Kids).map aD) false))],.grow v35 ((x34).map az)]:=H30
 unfold bG at h
 refine ax.seq ?_
 refine ax.region E.obj rfl ?_
 refine ah.val rfl (au rfl rfl bJ) rfl ?_
 refine ah.nil ?_
 refine ax.seq ?_
 refine ax.cond rfl (fun hb38=>?_) (fun hb38=>?_)
 ·
  replace h:=bO hb38 h
  refine ax.skip ?_
  refine ax.seq ?_
  refine ax.block ?_
  refine ax.seq ?_
  refine ax.region E.obj rfl ?_
  refine ah.val rfl (ae rfl) rfl ?_
  refine ah.val rfl (ai rfl) rfl ?_
  refine ah.nil ?_
  refine ax.seq ?_
  refine ax.region E.obj rfl ?_
  refine ah.val rfl (ae rfl) rfl ?_
  refine ah.val rfl (aj rfl jd pF rfl) rfl ?_
  refine ah.val rfl (av H30 (i:=1) rfl rfl (aA qi rfl)) rfl ?_
  obtain ⟨z39,hzz39,h⟩:=bind_some h
  rcases z39 with _ | x40
  ·
   replace h:=pE h
   subst h
   refine ah.thrown (ins:=[.box b1 [(.d (.sl ((x31).map (D.int .i64)) false)),(.d (.sl ((x32).map aJ) false)),(.d (.int .i64 x33))]]) (more:=[.box b4 [(.d (.int .i64 a3.Kind)),(.d (.int .i64 a3.N)),(.d (.str a3.Tag)),(.d (.str a3.Text)),(.d (.sl ((a3.aH).map aB) false)),(.d (.sl ((a3.Kids).map aD) false))],.grow v35 ((x34).map az)]) rfl (H30.sl [0,1,2] rfl rfl) rfl (aC rfl rfl) (gU E prow hprow n _ _ _ hzz39 b1) (.cons (.refl _) (.cons (.refl _) .nil)) (fun _ _ S41 H42=>?_)
   exact ⟨_,_,rfl,H42.weaken (List.nil_sublist _)⟩
  replace h:=pK h
  refine ah.pI (ins:=[.box b1 [(.d (.sl ((x31).map (D.int .i64)) false)),(.d (.sl ((x32).map aJ) false)),(.d (.int .i64 x33))]]) (more:=[.box b4 [(.d (.int .i64 a3.Kind)),(.d (.int .i64 a3.N)),(.d (.str a3.Tag)),(.d (.str a3.Text)),(.d (.sl ((a3.aH).map aB) false)),(.d (.sl ((a3.Kids).map aD) false))],.grow v35 ((x34).map az)]) (H30.sl [0,1,2] rfl rfl) rfl (aC rfl rfl) (gU E prow hprow n _ _ _ hzz39 b1) (.cons (.refl _) (.cons (.refl _) .nil)) rfl ?_
  rintro _ S43 _ ⟨rfl,rfl⟩ H44
  replace H44:Has B0 S43 [.box b1 [(.d (.sl ((x40.2.state).map (D.int .i64)) false)),(.d (.sl ((x40.2.params).map aJ) false)),(.d (.int .i64 x40.2.steps))],.box b4 [(.d (.int .i64 a3.Kind)),(.d (.int .i64 a3.N)),(.d (.str a3.Tag)),(.d (.str a3.Text)),(.d (.sl ((a3.aH).map aB) false)),(.d (.sl ((a3.Kids).map aD) false))],.grow v35 ((x34).map az)]:=H44
  refine ah.val rfl (aO rfl pO) rfl ?_
  refine ah.val rfl (ae rfl) rfl ?_
  refine ah.nil ?_
  refine ax.block ?_
  refine lV.start (B:=B0) (α:=(List Tree) × AV × Int) (fun k a=>cu n x36 (bG n prow a3 x8 k37) x40 k a.1 a.2.2=some r) (fun a=>[(0,(.ptr b1 0 0)),(3,(.ptr b4 0 0)),(6,a.2.1),(7,(.d (.int .i64 x36))),(19,(.d (.int .i64 (lQ x8 0)))),(20,(.d (.int .i64 x36))),(26,(.d (.sl ((x40.1).map az) false))),(27,(.d (.int .i64 ((x40.1).length:Int)))),(28,(.d (.int .i64 a.2.2)))]) (fun a=>[.box b1 [(.d (.sl ((x40.2.state).map (D.int .i64)) false)),(.d (.sl ((x40.2.params).map aJ) false)),(.d (.int .i64 x40.2.steps))],.box b4 [(.d (.int .i64 a3.Kind)),(.d (.int .i64 a3.N)),(.d (.str a3.Tag)),(.d (.str a3.Text)),(.d (.sl ((a3.aH).map aB) false)),(.d (.sl ((a3.Kids).map aD) false))],.grow a.2.1 ((a.1).map az)]) ?_ ?_ n ⟨⟨x34,v35,0⟩,_,_,S43,.refl _ _,.refl _,(aa.r rfl (aa.r rfl (aa.r rfl (aa.r rfl (aa.r rfl (aa.r rfl (aa.r rfl (aa.r rfl (aa.r rfl aa.nil))))))))),H44.sl [0,1,2] rfl rfl,h⟩
  ·
   intro a h; simp [cu] at h
  intro k57 a S52 H53 h
  obtain ⟨x54,v55,x56⟩:=a
  replace h:cu n x36 (bG n prow a3 x8 k37) x40 (k57 + 1) x54 x56=some r:=h
  replace H53:Has B0 S52 [.box b1 [(.d (.sl ((x40.2.state).map (D.int .i64)) false)),(.d (.sl ((x40.2.params).map aJ) false)),(.d (.int .i64 x40.2.steps))],.box b4 [(.d (.int .i64 a3.Kind)),(.d (.int .i64 a3.N)),(.d (.str a3.Tag)),(.d (.str a3.Text)),(.d (.sl ((a3.aH).map aB) false)),(.d (.sl ((a3.Kids).map aD) false))],.grow v55 ((x54).map az)]:=H53
  unfold cu at h
  refine ax.seq ?_
  refine ax.region E.obj rfl ?_
  refine ah.val rfl (au rfl rfl bJ) rfl ?_
  refine ah.nil ?_
  refine ax.seq ?_
  refine ax.cond rfl (fun hb58=>?_) (fun hb58=>?_)
  ·
   replace h:=bO hb58 h
   refine ax.skip ?_
   refine ax.seq ?_
   refine ax.block ?_
   refine ax.seq ?_
   refine ax.region E.obj rfl ?_
   obtain ⟨z59,hzz59,h⟩:=bind_some h
   refine ah.val rfl (bA rfl rfl (cZ (enc:=az) hzz59 jI jY ((Tree.len _).trans dO.symm))) rfl ?_
   refine ah.val rfl (aV rfl (Tree.ib iq dO)) rfl ?_
   refine ah.alloc H53 rfl uf iA rfl rfl (fun b60 S61 H62=>?_)
   refine ah.store H62 (i:=0) rfl rfl rfl rfl (Tree.bD _) rfl dO rfl jY rfl rfl rfl (fun S63 H64=>?_)
   refine ah.nil ?_
   refine ax.join (B:=B0) (α:=Str) (fun a=>fM x54 x56 (cu n x36 (bG n prow a3 x8 k37) x40 k57) z59 a=some r) (fun a=>[(0,(.ptr b1 0 0)),(3,(.ptr b4 0 0)),(6,v55),(7,(.d (.int .i64 x36))),(9,(.ptr b60 0 0)),(19,(.d (.int .i64 (lQ x8 0)))),(20,(.d (.int .i64 x36))),(26,(.d (.sl ((x40.1).map az) false))),(27,(.d (.int .i64 ((x40.1).length:Int)))),(28,(.d (.int .i64 x56)))]) (fun a=>[.box b60 [(.d (.str z59.Tag)),(.d (.str a)),(.d (.str z59.Text)),(.d (.sl ((z59.aH).map aB) false)),(.d (.sl ((z59.Kids).map az) false))],.box b1 [(.d (.sl ((x40.2.state).map (D.int .i64)) false)),(.d (.sl ((x40.2.params).map aJ) false)),(.d (.int .i64 x40.2.steps))],.box b4 [(.d (.int .i64 a3.Kind)),(.d (.int .i64 a3.N)),(.d (.str a3.Tag)),(.d (.str a3.Text)),(.d (.sl ((a3.aH).map aB) false)),(.d (.sl ((a3.Kids).map aD) false))],.grow v55 ((x54).map az)]) ?_ ?_
   ·
    intro x67 S65 H66 h
    replace h:fM x54 x56 (cu n x36 (bG n prow a3 x8 k37) x40 k57) z59 x67=some r:=h
    replace H66:Has B0 S65 [.box b60 [(.d (.str z59.Tag)),(.d (.str x67)),(.d (.str z59.Text)),(.d (.sl ((z59.aH).map aB) false)),(.d (.sl ((z59.Kids).map az) false))],.box b1 [(.d (.sl ((x40.2.state).map (D.int .i64)) false)),(.d (.sl ((x40.2.params).map aJ) false)),(.d (.int .i64 x40.2.steps))],.box b4 [(.d (.int .i64 a3.Kind)),(.d (.int .i64 a3.N)),(.d (.str a3.Tag)),(.d (.str a3.Text)),(.d (.sl ((a3.aH).map aB) false)),(.d (.sl ((a3.Kids).map aD) false))],.grow v55 ((x54).map az)]:=H66
    unfold fM at h
    refine ax.region E.obj rfl ?_
    refine ah.val rfl (ae rfl) rfl ?_
    refine ah.val rfl (av H66 (i:=0) rfl rfl (aW iq dO rfl)) rfl ?_
    refine ah.less (Less.agg' (d:=az (Tree.mk z59.Tag x67 z59.Text z59.aH z59.Kids)) (ak.eq rfl (ak.eq rfl (ak.eq rfl (ak.eq rfl (ak.eq rfl .nil))))) ((Tree.eq _).trans rfl)) ?_
    refine ah.val rfl (aR (vs:=[(.d (az (Tree.mk z59.Tag x67 z59.Text z59.aH z59.Kids)))]) (ds:=[(az (Tree.mk z59.Tag x67 z59.Text z59.aH z59.Kids))]) pz jI iq iA dO rfl (by decide) (.cons rfl (Tree.len _) .nil) rfl (by intro d hd; simp only [List.mem_cons,List.not_mem_nil,or_false] at hd; rcases hd with rfl <;> exact Tree.agg _) rfl) rfl ?_
    obtain ⟨z69,hzz69,h⟩:=bind_some h
    refine ah.append (xs:=(x54).map az) (ys:=([(Tree.mk z59.Tag x67 z59.Text z59.aH z59.Kids)]).map az) (zs:=(z69).map az) H66 rfl rfl rfl (i:=3) rfl rfl pz Gl jI (iL hzz69) Gp rfl (dK (enc:=az) (fun z=>(Tree.len z).trans dO.symm) _) (dK (enc:=az) (fun z=>(Tree.len z).trans dO.symm) _) Gs rfl (mM hzz69) (fun v70 S71 H72=>?_)
    refine ah.val rfl (ai rfl) rfl ?_
    refine ah.nil ?_
    refine ax.region E.obj rfl ?_
    refine ah.val rfl (au rfl rfl bq) rfl ?_
    refine ah.val rfl (ae rfl) rfl ?_
    refine ah.nil ?_
    exact ⟨⟨z69,v70,(IntKind.wrap .i64 (x56 + 1))⟩,_,_,S71,.refl _ _,.refl _,(aa.r rfl (aa.r rfl (aa.r rfl (aa.r rfl (aa.r rfl (aa.r rfl (aa.r rfl (aa.r rfl (aa.r rfl aa.nil))))))))),H72.sl [1,2,3] rfl rfl,h⟩
   refine ax.seq ?_
   refine ax.region E.obj rfl ?_
   refine ah.val rfl (aj rfl mY kI rfl) rfl ?_
   refine ah.val rfl (av H64 (i:=0) rfl rfl (aA j5 rfl)) rfl ?_
   refine ah.val rfl (au rfl rfl jc) rfl ?_
   refine ah.nil ?_
   refine ax.cond rfl (fun hb73=>?_) (fun hb73=>?_)
   ·
    replace h:=bO hb73 h
    refine ax.region E.obj rfl ?_
    refine ah.val rfl (ae rfl) rfl ?_
    obtain ⟨z74,hzz74,h⟩:=bind_some h
    refine ah.ret rfl (aC rfl rfl) (E.strconv_Itoa_ok _ _ _ hzz74 _ _ (aF.eq .nil)) rfl ?_
    refine ah.val rfl (aj rfl mh kI rfl) rfl ?_
    refine ah.store H64 (i:=0) rfl rfl rfl rfl rfl rfl Ey rfl Gx rfl rfl rfl (fun S75 H76=>?_)
    refine ah.nil ?_
    exact ⟨z74,_,_,S75,.refl _ _,.refl _,(aa.r rfl (aa.r rfl (aa.r rfl (aa.r rfl (aa.r rfl (aa.r rfl (aa.r rfl (aa.r rfl (aa.r rfl (aa.r rfl aa.nil)))))))))),H76.sl [0,1,2,3] rfl rfl,h⟩
   replace h:=bQ hb73 h
   refine ax.skip ?_
   exact ⟨z59.Key,_,_,S63,.refl _ _,.refl _,(aa.r rfl (aa.r rfl (aa.r rfl (aa.r rfl (aa.r rfl (aa.r rfl (aa.r rfl (aa.r rfl (aa.r rfl (aa.r rfl aa.nil)))))))))),H64.sl [0,1,2,3] rfl rfl,h⟩
  replace h:=bQ hb58 h
  refine ax.exit ?_
  refine ax.region E.obj rfl ?_
  refine ah.val rfl (au rfl rfl bq) rfl ?_
  refine ah.val rfl (ae rfl) rfl ?_
  refine ah.nil ?_
  exact ⟨⟨x40.2.state,x40.2.params,x40.2.steps,x54,v55,(IntKind.wrap .i64 (x36 + 1))⟩,_,_,S52,.refl _ _,.refl _,(aa.r rfl (aa.r rfl (aa.r rfl (aa.r rfl (aa.r rfl aa.nil))))),H53.sl [0,1,2] rfl rfl,h⟩
 replace h:=bQ hb38 h
 refine ax.exit ?_
 refine ax.seq ?_
 refine ax.region E.obj rfl ?_
 refine ah.val rfl (ae rfl) rfl ?_
 refine ah.val rfl (ai rfl) rfl ?_
 refine ah.nil ?_
 have hr:=Option.some.inj h
 subst hr
 exact ax.ret ⟨_,rfl,rfl,_,_,_,.refl _,(CK H30 (i:=2) rfl),⟨rfl,rfl⟩,H30.sl [0] rfl rfl⟩
set_option maxRecDepth 20000 in
set_option maxHeartbeats 4000000 in
theorem lS:∀ (n:Nat) (a2:aG) (a3:aT) (r:(Option ((List Tree) × aG))),dw n a2 a3=some r→∀ (b1:Nat),iW R cfg.P 70 31 [.ptr b1 0 0,.d (aD a3)] [.box b1 [(.d (.sl ((a2.state).map (D.int .i64)) false)),(.d (.sl ((a2.params).map aJ) false)),(.d (.int .i64 a2.steps))]] r (fun r v l=>v=.d (.sl ((r.1).map az) false)∧l=[.box b1 [.d (.sl ((r.2.state).map (D.int .i64)) false),.d (.sl ((r.2.params).map aJ) false),.d (.int .i64 r.2.steps)]])
 | 0,a2,a3,r,h,b1=>by simp [dw] at h
 | n + 1,a2,a3,r,h,b1=>by
  have ih:=lS n
  unfold dw at h
  refine iW.of_wp (C:=cfg) Tryd.func31 rfl JO rfl (fun B0 S0 H0=>?_)
  replace H0:Has B0 S0 [.box b1 [(.d (.sl ((a2.state).map (D.int .i64)) false)),(.d (.sl ((a2.params).map aJ) false)),(.d (.int .i64 a2.steps))]]:=H0
  refine ax.seq ?_
  refine ax.region E.obj rfl ?_
  refine ah.box H0 rfl rfl rfl (aT.bD _) rfl (fun b4 S5 H6=>?_)
  refine ah.val rfl (ai rfl) rfl ?_
  refine ah.nil ?_
  refine ax.seq ?_
  refine ax.region E.obj rfl ?_
  refine ah.val rfl (ae rfl) rfl ?_
  refine ah.val rfl (eF rfl) rfl ?_
  refine ah.val rfl (aj rfl tN l7 rfl) rfl ?_
  refine ah.val rfl (av H6 (i:=1) rfl rfl (aA jL rfl)) rfl ?_
  refine ah.val rfl (au rfl rfl bq) rfl ?_
  refine ah.val rfl (eF rfl) rfl ?_
  refine ah.val rfl (aj rfl tN l7 rfl) rfl ?_
  refine ah.store H6 (i:=1) rfl rfl rfl rfl rfl rfl tu rfl C9 rfl rfl rfl (fun S7 H8=>?_)
  refine ah.nil ?_
  refine ax.seq ?_
  obtain ⟨z9,hzz9,h⟩:=bind_some h
  rcases z9 with _ | x10
  ·
   replace h:=pE h
   subst h
   refine ax.jH E.obj nQ KD [(0,none),(3,none)] (by kernel_rfl) [9] (by decide) [some (.ptr b1 0 0),some (.ptr b1 0 0),some (.ptr b1 0 2),some (.d (.int .i64 (IntKind.wrap .i64 (a2.steps + 1)))),some (.d (.bool (decide ((IntKind.wrap .i64 (a2.steps + 1)) ≤ 1000)))),some (.ptr b1 0 0),some (.ptr b1 0 0),some (.ptr b1 0 2),some (.d (.int .i64 (IntKind.wrap .i64 (a2.steps + 1)))),none] ?_
   refine ⟨[0,1,2,3,4,5,6,7,8],by kernel_rfl,?_,_,_,rfl,rfl,.stepX ?_⟩
   ·
    refine .v rfl rfl rfl rfl (ae rfl) ?_
    refine .v rfl rfl rfl rfl (eF rfl) ?_
    refine .v rfl rfl rfl rfl (aj rfl tN l7 rfl) ?_
    refine .v rfl rfl rfl rfl (av H8 (i:=1) rfl rfl (aA jL rfl)) ?_
    refine .v rfl rfl rfl rfl (au rfl rfl iG) ?_
    refine .v rfl rfl rfl rfl (ae rfl) ?_
    refine .v rfl rfl rfl rfl (eF rfl) ?_
    refine .v rfl rfl rfl rfl (aj rfl tN l7 rfl) ?_
    refine .v rfl rfl rfl rfl (av H8 (i:=1) rfl rfl (aA jL rfl)) ?_
    exact .nil
   refine ah.thrown (ins:=[]) (more:=[.box b4 [(.d (.int .i64 a3.Kind)),(.d (.int .i64 a3.N)),(.d (.str a3.Tag)),(.d (.str a3.Text)),(.d (.sl ((a3.aH).map aB) false)),(.d (.sl ((a3.Kids).map aD) false))],.box b1 [(.d (.sl ((a2.state).map (D.int .i64)) false)),(.d (.sl ((a2.params).map aJ) false)),(.d (.int .i64 (IntKind.wrap .i64 (a2.steps + 1))))]]) rfl (H8.sl [0,1] rfl rfl) rfl (aC rfl rfl) (fu E n _ _ _ _ hzz9 ) (.cons (.refl _) (.cons (.refl _) (.cons (.refl _) .nil))) (fun _ _ S11 H12=>?_)
   exact ⟨_,_,rfl,H12.weaken (List.nil_sublist _)⟩
  replace h:=pK h
  refine ax.jH E.obj nQ KD [(0,none),(3,none)] (by kernel_rfl) [9] (by decide) [some (.ptr b1 0 0),some (.ptr b1 0 0),some (.ptr b1 0 2),some (.d (.int .i64 (IntKind.wrap .i64 (a2.steps + 1)))),some (.d (.bool (decide ((IntKind.wrap .i64 (a2.steps + 1)) ≤ 1000)))),some (.ptr b1 0 0),some (.ptr b1 0 0),some (.ptr b1 0 2),some (.d (.int .i64 (IntKind.wrap .i64 (a2.steps + 1)))),none] ?_
  refine ⟨[0,1,2,3,4,5,6,7,8],by kernel_rfl,?_,_,_,rfl,rfl,.stepX ?_⟩
  ·
   refine .v rfl rfl rfl rfl (ae rfl) ?_
   refine .v rfl rfl rfl rfl (eF rfl) ?_
   refine .v rfl rfl rfl rfl (aj rfl tN l7 rfl) ?_
   refine .v rfl rfl rfl rfl (av H8 (i:=1) rfl rfl (aA jL rfl)) ?_
   refine .v rfl rfl rfl rfl (au rfl rfl iG) ?_
   refine .v rfl rfl rfl rfl (ae rfl) ?_
   refine .v rfl rfl rfl rfl (eF rfl) ?_
   refine .v rfl rfl rfl rfl (aj rfl tN l7 rfl) ?_
   refine .v rfl rfl rfl rfl (av H8 (i:=1) rfl rfl (aA jL rfl)) ?_
   exact .nil
  refine ah.pI (ins:=[]) (more:=[.box b4 [(.d (.int .i64 a3.Kind)),(.d (.int .i64 a3.N)),(.d (.str a3.Tag)),(.d (.str a3.Text)),(.d (.sl ((a3.aH).map aB) false)),(.d (.sl ((a3.Kids).map aD) false))],.box b1 [(.d (.sl ((a2.state).map (D.int .i64)) false)),(.d (.sl ((a2.params).map aJ) false)),(.d (.int .i64 (IntKind.wrap .i64 (a2.steps + 1))))]]) (H8.sl [0,1] rfl rfl) rfl (aC rfl rfl) (fu E n _ _ _ _ hzz9 ) (.cons (.refl _) (.cons (.refl _) (.cons (.refl _) .nil))) rfl ?_
  rintro _ S15 _ ⟨rfl,rfl⟩ H16
  replace H16:Has B0 S15 [.box b4 [(.d (.int .i64 a3.Kind)),(.d (.int .i64 a3.N)),(.d (.str a3.Tag)),(.d (.str a3.Text)),(.d (.sl ((a3.aH).map aB) false)),(.d (.sl ((a3.Kids).map aD) false))],.box b1 [(.d (.sl ((a2.state).map (D.int .i64)) false)),(.d (.sl ((a2.params).map aJ) false)),(.d (.int .i64 (IntKind.wrap .i64 (a2.steps + 1))))]]:=H16
  refine ah.nil ⟨_,(fun _ ht=>by cases ht; rfl),_,(.q (.q (.o (.z .nil)))),(fun _ ht=>by cases ht; exact ⟨_,rfl,.refl _⟩),?_⟩
  refine ⟨[],by kernel_rfl,?_,_,rfl,?_⟩
  ·
   exact .nil
  refine ax.seq ?_
  refine ax.seq ?_
  refine ax.region E.obj rfl ?_
  refine ah.val rfl (aj rfl fe l7 rfl) rfl ?_
  refine ah.val rfl (av H16 (i:=0) rfl rfl (aA jL rfl)) rfl ?_
  refine ah.nil ?_
  refine ax.block ?_
  refine ax.seq ?_
  refine ax.region E.obj rfl ?_
  refine ah.val rfl (au rfl rfl aU) rfl ?_
  refine ah.val rfl (ai rfl) rfl ?_
  refine ah.nil ?_
  refine ax.cond rfl (fun hb17=>?_) (fun hb17=>?_)
  ·
   replace h:=bO hb17 h
   refine ax.seq ?_
   obtain ⟨z19,hzz19,h⟩:=bind_some h
   obtain ⟨z23,hzz23,h⟩:=bind_some h
   rcases z23 with _ | x24
   ·
    replace h:=pE h
    subst h
    refine ax.jH E.obj nQ KG [(4,some 11)] (by kernel_rfl) [4,8] (by decide) [some (.ptr b4 0 2),some (.d (.str a3.Tag)),some (.ptr b4 0 4),some (.d (.sl ((a3.aH).map aB) false)),none,some (.ptr b1 0 0),some (.ptr b4 0 5),some (.d (.sl ((a3.Kids).map aD) false)),none,none,none,none] ?_
    refine ⟨[0,1,2,3,5,6,7],by kernel_rfl,?_,_,_,rfl,rfl,.step ?_⟩
    ·
     refine .v rfl rfl rfl rfl (aj rfl oL kI rfl) ?_
     refine .v rfl rfl rfl rfl (av H16 (i:=0) rfl rfl (aA j5 rfl)) ?_
     refine .v rfl rfl rfl rfl (aj rfl zq tK rfl) ?_
     refine .v rfl rfl rfl rfl (av H16 (i:=0) rfl rfl (aA ve rfl)) ?_
     refine .v rfl rfl rfl rfl (ae rfl) ?_
     refine .v rfl rfl rfl rfl (aj rfl jd pF rfl) ?_
     refine .v rfl rfl rfl rfl (av H16 (i:=0) rfl rfl (aA qi rfl)) ?_
     exact .nil
    have H25:=H16.Cn
    refine ah.append (xs:=([]).map aB) (ys:=(a3.aH).map aB) (zs:=(z19).map aB) H25 rfl rfl rfl (i:=0) rfl rfl Ic IL zx (iL hzz19) Ir rfl (dK (enc:=aB) (fun z=>(Attr.len z).trans pG.symm) _) (dK (enc:=aB) (fun z=>(Attr.len z).trans pG.symm) _) Iy rfl (mM hzz19) (fun v26 S27 H28=>?_)
    refine ah.nil ⟨_,_,_,rfl,(fun _ ht=>by cases ht; rfl),_,(.q (.w v26 (.o (.o (.o (.m .nil)))))),(fun _ ht=>by cases ht; exact ⟨_,rfl,.refl _⟩),?_⟩
    refine ⟨[0,1,5,6,7],by kernel_rfl,?_,_,_,rfl,rfl,.stepX ?_⟩
    ·
     refine .v rfl rfl rfl rfl (aj rfl oL kI rfl) ?_
     refine .v rfl rfl rfl rfl (av H28 (i:=1) rfl rfl (aA j5 rfl)) ?_
     refine .v rfl rfl rfl rfl (ae rfl) ?_
     refine .v rfl rfl rfl rfl (aj rfl jd pF rfl) ?_
     refine .v rfl rfl rfl rfl (av H28 (i:=1) rfl rfl (aA qi rfl)) ?_
     exact .nil
    refine ah.thrown (ins:=[.box b1 [(.d (.sl ((a2.state).map (D.int .i64)) false)),(.d (.sl ((a2.params).map aJ) false)),(.d (.int .i64 (IntKind.wrap .i64 (a2.steps + 1))))]]) (more:=[.grow v26 ((z19).map aB),.box b4 [(.d (.int .i64 a3.Kind)),(.d (.int .i64 a3.N)),(.d (.str a3.Tag)),(.d (.str a3.Text)),(.d (.sl ((a3.aH).map aB) false)),(.d (.sl ((a3.Kids).map aD) false))]]) rfl (H28.sl [2,0,1] rfl rfl) rfl (aC rfl rfl) (gU E (dw n) ih n _ _ _ hzz23 b1) (.cons (.refl _) (.cons (.refl _) .nil)) (fun _ _ S29 H30=>?_)
    exact ⟨_,_,rfl,H30.weaken (List.nil_sublist _)⟩
   replace h:=pK h
   refine ax.jH E.obj nQ KG [(4,some 11)] (by kernel_rfl) [4,8] (by decide) [some (.ptr b4 0 2),some (.d (.str a3.Tag)),some (.ptr b4 0 4),some (.d (.sl ((a3.aH).map aB) false)),none,some (.ptr b1 0 0),some (.ptr b4 0 5),some (.d (.sl ((a3.Kids).map aD) false)),none,none,none,none] ?_
   refine ⟨[0,1,2,3,5,6,7],by kernel_rfl,?_,_,_,rfl,rfl,.step ?_⟩
   ·
    refine .v rfl rfl rfl rfl (aj rfl oL kI rfl) ?_
    refine .v rfl rfl rfl rfl (av H16 (i:=0) rfl rfl (aA j5 rfl)) ?_
    refine .v rfl rfl rfl rfl (aj rfl zq tK rfl) ?_
    refine .v rfl rfl rfl rfl (av H16 (i:=0) rfl rfl (aA ve rfl)) ?_
    refine .v rfl rfl rfl rfl (ae rfl) ?_
    refine .v rfl rfl rfl rfl (aj rfl jd pF rfl) ?_
    refine .v rfl rfl rfl rfl (av H16 (i:=0) rfl rfl (aA qi rfl)) ?_
    exact .nil
   have H33:=H16.Cn
   refine ah.append (xs:=([]).map aB) (ys:=(a3.aH).map aB) (zs:=(z19).map aB) H33 rfl rfl rfl (i:=0) rfl rfl Ic IL zx (iL hzz19) Ir rfl (dK (enc:=aB) (fun z=>(Attr.len z).trans pG.symm) _) (dK (enc:=aB) (fun z=>(Attr.len z).trans pG.symm) _) Iy rfl (mM hzz19) (fun v34 S35 H36=>?_)
   refine ah.nil ⟨_,_,_,rfl,(fun _ ht=>by cases ht; rfl),_,(.q (.w v34 (.o (.o (.o (.m .nil)))))),(fun _ ht=>by cases ht; exact ⟨_,rfl,.refl _⟩),?_⟩
   refine ⟨[0,1,5,6,7],by kernel_rfl,?_,_,_,rfl,rfl,.stepX ?_⟩
   ·
    refine .v rfl rfl rfl rfl (aj rfl oL kI rfl) ?_
    refine .v rfl rfl rfl rfl (av H36 (i:=1) rfl rfl (aA j5 rfl)) ?_
    refine .v rfl rfl rfl rfl (ae rfl) ?_
    refine .v rfl rfl rfl rfl (aj rfl jd pF rfl) ?_
    refine .v rfl rfl rfl rfl (av H36 (i:=1) rfl rfl (aA qi rfl)) ?_
    exact .nil
   refine ah.pI (ins:=[.box b1 [(.d (.sl ((a2.state).map (D.int .i64)) false)),(.d (.sl ((a2.params).map aJ) false)),(.d (.int .i64 (IntKind.wrap .i64 (a2.steps + 1))))]]) (more:=[.grow v34 ((z19).map aB),.box b4 [(.d (.int .i64 a3.Kind)),(.d (.int .i64 a3.N)),(.d (.str a3.Tag)),(.d (.str a3.Text)),(.d (.sl ((a3.aH).map aB) false)),(.d (.sl ((a3.Kids).map aD) false))]]) (H36.sl [2,0,1] rfl rfl) rfl (aC rfl rfl) (gU E (dw n) ih n _ _ _ hzz23 b1) (.cons (.refl _) (.cons (.refl _) .nil)) rfl ?_
   rintro _ S37 _ ⟨rfl,rfl⟩ H38
   replace H38:Has B0 S37 [.box b1 [(.d (.sl ((x24.2.state).map (D.int .i64)) false)),(.d (.sl ((x24.2.params).map aJ) false)),(.d (.int .i64 x24.2.steps))],.grow v34 ((z19).map aB),.box b4 [(.d (.int .i64 a3.Kind)),(.d (.int .i64 a3.N)),(.d (.str a3.Tag)),(.d (.str a3.Text)),(.d (.sl ((a3.aH).map aB) false)),(.d (.sl ((a3.Kids).map aD) false))]]:=H38
   refine ah.nil ⟨_,(fun _ ht=>by cases ht; rfl),_,(.q (.q (.w (.d (.sl ((x24.1).map az) false)) (.w (.d (az (Tree.mk a3.Tag [] [] z19 x24.1))) (.w (.d (.sl (([(Tree.mk a3.Tag [] [] z19 x24.1)]).map az) true)) (.w (.d (.sl (([(Tree.mk a3.Tag [] [] z19 x24.1)]).map az) true)) .nil)))))),(fun _ ht=>by cases ht; exact ⟨_,rfl,.refl _⟩),?_⟩
   refine ⟨[0,1,9,10,11],by kernel_rfl,?_,_,rfl,?_⟩
   ·
    refine .v rfl rfl rfl rfl (aj rfl oL kI rfl) ?_
    refine .v rfl rfl rfl rfl (av H38 (i:=2) rfl rfl (aA j5 rfl)) ?_
    refine .cons rfl rfl rfl (.step ?_) ?_
    ·
     refine ah.val rfl (bW (cs:=[(.d (.str a3.Tag)),(.d (.str [])),(.d (.str [])),v34,(.d (.sl ((x24.1).map az) false))]) iA rfl (cK) (eG rfl rfl rfl rfl (eG rfl (BK H38 (i:=1) rfl) rfl rfl (eG rfl rfl rfl rfl rfl)))) rfl ?_
     refine ah.less (Less.agg' (d:=az (Tree.mk a3.Tag [] [] z19 x24.1)) (ak.eq rfl (ak.eq rfl (ak.eq rfl (ak.grow H38 (i:=1) rfl (ak.eq rfl .nil))))) ((Tree.eq _).trans rfl)) ?_
     exact ah.nil ⟨_,_,rfl,fun _ ht=>by cases ht; exact ⟨rfl,.refl _⟩⟩
    refine .v rfl rfl rfl rfl (aR (vs:=[(.d (az (Tree.mk a3.Tag [] [] z19 x24.1)))]) (ds:=[(az (Tree.mk a3.Tag [] [] z19 x24.1))]) pz jI iq iA dO rfl (by decide) (.cons rfl (Tree.len _) .nil) rfl (by intro d hd; simp only [List.mem_cons,List.not_mem_nil,or_false] at hd; rcases hd with rfl <;> exact Tree.agg _) rfl) ?_
    refine .v rfl rfl rfl rfl (ai rfl) ?_
    exact .nil
   have hr:=Option.some.inj h
   subst hr
   exact ax.ret ⟨_,rfl,rfl,_,_,_,.refl _,uZ,⟨rfl,rfl⟩,H38.sl [0] rfl rfl⟩
  replace h:=bQ hb17 h
  refine ax.seq ?_
  refine ax.region E.obj rfl ?_
  refine ah.val rfl (au rfl rfl aU) rfl ?_
  refine ah.val rfl (ai rfl) rfl ?_
  refine ah.nil ?_
  refine ax.cond rfl (fun hb39=>?_) (fun hb39=>?_)
  ·
   replace h:=bO hb39 h
   refine ax.seq ?_
   refine ax.region E.obj rfl ?_
   refine ah.val rfl (aj rfl ug kI rfl) rfl ?_
   refine ah.val rfl (av H16 (i:=0) rfl rfl (aA j5 rfl)) rfl ?_
   refine ah.val rfl (bW (cs:=[(.d (.str [])),(.d (.str [])),(.d (.str a3.Text)),(.d .aY),(.d .aY)]) iA rfl (cK) (eG rfl rfl rfl rfl rfl)) rfl ?_
   refine ah.less (Less.agg' (d:=az (Tree.mk [] [] a3.Text [] [])) (ak.eq rfl (ak.eq rfl (ak.eq rfl (ak.dV rfl (.aY false) rfl rfl (ak.dV rfl (.aY false) rfl rfl .nil))))) ((Tree.eq _).trans rfl)) ?_
   refine ah.val rfl (aR (vs:=[(.d (az (Tree.mk [] [] a3.Text [] [])))]) (ds:=[(az (Tree.mk [] [] a3.Text [] []))]) pz jI iq iA dO rfl (by decide) (.cons rfl (Tree.len _) .nil) rfl (by intro d hd; simp only [List.mem_cons,List.not_mem_nil,or_false] at hd; rcases hd with rfl <;> exact Tree.agg _) rfl) rfl ?_
   refine ah.val rfl (ai rfl) rfl ?_
   refine ah.nil ?_
   have hr:=Option.some.inj h
   subst hr
   exact ax.ret ⟨_,rfl,rfl,_,_,_,.refl _,uZ,⟨rfl,rfl⟩,H16.sl [1] rfl rfl⟩
  replace h:=bQ hb39 h
  refine ax.seq ?_
  refine ax.region E.obj rfl ?_
  refine ah.val rfl (au rfl rfl aU) rfl ?_
  refine ah.val rfl (ai rfl) rfl ?_
  refine ah.nil ?_
  refine ax.cond rfl (fun hb40=>?_) (fun hb40=>?_)
  ·
   replace h:=bO hb40 h
   refine ax.seq ?_
   refine ax.region E.obj rfl ?_
   refine ah.val rfl (ae rfl) rfl ?_
   refine ah.val rfl (aj rfl mW l7 rfl) rfl ?_
   refine ah.val rfl (av H16 (i:=0) rfl rfl (aA jL rfl)) rfl ?_
   obtain ⟨z41,hzz41,h⟩:=bind_some h
   rcases z41 with _ | x42
   ·
    replace h:=pE h
    subst h
    refine ah.thrown (ins:=[.box b1 [(.d (.sl ((a2.state).map (D.int .i64)) false)),(.d (.sl ((a2.params).map aJ) false)),(.d (.int .i64 (IntKind.wrap .i64 (a2.steps + 1))))]]) (more:=[.box b4 [(.d (.int .i64 a3.Kind)),(.d (.int .i64 a3.N)),(.d (.str a3.Tag)),(.d (.str a3.Text)),(.d (.sl ((a3.aH).map aB) false)),(.d (.sl ((a3.Kids).map aD) false))]]) rfl (H16.sl [1,0] rfl rfl) rfl (aC rfl rfl) (gp E n _ _ _ hzz41 b1) (.cons (.refl _) (.cons (.refl _) .nil)) (fun _ _ S43 H44=>?_)
    exact ⟨_,_,rfl,H44.weaken (List.nil_sublist _)⟩
   replace h:=pK h
   refine ah.pI (ins:=[.box b1 [(.d (.sl ((a2.state).map (D.int .i64)) false)),(.d (.sl ((a2.params).map aJ) false)),(.d (.int .i64 (IntKind.wrap .i64 (a2.steps + 1))))]]) (more:=[.box b4 [(.d (.int .i64 a3.Kind)),(.d (.int .i64 a3.N)),(.d (.str a3.Tag)),(.d (.str a3.Text)),(.d (.sl ((a3.aH).map aB) false)),(.d (.sl ((a3.Kids).map aD) false))]]) (H16.sl [1,0] rfl rfl) rfl (aC rfl rfl) (gp E n _ _ _ hzz41 b1) (.cons (.refl _) (.cons (.refl _) .nil)) rfl ?_
   rintro _ S45 _ ⟨rfl,rfl⟩ H46
   replace H46:Has B0 S45 [.box b1 [(.d (.sl ((a2.state).map (D.int .i64)) false)),(.d (.sl ((a2.params).map aJ) false)),(.d (.int .i64 (IntKind.wrap .i64 (a2.steps + 1))))],.box b4 [(.d (.int .i64 a3.Kind)),(.d (.int .i64 a3.N)),(.d (.str a3.Tag)),(.d (.str a3.Text)),(.d (.sl ((a3.aH).map aB) false)),(.d (.sl ((a3.Kids).map aD) false))]]:=H46
   obtain ⟨z47,hzz47,h⟩:=bind_some h
   refine ah.ret rfl (aC rfl rfl) (E.strconv_Itoa_ok _ _ _ hzz47 _ _ (aF.eq .nil)) rfl ?_
   refine ah.val rfl (bW (cs:=[(.d (.str [])),(.d (.str [])),(.d (.str z47)),(.d .aY),(.d .aY)]) iA rfl (cK) (eG rfl rfl rfl rfl rfl)) rfl ?_
   refine ah.less (Less.agg' (d:=az (Tree.mk [] [] z47 [] [])) (ak.eq rfl (ak.eq rfl (ak.eq rfl (ak.dV rfl (.aY false) rfl rfl (ak.dV rfl (.aY false) rfl rfl .nil))))) ((Tree.eq _).trans rfl)) ?_
   refine ah.val rfl (aR (vs:=[(.d (az (Tree.mk [] [] z47 [] [])))]) (ds:=[(az (Tree.mk [] [] z47 [] []))]) pz jI iq iA dO rfl (by decide) (.cons rfl (Tree.len _) .nil) rfl (by intro d hd; simp only [List.mem_cons,List.not_mem_nil,or_false] at hd; rcases hd with rfl <;> exact Tree.agg _) rfl) rfl ?_
   refine ah.val rfl (ai rfl) rfl ?_
   refine ah.nil ?_
   have hr:=Option.some.inj h
   subst hr
   exact ax.ret ⟨_,rfl,rfl,_,_,_,.refl _,uZ,⟨rfl,rfl⟩,H46.sl [0] rfl rfl⟩
  replace h:=bQ hb40 h
  refine ax.seq ?_
  refine ax.region E.obj rfl ?_
  refine ah.val rfl (au rfl rfl aU) rfl ?_
  refine ah.val rfl (ai rfl) rfl ?_
  refine ah.nil ?_
  refine ax.cond rfl (fun hb48=>?_) (fun hb48=>?_)
  ·
   replace h:=bO hb48 h
   refine ax.seq ?_
   refine ax.region E.obj rfl ?_
   refine ah.val rfl (ae rfl) rfl ?_
   refine ah.val rfl (aj rfl ug kI rfl) rfl ?_
   refine ah.val rfl (av H16 (i:=0) rfl rfl (aA j5 rfl)) rfl ?_
   obtain ⟨z49,hzz49,h⟩:=bind_some h
   rcases z49 with _ | x50
   ·
    replace h:=pE h
    subst h
    refine ah.thrown (ins:=[.box b1 [(.d (.sl ((a2.state).map (D.int .i64)) false)),(.d (.sl ((a2.params).map aJ) false)),(.d (.int .i64 (IntKind.wrap .i64 (a2.steps + 1))))]]) (more:=[.box b4 [(.d (.int .i64 a3.Kind)),(.d (.int .i64 a3.N)),(.d (.str a3.Tag)),(.d (.str a3.Text)),(.d (.sl ((a3.aH).map aB) false)),(.d (.sl ((a3.Kids).map aD) false))]]) rfl (H16.sl [1,0] rfl rfl) rfl (aC rfl rfl) (nz E n _ _ _ hzz49 b1) (.cons (.refl _) (.cons (.refl _) .nil)) (fun _ _ S51 H52=>?_)
    exact ⟨_,_,rfl,H52.weaken (List.nil_sublist _)⟩
   replace h:=pK h
   refine ah.pI (ins:=[.box b1 [(.d (.sl ((a2.state).map (D.int .i64)) false)),(.d (.sl ((a2.params).map aJ) false)),(.d (.int .i64 (IntKind.wrap .i64 (a2.steps + 1))))]]) (more:=[.box b4 [(.d (.int .i64 a3.Kind)),(.d (.int .i64 a3.N)),(.d (.str a3.Tag)),(.d (.str a3.Text)),(.d (.sl ((a3.aH).map aB) false)),(.d (.sl ((a3.Kids).map aD) false))]]) (H16.sl [1,0] rfl rfl) rfl (aC rfl rfl) (nz E n _ _ _ hzz49 b1) (.cons (.refl _) (.cons (.refl _) .nil)) rfl ?_
   rintro _ S53 _ ⟨rfl,rfl⟩ H54
   replace H54:Has B0 S53 [.box b1 [(.d (.sl ((a2.state).map (D.int .i64)) false)),(.d (.sl ((a2.params).map aJ) false)),(.d (.int .i64 (IntKind.wrap .i64 (a2.steps + 1))))],.box b4 [(.d (.int .i64 a3.Kind)),(.d (.int .i64 a3.N)),(.d (.str a3.Tag)),(.d (.str a3.Text)),(.d (.sl ((a3.aH).map aB) false)),(.d (.sl ((a3.Kids).map aD) false))]]:=H54
   refine ah.val rfl (bW (cs:=[(.d (.str [])),(.d (.str [])),(.d (.str x50)),(.d .aY),(.d .aY)]) iA rfl (cK) (eG rfl rfl rfl rfl rfl)) rfl ?_
   refine ah.less (Less.agg' (d:=az (Tree.mk [] [] x50 [] [])) (ak.eq rfl (ak.eq rfl (ak.eq rfl (ak.dV rfl (.aY false) rfl rfl (ak.dV rfl (.aY false) rfl rfl .nil))))) ((Tree.eq _).trans rfl)) ?_
   refine ah.val rfl (aR (vs:=[(.d (az (Tree.mk [] [] x50 [] [])))]) (ds:=[(az (Tree.mk [] [] x50 [] []))]) pz jI iq iA dO rfl (by decide) (.cons rfl (Tree.len _) .nil) rfl (by intro d hd; simp only [List.mem_cons,List.not_mem_nil,or_false] at hd; rcases hd with rfl <;> exact Tree.agg _) rfl) rfl ?_
   refine ah.val rfl (ai rfl) rfl ?_
   refine ah.nil ?_
   have hr:=Option.some.inj h
   subst hr
   exact ax.ret ⟨_,rfl,rfl,_,_,_,.refl _,uZ,⟨rfl,rfl⟩,H54.sl [0] rfl rfl⟩
  replace h:=bQ hb48 h
  refine ax.seq ?_
  refine ax.region E.obj rfl ?_
  refine ah.val rfl (au rfl rfl aU) rfl ?_
  refine ah.val rfl (ai rfl) rfl ?_
  refine ah.nil ?_
  refine ax.cond rfl (fun hb55=>?_) (fun hb55=>?_)
  ·
   replace h:=bO hb55 h
   refine ax.seq ?_
   refine ax.seq ?_
   refine ax.region E.obj rfl ?_
   refine ah.val rfl (ae rfl) rfl ?_
   refine ah.val rfl (aj rfl mW l7 rfl) rfl ?_
   refine ah.val rfl (av H16 (i:=0) rfl rfl (aA jL rfl)) rfl ?_
   obtain ⟨z56,hzz56,h⟩:=bind_some h
   rcases z56 with _ | x57
   ·
    replace h:=pE h
    subst h
    refine ah.thrown (ins:=[.box b1 [(.d (.sl ((a2.state).map (D.int .i64)) false)),(.d (.sl ((a2.params).map aJ) false)),(.d (.int .i64 (IntKind.wrap .i64 (a2.steps + 1))))]]) (more:=[.box b4 [(.d (.int .i64 a3.Kind)),(.d (.int .i64 a3.N)),(.d (.str a3.Tag)),(.d (.str a3.Text)),(.d (.sl ((a3.aH).map aB) false)),(.d (.sl ((a3.Kids).map aD) false))]]) rfl (H16.sl [1,0] rfl rfl) rfl (aC rfl rfl) (gp E n _ _ _ hzz56 b1) (.cons (.refl _) (.cons (.refl _) .nil)) (fun _ _ S58 H59=>?_)
    exact ⟨_,_,rfl,H59.weaken (List.nil_sublist _)⟩
   replace h:=pK h
   refine ah.pI (ins:=[.box b1 [(.d (.sl ((a2.state).map (D.int .i64)) false)),(.d (.sl ((a2.params).map aJ) false)),(.d (.int .i64 (IntKind.wrap .i64 (a2.steps + 1))))]]) (more:=[.box b4 [(.d (.int .i64 a3.Kind)),(.d (.int .i64 a3.N)),(.d (.str a3.Tag)),(.d (.str a3.Text)),(.d (.sl ((a3.aH).map aB) false)),(.d (.sl ((a3.Kids).map aD) false))]]) (H16.sl [1,0] rfl rfl) rfl (aC rfl rfl) (gp E n _ _ _ hzz56 b1) (.cons (.refl _) (.cons (.refl _) .nil)) rfl ?_
   rintro _ S60 _ ⟨rfl,rfl⟩ H61
   replace H61:Has B0 S60 [.box b1 [(.d (.sl ((a2.state).map (D.int .i64)) false)),(.d (.sl ((a2.params).map aJ) false)),(.d (.int .i64 (IntKind.wrap .i64 (a2.steps + 1))))],.box b4 [(.d (.int .i64 a3.Kind)),(.d (.int .i64 a3.N)),(.d (.str a3.Tag)),(.d (.str a3.Text)),(.d (.sl ((a3.aH).map aB) false)),(.d (.sl ((a3.Kids).map aD) false))]]:=H61
   refine ah.val rfl (au rfl rfl aU) rfl ?_
   refine ah.nil ?_
   refine ax.cond rfl (fun hb62=>?_) (fun hb62=>?_)
   ·
    replace h:=bO hb62 h
    refine ax.seq ?_
    refine ax.region E.obj rfl ?_
    refine ah.val rfl (ai rfl) rfl ?_
    refine ah.nil ?_
    have hr:=Option.some.inj h
    subst hr
    exact ax.ret ⟨_,rfl,rfl,_,_,_,.refl _,vQ,⟨rfl,rfl⟩,H61.sl [0] rfl rfl⟩
   replace h:=bQ hb62 h
   refine ax.skip ?_
   refine ax.seq ?_
   refine ax.region E.obj rfl ?_
   refine ah.val rfl (ae rfl) rfl ?_
   refine ah.val rfl (aj rfl jd pF rfl) rfl ?_
   refine ah.val rfl (av H61 (i:=1) rfl rfl (aA qi rfl)) rfl ?_
   obtain ⟨z63,hzz63,h⟩:=bind_some h
   rcases z63 with _ | x64
   ·
    replace h:=pE h
    subst h
    refine ah.thrown (ins:=[.box b1 [(.d (.sl ((a2.state).map (D.int .i64)) false)),(.d (.sl ((a2.params).map aJ) false)),(.d (.int .i64 (IntKind.wrap .i64 (a2.steps + 1))))]]) (more:=[.box b4 [(.d (.int .i64 a3.Kind)),(.d (.int .i64 a3.N)),(.d (.str a3.Tag)),(.d (.str a3.Text)),(.d (.sl ((a3.aH).map aB) false)),(.d (.sl ((a3.Kids).map aD) false))]]) rfl (H61.sl [0,1] rfl rfl) rfl (aC rfl rfl) (gU E (dw n) ih n _ _ _ hzz63 b1) (.cons (.refl _) (.cons (.refl _) .nil)) (fun _ _ S65 H66=>?_)
    exact ⟨_,_,rfl,H66.weaken (List.nil_sublist _)⟩
   replace h:=pK h
   refine ah.pI (ins:=[.box b1 [(.d (.sl ((a2.state).map (D.int .i64)) false)),(.d (.sl ((a2.params).map aJ) false)),(.d (.int .i64 (IntKind.wrap .i64 (a2.steps + 1))))]]) (more:=[.box b4 [(.d (.int .i64 a3.Kind)),(.d (.int .i64 a3.N)),(.d (.str a3.Tag)),(.d (.str a3.Text)),(.d (.sl ((a3.aH).map aB) false)),(.d (.sl ((a3.Kids).map aD) false))]]) (H61.sl [0,1] rfl rfl) rfl (aC rfl rfl) (gU E (dw n) ih n _ _ _ hzz63 b1) (.cons (.refl _) (.cons (.refl _) .nil)) rfl ?_
   rintro _ S67 _ ⟨rfl,rfl⟩ H68
   replace H68:Has B0 S67 [.box b1 [(.d (.sl ((x64.2.state).map (D.int .i64)) false)),(.d (.sl ((x64.2.params).map aJ) false)),(.d (.int .i64 x64.2.steps))],.box b4 [(.d (.int .i64 a3.Kind)),(.d (.int .i64 a3.N)),(.d (.str a3.Tag)),(.d (.str a3.Text)),(.d (.sl ((a3.aH).map aB) false)),(.d (.sl ((a3.Kids).map aD) false))]]:=H68
   refine ah.val rfl (ai rfl) rfl ?_
   refine ah.nil ?_
   have hr:=Option.some.inj h
   subst hr
   exact ax.ret ⟨_,rfl,rfl,_,_,_,.refl _,(.refl _),⟨rfl,rfl⟩,H68.sl [0] rfl rfl⟩
  replace h:=bQ hb55 h
  refine ax.seq ?_
  refine ax.region E.obj rfl ?_
  refine ah.val rfl (au rfl rfl aU) rfl ?_
  refine ah.val rfl (ai rfl) rfl ?_
  refine ah.nil ?_
  refine ax.cond rfl (fun hb69=>?_) (fun hb69=>?_)
  ·
   replace h:=bO hb69 h
   refine ax.seq ?_
   refine ax.region E.obj rfl ?_
   refine ah.val rfl (ae rfl) rfl ?_
   refine ah.val rfl (av H16 (i:=0) rfl rfl (aW gY dY rfl)) rfl ?_
   refine ah.less (Less.agg' (d:=aD a3) (ak.eq rfl (ak.eq rfl (ak.eq rfl (ak.eq rfl (ak.eq rfl (ak.eq rfl .nil)))))) ((aT.eq _).trans rfl)) ?_
   obtain ⟨z70,hzz70,h⟩:=bind_some h
   rcases z70 with _ | x71
   ·
    replace h:=pE h
    subst h
    refine ah.thrown (ins:=[.box b1 [(.d (.sl ((a2.state).map (D.int .i64)) false)),(.d (.sl ((a2.params).map aJ) false)),(.d (.int .i64 (IntKind.wrap .i64 (a2.steps + 1))))]]) (more:=[.box b4 [(.d (.int .i64 a3.Kind)),(.d (.int .i64 a3.N)),(.d (.str a3.Tag)),(.d (.str a3.Text)),(.d (.sl ((a3.aH).map aB) false)),(.d (.sl ((a3.Kids).map aD) false))]]) rfl (H16.sl [1,0] rfl rfl) rfl (aC rfl rfl) (ow E (dw n) ih n _ _ _ hzz70 b1) (.cons (.refl _) (.cons (.refl _) .nil)) (fun _ _ S72 H73=>?_)
    exact ⟨_,_,rfl,H73.weaken (List.nil_sublist _)⟩
   replace h:=pK h
   refine ah.pI (ins:=[.box b1 [(.d (.sl ((a2.state).map (D.int .i64)) false)),(.d (.sl ((a2.params).map aJ) false)),(.d (.int .i64 (IntKind.wrap .i64 (a2.steps + 1))))]]) (more:=[.box b4 [(.d (.int .i64 a3.Kind)),(.d (.int .i64 a3.N)),(.d (.str a3.Tag)),(.d (.str a3.Text)),(.d (.sl ((a3.aH).map aB) false)),(.d (.sl ((a3.Kids).map aD) false))]]) (H16.sl [1,0] rfl rfl) rfl (aC rfl rfl) (ow E (dw n) ih n _ _ _ hzz70 b1) (.cons (.refl _) (.cons (.refl _) .nil)) rfl ?_
   rintro _ S74 _ ⟨rfl,rfl⟩ H75
   replace H75:Has B0 S74 [.box b1 [(.d (.sl ((x71.2.state).map (D.int .i64)) false)),(.d (.sl ((x71.2.params).map aJ) false)),(.d (.int .i64 x71.2.steps))],.box b4 [(.d (.int .i64 a3.Kind)),(.d (.int .i64 a3.N)),(.d (.str a3.Tag)),(.d (.str a3.Text)),(.d (.sl ((a3.aH).map aB) false)),(.d (.sl ((a3.Kids).map aD) false))]]:=H75
   refine ah.val rfl (ai rfl) rfl ?_
   refine ah.nil ?_
   have hr:=Option.some.inj h
   subst hr
   exact ax.ret ⟨_,rfl,rfl,_,_,_,.refl _,(.refl _),⟨rfl,rfl⟩,H75.sl [0] rfl rfl⟩
  replace h:=bQ hb69 h
  refine ax.skip ?_
  refine ax.seq ?_
  refine ax.region E.obj rfl ?_
  refine ah.val rfl (aj rfl fe l7 rfl) rfl ?_
  refine ah.val rfl (av H16 (i:=0) rfl rfl (aA jL rfl)) rfl ?_
  refine ah.val rfl (au rfl rfl aU) rfl ?_
  refine ah.val rfl (aj rfl fe l7 rfl) rfl ?_
  refine ah.val rfl (av H16 (i:=0) rfl rfl (aA jL rfl)) rfl ?_
  obtain ⟨z76,hzz76,h⟩:=bind_some h
  rcases z76 with _ | x77
  ·
   replace h:=pE h
   subst h
   refine ah.thrown (ins:=[]) (more:=[.box b4 [(.d (.int .i64 a3.Kind)),(.d (.int .i64 a3.N)),(.d (.str a3.Tag)),(.d (.str a3.Text)),(.d (.sl ((a3.aH).map aB) false)),(.d (.sl ((a3.Kids).map aD) false))],.box b1 [(.d (.sl ((a2.state).map (D.int .i64)) false)),(.d (.sl ((a2.params).map aJ) false)),(.d (.int .i64 (IntKind.wrap .i64 (a2.steps + 1))))]]) rfl (H16.sl [0,1] rfl rfl) rfl (aC rfl rfl) (fu E n _ _ _ _ hzz76 ) (.cons (.refl _) (.cons (.refl _) (.cons (.refl _) .nil))) (fun _ _ S78 H79=>?_)
   exact ⟨_,_,rfl,H79.weaken (List.nil_sublist _)⟩
  replace h:=pK h
  refine ah.pI (ins:=[]) (more:=[.box b4 [(.d (.int .i64 a3.Kind)),(.d (.int .i64 a3.N)),(.d (.str a3.Tag)),(.d (.str a3.Text)),(.d (.sl ((a3.aH).map aB) false)),(.d (.sl ((a3.Kids).map aD) false))],.box b1 [(.d (.sl ((a2.state).map (D.int .i64)) false)),(.d (.sl ((a2.params).map aJ) false)),(.d (.int .i64 (IntKind.wrap .i64 (a2.steps + 1))))]]) (H16.sl [0,1] rfl rfl) rfl (aC rfl rfl) (fu E n _ _ _ _ hzz76 ) (.cons (.refl _) (.cons (.refl _) (.cons (.refl _) .nil))) rfl ?_
  rintro _ S80 _ ⟨rfl,rfl⟩ H81
  replace H81:Has B0 S80 [.box b4 [(.d (.int .i64 a3.Kind)),(.d (.int .i64 a3.N)),(.d (.str a3.Tag)),(.d (.str a3.Text)),(.d (.sl ((a3.aH).map aB) false)),(.d (.sl ((a3.Kids).map aD) false))],.box b1 [(.d (.sl ((a2.state).map (D.int .i64)) false)),(.d (.sl ((a2.params).map aJ) false)),(.d (.int .i64 (IntKind.wrap .i64 (a2.steps + 1))))]]:=H81
  refine ah.nil ?_
  refine ax.seq ?_
  refine ax.region E.obj rfl ?_
  refine ah.val rfl (bW (cs:=[(.d (.str [111,117,116,108,101,116])),(.d (.str [])),(.d (.str [])),(.d .aY),(.d .aY)]) iA rfl (cK) (eG rfl rfl rfl rfl rfl)) rfl ?_
  refine ah.less (Less.agg' (d:=az (Tree.mk [111,117,116,108,101,116] [] [] [] [])) (ak.eq rfl (ak.eq rfl (ak.eq rfl (ak.dV rfl (.aY false) rfl rfl (ak.dV rfl (.aY false) rfl rfl .nil))))) ((Tree.eq _).trans rfl)) ?_
  refine ah.val rfl (aR (vs:=[(.d (az (Tree.mk [111,117,116,108,101,116] [] [] [] [])))]) (ds:=[(az (Tree.mk [111,117,116,108,101,116] [] [] [] []))]) pz jI iq iA dO rfl (by decide) (.cons rfl (Tree.len _) .nil) rfl (by intro d hd; simp only [List.mem_cons,List.not_mem_nil,or_false] at hd; rcases hd with rfl <;> exact Tree.agg _) rfl) rfl ?_
  refine ah.val rfl (ai rfl) rfl ?_
  refine ah.nil ?_
  have hr:=Option.some.inj h
  subst hr
  exact ax.ret ⟨_,rfl,rfl,_,_,_,.refl _,uZ,⟨rfl,rfl⟩,H81.sl [1] rfl rfl⟩
set_option maxRecDepth 20000 in
set_option maxHeartbeats 4000000 in
theorem tL (n:Nat) (a2:aG) (a5:aT) (a7:Tree) (r:(Option (aG × Tree))) (h:kU n a2 a5 a7=some r) (b1:Nat) (b3:Nat) (b4:Nat) (b6:Nat):iW R cfg.P 70 30 [.ptr b1 0 0,.ptr b4 0 0,.ptr b6 0 0] [.box b1 [(.ptr b3 0 0)],.box b3 [(.d (.sl ((a2.state).map (D.int .i64)) false)),(.d (.sl ((a2.params).map aJ) false)),(.d (.int .i64 a2.steps))],.box b4 [(.d (.int .i64 a5.Kind)),(.d (.int .i64 a5.N)),(.d (.str a5.Tag)),(.d (.str a5.Text)),(.d (.sl ((a5.aH).map aB) false)),(.d (.sl ((a5.Kids).map aD) false))],.box b6 [(.d (.str a7.Tag)),(.d (.str a7.Key)),(.d (.str a7.Text)),(.d (.sl ((a7.aH).map aB) false)),(.d (.sl ((a7.Kids).map az) false))]] r (fun r v l=>v=.tup []∧l=[.box b1 [.ptr b3 0 0],.box b3 [.d (.sl ((r.1.state).map (D.int .i64)) false),.d (.sl ((r.1.params).map aJ) false),.d (.int .i64 r.1.steps)],.box b4 [.d (.int .i64 a5.Kind),.d (.int .i64 a5.N),.d (.str a5.Tag),.d (.str a5.Text),.d (.sl ((a5.aH).map aB) false),.d (.sl ((a5.Kids).map aD) false)],.box b6 [.d (.str r.2.Tag),.d (.str r.2.Key),.d (.str r.2.Text),.d (.sl ((r.2.aH).map aB) false),.d (.sl ((r.2.Kids).map az) false)]]):=by
 unfold kU at h
 refine iW.of_wp (C:=cfg) Tryd.func30 rfl Kg rfl (fun B0 S0 H0=>?_)
 replace H0:Has B0 S0 [.box b1 [(.ptr b3 0 0)],.box b3 [(.d (.sl ((a2.state).map (D.int .i64)) false)),(.d (.sl ((a2.params).map aJ) false)),(.d (.int .i64 a2.steps))],.box b4 [(.d (.int .i64 a5.Kind)),(.d (.int .i64 a5.N)),(.d (.str a5.Tag)),(.d (.str a5.Text)),(.d (.sl ((a5.aH).map aB) false)),(.d (.sl ((a5.Kids).map aD) false))],.box b6 [(.d (.str a7.Tag)),(.d (.str a7.Key)),(.d (.str a7.Text)),(.d (.sl ((a7.aH).map aB) false)),(.d (.sl ((a7.Kids).map az) false))]]:=H0
 refine ax.seq ?_
 refine ax.region E.obj rfl ?_
 refine ah.val rfl (av H0 (i:=0) rfl rfl (aA Jw rfl)) rfl ?_
 refine ah.val rfl (av H0 (i:=2) rfl rfl (aW gY dY rfl)) rfl ?_
 refine ah.less (Less.agg' (d:=aD a5) (ak.eq rfl (ak.eq rfl (ak.eq rfl (ak.eq rfl (ak.eq rfl (ak.eq rfl .nil)))))) ((aT.eq _).trans rfl)) ?_
 obtain ⟨z8,hzz8,h⟩:=bind_some h
 rcases z8 with _ | x9
 ·
  replace h:=pE h
  subst h
  refine ah.thrown (ins:=[.box b3 [(.d (.sl ((a2.state).map (D.int .i64)) false)),(.d (.sl ((a2.params).map aJ) false)),(.d (.int .i64 a2.steps))]]) (more:=[.box b1 [(.ptr b3 0 0)],.box b4 [(.d (.int .i64 a5.Kind)),(.d (.int .i64 a5.N)),(.d (.str a5.Tag)),(.d (.str a5.Text)),(.d (.sl ((a5.aH).map aB) false)),(.d (.sl ((a5.Kids).map aD) false))],.box b6 [(.d (.str a7.Tag)),(.d (.str a7.Key)),(.d (.str a7.Text)),(.d (.sl ((a7.aH).map aB) false)),(.d (.sl ((a7.Kids).map az) false))]]) rfl (H0.sl [1,0,2,3] rfl rfl) rfl (aC rfl rfl) (lS E n _ _ _ hzz8 b3) (.cons (.refl _) (.cons (.refl _) .nil)) (fun _ _ S10 H11=>?_)
  exact ⟨_,_,rfl,H11.weaken (List.nil_sublist _)⟩
 replace h:=pK h
 refine ah.pI (ins:=[.box b3 [(.d (.sl ((a2.state).map (D.int .i64)) false)),(.d (.sl ((a2.params).map aJ) false)),(.d (.int .i64 a2.steps))]]) (more:=[.box b1 [(.ptr b3 0 0)],.box b4 [(.d (.int .i64 a5.Kind)),(.d (.int .i64 a5.N)),(.d (.str a5.Tag)),(.d (.str a5.Text)),(.d (.sl ((a5.aH).map aB) false)),(.d (.sl ((a5.Kids).map aD) false))],.box b6 [(.d (.str a7.Tag)),(.d (.str a7.Key)),(.d (.str a7.Text)),(.d (.sl ((a7.aH).map aB) false)),(.d (.sl ((a7.Kids).map az) false))]]) (H0.sl [1,0,2,3] rfl rfl) rfl (aC rfl rfl) (lS E n _ _ _ hzz8 b3) (.cons (.refl _) (.cons (.refl _) .nil)) rfl ?_
 rintro _ S12 _ ⟨rfl,rfl⟩ H13
 replace H13:Has B0 S12 [.box b3 [(.d (.sl ((x9.2.state).map (D.int .i64)) false)),(.d (.sl ((x9.2.params).map aJ) false)),(.d (.int .i64 x9.2.steps))],.box b1 [(.ptr b3 0 0)],.box b4 [(.d (.int .i64 a5.Kind)),(.d (.int .i64 a5.N)),(.d (.str a5.Tag)),(.d (.str a5.Text)),(.d (.sl ((a5.aH).map aB) false)),(.d (.sl ((a5.Kids).map aD) false))],.box b6 [(.d (.str a7.Tag)),(.d (.str a7.Key)),(.d (.str a7.Text)),(.d (.sl ((a7.aH).map aB) false)),(.d (.sl ((a7.Kids).map az) false))]]:=H13
 refine ah.val rfl (ai rfl) rfl ?_
 refine ah.nil ?_
 refine ax.seq ?_
 refine ax.region E.obj rfl ?_
 refine ah.val rfl (ae rfl) rfl ?_
 refine ah.val rfl (aO rfl pO) rfl ?_
 refine ah.val rfl (au rfl rfl aU) rfl ?_
 refine ah.val rfl (ae rfl) rfl ?_
 obtain ⟨z15,hzz15,h⟩:=bind_some h
 refine ah.aZ 6 16 (.d (.bool z15)) ?_ ?_
 ·
  rcases Bool.eq_false_or_eq_true ((((x9.1).length:Int) == 1)) with hB14 | hB14
  ·
   refine ah.bool hB14 ?_
   replace hzz15:=bO hB14 hzz15
   refine ah.val rfl (ae rfl) rfl ?_
   obtain ⟨z16,hzz16,hzz15⟩:=bind_some hzz15
   refine ah.val rfl (bA rfl rfl (cZ (enc:=az) hzz16 jI jY ((Tree.len _).trans dO.symm))) rfl ?_
   refine ah.val rfl (lN rfl mY kI rfl) rfl ?_
   refine ah.val rfl (aV rfl (by rw [Tree.cells]; exact fQ j5 rfl)) rfl ?_
   refine ah.val rfl (au rfl rfl jc) rfl ?_
   refine ah.val rfl (ay (b:=true) rfl rfl) rfl ?_
   cases hzz15
   exact ah.nil ⟨_,rfl,(aa.put (aa.push rfl (aa.push rfl (aa.push rfl (aa.push rfl (aa.push rfl (aa.put (.refl _) (Less.eq (by rw [hB14])))))))) (.refl _))⟩
  refine ah.bool hB14 ?_
  refine ah.no rfl rfl ?_
  refine ah.no rfl rfl ?_
  refine ah.no rfl rfl ?_
  refine ah.no rfl rfl ?_
  refine ah.no rfl rfl ?_
  refine ah.val rfl (ay (b:=false) rfl rfl) rfl ?_
  replace hzz15:=bQ hB14 hzz15
  cases hzz15
  exact ah.nil ⟨_,rfl,(aa.put (aa.push rfl (aa.push rfl (aa.push rfl (aa.push rfl (aa.push rfl (aa.put (.refl _) (Less.eq (by rw [hB14])))))))) (.refl _))⟩
 refine ah.val rfl (ae rfl) rfl ?_
 obtain ⟨z18,hzz18,h⟩:=bind_some h
 refine ah.aZ 5 22 (.d (.bool z18)) ?_ ?_
 ·
  rcases Bool.eq_false_or_eq_true (z15) with hB17 | hB17
  ·
   refine ah.bool hB17 ?_
   replace hzz18:=bO hB17 hzz18
   refine ah.val rfl (ae rfl) rfl ?_
   obtain ⟨z19,hzz19,hzz18⟩:=bind_some hzz18
   refine ah.val rfl (bA rfl rfl (cZ (enc:=az) hzz19 jI jY ((Tree.len _).trans dO.symm))) rfl ?_
   refine ah.val rfl (aV rfl (Tree.ib iq dO)) rfl ?_
   obtain ⟨z20,hzz20,hzz18⟩:=bind_some hzz18
   refine ah.ret rfl (aC rfl rfl) (vY E _ _ _ hzz20 _ _ (aF.eq .nil)) rfl ?_
   refine ah.val rfl (ay (b:=true) rfl rfl) rfl ?_
   cases hzz18
   exact ah.nil ⟨_,rfl,(aa.put (aa.push rfl (aa.push rfl (aa.push rfl (aa.push rfl (aa.put (.refl _) (Less.eq (by rw [hB17]))))))) (.refl _))⟩
  refine ah.bool hB17 ?_
  refine ah.no rfl rfl ?_
  refine ah.no rfl rfl ?_
  refine ah.no rfl rfl ?_
  refine ah.no rfl rfl ?_
  refine ah.val rfl (ay (b:=false) rfl rfl) rfl ?_
  replace hzz18:=bQ hB17 hzz18
  cases hzz18
  exact ah.nil ⟨_,rfl,(aa.put (aa.push rfl (aa.push rfl (aa.push rfl (aa.push rfl (aa.put (.refl _) (Less.eq (by rw [hB17]))))))) (.refl _))⟩
 refine ah.val rfl (ae rfl) rfl ?_
 refine ah.val rfl (aO rfl pO) rfl ?_
 obtain ⟨z21,hzz21,h⟩:=bind_some h
 rcases z21 with _ | x22
 ·
  replace h:=pE h
  subst h
  refine ah.thrown (ins:=[]) (more:=[.box b3 [(.d (.sl ((x9.2.state).map (D.int .i64)) false)),(.d (.sl ((x9.2.params).map aJ) false)),(.d (.int .i64 x9.2.steps))],.box b1 [(.ptr b3 0 0)],.box b4 [(.d (.int .i64 a5.Kind)),(.d (.int .i64 a5.N)),(.d (.str a5.Tag)),(.d (.str a5.Text)),(.d (.sl ((a5.aH).map aB) false)),(.d (.sl ((a5.Kids).map aD) false))],.box b6 [(.d (.str a7.Tag)),(.d (.str a7.Key)),(.d (.str a7.Text)),(.d (.sl ((a7.aH).map aB) false)),(.d (.sl ((a7.Kids).map az) false))]]) rfl (H13.sl [0,1,2,3] rfl rfl) rfl (aC rfl rfl) (fu E n _ _ _ _ hzz21 ) (.cons (.refl _) (.cons (.refl _) (.cons (.refl _) .nil))) (fun _ _ S23 H24=>?_)
  exact ⟨_,_,rfl,H24.weaken (List.nil_sublist _)⟩
 replace h:=pK h
 refine ah.pI (ins:=[]) (more:=[.box b3 [(.d (.sl ((x9.2.state).map (D.int .i64)) false)),(.d (.sl ((x9.2.params).map aJ) false)),(.d (.int .i64 x9.2.steps))],.box b1 [(.ptr b3 0 0)],.box b4 [(.d (.int .i64 a5.Kind)),(.d (.int .i64 a5.N)),(.d (.str a5.Tag)),(.d (.str a5.Text)),(.d (.sl ((a5.aH).map aB) false)),(.d (.sl ((a5.Kids).map aD) false))],.box b6 [(.d (.str a7.Tag)),(.d (.str a7.Key)),(.d (.str a7.Text)),(.d (.sl ((a7.aH).map aB) false)),(.d (.sl ((a7.Kids).map az) false))]]) (H13.sl [0,1,2,3] rfl rfl) rfl (aC rfl rfl) (fu E n _ _ _ _ hzz21 ) (.cons (.refl _) (.cons (.refl _) (.cons (.refl _) .nil))) rfl ?_
 rintro _ S25 _ ⟨rfl,rfl⟩ H26
 replace H26:Has B0 S25 [.box b3 [(.d (.sl ((x9.2.state).map (D.int .i64)) false)),(.d (.sl ((x9.2.params).map aJ) false)),(.d (.int .i64 x9.2.steps))],.box b1 [(.ptr b3 0 0)],.box b4 [(.d (.int .i64 a5.Kind)),(.d (.int .i64 a5.N)),(.d (.str a5.Tag)),(.d (.str a5.Text)),(.d (.sl ((a5.aH).map aB) false)),(.d (.sl ((a5.Kids).map aD) false))],.box b6 [(.d (.str a7.Tag)),(.d (.str a7.Key)),(.d (.str a7.Text)),(.d (.sl ((a7.aH).map aB) false)),(.d (.sl ((a7.Kids).map az) false))]]:=H26
 refine ah.nil ?_
 refine ax.region E.obj rfl ?_
 refine ah.val rfl (ae rfl) rfl ?_
 obtain ⟨z27,hzz27,h⟩:=bind_some h
 refine ah.val rfl (bA rfl rfl (cZ (enc:=az) hzz27 jI jY ((Tree.len _).trans dO.symm))) rfl ?_
 refine ah.val rfl (aV rfl (Tree.ib iq dO)) rfl ?_
 refine ah.store H26 (i:=3) rfl rfl rfl rfl (Tree.bD _) rfl dO rfl jY rfl rfl rfl (fun S28 H29=>?_)
 refine ah.nil ?_
 have hr:=Option.some.inj h
 subst hr
 exact ⟨_,rfl,rfl,_,_,_,.refl _,(.refl _),⟨rfl,rfl⟩,H29.sl [1,0,2,3] rfl rfl⟩
set_option maxRecDepth 20000 in
set_option maxHeartbeats 4000000 in
theorem ku (n:Nat) (a1:aT) (a2:(List Int)) (a3:(List dQ)) (r:(Tree × Int)) (h:jm n a1 a2 a3=some r):di R cfg.P 9 [(aD a1),(.sl ((a2).map (D.int .i64)) false),(.sl ((a3).map aJ) false)] (.tup [.d (az r.1),.d (.int .i64 r.2)]):=by
 unfold jm at h
 refine di.of_wp E.obj.toObjOk (C:=cfg) Tryd.func9 rfl KR rfl ?_
 have H0:Has aI aI []:=Has.pure
 refine ax.seq ?_
 refine ax.region E.obj rfl ?_
 refine ah.box H0 rfl rfl rfl (aT.bD _) rfl (fun b4 S5 H6=>?_)
 refine ah.alloc H6 rfl uf iA rfl rfl (fun b7 S8 H9=>?_)
 refine ah.val rfl (ai rfl) rfl ?_
 refine ah.nil ?_
 refine ax.seq ?_
 refine ax.region E.obj rfl ?_
 refine ah.alloc H9 rfl uf iA rfl rfl (fun b10 S11 H12=>?_)
 refine ah.nil ?_
 refine ax.seq ?_
 refine ax.region E.obj rfl ?_
 refine ah.val rfl (ae rfl) rfl ?_
 refine ah.val rfl (ae rfl) rfl ?_
 refine ah.val rfl (bW (cs:=[(.d (.sl ((a2).map (D.int .i64)) false)),(.d (.sl ((a3).map aJ) false)),(.d (.int .i64 0))]) Jo rfl (wX) (eG rfl rfl rfl rfl (eG rfl rfl rfl rfl rfl))) rfl ?_
 refine ah.less (Less.agg' (d:=kY (aG.mk a2 a3 0)) (ak.eq rfl (ak.eq rfl (ak.eq rfl .nil))) ((aG.eq _).trans rfl)) ?_
 refine ah.box H12 rfl rfl rfl (aG.bD _) rfl (fun b13 S14 H15=>?_)
 refine ah.alloc H15 rfl Kk Jj rfl rfl (fun b16 S17 H18=>?_)
 refine ah.store H18 (i:=0) rfl rfl rfl rfl rfl rfl J5 rfl Kc rfl rfl rfl (fun S19 H20=>?_)
 refine ah.nil ?_
 refine ax.seq ?_
 obtain ⟨SC1,hwC1,HC1⟩:=H20.Dp (i:=2) (cs':=[(.d (.str [])),(.d (.str [])),(.d (.str [])),(.d (.sl (([]).map aB) false)),(.d (.sl (([]).map az) false))]) rfl (.cons (.refl _) (.cons (.refl _) (.cons (.refl _) (.cons vQ (.cons vQ .nil)))))
 refine ax.gK hwC1 ?_
 refine ax.region E.obj rfl ?_
 refine ah.val rfl (nM rfl) rfl ?_
 obtain ⟨z21,hzz21,h⟩:=bind_some h
 refine ah.Ei (ins:=[.box b16 [(.ptr b13 0 0)],.box b13 [(.d (.sl (((aG.mk a2 a3 0).state).map (D.int .i64)) false)),(.d (.sl (((aG.mk a2 a3 0).params).map aJ) false)),(.d (.int .i64 (aG.mk a2 a3 0).steps))],.box b4 [(.d (.int .i64 a1.Kind)),(.d (.int .i64 a1.N)),(.d (.str a1.Tag)),(.d (.str a1.Text)),(.d (.sl ((a1.aH).map aB) false)),(.d (.sl ((a1.Kids).map aD) false))],.box b10 [(.d (.str [])),(.d (.str [])),(.d (.str [])),(.d (.sl (([]).map aB) false)),(.d (.sl (([]).map az) false))]]) (more:=[.box b7 [(.d (.str [])),(.d (.str [])),(.d (.str [])),(.d .aY),(.d .aY)]]) (HC1.sl [0,1,4,2,3] rfl rfl) rfl (aC rfl rfl) (Ap E (tL E n _ _ _ _ hzz21 b16 b13 b4 b10)) (.cons (.refl _) .nil) rfl ?_
 rintro v22 S23 l24 hr25 H26
 rcases z21 with _ | x28
 ·
  obtain ⟨rfl,nt29,na30,hv27⟩:=hr25
  replace hv27:v22=.tup [.d (jb (eT.mk 6 nt29 na30)),.d (.bool false)]:=hv27
  subst hv27
  replace h:=J6 h
  replace H26:Has aI S23 [.box b7 [(.d (.str [])),(.d (.str [])),(.d (.str [])),(.d .aY),(.d .aY)]]:=H26
  refine ah.val rfl (ae rfl) rfl ?_
  refine ah.val rfl (aN rfl rfl) rfl ?_
  refine ah.val rfl (aN rfl rfl) rfl ?_
  refine ah.alloc H26 rfl Gr D9 rfl rfl (fun b31 S32 H33=>?_)
  refine ah.store H33 (i:=0) rfl rfl rfl rfl (eT.bD _) rfl AQ rfl FE rfl rfl rfl (fun S34 H35=>?_)
  refine ah.val rfl (ai rfl) rfl ?_
  refine ah.nil ?_
  refine ax.seq ?_
  refine ax.seq ?_
  refine ax.region E.obj rfl ?_
  refine ah.val rfl (ae rfl) rfl ?_
  refine ah.val rfl (dW rfl) rfl ?_
  refine ah.nil ?_
  refine ax.cond rfl (fun hb=>?_) (fun hb=>?_)
  ·
   refine ax.seq ?_
   refine ax.jH E.obj nQ K9 [(6,none),(7,some 4)] (by kernel_rfl) [3] (by decide) [some (.d (az (Tree.mk [] [] [] [] []))),some (.ptr b31 0 0),some (.d (.int .i64 6)),none,none] ?_
   refine ⟨[0,1,2],by kernel_rfl,?_,_,_,rfl,rfl,.step ?_⟩
   ·
    refine .cons rfl rfl rfl (.step ?_) ?_
    ·
     refine ah.val rfl (bW (cs:=[(.d (.str [])),(.d (.str [])),(.d (.str [])),(.d .aY),(.d .aY)]) iA rfl (cK) rfl) rfl ?_
     refine ah.less (Less.agg' (d:=az (Tree.mk [] [] [] [] [])) (ak.eq rfl (ak.eq rfl (ak.eq rfl (ak.dV rfl (.aY false) rfl rfl (ak.dV rfl (.aY false) rfl rfl .nil))))) ((Tree.eq _).trans rfl)) ?_
     exact ah.nil ⟨_,_,rfl,fun _ ht=>by cases ht; exact ⟨rfl,.refl _⟩⟩
    refine .v rfl rfl rfl rfl (aj rfl FH IV rfl) ?_
    refine .v rfl rfl rfl rfl (av H35 (i:=0) rfl rfl (aA IU rfl)) ?_
    exact .nil
   refine ah.store H35 (i:=1) rfl rfl rfl rfl (Tree.bD _) rfl dO rfl jY rfl rfl rfl (fun S38 H39=>?_)
   refine ah.nil ⟨_,.any,_,rfl,(fun _ ht=>by cases ht),_,(.o (.o (.o (.w .any (.w (.d (.int .i64 6)) .nil))))),(fun _ ht=>by cases ht),?_⟩
   refine ⟨[1,2,4],by kernel_rfl,?_,_,rfl,?_⟩
   ·
    refine .v rfl rfl rfl rfl (aj rfl FH IV rfl) ?_
    refine .v rfl rfl rfl rfl (av H39 (i:=0) rfl rfl (aA IU rfl)) ?_
    refine .v rfl rfl rfl rfl (ai rfl) ?_
    exact .nil
   have hr:=Option.some.inj h
   subst hr
   exact ax.ret ⟨_,lh H39 (i:=1) rfl rfl rfl (aW iq dO rfl) rfl,rfl,vg (aF.seq (aF.mr (d:=az (Tree.mk [] [] [] [] [])) (ak.eq rfl (ak.eq rfl (ak.eq rfl (ak.eq rfl (ak.eq rfl .nil))))) ((Tree.eq _).trans rfl)) (aF.eq .nil))⟩
  cases hb
 obtain ⟨_,⟨rfl,rfl⟩,hv27⟩:=hr25
 replace hv27:v22=.tup [.d (jb (eT.mk 0 [] 0)),.d (.bool true)]:=hv27
 subst hv27
 replace h:=Jq h
 replace H26:Has aI S23 [.box b16 [(.ptr b13 0 0)],.box b13 [(.d (.sl ((x28.1.state).map (D.int .i64)) false)),(.d (.sl ((x28.1.params).map aJ) false)),(.d (.int .i64 x28.1.steps))],.box b4 [(.d (.int .i64 a1.Kind)),(.d (.int .i64 a1.N)),(.d (.str a1.Tag)),(.d (.str a1.Text)),(.d (.sl ((a1.aH).map aB) false)),(.d (.sl ((a1.Kids).map aD) false))],.box b10 [(.d (.str x28.2.Tag)),(.d (.str x28.2.Key)),(.d (.str x28.2.Text)),(.d (.sl ((x28.2.aH).map aB) false)),(.d (.sl ((x28.2.Kids).map az) false))],.box b7 [(.d (.str [])),(.d (.str [])),(.d (.str [])),(.d .aY),(.d .aY)]]:=H26
 refine ah.val rfl (ae rfl) rfl ?_
 refine ah.val rfl (aN rfl rfl) rfl ?_
 refine ah.val rfl (aN rfl rfl) rfl ?_
 refine ah.alloc H26 rfl Gr D9 rfl rfl (fun b40 S41 H42=>?_)
 refine ah.store H42 (i:=0) rfl rfl rfl rfl (eT.bD _) rfl AQ rfl FE rfl rfl rfl (fun S43 H44=>?_)
 refine ah.val rfl (ai rfl) rfl ?_
 refine ah.nil ?_
 refine ax.seq ?_
 refine ax.seq ?_
 refine ax.region E.obj rfl ?_
 refine ah.val rfl (ae rfl) rfl ?_
 refine ah.val rfl (dW rfl) rfl ?_
 refine ah.nil ?_
 refine ax.cond rfl (fun hb=>?_) (fun hb=>?_)
 ·
  cases hb
 refine ax.skip ?_
 refine ax.seq ?_
 refine ax.region E.obj rfl ?_
 refine ah.val rfl (av H44 (i:=4) rfl rfl (aW iq dO rfl)) rfl ?_
 refine ah.less (Less.agg' (d:=az x28.2) (ak.eq rfl (ak.eq rfl (ak.eq rfl (ak.eq rfl (ak.eq rfl .nil))))) ((Tree.eq _).trans rfl)) ?_
 refine ah.store H44 (i:=5) rfl rfl rfl rfl (Tree.bD _) rfl dO rfl jY rfl rfl rfl (fun S45 H46=>?_)
 refine ah.val rfl (ai rfl) rfl ?_
 refine ah.nil ?_
 have hr:=Option.some.inj h
 subst hr
 exact ax.ret ⟨_,lh H46 (i:=5) rfl rfl rfl (aW iq dO rfl) rfl,rfl,vg (aF.seq (aF.mr (d:=az x28.2) (ak.eq rfl (ak.eq rfl (ak.eq rfl (ak.eq rfl (ak.eq rfl .nil))))) ((Tree.eq _).trans rfl)) (aF.eq .nil))⟩
set_option maxRecDepth 20000 in
set_option maxHeartbeats 4000000 in
theorem lM (n:Nat) (a1:(List Attr)) (a2:(List Attr)) (r:Bool) (h:eP n a1 a2=some r):di R cfg.P 33 [(.sl ((a1).map aB) false),(.sl ((a2).map aB) false)] (.d (.bool r)):=by
 unfold eP at h
 refine di.of_wp E.obj.toObjOk (C:=cfg) Tryd.func33 rfl JQ rfl ?_
 have H0:Has aI aI []:=Has.pure
 refine ax.seq ?_
 refine ax.region E.obj rfl ?_
 refine ah.val rfl (ai rfl) rfl ?_
 refine ah.nil ?_
 refine ax.seq ?_
 refine ax.seq ?_
 refine ax.region E.obj rfl ?_
 refine ah.val rfl (ae rfl) rfl ?_
 refine ah.val rfl (aO rfl xH) rfl ?_
 refine ah.val rfl (ae rfl) rfl ?_
 refine ah.val rfl (aO rfl xH) rfl ?_
 refine ah.val rfl (au rfl rfl jl) rfl ?_
 refine ah.nil ?_
 refine ax.cond rfl (fun hb3=>?_) (fun hb3=>?_)
 ·
  replace h:=bO hb3 h
  refine ax.seq ?_
  refine ax.region E.obj rfl ?_
  refine ah.val rfl (ai rfl) rfl ?_
  refine ah.nil ?_
  have hr:=Option.some.inj h
  subst hr
  exact ax.ret ⟨_,rfl,rfl,gL (aF.eq .nil)⟩
 replace h:=bQ hb3 h
 refine ax.skip ?_
 refine ax.seq ?_
 refine ax.seq ?_
 refine ax.region E.obj rfl ?_
 refine ah.val rfl (ai rfl) rfl ?_
 refine ah.nil ?_
 refine ax.block ?_
 refine lV.start (B:=aI) (α:=Int) (fun k a=>bC a1 a2 k a=some r) (fun a=>[(0,(.d (.sl ((a1).map aB) false))),(1,(.d (.sl ((a2).map aB) false))),(5,(.d (.int .i64 a)))]) (fun a=>[]) ?_ ?_ n ⟨0,_,_,aI,.refl _ _,.refl _,(aa.r rfl (aa.r rfl (aa.r rfl aa.nil))),H0.sl [] rfl rfl,h⟩
 ·
  intro a h; simp [bC] at h
 intro k12 x11 S9 H10 h
 replace h:bC a1 a2 (k12 + 1) x11=some r:=h
 replace H10:Has aI S9 []:=H10
 unfold bC at h
 refine ax.seq ?_
 refine ax.seq ?_
 refine ax.region E.obj rfl ?_
 refine ah.val rfl (ae rfl) rfl ?_
 refine ah.val rfl (ae rfl) rfl ?_
 refine ah.val rfl (aO rfl xH) rfl ?_
 refine ah.val rfl (au rfl rfl bJ) rfl ?_
 refine ah.nil ?_
 refine ax.cond rfl (fun hb13=>?_) (fun hb13=>?_)
 ·
  replace h:=bO hb13 h
  refine ax.skip ?_
  refine ax.seq ?_
  refine ax.block ?_
  refine ax.seq ?_
  obtain ⟨z14,hzz14,h⟩:=bind_some h
  obtain ⟨z15,hzz15,h⟩:=bind_some h
  refine ax.jH E.obj nQ KE [(0,none),(1,none),(5,none),(25,some 8)] (by kernel_rfl) [] (by decide) [some (.d (.sl ((a1).map aB) false)),some (.d (.int .i64 x11)),some (.eptr (aB z14) 0),some (.d (aB z14)),some (.d (.sl ((a2).map aB) false)),some (.d (.int .i64 x11)),some (.eptr (aB z15) 0),some (.d (aB z15)),some (.d (.bool (!(Attr.beq z14 z15))))] ?_
  refine ⟨[0,1,2,3,4,5,6,7,8],by kernel_rfl,?_,_,rfl,?_⟩
  ·
   refine .v rfl rfl rfl rfl (ae rfl) ?_
   refine .v rfl rfl rfl rfl (ae rfl) ?_
   refine .v rfl rfl rfl rfl (bA rfl rfl (cZ (enc:=aB) hzz14 zx Cu ((Attr.len _).trans pG.symm))) ?_
   refine .v rfl rfl rfl rfl (aV rfl (Attr.ib Et pG)) ?_
   refine .v rfl rfl rfl rfl (ae rfl) ?_
   refine .v rfl rfl rfl rfl (ae rfl) ?_
   refine .v rfl rfl rfl rfl (bA rfl rfl (cZ (enc:=aB) hzz15 zx Cu ((Attr.len _).trans pG.symm))) ?_
   refine .v rfl rfl rfl rfl (aV rfl (Attr.ib Et pG)) ?_
   refine .v rfl rfl rfl rfl (au rfl rfl (BQ (Attr.eq _) (Attr.eq _) (Iu _ _))) ?_
   exact .nil
  refine ax.cond rfl (fun hb16=>?_) (fun hb16=>?_)
  ·
   replace h:=bO hb16 h
   refine ax.seq ?_
   refine ax.region E.obj rfl ?_
   refine ah.val rfl (ai rfl) rfl ?_
   refine ah.nil ?_
   have hr:=Option.some.inj h
   subst hr
   exact ax.ret ⟨_,rfl,rfl,gL (aF.eq .nil)⟩
  replace h:=bQ hb16 h
  refine ax.skip ?_
  refine ax.region E.obj rfl ?_
  refine ah.val rfl (ae rfl) rfl ?_
  refine ah.val rfl (au rfl rfl bq) rfl ?_
  refine ah.val rfl (ai rfl) rfl ?_
  refine ah.nil ?_
  exact ⟨(IntKind.wrap .i64 (x11 + 1)),_,_,S9,.refl _ _,.refl _,(aa.r rfl (aa.r rfl (aa.r rfl aa.nil))),H10.sl [] rfl rfl,h⟩
 replace h:=bQ hb13 h
 refine ax.exit ?_
 refine ax.seq ?_
 refine ax.region E.obj rfl ?_
 refine ah.val rfl (ai rfl) rfl ?_
 refine ah.nil ?_
 have hr:=Option.some.inj h
 subst hr
 exact ax.ret ⟨_,rfl,rfl,gL (aF.eq .nil)⟩
set_option maxRecDepth 20000 in
set_option maxHeartbeats 4000000 in
theorem ji:∀ (n:Nat) (a1:Tree) (a2:Tree) (r:Bool),df n a1 a2=some r→di R cfg.P 10 [(az a1),(az a2)] (.d (.bool r))
 | 0,a1,a2,r,h=>by simp [df] at h
 | n + 1,a1,a2,r,h=>by
  have ih:=ji n
  unfold df at h
  refine di.of_wp E.obj.toObjOk (C:=cfg) Tryd.func10 rfl Kr rfl ?_
  have H0:Has aI aI []:=Has.pure
  refine ax.seq ?_
  refine ax.region E.obj rfl ?_
  refine ah.box H0 rfl rfl rfl (Tree.bD _) rfl (fun b3 S4 H5=>?_)
  refine ah.box H5 rfl rfl rfl (Tree.bD _) rfl (fun b6 S7 H8=>?_)
  refine ah.val rfl (ai rfl) rfl ?_
  refine ah.nil ?_
  refine ax.seq ?_
  refine ax.seq ?_
  refine ax.region E.obj rfl ?_
  refine ah.val rfl (aj rfl mY kI rfl) rfl ?_
  refine ah.val rfl (av H8 (i:=1) rfl rfl (aA j5 rfl)) rfl ?_
  refine ah.val rfl (aj rfl mY kI rfl) rfl ?_
  refine ah.val rfl (av H8 (i:=0) rfl rfl (aA j5 rfl)) rfl ?_
  refine ah.val rfl (au rfl rfl jc) rfl ?_
  refine ah.val rfl (ae rfl) rfl ?_
  refine ah.aZ 6 17 (.d (.bool ((!(a1.Tag == a2.Tag)) || (!(a1.Key == a2.Key))))) ?_ ?_
  ·
   rcases Bool.eq_false_or_eq_true ((!(a1.Tag == a2.Tag))) with hB9 | hB9
   ·
    refine ah.bool hB9 ?_
    refine ah.no rfl rfl ?_
    refine ah.no rfl rfl ?_
    refine ah.no rfl rfl ?_
    refine ah.no rfl rfl ?_
    refine ah.no rfl rfl ?_
    refine ah.val rfl (ay (b:=true) rfl rfl) rfl ?_
    exact ah.nil ⟨_,rfl,(aa.put (aa.push rfl (aa.push rfl (aa.push rfl (aa.push rfl (aa.push rfl (aa.put (.refl _) (Less.eq (by rw [hB9])))))))) (Less.eq (by rw [hB9]; rw [Bool.true_or])))⟩
   refine ah.bool hB9 ?_
   refine ah.val rfl (aj rfl mh kI rfl) rfl ?_
   refine ah.val rfl (av H8 (i:=1) rfl rfl (aA j5 rfl)) rfl ?_
   refine ah.val rfl (aj rfl mh kI rfl) rfl ?_
   refine ah.val rfl (av H8 (i:=0) rfl rfl (aA j5 rfl)) rfl ?_
   refine ah.val rfl (au rfl rfl jc) rfl ?_
   refine ah.val rfl (ay (b:=false) rfl rfl) rfl ?_
   exact ah.nil ⟨_,rfl,(aa.put (aa.push rfl (aa.push rfl (aa.push rfl (aa.push rfl (aa.push rfl (aa.put (.refl _) (Less.eq (by rw [hB9])))))))) (Less.eq (by rw [hB9]; rw [Bool.false_or])))⟩
  refine ah.val rfl (ae rfl) rfl ?_
  refine ah.aZ 6 24 (.d (.bool (((!(a1.Tag == a2.Tag)) || (!(a1.Key == a2.Key))) || (!(a1.Text == a2.Text))))) ?_ ?_
  ·
   rcases Bool.eq_false_or_eq_true (((!(a1.Tag == a2.Tag)) || (!(a1.Key == a2.Key)))) with hB10 | hB10
   ·
    refine ah.bool hB10 ?_
    refine ah.no rfl rfl ?_
    refine ah.no rfl rfl ?_
    refine ah.no rfl rfl ?_
    refine ah.no rfl rfl ?_
    refine ah.no rfl rfl ?_
    refine ah.val rfl (ay (b:=true) rfl rfl) rfl ?_
    exact ah.nil ⟨_,rfl,(aa.put (aa.push rfl (aa.push rfl (aa.push rfl (aa.push rfl (aa.push rfl (aa.put (.refl _) (Less.eq (by rw [hB10])))))))) (Less.eq (by rw [hB10]; rw [Bool.true_or])))⟩
   refine ah.bool hB10 ?_
   refine ah.val rfl (aj rfl tC kI rfl) rfl ?_
   refine ah.val rfl (av H8 (i:=1) rfl rfl (aA j5 rfl)) rfl ?_
   refine ah.val rfl (aj rfl tC kI rfl) rfl ?_
   refine ah.val rfl (av H8 (i:=0) rfl rfl (aA j5 rfl)) rfl ?_
   refine ah.val rfl (au rfl rfl jc) rfl ?_
   refine ah.val rfl (ay (b:=false) rfl rfl) rfl ?_
   exact ah.nil ⟨_,rfl,(aa.put (aa.push rfl (aa.push rfl (aa.push rfl (aa.push rfl (aa.push rfl (aa.put (.refl _) (Less.eq (by rw [hB10])))))))) (Less.eq (by rw [hB10]; rw [Bool.false_or])))⟩
  refine ah.val rfl (ae rfl) rfl ?_
  obtain ⟨z12,hzz12,h⟩:=bind_some h
  refine ah.aZ 7 32 (.d (.bool z12)) ?_ ?_
  ·
   rcases Bool.eq_false_or_eq_true ((((!(a1.Tag == a2.Tag)) || (!(a1.Key == a2.Key))) || (!(a1.Text == a2.Text)))) with hB11 | hB11
   ·
    refine ah.bool hB11 ?_
    refine ah.no rfl rfl ?_
    refine ah.no rfl rfl ?_
    refine ah.no rfl rfl ?_
    refine ah.no rfl rfl ?_
    refine ah.no rfl rfl ?_
    refine ah.no rfl rfl ?_
    refine ah.val rfl (ay (b:=true) rfl rfl) rfl ?_
    replace hzz12:=bO hB11 hzz12
    cases hzz12
    exact ah.nil ⟨_,rfl,(aa.put (aa.push rfl (aa.push rfl (aa.push rfl (aa.push rfl (aa.push rfl (aa.push rfl (aa.put (.refl _) (Less.eq (by rw [hB11]))))))))) (.refl _))⟩
   refine ah.bool hB11 ?_
   replace hzz12:=bQ hB11 hzz12
   refine ah.val rfl (aj rfl oK tK rfl) rfl ?_
   refine ah.val rfl (av H8 (i:=1) rfl rfl (aA ve rfl)) rfl ?_
   refine ah.val rfl (aj rfl oK tK rfl) rfl ?_
   refine ah.val rfl (av H8 (i:=0) rfl rfl (aA ve rfl)) rfl ?_
   obtain ⟨z13,hzz13,hzz12⟩:=bind_some hzz12
   refine ah.ret rfl (aC rfl rfl) (lM E _ _ _ _ hzz13 _ _ (aF.eq (aF.eq .nil))) rfl ?_
   refine ah.val rfl (dW rfl) rfl ?_
   refine ah.val rfl (ay (b:=false) rfl rfl) rfl ?_
   cases hzz12
   exact ah.nil ⟨_,rfl,(aa.put (aa.push rfl (aa.push rfl (aa.push rfl (aa.push rfl (aa.push rfl (aa.push rfl (aa.put (.refl _) (Less.eq (by rw [hB11]))))))))) (.refl _))⟩
  refine ah.val rfl (ae rfl) rfl ?_
  refine ah.aZ 8 41 (.d (.bool (z12 || (((a1.Kids).length:Int) != ((a2.Kids).length:Int))))) ?_ ?_
  ·
   rcases Bool.eq_false_or_eq_true (z12) with hB14 | hB14
   ·
    refine ah.bool hB14 ?_
    refine ah.no rfl rfl ?_
    refine ah.no rfl rfl ?_
    refine ah.no rfl rfl ?_
    refine ah.no rfl rfl ?_
    refine ah.no rfl rfl ?_
    refine ah.no rfl rfl ?_
    refine ah.no rfl rfl ?_
    refine ah.val rfl (ay (b:=true) rfl rfl) rfl ?_
    exact ah.nil ⟨_,rfl,(aa.put (aa.push rfl (aa.push rfl (aa.push rfl (aa.push rfl (aa.push rfl (aa.push rfl (aa.push rfl (aa.put (.refl _) (Less.eq (by rw [hB14])))))))))) (Less.eq (by rw [hB14]; rw [Bool.true_or])))⟩
   refine ah.bool hB14 ?_
   refine ah.val rfl (aj rfl j3 sK rfl) rfl ?_
   refine ah.val rfl (av H8 (i:=1) rfl rfl (aA sZ rfl)) rfl ?_
   refine ah.val rfl (aO rfl pO) rfl ?_
   refine ah.val rfl (aj rfl j3 sK rfl) rfl ?_
   refine ah.val rfl (av H8 (i:=0) rfl rfl (aA sZ rfl)) rfl ?_
   refine ah.val rfl (aO rfl pO) rfl ?_
   refine ah.val rfl (au rfl rfl jl) rfl ?_
   refine ah.val rfl (ay (b:=false) rfl rfl) rfl ?_
   exact ah.nil ⟨_,rfl,(aa.put (aa.push rfl (aa.push rfl (aa.push rfl (aa.push rfl (aa.push rfl (aa.push rfl (aa.push rfl (aa.put (.refl _) (Less.eq (by rw [hB14])))))))))) (Less.eq (by rw [hB14]; rw [Bool.false_or])))⟩
  refine ah.nil ?_
  refine ax.cond rfl (fun hb15=>?_) (fun hb15=>?_)
  ·
   replace h:=bO hb15 h
   refine ax.seq ?_
   refine ax.region E.obj rfl ?_
   refine ah.val rfl (ai rfl) rfl ?_
   refine ah.nil ?_
   have hr:=Option.some.inj h
   subst hr
   exact ax.ret ⟨_,rfl,rfl,gL (aF.eq .nil)⟩
  replace h:=bQ hb15 h
  refine ax.skip ?_
  refine ax.seq ?_
  refine ax.seq ?_
  refine ax.region E.obj rfl ?_
  refine ah.val rfl (aj rfl j3 sK rfl) rfl ?_
  refine ah.val rfl (av H8 (i:=1) rfl rfl (aA sZ rfl)) rfl ?_
  refine ah.val rfl (aO rfl pO) rfl ?_
  refine ah.val rfl (ae rfl) rfl ?_
  refine ah.nil ?_
  refine ax.block ?_
  refine lV.start (B:=aI) (α:=Int) (fun k a=>dG (df n) a1 a2 k a=some r) (fun a=>[(2,(.ptr b3 0 0)),(3,(.ptr b6 0 0)),(44,(.d (.int .i64 ((a1.Kids).length:Int)))),(45,(.d (.int .i64 a)))]) (fun a=>[.box b6 [(.d (.str a2.Tag)),(.d (.str a2.Key)),(.d (.str a2.Text)),(.d (.sl ((a2.aH).map aB) false)),(.d (.sl ((a2.Kids).map az) false))],.box b3 [(.d (.str a1.Tag)),(.d (.str a1.Key)),(.d (.str a1.Text)),(.d (.sl ((a1.aH).map aB) false)),(.d (.sl ((a1.Kids).map az) false))]]) ?_ ?_ n ⟨0,_,_,S7,.refl _ _,.refl _,(aa.r rfl (aa.r rfl (aa.r rfl (aa.r rfl aa.nil)))),H8.sl [0,1] rfl rfl,h⟩
  ·
   intro a h; simp [dG] at h
  intro k24 x23 S21 H22 h
  replace h:dG (df n) a1 a2 (k24 + 1) x23=some r:=h
  replace H22:Has aI S21 [.box b6 [(.d (.str a2.Tag)),(.d (.str a2.Key)),(.d (.str a2.Text)),(.d (.sl ((a2.aH).map aB) false)),(.d (.sl ((a2.Kids).map az) false))],.box b3 [(.d (.str a1.Tag)),(.d (.str a1.Key)),(.d (.str a1.Text)),(.d (.sl ((a1.aH).map aB) false)),(.d (.sl ((a1.Kids).map az) false))]]:=H22
  unfold dG at h
  refine ax.seq ?_
  refine ax.region E.obj rfl ?_
  refine ah.val rfl (au rfl rfl bJ) rfl ?_
  refine ah.nil ?_
  refine ax.seq ?_
  refine ax.cond rfl (fun hb25=>?_) (fun hb25=>?_)
  ·
   replace h:=bO hb25 h
   refine ax.skip ?_
   refine ax.seq ?_
   refine ax.block ?_
   refine ax.seq ?_
   refine ax.region E.obj rfl ?_
   refine ah.val rfl (ae rfl) rfl ?_
   refine ah.val rfl (ai rfl) rfl ?_
   refine ah.nil ?_
   refine ax.seq ?_
   obtain ⟨z26,hzz26,h⟩:=bind_some h
   obtain ⟨z27,hzz27,h⟩:=bind_some h
   obtain ⟨z28,hzz28,h⟩:=bind_some h
   refine ax.jH E.obj nQ KP [(2,none),(3,none),(44,none),(45,none),(59,some 11)] (by kernel_rfl) [] (by decide) [some (.ptr b3 0 4),some (.d (.sl ((a1.Kids).map az) false)),some (.d (.int .i64 x23)),some (.eptr (az z26) 0),some (.d (az z26)),some (.ptr b6 0 4),some (.d (.sl ((a2.Kids).map az) false)),some (.d (.int .i64 x23)),some (.eptr (az z27) 0),some (.d (az z27)),some (.d (.bool z28)),some (.d (.bool (!z28)))] ?_
   refine ⟨[0,1,2,3,4,5,6,7,8,9,10,11],by kernel_rfl,?_,_,rfl,?_⟩
   ·
    refine .v rfl rfl rfl rfl (aj rfl j3 sK rfl) ?_
    refine .v rfl rfl rfl rfl (av H22 (i:=1) rfl rfl (aA sZ rfl)) ?_
    refine .v rfl rfl rfl rfl (ae rfl) ?_
    refine .v rfl rfl rfl rfl (bA rfl rfl (cZ (enc:=az) hzz26 jI jY ((Tree.len _).trans dO.symm))) ?_
    refine .v rfl rfl rfl rfl (aV rfl (Tree.ib iq dO)) ?_
    refine .v rfl rfl rfl rfl (aj rfl j3 sK rfl) ?_
    refine .v rfl rfl rfl rfl (av H22 (i:=0) rfl rfl (aA sZ rfl)) ?_
    refine .v rfl rfl rfl rfl (ae rfl) ?_
    refine .v rfl rfl rfl rfl (bA rfl rfl (cZ (enc:=az) hzz27 jI jY ((Tree.len _).trans dO.symm))) ?_
    refine .v rfl rfl rfl rfl (aV rfl (Tree.ib iq dO)) ?_
    refine .cons rfl rfl rfl (.step ?_) ?_
    ·
     refine ah.ret rfl (aC rfl rfl) (ih _ _ _ hzz28 _ _ (aF.eq (aF.eq .nil))) rfl ?_
     exact ah.nil ⟨_,_,rfl,fun _ ht=>by cases ht; exact ⟨rfl,.refl _⟩⟩
    refine .v rfl rfl rfl rfl (dW rfl) ?_
    exact .nil
   refine ax.cond rfl (fun hb29=>?_) (fun hb29=>?_)
   ·
    replace h:=bO hb29 h
    refine ax.seq ?_
    refine ax.region E.obj rfl ?_
    refine ah.val rfl (ai rfl) rfl ?_
    refine ah.nil ?_
    have hr:=Option.some.inj h
    subst hr
    exact ax.ret ⟨_,rfl,rfl,gL (aF.eq .nil)⟩
   replace h:=bQ hb29 h
   refine ax.skip ?_
   refine ax.region E.obj rfl ?_
   refine ah.val rfl (au rfl rfl bq) rfl ?_
   refine ah.val rfl (ae rfl) rfl ?_
   refine ah.nil ?_
   exact ⟨(IntKind.wrap .i64 (x23 + 1)),_,_,S21,.refl _ _,.refl _,(aa.r rfl (aa.r rfl (aa.r rfl (aa.r rfl aa.nil)))),H22.sl [0,1] rfl rfl,h⟩
  replace h:=bQ hb25 h
  refine ax.exit ?_
  refine ax.seq ?_
  refine ax.region E.obj rfl ?_
  refine ah.val rfl (ai rfl) rfl ?_
  refine ah.nil ?_
  have hr:=Option.some.inj h
  subst hr
  exact ax.ret ⟨_,rfl,rfl,gL (aF.eq .nil)⟩
set_option maxRecDepth 20000 in
set_option maxHeartbeats 4000000 in
theorem qO:∀ (n:Nat) (a1:aT) (r:(Int × Int)),iC n a1=some r→di R cfg.P 34 [(aD a1)] (.tup [.d (.int .i64 r.1),.d (.int .i64 r.2)])
 | 0,a1,r,h=>by simp [iC] at h
 | n + 1,a1,r,h=>by
  have ih:=qO n
  unfold iC at h
  refine di.of_wp E.obj.toObjOk (C:=cfg) Tryd.func34 rfl J4 rfl ?_
  have H0:Has aI aI []:=Has.pure
  refine ax.seq ?_
  refine ax.region E.obj rfl ?_
  refine ah.box H0 rfl rfl rfl (aT.bD _) rfl (fun b2 S3 H4=>?_)
  refine ah.val rfl (ai rfl) rfl ?_
  refine ah.val rfl (ai rfl) rfl ?_
  refine ah.nil ?_
  refine ax.seq ?_
  refine ax.region E.obj rfl ?_
  refine ah.val rfl (ai rfl) rfl ?_
  refine ah.val rfl (ai rfl) rfl ?_
  refine ah.nil ?_
  refine ax.seq ?_
  refine ax.seq ?_
  refine ax.region E.obj rfl ?_
  refine ah.val rfl (aj rfl jd pF rfl) rfl ?_
  refine ah.val rfl (av H4 (i:=0) rfl rfl (aA qi rfl)) rfl ?_
  refine ah.val rfl (aO rfl w9) rfl ?_
  refine ah.val rfl (ae rfl) rfl ?_
  refine ah.nil ?_
  refine ax.block ?_
  refine lV.start (B:=aI) (α:=Int × Int × Int) (fun k a=>fF (iC n) a1 k a.1 a.2.1 a.2.2=some r) (fun a=>[(4,(.d (.int .i64 a.1))),(5,(.d (.int .i64 a.2.1))),(11,(.d (.sl ((a1.Kids).map aD) false))),(12,(.d (.int .i64 ((a1.Kids).length:Int)))),(13,(.d (.int .i64 a.2.2)))]) (fun a=>[]) ?_ ?_ n ⟨⟨1,0,0⟩,_,_,S3,.refl _ _,.refl _,(aa.r rfl (aa.r rfl (aa.r rfl (aa.r rfl (aa.r rfl aa.nil))))),H4.sl [] rfl rfl,h⟩
  ·
   intro a h; simp [fF] at h
  intro k17 a S12 H13 h
  obtain ⟨x14,x15,x16⟩:=a
  replace h:fF (iC n) a1 (k17 + 1) x14 x15 x16=some r:=h
  replace H13:Has aI S12 []:=H13
  unfold fF at h
  refine ax.seq ?_
  refine ax.region E.obj rfl ?_
  refine ah.val rfl (au rfl rfl bJ) rfl ?_
  refine ah.nil ?_
  refine ax.seq ?_
  refine ax.cond rfl (fun hb18=>?_) (fun hb18=>?_)
  ·
   replace h:=bO hb18 h
   refine ax.skip ?_
   refine ax.seq ?_
   refine ax.block ?_
   refine ax.seq ?_
   refine ax.region E.obj rfl ?_
   obtain ⟨z19,hzz19,h⟩:=bind_some h
   refine ah.val rfl (bA rfl rfl (cZ (enc:=aD) hzz19 qh mZ ((aT.len _).trans dY.symm))) rfl ?_
   refine ah.val rfl (aV rfl (aT.ib gY dY)) rfl ?_
   refine ah.alloc H13 rfl uB lC rfl rfl (fun b20 S21 H22=>?_)
   refine ah.store H22 (i:=0) rfl rfl rfl rfl (aT.bD _) rfl dY rfl mZ rfl rfl rfl (fun S23 H24=>?_)
   refine ah.nil ?_
   refine ax.seq ?_
   refine ax.region E.obj rfl ?_
   refine ah.val rfl (av H24 (i:=0) rfl rfl (aW gY dY rfl)) rfl ?_
   refine ah.less (Less.agg' (d:=aD z19) (ak.eq rfl (ak.eq rfl (ak.eq rfl (ak.eq rfl (ak.eq rfl (ak.eq rfl .nil)))))) ((aT.eq _).trans rfl)) ?_
   obtain ⟨z25,hzz25,h⟩:=bind_some h
   refine ah.ret rfl (aC rfl rfl) (ih _ _ hzz25 _ _ (aF.eq .nil)) rfl ?_
   refine ah.val rfl (ae rfl) rfl ?_
   refine ah.val rfl (aN rfl rfl) rfl ?_
   refine ah.val rfl (aN rfl rfl) rfl ?_
   refine ah.val rfl (ai rfl) rfl ?_
   refine ah.val rfl (ai rfl) rfl ?_
   refine ah.nil ?_
   refine ax.region E.obj rfl ?_
   refine ah.val rfl (ae rfl) rfl ?_
   refine ah.val rfl (ae rfl) rfl ?_
   refine ah.val rfl (au rfl rfl bq) rfl ?_
   refine ah.val rfl (ae rfl) rfl ?_
   refine ah.val rfl (ae rfl) rfl ?_
   refine ah.val rfl (p9 rfl rfl) rfl ?_
   refine ah.val rfl (ai rfl) rfl ?_
   refine ah.val rfl (ai rfl) rfl ?_
   refine ah.nil ?_
   refine ax.region E.obj rfl ?_
   refine ah.val rfl (au rfl rfl bq) rfl ?_
   refine ah.val rfl (ae rfl) rfl ?_
   refine ah.nil ?_
   exact ⟨⟨(IntKind.wrap .i64 (x14 + z25.1)),(lQ x15 z25.2),(IntKind.wrap .i64 (x16 + 1))⟩,_,_,S23,.refl _ _,.refl _,(aa.r rfl (aa.r rfl (aa.r rfl (aa.r rfl (aa.r rfl aa.nil))))),H24.sl [] rfl rfl,h⟩
  replace h:=bQ hb18 h
  refine ax.exit ?_
  refine ax.seq ?_
  refine ax.region E.obj rfl ?_
  refine ah.val rfl (ae rfl) rfl ?_
  refine ah.val rfl (ae rfl) rfl ?_
  refine ah.val rfl (au rfl rfl bq) rfl ?_
  refine ah.val rfl (ai rfl) rfl ?_
  refine ah.val rfl (ai rfl) rfl ?_
  refine ah.nil ?_
  have hr:=Option.some.inj h
  subst hr
  exact ax.ret ⟨_,rfl,rfl,vg (vs:=[(.d (.int .i64 x14)),(.d (.int .i64 (IntKind.wrap .i64 (x15 + 1))))]) (ds:=[(.int .i64 x14),(.int .i64 (IntKind.wrap .i64 (x15 + 1)))]) (aF.eq (aF.eq .nil))⟩
set_option maxRecDepth 20000 in
set_option maxHeartbeats 4000000 in
theorem qW:∀ (n:Nat) (a1:aT) (a2:Int) (a3:Bool) (r:Bool),eQ n a1 a2 a3=some r→di R cfg.P 35 [(aD a1),(.int .i64 a2),(.bool a3)] (.d (.bool r))
 | 0,a1,a2,a3,r,h=>by simp [eQ] at h
 | n + 1,a1,a2,a3,r,h=>by
  have ih:=qW n
  unfold eQ at h
  refine di.of_wp E.obj.toObjOk (C:=cfg) Tryd.func35 rfl JR rfl ?_
  have H0:Has aI aI []:=Has.pure
  refine ax.seq ?_
  refine ax.region E.obj rfl ?_
  refine ah.box H0 rfl rfl rfl (aT.bD _) rfl (fun b4 S5 H6=>?_)
  refine ah.val rfl (ai rfl) rfl ?_
  refine ah.nil ?_
  refine ax.seq ?_
  refine ax.region E.obj rfl ?_
  refine ah.val rfl (aj rfl mW l7 rfl) rfl ?_
  refine ah.val rfl (av H6 (i:=0) rfl rfl (aA jL rfl)) rfl ?_
  refine ah.val rfl (au rfl rfl kz) rfl ?_
  refine ah.val rfl (ae rfl) rfl ?_
  refine ah.aZ 5 19 (.d (.bool ((decide (0 ≤ a1.N)) && (decide (a1.N < a2))))) ?_ ?_
  ·
   rcases Bool.eq_false_or_eq_true ((decide (0 ≤ a1.N))) with hB7 | hB7
   ·
    refine ah.bool hB7 ?_
    refine ah.val rfl (aj rfl mW l7 rfl) rfl ?_
    refine ah.val rfl (av H6 (i:=0) rfl rfl (aA jL rfl)) rfl ?_
    refine ah.val rfl (ae rfl) rfl ?_
    refine ah.val rfl (au rfl rfl bJ) rfl ?_
    refine ah.val rfl (ay (b:=true) rfl rfl) rfl ?_
    exact ah.nil ⟨_,rfl,(aa.put (aa.push rfl (aa.push rfl (aa.push rfl (aa.push rfl (aa.put (.refl _) (Less.eq (by rw [hB7]))))))) (Less.eq (by rw [hB7]; rw [Bool.true_and])))⟩
   refine ah.bool hB7 ?_
   refine ah.no rfl rfl ?_
   refine ah.no rfl rfl ?_
   refine ah.no rfl rfl ?_
   refine ah.no rfl rfl ?_
   refine ah.val rfl (ay (b:=false) rfl rfl) rfl ?_
   exact ah.nil ⟨_,rfl,(aa.put (aa.push rfl (aa.push rfl (aa.push rfl (aa.push rfl (aa.put (.refl _) (Less.eq (by rw [hB7]))))))) (Less.eq (by rw [hB7]; rw [Bool.false_and])))⟩
  refine ah.val rfl (ai rfl) rfl ?_
  refine ah.nil ?_
  refine ax.seq ?_
  refine ax.region E.obj rfl ?_
  refine ah.val rfl (aj rfl fe l7 rfl) rfl ?_
  refine ah.val rfl (av H6 (i:=0) rfl rfl (aA jL rfl)) rfl ?_
  refine ah.val rfl (au rfl rfl aU) rfl ?_
  refine ah.val rfl (ae rfl) rfl ?_
  refine ah.aZ 4 27 (.d (.bool ((a1.Kind == 1) || (a1.Kind == 5)))) ?_ ?_
  ·
   rcases Bool.eq_false_or_eq_true ((a1.Kind == 1)) with hB8 | hB8
   ·
    refine ah.bool hB8 ?_
    refine ah.no rfl rfl ?_
    refine ah.no rfl rfl ?_
    refine ah.no rfl rfl ?_
    refine ah.val rfl (ay (b:=true) rfl rfl) rfl ?_
    exact ah.nil ⟨_,rfl,(aa.put (aa.push rfl (aa.push rfl (aa.push rfl (aa.put (.refl _) (Less.eq (by rw [hB8])))))) (Less.eq (by rw [hB8]; rw [Bool.true_or])))⟩
   refine ah.bool hB8 ?_
   refine ah.val rfl (aj rfl fe l7 rfl) rfl ?_
   refine ah.val rfl (av H6 (i:=0) rfl rfl (aA jL rfl)) rfl ?_
   refine ah.val rfl (au rfl rfl aU) rfl ?_
   refine ah.val rfl (ay (b:=false) rfl rfl) rfl ?_
   exact ah.nil ⟨_,rfl,(aa.put (aa.push rfl (aa.push rfl (aa.push rfl (aa.put (.refl _) (Less.eq (by rw [hB8])))))) (Less.eq (by rw [hB8]; rw [Bool.false_or])))⟩
  refine ah.val rfl (ae rfl) rfl ?_
  refine ah.aZ 4 32 (.d (.bool (((a1.Kind == 1) || (a1.Kind == 5)) || (a1.Kind == 6)))) ?_ ?_
  ·
   rcases Bool.eq_false_or_eq_true (((a1.Kind == 1) || (a1.Kind == 5))) with hB9 | hB9
   ·
    refine ah.bool hB9 ?_
    refine ah.no rfl rfl ?_
    refine ah.no rfl rfl ?_
    refine ah.no rfl rfl ?_
    refine ah.val rfl (ay (b:=true) rfl rfl) rfl ?_
    exact ah.nil ⟨_,rfl,(aa.put (aa.push rfl (aa.push rfl (aa.push rfl (aa.put (.refl _) (Less.eq (by rw [hB9])))))) (Less.eq (by rw [hB9]; rw [Bool.true_or])))⟩
   refine ah.bool hB9 ?_
   refine ah.val rfl (aj rfl fe l7 rfl) rfl ?_
   refine ah.val rfl (av H6 (i:=0) rfl rfl (aA jL rfl)) rfl ?_
   refine ah.val rfl (au rfl rfl aU) rfl ?_
   refine ah.val rfl (ay (b:=false) rfl rfl) rfl ?_
   exact ah.nil ⟨_,rfl,(aa.put (aa.push rfl (aa.push rfl (aa.push rfl (aa.put (.refl _) (Less.eq (by rw [hB9])))))) (Less.eq (by rw [hB9]; rw [Bool.false_or])))⟩
  refine ah.val rfl (ai rfl) rfl ?_
  refine ah.nil ?_
  refine ax.seq ?_
  refine ax.block ?_
  refine ax.seq ?_
  refine ax.region E.obj rfl ?_
  refine ah.val rfl (aj rfl fe l7 rfl) rfl ?_
  refine ah.val rfl (av H6 (i:=0) rfl rfl (aA jL rfl)) rfl ?_
  refine ah.val rfl (au rfl rfl bJ) rfl ?_
  refine ah.val rfl (ae rfl) rfl ?_
  refine ah.aZ 4 41 (.d (.bool ((decide (a1.Kind < 1)) || (decide (7 < a1.Kind))))) ?_ ?_
  ·
   rcases Bool.eq_false_or_eq_true ((decide (a1.Kind < 1))) with hB10 | hB10
   ·
    refine ah.bool hB10 ?_
    refine ah.no rfl rfl ?_
    refine ah.no rfl rfl ?_
    refine ah.no rfl rfl ?_
    refine ah.val rfl (ay (b:=true) rfl rfl) rfl ?_
    exact ah.nil ⟨_,rfl,(aa.put (aa.push rfl (aa.push rfl (aa.push rfl (aa.put (.refl _) (Less.eq (by rw [hB10])))))) (Less.eq (by rw [hB10]; rw [Bool.true_or])))⟩
   refine ah.bool hB10 ?_
   refine ah.val rfl (aj rfl fe l7 rfl) rfl ?_
   refine ah.val rfl (av H6 (i:=0) rfl rfl (aA jL rfl)) rfl ?_
   refine ah.val rfl (au rfl rfl fJ) rfl ?_
   refine ah.val rfl (ay (b:=false) rfl rfl) rfl ?_
   exact ah.nil ⟨_,rfl,(aa.put (aa.push rfl (aa.push rfl (aa.push rfl (aa.put (.refl _) (Less.eq (by rw [hB10])))))) (Less.eq (by rw [hB10]; rw [Bool.false_or])))⟩
  refine ah.val rfl (ae rfl) rfl ?_
  refine ah.aZ 9 51 (.d (.bool (((decide (a1.Kind < 1)) || (decide (7 < a1.Kind))) || ((!(((a1.Kind == 1) || (a1.Kind == 5)) || (a1.Kind == 6))) && (decide (0 < ((a1.Kids).length:Int))))))) ?_ ?_
  ·
   rcases Bool.eq_false_or_eq_true (((decide (a1.Kind < 1)) || (decide (7 < a1.Kind)))) with hB11 | hB11
   ·
    refine ah.bool hB11 ?_
    refine ah.no rfl rfl ?_
    refine ah.no rfl rfl ?_
    refine ah.no rfl rfl ?_
    refine ah.no rfl rfl ?_
    refine ah.no rfl rfl ?_
    refine ah.no rfl rfl ?_
    refine ah.no rfl rfl ?_
    refine ah.no rfl rfl ?_
    refine ah.val rfl (ay (b:=true) rfl rfl) rfl ?_
    exact ah.nil ⟨_,rfl,(aa.put (aa.push rfl (aa.push rfl (aa.push rfl (aa.push rfl (aa.push rfl (aa.push rfl (aa.push rfl (aa.push rfl (aa.put (.refl _) (Less.eq (by rw [hB11]))))))))))) (Less.eq (by rw [hB11]; rw [Bool.true_or])))⟩
   refine ah.bool hB11 ?_
   refine ah.val rfl (ae rfl) rfl ?_
   refine ah.val rfl (dW rfl) rfl ?_
   refine ah.val rfl (ae rfl) rfl ?_
   refine ah.aZ 5 50 (.d (.bool ((!(((a1.Kind == 1) || (a1.Kind == 5)) || (a1.Kind == 6))) && (decide (0 < ((a1.Kids).length:Int)))))) ?_ ?_
   ·
    rcases Bool.eq_false_or_eq_true ((!(((a1.Kind == 1) || (a1.Kind == 5)) || (a1.Kind == 6)))) with hB12 | hB12
    ·
     refine ah.bool hB12 ?_
     refine ah.val rfl (aj rfl jd pF rfl) rfl ?_
     refine ah.val rfl (av H6 (i:=0) rfl rfl (aA qi rfl)) rfl ?_
     refine ah.val rfl (aO rfl w9) rfl ?_
     refine ah.val rfl (au rfl rfl fJ) rfl ?_
     refine ah.val rfl (ay (b:=true) rfl rfl) rfl ?_
     exact ah.nil ⟨_,rfl,(aa.put (aa.push rfl (aa.push rfl (aa.push rfl (aa.push rfl (aa.put (.refl _) (Less.eq (by rw [hB12]))))))) (Less.eq (by rw [hB12]; rw [Bool.true_and])))⟩
    refine ah.bool hB12 ?_
    refine ah.no rfl rfl ?_
    refine ah.no rfl rfl ?_
    refine ah.no rfl rfl ?_
    refine ah.no rfl rfl ?_
    refine ah.val rfl (ay (b:=false) rfl rfl) rfl ?_
    exact ah.nil ⟨_,rfl,(aa.put (aa.push rfl (aa.push rfl (aa.push rfl (aa.push rfl (aa.put (.refl _) (Less.eq (by rw [hB12]))))))) (Less.eq (by rw [hB12]; rw [Bool.false_and])))⟩
   refine ah.val rfl (ay (b:=false) rfl rfl) rfl ?_
   exact ah.nil ⟨_,rfl,(aa.put (aa.push rfl (aa.push rfl (aa.push rfl (aa.push rfl (aa.put (.refl _) (Less.eq (by rw [hB11]))))))) (Less.eq (by rw [hB11]; rw [Bool.false_or])))⟩
  refine ah.val rfl (ai rfl) rfl ?_
  refine ah.nil ?_
  refine ax.cond rfl (fun hb13=>?_) (fun hb13=>?_)
  ·
   replace h:=bO hb13 h
   refine ax.seq ?_
   refine ax.region E.obj rfl ?_
   refine ah.val rfl (ai rfl) rfl ?_
   refine ah.nil ?_
   have hr:=Option.some.inj h
   subst hr
   exact ax.ret ⟨_,rfl,rfl,gL (aF.eq .nil)⟩
  replace h:=bQ hb13 h
  refine ax.join (B:=aI) (α:=Bool) (fun a=>fE n (eQ n) a1 a2 a3 a=some r) (fun a=>[(1,(.d (.int .i64 a2))),(2,(.d (.bool a3))),(3,(.ptr b4 0 0)),(7,(.d (.bool ((decide (0 ≤ a1.N)) && (decide (a1.N < a2)))))),(52,(.d (.bool a)))]) (fun a=>[.box b4 [(.d (.int .i64 a1.Kind)),(.d (.int .i64 a1.N)),(.d (.str a1.Tag)),(.d (.str a1.Text)),(.d (.sl ((a1.aH).map aB) false)),(.d (.sl ((a1.Kids).map aD) false))]]) ?_ ?_
  ·
   intro x16 S14 H15 h
   replace h:fE n (eQ n) a1 a2 a3 x16=some r:=h
   replace H15:Has aI S14 [.box b4 [(.d (.int .i64 a1.Kind)),(.d (.int .i64 a1.N)),(.d (.str a1.Tag)),(.d (.str a1.Text)),(.d (.sl ((a1.aH).map aB) false)),(.d (.sl ((a1.Kids).map aD) false))]]:=H15
   unfold fE at h
   refine ax.cond rfl (fun hb18=>?_) (fun hb18=>?_)
   ·
    replace h:=bO hb18 h
    refine ax.seq ?_
    refine ax.region E.obj rfl ?_
    refine ah.val rfl (ai rfl) rfl ?_
    refine ah.nil ?_
    have hr:=Option.some.inj h
    subst hr
    exact ax.ret ⟨_,rfl,rfl,gL (aF.eq .nil)⟩
   replace h:=bQ hb18 h
   refine ax.seq ?_
   refine ax.region E.obj rfl ?_
   refine ah.val rfl (aj rfl fe l7 rfl) rfl ?_
   refine ah.val rfl (av H15 (i:=0) rfl rfl (aA jL rfl)) rfl ?_
   refine ah.val rfl (au rfl rfl aU) rfl ?_
   refine ah.val rfl (ae rfl) rfl ?_
   refine ah.aZ 4 70 (.d (.bool ((a1.Kind == 3) || (a1.Kind == 5)))) ?_ ?_
   ·
    rcases Bool.eq_false_or_eq_true ((a1.Kind == 3)) with hB19 | hB19
    ·
     refine ah.bool hB19 ?_
     refine ah.no rfl rfl ?_
     refine ah.no rfl rfl ?_
     refine ah.no rfl rfl ?_
     refine ah.val rfl (ay (b:=true) rfl rfl) rfl ?_
     exact ah.nil ⟨_,rfl,(aa.put (aa.push rfl (aa.push rfl (aa.push rfl (aa.put (.refl _) (Less.eq (by rw [hB19])))))) (Less.eq (by rw [hB19]; rw [Bool.true_or])))⟩
    refine ah.bool hB19 ?_
    refine ah.val rfl (aj rfl fe l7 rfl) rfl ?_
    refine ah.val rfl (av H15 (i:=0) rfl rfl (aA jL rfl)) rfl ?_
    refine ah.val rfl (au rfl rfl aU) rfl ?_
    refine ah.val rfl (ay (b:=false) rfl rfl) rfl ?_
    exact ah.nil ⟨_,rfl,(aa.put (aa.push rfl (aa.push rfl (aa.push rfl (aa.put (.refl _) (Less.eq (by rw [hB19])))))) (Less.eq (by rw [hB19]; rw [Bool.false_or])))⟩
   refine ah.val rfl (ae rfl) rfl ?_
   refine ah.aZ 4 75 (.d (.bool (((a1.Kind == 3) || (a1.Kind == 5)) || (a1.Kind == 6)))) ?_ ?_
   ·
    rcases Bool.eq_false_or_eq_true (((a1.Kind == 3) || (a1.Kind == 5))) with hB20 | hB20
    ·
     refine ah.bool hB20 ?_
     refine ah.no rfl rfl ?_
     refine ah.no rfl rfl ?_
     refine ah.no rfl rfl ?_
     refine ah.val rfl (ay (b:=true) rfl rfl) rfl ?_
     exact ah.nil ⟨_,rfl,(aa.put (aa.push rfl (aa.push rfl (aa.push rfl (aa.put (.refl _) (Less.eq (by rw [hB20])))))) (Less.eq (by rw [hB20]; rw [Bool.true_or])))⟩
    refine ah.bool hB20 ?_
    refine ah.val rfl (aj rfl fe l7 rfl) rfl ?_
    refine ah.val rfl (av H15 (i:=0) rfl rfl (aA jL rfl)) rfl ?_
    refine ah.val rfl (au rfl rfl aU) rfl ?_
    refine ah.val rfl (ay (b:=false) rfl rfl) rfl ?_
    exact ah.nil ⟨_,rfl,(aa.put (aa.push rfl (aa.push rfl (aa.push rfl (aa.put (.refl _) (Less.eq (by rw [hB20])))))) (Less.eq (by rw [hB20]; rw [Bool.false_or])))⟩
   refine ah.val rfl (ae rfl) rfl ?_
   refine ah.aZ 3 79 (.d (.bool ((((a1.Kind == 3) || (a1.Kind == 5)) || (a1.Kind == 6)) && (!((decide (0 ≤ a1.N)) && (decide (a1.N < a2))))))) ?_ ?_
   ·
    rcases Bool.eq_false_or_eq_true ((((a1.Kind == 3) || (a1.Kind == 5)) || (a1.Kind == 6))) with hB21 | hB21
    ·
     refine ah.bool hB21 ?_
     refine ah.val rfl (ae rfl) rfl ?_
     refine ah.val rfl (dW rfl) rfl ?_
     refine ah.val rfl (ay (b:=true) rfl rfl) rfl ?_
     exact ah.nil ⟨_,rfl,(aa.put (aa.push rfl (aa.push rfl (aa.put (.refl _) (Less.eq (by rw [hB21]))))) (Less.eq (by rw [hB21]; rw [Bool.true_and])))⟩
    refine ah.bool hB21 ?_
    refine ah.no rfl rfl ?_
    refine ah.no rfl rfl ?_
    refine ah.val rfl (ay (b:=false) rfl rfl) rfl ?_
    exact ah.nil ⟨_,rfl,(aa.put (aa.push rfl (aa.push rfl (aa.put (.refl _) (Less.eq (by rw [hB21]))))) (Less.eq (by rw [hB21]; rw [Bool.false_and])))⟩
   refine ah.val rfl (ai rfl) rfl ?_
   refine ah.nil ?_
   refine ax.cond rfl (fun hb22=>?_) (fun hb22=>?_)
   ·
    replace h:=bO hb22 h
    refine ax.seq ?_
    refine ax.region E.obj rfl ?_
    refine ah.val rfl (ai rfl) rfl ?_
    refine ah.nil ?_
    have hr:=Option.some.inj h
    subst hr
    exact ax.ret ⟨_,rfl,rfl,gL (aF.eq .nil)⟩
   replace h:=bQ hb22 h
   refine ax.skip ?_
   refine ax.seq ?_
   refine ax.region E.obj rfl ?_
   refine ah.val rfl (ae rfl) rfl ?_
   refine ah.val rfl (ae rfl) rfl ?_
   refine ah.aZ 4 85 (.d (.bool (a3 || (a1.Kind == 5)))) ?_ ?_
   ·
    rcases Bool.eq_false_or_eq_true (a3) with hB23 | hB23
    ·
     refine ah.bool hB23 ?_
     refine ah.no rfl rfl ?_
     refine ah.no rfl rfl ?_
     refine ah.no rfl rfl ?_
     refine ah.val rfl (ay (b:=true) rfl rfl) rfl ?_
     exact ah.nil ⟨_,rfl,(aa.put (aa.push rfl (aa.push rfl (aa.push rfl (aa.put (.refl _) (Less.eq (by rw [hB23])))))) (Less.eq (by rw [hB23]; rw [Bool.true_or])))⟩
    refine ah.bool hB23 ?_
    refine ah.val rfl (aj rfl fe l7 rfl) rfl ?_
    refine ah.val rfl (av H15 (i:=0) rfl rfl (aA jL rfl)) rfl ?_
    refine ah.val rfl (au rfl rfl aU) rfl ?_
    refine ah.val rfl (ay (b:=false) rfl rfl) rfl ?_
    exact ah.nil ⟨_,rfl,(aa.put (aa.push rfl (aa.push rfl (aa.push rfl (aa.put (.refl _) (Less.eq (by rw [hB23])))))) (Less.eq (by rw [hB23]; rw [Bool.false_or])))⟩
   refine ah.val rfl (ae rfl) rfl ?_
   refine ah.aZ 4 90 (.d (.bool ((a3 || (a1.Kind == 5)) || (a1.Kind == 6)))) ?_ ?_
   ·
    rcases Bool.eq_false_or_eq_true ((a3 || (a1.Kind == 5))) with hB24 | hB24
    ·
     refine ah.bool hB24 ?_
     refine ah.no rfl rfl ?_
     refine ah.no rfl rfl ?_
     refine ah.no rfl rfl ?_
     refine ah.val rfl (ay (b:=true) rfl rfl) rfl ?_
     exact ah.nil ⟨_,rfl,(aa.put (aa.push rfl (aa.push rfl (aa.push rfl (aa.put (.refl _) (Less.eq (by rw [hB24])))))) (Less.eq (by rw [hB24]; rw [Bool.true_or])))⟩
    refine ah.bool hB24 ?_
    refine ah.val rfl (aj rfl fe l7 rfl) rfl ?_
    refine ah.val rfl (av H15 (i:=0) rfl rfl (aA jL rfl)) rfl ?_
    refine ah.val rfl (au rfl rfl aU) rfl ?_
    refine ah.val rfl (ay (b:=false) rfl rfl) rfl ?_
    exact ah.nil ⟨_,rfl,(aa.put (aa.push rfl (aa.push rfl (aa.push rfl (aa.put (.refl _) (Less.eq (by rw [hB24])))))) (Less.eq (by rw [hB24]; rw [Bool.false_or])))⟩
   refine ah.val rfl (ai rfl) rfl ?_
   refine ah.nil ?_
   refine ax.seq ?_
   refine ax.seq ?_
   refine ax.region E.obj rfl ?_
   refine ah.val rfl (aj rfl jd pF rfl) rfl ?_
   refine ah.val rfl (av H15 (i:=0) rfl rfl (aA qi rfl)) rfl ?_
   refine ah.val rfl (aO rfl w9) rfl ?_
   refine ah.val rfl (ae rfl) rfl ?_
   refine ah.nil ?_
   refine ax.block ?_
   refine lV.start (B:=aI) (α:=Int) (fun k a=>fq (eQ n) a1 a2 a3 k a=some r) (fun a=>[(1,(.d (.int .i64 a2))),(2,(.d (.bool ((a3 || (a1.Kind == 5)) || (a1.Kind == 6))))),(92,(.d (.sl ((a1.Kids).map aD) false))),(93,(.d (.int .i64 ((a1.Kids).length:Int)))),(94,(.d (.int .i64 a)))]) (fun a=>[]) ?_ ?_ n ⟨0,_,_,S14,.refl _ _,.refl _,(aa.r rfl (aa.r rfl (aa.r rfl (aa.r rfl (aa.r rfl aa.nil))))),H15.sl [] rfl rfl,h⟩
   ·
    intro a h; simp [fq] at h
   intro k33 x32 S30 H31 h
   replace h:fq (eQ n) a1 a2 a3 (k33 + 1) x32=some r:=h
   replace H31:Has aI S30 []:=H31
   unfold fq at h
   refine ax.seq ?_
   refine ax.region E.obj rfl ?_
   refine ah.val rfl (au rfl rfl bJ) rfl ?_
   refine ah.nil ?_
   refine ax.seq ?_
   refine ax.cond rfl (fun hb34=>?_) (fun hb34=>?_)
   ·
    replace h:=bO hb34 h
    refine ax.skip ?_
    refine ax.seq ?_
    refine ax.block ?_
    refine ax.seq ?_
    refine ax.region E.obj rfl ?_
    obtain ⟨z35,hzz35,h⟩:=bind_some h
    refine ah.val rfl (bA rfl rfl (cZ (enc:=aD) hzz35 qh mZ ((aT.len _).trans dY.symm))) rfl ?_
    refine ah.val rfl (aV rfl (aT.ib gY dY)) rfl ?_
    refine ah.alloc H31 rfl uB lC rfl rfl (fun b36 S37 H38=>?_)
    refine ah.store H38 (i:=0) rfl rfl rfl rfl (aT.bD _) rfl dY rfl mZ rfl rfl rfl (fun S39 H40=>?_)
    refine ah.nil ?_
    refine ax.seq ?_
    refine ax.region E.obj rfl ?_
    refine ah.val rfl (av H40 (i:=0) rfl rfl (aW gY dY rfl)) rfl ?_
    refine ah.less (Less.agg' (d:=aD z35) (ak.eq rfl (ak.eq rfl (ak.eq rfl (ak.eq rfl (ak.eq rfl (ak.eq rfl .nil)))))) ((aT.eq _).trans rfl)) ?_
    refine ah.val rfl (ae rfl) rfl ?_
    refine ah.val rfl (ae rfl) rfl ?_
    obtain ⟨z41,hzz41,h⟩:=bind_some h
    refine ah.ret rfl (aC rfl rfl) (ih _ _ _ _ hzz41 _ _ (aF.eq (aF.eq (aF.eq .nil)))) rfl ?_
    refine ah.val rfl (dW rfl) rfl ?_
    refine ah.nil ?_
    refine ax.cond rfl (fun hb42=>?_) (fun hb42=>?_)
    ·
     replace h:=bO hb42 h
     refine ax.seq ?_
     refine ax.region E.obj rfl ?_
     refine ah.val rfl (ai rfl) rfl ?_
     refine ah.nil ?_
     have hr:=Option.some.inj h
     subst hr
     exact ax.ret ⟨_,rfl,rfl,gL (aF.eq .nil)⟩
    replace h:=bQ hb42 h
    refine ax.skip ?_
    refine ax.region E.obj rfl ?_
    refine ah.val rfl (au rfl rfl bq) rfl ?_
    refine ah.val rfl (ae rfl) rfl ?_
    refine ah.nil ?_
    exact ⟨(IntKind.wrap .i64 (x32 + 1)),_,_,S39,.refl _ _,.refl _,(aa.r rfl (aa.r rfl (aa.r rfl (aa.r rfl (aa.r rfl aa.nil))))),H40.sl [] rfl rfl,h⟩
   replace h:=bQ hb34 h
   refine ax.exit ?_
   refine ax.seq ?_
   refine ax.region E.obj rfl ?_
   refine ah.val rfl (ai rfl) rfl ?_
   refine ah.nil ?_
   have hr:=Option.some.inj h
   subst hr
   exact ax.ret ⟨_,rfl,rfl,gL (aF.eq .nil)⟩
  refine ax.seq ?_
  refine ax.region E.obj rfl ?_
  refine ah.val rfl (aj rfl oL kI rfl) rfl ?_
  refine ah.val rfl (av H6 (i:=0) rfl rfl (aA j5 rfl)) rfl ?_
  refine ah.val rfl (au rfl rfl gG) rfl ?_
  refine ah.val rfl (ai rfl) rfl ?_
  refine ah.nil ?_
  refine ax.cond rfl (fun hb43=>?_) (fun hb43=>?_)
  ·
   replace h:=bO hb43 h
   refine ax.skip ?_
   exact ⟨(a1.Tag == [111,117,116,108,101,116]),_,_,S5,.refl _ _,.refl _,(aa.r rfl (aa.r rfl (aa.r rfl (aa.r rfl (aa.r rfl aa.nil))))),H6.sl [0] rfl rfl,h⟩
  replace h:=bQ hb43 h
  refine ax.region E.obj rfl ?_
  refine ah.val rfl (aj rfl fe l7 rfl) rfl ?_
  refine ah.val rfl (av H6 (i:=0) rfl rfl (aA jL rfl)) rfl ?_
  refine ah.val rfl (au rfl rfl aU) rfl ?_
  refine ah.val rfl (ae rfl) rfl ?_
  refine ah.aZ 2 61 (.d (.bool ((a1.Kind == 7) && a3))) ?_ ?_
  ·
   rcases Bool.eq_false_or_eq_true ((a1.Kind == 7)) with hB44 | hB44
   ·
    refine ah.bool hB44 ?_
    refine ah.val rfl (ae rfl) rfl ?_
    refine ah.val rfl (ay (b:=true) rfl rfl) rfl ?_
    exact ah.nil ⟨_,rfl,(aa.put (aa.push rfl (aa.put (.refl _) (Less.eq (by rw [hB44])))) (Less.eq (by rw [hB44]; rw [Bool.true_and])))⟩
   refine ah.bool hB44 ?_
   refine ah.no rfl rfl ?_
   refine ah.val rfl (ay (b:=false) rfl rfl) rfl ?_
   exact ah.nil ⟨_,rfl,(aa.put (aa.push rfl (aa.put (.refl _) (Less.eq (by rw [hB44])))) (Less.eq (by rw [hB44]; rw [Bool.false_and])))⟩
  refine ah.val rfl (ai rfl) rfl ?_
  refine ah.nil ?_
  exact ⟨((a1.Kind == 7) && a3),_,_,S5,.refl _ _,.refl _,(aa.r rfl (aa.r rfl (aa.r rfl (aa.r rfl (aa.r rfl aa.nil))))),H6.sl [0] rfl rfl,h⟩
set_option maxRecDepth 20000 in
set_option maxHeartbeats 4000000 in
theorem kV (n:Nat) (a1:aT) (a2:Int) (r:Bool) (h:jQ n a1 a2=some r):di R cfg.P 11 [(aD a1),(.int .i64 a2)] (.d (.bool r)):=by
 unfold jQ at h
 refine di.of_wp E.obj.toObjOk (C:=cfg) Tryd.func11 rfl JS rfl ?_
 have H0:Has aI aI []:=Has.pure
 refine ax.seq ?_
 refine ax.region E.obj rfl ?_
 refine ah.box H0 rfl rfl rfl (aT.bD _) rfl (fun b3 S4 H5=>?_)
 refine ah.val rfl (ai rfl) rfl ?_
 refine ah.nil ?_
 refine ax.seq ?_
 refine ax.region E.obj rfl ?_
 refine ah.val rfl (av H5 (i:=0) rfl rfl (aW gY dY rfl)) rfl ?_
 refine ah.less (Less.agg' (d:=aD a1) (ak.eq rfl (ak.eq rfl (ak.eq rfl (ak.eq rfl (ak.eq rfl (ak.eq rfl .nil)))))) ((aT.eq _).trans rfl)) ?_
 obtain ⟨z6,hzz6,h⟩:=bind_some h
 refine ah.ret rfl (aC rfl rfl) (qO E _ _ _ hzz6 _ _ (aF.eq .nil)) rfl ?_
 refine ah.val rfl (ae rfl) rfl ?_
 refine ah.val rfl (aN rfl rfl) rfl ?_
 refine ah.val rfl (aN rfl rfl) rfl ?_
 refine ah.val rfl (ai rfl) rfl ?_
 refine ah.val rfl (ai rfl) rfl ?_
 refine ah.nil ?_
 refine ax.seq ?_
 refine ax.region E.obj rfl ?_
 refine ah.val rfl (aj rfl fe l7 rfl) rfl ?_
 refine ah.val rfl (av H5 (i:=0) rfl rfl (aA jL rfl)) rfl ?_
 refine ah.val rfl (au rfl rfl aU) rfl ?_
 refine ah.val rfl (ae rfl) rfl ?_
 refine ah.aZ 3 18 (.d (.bool ((a1.Kind == 1) && (decide (z6.1 ≤ 60))))) ?_ ?_
 ·
  rcases Bool.eq_false_or_eq_true ((a1.Kind == 1)) with hB7 | hB7
  ·
   refine ah.bool hB7 ?_
   refine ah.val rfl (ae rfl) rfl ?_
   refine ah.val rfl (au rfl rfl iG) rfl ?_
   refine ah.val rfl (ay (b:=true) rfl rfl) rfl ?_
   exact ah.nil ⟨_,rfl,(aa.put (aa.push rfl (aa.push rfl (aa.put (.refl _) (Less.eq (by rw [hB7]))))) (Less.eq (by rw [hB7]; rw [Bool.true_and])))⟩
  refine ah.bool hB7 ?_
  refine ah.no rfl rfl ?_
  refine ah.no rfl rfl ?_
  refine ah.val rfl (ay (b:=false) rfl rfl) rfl ?_
  exact ah.nil ⟨_,rfl,(aa.put (aa.push rfl (aa.push rfl (aa.put (.refl _) (Less.eq (by rw [hB7]))))) (Less.eq (by rw [hB7]; rw [Bool.false_and])))⟩
 refine ah.val rfl (ae rfl) rfl ?_
 refine ah.aZ 3 22 (.d (.bool (((a1.Kind == 1) && (decide (z6.1 ≤ 60))) && (decide (z6.2 ≤ 12))))) ?_ ?_
 ·
  rcases Bool.eq_false_or_eq_true (((a1.Kind == 1) && (decide (z6.1 ≤ 60)))) with hB8 | hB8
  ·
   refine ah.bool hB8 ?_
   refine ah.val rfl (ae rfl) rfl ?_
   refine ah.val rfl (au rfl rfl iG) rfl ?_
   refine ah.val rfl (ay (b:=true) rfl rfl) rfl ?_
   exact ah.nil ⟨_,rfl,(aa.put (aa.push rfl (aa.push rfl (aa.put (.refl _) (Less.eq (by rw [hB8]))))) (Less.eq (by rw [hB8]; rw [Bool.true_and])))⟩
  refine ah.bool hB8 ?_
  refine ah.no rfl rfl ?_
  refine ah.no rfl rfl ?_
  refine ah.val rfl (ay (b:=false) rfl rfl) rfl ?_
  exact ah.nil ⟨_,rfl,(aa.put (aa.push rfl (aa.push rfl (aa.put (.refl _) (Less.eq (by rw [hB8]))))) (Less.eq (by rw [hB8]; rw [Bool.false_and])))⟩
 refine ah.val rfl (ae rfl) rfl ?_
 obtain ⟨z10,hzz10,h⟩:=bind_some h
 refine ah.aZ 4 27 (.d (.bool z10)) ?_ ?_
 ·
  rcases Bool.eq_false_or_eq_true ((((a1.Kind == 1) && (decide (z6.1 ≤ 60))) && (decide (z6.2 ≤ 12)))) with hB9 | hB9
  ·
   refine ah.bool hB9 ?_
   replace hzz10:=bO hB9 hzz10
   refine ah.val rfl (av H5 (i:=0) rfl rfl (aW gY dY rfl)) rfl ?_
   refine ah.less (Less.agg' (d:=aD a1) (ak.eq rfl (ak.eq rfl (ak.eq rfl (ak.eq rfl (ak.eq rfl (ak.eq rfl .nil)))))) ((aT.eq _).trans rfl)) ?_
   refine ah.val rfl (ae rfl) rfl ?_
   obtain ⟨z11,hzz11,hzz10⟩:=bind_some hzz10
   refine ah.ret rfl (aC rfl rfl) (qW E _ _ _ _ _ hzz11 _ _ (aF.eq (aF.eq (aF.eq .nil)))) rfl ?_
   refine ah.val rfl (ay (b:=true) rfl rfl) rfl ?_
   cases hzz10
   exact ah.nil ⟨_,rfl,(aa.put (aa.push rfl (aa.push rfl (aa.push rfl (aa.put (.refl _) (Less.eq (by rw [hB9])))))) (.refl _))⟩
  refine ah.bool hB9 ?_
  refine ah.no rfl rfl ?_
  refine ah.no rfl rfl ?_
  refine ah.no rfl rfl ?_
  refine ah.val rfl (ay (b:=false) rfl rfl) rfl ?_
  replace hzz10:=bQ hB9 hzz10
  cases hzz10
  exact ah.nil ⟨_,rfl,(aa.put (aa.push rfl (aa.push rfl (aa.push rfl (aa.put (.refl _) (Less.eq (by rw [hB9])))))) (.refl _))⟩
 refine ah.val rfl (ai rfl) rfl ?_
 refine ah.nil ?_
 have hr:=Option.some.inj h
 subst hr
 exact ax.ret ⟨_,rfl,rfl,gL (aF.eq .nil)⟩
set_option maxRecDepth 20000 in
set_option maxHeartbeats 4000000 in
theorem nS (n:Nat)  (r:Bool) (h:il n  = some r):di R cfg.P 3 [] (.d (.bool r)):=by
 unfold il at h
 refine di.of_wp E.obj.toObjOk (C:=cfg) Tryd.func3 rfl KV rfl ?_
 have H0:Has aI aI []:=Has.pure
 refine ax.seq ?_
 refine ax.region E.obj rfl ?_
 refine ah.val rfl (ai rfl) rfl ?_
 refine ah.nil ?_
 refine ax.seq ?_
 refine ax.region E.obj rfl ?_
 refine ah.val rfl (bW (cs:=[(.d (.int .i64 3)),(.d (.int .i64 1)),(.d (.str [])),(.d (.str [])),(.d .aY),(.d .aY)]) lC rfl (ig) (eG rfl rfl rfl rfl (eG rfl rfl rfl rfl rfl))) rfl ?_
 refine ah.less (Less.agg' (d:=aD (aT.mk 3 1 [] [] [] [])) (ak.eq rfl (ak.eq rfl (ak.eq rfl (ak.eq rfl (ak.dV rfl (.aY false) rfl rfl (ak.dV rfl (.aY false) rfl rfl .nil)))))) ((aT.eq _).trans rfl)) ?_
 refine ah.val rfl (aR (vs:=[(.d (aD (aT.mk 3 1 [] [] [] [])))]) (ds:=[(aD (aT.mk 3 1 [] [] [] []))]) Aq qh gY lC dY rfl (by decide) (.cons rfl (aT.len _) .nil) rfl (by intro d hd; simp only [List.mem_cons,List.not_mem_nil,or_false] at hd; rcases hd with rfl <;> exact aT.agg _) rfl) rfl ?_
 refine ah.val rfl (bW (cs:=[(.d (.int .i64 1)),(.d (.int .i64 0)),(.d (.str [108,105])),(.d (.str [])),(.d .aY),(.d (.sl (([(aT.mk 3 1 [] [] [] [])]).map aD) true))]) lC rfl (ig) (eG rfl rfl rfl rfl (eG rfl rfl rfl rfl (eG rfl rfl rfl rfl rfl)))) rfl ?_
 refine ah.less (Less.agg' (d:=aD (aT.mk 1 0 [108,105] [] [] [(aT.mk 3 1 [] [] [] [])])) (ak.eq rfl (ak.eq rfl (ak.eq rfl (ak.eq rfl (ak.dV rfl (.aY false) rfl rfl (ak.dV rfl (.kr _ _) rfl rfl .nil)))))) ((aT.eq _).trans rfl)) ?_
 refine ah.val rfl (aR (vs:=[(.d (aD (aT.mk 1 0 [108,105] [] [] [(aT.mk 3 1 [] [] [] [])])))]) (ds:=[(aD (aT.mk 1 0 [108,105] [] [] [(aT.mk 3 1 [] [] [] [])]))]) Aq qh gY lC dY rfl (by decide) (.cons rfl (aT.len _) .nil) rfl (by intro d hd; simp only [List.mem_cons,List.not_mem_nil,or_false] at hd; rcases hd with rfl <;> exact aT.agg _) rfl) rfl ?_
 refine ah.val rfl (bW (cs:=[(.d (.int .i64 6)),(.d (.int .i64 0)),(.d (.str [])),(.d (.str [])),(.d .aY),(.d (.sl (([(aT.mk 1 0 [108,105] [] [] [(aT.mk 3 1 [] [] [] [])])]).map aD) true))]) lC rfl (ig) (eG rfl rfl rfl rfl (eG rfl rfl rfl rfl rfl))) rfl ?_
 refine ah.less (Less.agg' (d:=aD (aT.mk 6 0 [] [] [] [(aT.mk 1 0 [108,105] [] [] [(aT.mk 3 1 [] [] [] [])])])) (ak.eq rfl (ak.eq rfl (ak.eq rfl (ak.eq rfl (ak.dV rfl (.aY false) rfl rfl (ak.dV rfl (.kr _ _) rfl rfl .nil)))))) ((aT.eq _).trans rfl)) ?_
 refine ah.val rfl (aR (vs:=[(.d (aD (aT.mk 6 0 [] [] [] [(aT.mk 1 0 [108,105] [] [] [(aT.mk 3 1 [] [] [] [])])])))]) (ds:=[(aD (aT.mk 6 0 [] [] [] [(aT.mk 1 0 [108,105] [] [] [(aT.mk 3 1 [] [] [] [])])]))]) Aq qh gY lC dY rfl (by decide) (.cons rfl (aT.len _) .nil) rfl (by intro d hd; simp only [List.mem_cons,List.not_mem_nil,or_false] at hd; rcases hd with rfl <;> exact aT.agg _) rfl) rfl ?_
 refine ah.val rfl (bW (cs:=[(.d (.int .i64 1)),(.d (.int .i64 0)),(.d (.str [117,108])),(.d (.str [])),(.d .aY),(.d (.sl (([(aT.mk 6 0 [] [] [] [(aT.mk 1 0 [108,105] [] [] [(aT.mk 3 1 [] [] [] [])])])]).map aD) true))]) lC rfl (ig) (eG rfl rfl rfl rfl (eG rfl rfl rfl rfl (eG rfl rfl rfl rfl rfl)))) rfl ?_
 refine ah.less (Less.agg' (d:=aD (aT.mk 1 0 [117,108] [] [] [(aT.mk 6 0 [] [] [] [(aT.mk 1 0 [108,105] [] [] [(aT.mk 3 1 [] [] [] [])])])])) (ak.eq rfl (ak.eq rfl (ak.eq rfl (ak.eq rfl (ak.dV rfl (.aY false) rfl rfl (ak.dV rfl (.kr _ _) rfl rfl .nil)))))) ((aT.eq _).trans rfl)) ?_
 refine ah.alloc H0 rfl uB lC rfl rfl (fun b1 S2 H3=>?_)
 refine ah.store H3 (i:=0) rfl rfl rfl rfl (aT.bD _) rfl dY rfl mZ rfl rfl rfl (fun S4 H5=>?_)
 refine ah.nil ?_
 refine ax.seq ?_
 refine ax.region E.obj rfl ?_
 refine ah.val rfl (av H5 (i:=0) rfl rfl (aW gY dY rfl)) rfl ?_
 refine ah.less (Less.agg' (d:=aD (aT.mk 1 0 [117,108] [] [] [(aT.mk 6 0 [] [] [] [(aT.mk 1 0 [108,105] [] [] [(aT.mk 3 1 [] [] [] [])])])])) (ak.eq rfl (ak.eq rfl (ak.eq rfl (ak.eq rfl (ak.eq rfl (ak.eq rfl .nil)))))) ((aT.eq _).trans rfl)) ?_
 refine ah.val rfl (aR (vs:=[(.d (.int .i64 2)),(.d (.int .i64 7))]) (ds:=[(.int .i64 2),(.int .i64 7)]) Cc mH jL Io tu rfl (by decide) (.cons rfl rfl (.cons rfl rfl .nil)) rfl (by intro d hd; simp only [List.mem_cons,List.not_mem_nil,or_false] at hd; rcases hd with rfl | rfl <;> rfl) rfl) rfl ?_
 obtain ⟨z6,hzz6,h⟩:=bind_some h
 refine ah.ret rfl (aC rfl rfl) (ku E _ _ _ _ _ hzz6 _ _ (aF.eq (aF.dV rfl (.kr _ _) (aF.dV rfl (.aY false) .nil)))) rfl ?_
 refine ah.val rfl (ae rfl) rfl ?_
 refine ah.val rfl (aN rfl rfl) rfl ?_
 refine ah.val rfl (aN rfl rfl) rfl ?_
 refine ah.alloc H5 rfl uf iA rfl rfl (fun b7 S8 H9=>?_)
 refine ah.store H9 (i:=0) rfl rfl rfl rfl (Tree.bD _) rfl dO rfl jY rfl rfl rfl (fun S10 H11=>?_)
 refine ah.val rfl (ai rfl) rfl ?_
 refine ah.nil ?_
 refine ax.seq ?_
 refine ax.region E.obj rfl ?_
 refine ah.val rfl (av H11 (i:=1) rfl rfl (aW gY dY rfl)) rfl ?_
 refine ah.less (Less.agg' (d:=aD (aT.mk 1 0 [117,108] [] [] [(aT.mk 6 0 [] [] [] [(aT.mk 1 0 [108,105] [] [] [(aT.mk 3 1 [] [] [] [])])])])) (ak.eq rfl (ak.eq rfl (ak.eq rfl (ak.eq rfl (ak.eq rfl (ak.eq rfl .nil)))))) ((aT.eq _).trans rfl)) ?_
 refine ah.val rfl (aR (vs:=[(.d (.int .i64 99)),(.d (.int .i64 7))]) (ds:=[(.int .i64 99),(.int .i64 7)]) Cc mH jL Io tu rfl (by decide) (.cons rfl rfl (.cons rfl rfl .nil)) rfl (by intro d hd; simp only [List.mem_cons,List.not_mem_nil,or_false] at hd; rcases hd with rfl | rfl <;> rfl) rfl) rfl ?_
 obtain ⟨z12,hzz12,h⟩:=bind_some h
 refine ah.ret rfl (aC rfl rfl) (ku E _ _ _ _ _ hzz12 _ _ (aF.eq (aF.dV rfl (.kr _ _) (aF.dV rfl (.aY false) .nil)))) rfl ?_
 refine ah.val rfl (ae rfl) rfl ?_
 refine ah.val rfl (aN rfl rfl) rfl ?_
 refine ah.val rfl (aN rfl rfl) rfl ?_
 refine ah.alloc H11 rfl uf iA rfl rfl (fun b13 S14 H15=>?_)
 refine ah.store H15 (i:=0) rfl rfl rfl rfl (Tree.bD _) rfl dO rfl jY rfl rfl rfl (fun S16 H17=>?_)
 refine ah.val rfl (ai rfl) rfl ?_
 refine ah.nil ?_
 refine ax.seq ?_
 refine ax.region E.obj rfl ?_
 refine ah.val rfl (bW (cs:=[(.d (.str [])),(.d (.str [])),(.d (.str [55])),(.d .aY),(.d .aY)]) iA rfl (cK) (eG rfl rfl rfl rfl rfl)) rfl ?_
 refine ah.less (Less.agg' (d:=az (Tree.mk [] [] [55] [] [])) (ak.eq rfl (ak.eq rfl (ak.eq rfl (ak.dV rfl (.aY false) rfl rfl (ak.dV rfl (.aY false) rfl rfl .nil))))) ((Tree.eq _).trans rfl)) ?_
 refine ah.val rfl (aR (vs:=[(.d (az (Tree.mk [] [] [55] [] [])))]) (ds:=[(az (Tree.mk [] [] [55] [] []))]) pz jI iq iA dO rfl (by decide) (.cons rfl (Tree.len _) .nil) rfl (by intro d hd; simp only [List.mem_cons,List.not_mem_nil,or_false] at hd; rcases hd with rfl <;> exact Tree.agg _) rfl) rfl ?_
 refine ah.val rfl (ai rfl) rfl ?_
 refine ah.nil ?_
 refine ax.seq ?_
 refine ax.region E.obj rfl ?_
 refine ah.val rfl (ae rfl) rfl ?_
 refine ah.val rfl (au rfl rfl aU) rfl ?_
 refine ah.val rfl (ae rfl) rfl ?_
 obtain ⟨z19,hzz19,h⟩:=bind_some h
 refine ah.aZ 9 39 (.d (.bool z19)) ?_ ?_
 ·
  rcases Bool.eq_false_or_eq_true ((z6.2 == 0)) with hB18 | hB18
  ·
   refine ah.bool hB18 ?_
   replace hzz19:=bO hB18 hzz19
   refine ah.val rfl (av H17 (i:=1) rfl rfl (aW iq dO rfl)) rfl ?_
   refine ah.less (Less.agg' (d:=az z6.1) (ak.eq rfl (ak.eq rfl (ak.eq rfl (ak.eq rfl (ak.eq rfl .nil))))) ((Tree.eq _).trans rfl)) ?_
   refine ah.val rfl (ae rfl) rfl ?_
   refine ah.val rfl (bW (cs:=[(.d (.str [108,105])),(.d (.str [48])),(.d (.str [])),(.d .aY),(.d (.sl (([(Tree.mk [] [] [55] [] [])]).map az) true))]) iA rfl (cK) (eG rfl rfl rfl rfl (eG rfl rfl rfl rfl (eG rfl rfl rfl rfl rfl)))) rfl ?_
   refine ah.less (Less.agg' (d:=az (Tree.mk [108,105] [48] [] [] [(Tree.mk [] [] [55] [] [])])) (ak.eq rfl (ak.eq rfl (ak.eq rfl (ak.dV rfl (.aY false) rfl rfl (ak.dV rfl (.kr _ _) rfl rfl .nil))))) ((Tree.eq _).trans rfl)) ?_
   refine ah.val rfl (ae rfl) rfl ?_
   refine ah.val rfl (bW (cs:=[(.d (.str [108,105])),(.d (.str [49])),(.d (.str [])),(.d .aY),(.d (.sl (([(Tree.mk [] [] [55] [] [])]).map az) true))]) iA rfl (cK) (eG rfl rfl rfl rfl (eG rfl rfl rfl rfl (eG rfl rfl rfl rfl rfl)))) rfl ?_
   refine ah.less (Less.agg' (d:=az (Tree.mk [108,105] [49] [] [] [(Tree.mk [] [] [55] [] [])])) (ak.eq rfl (ak.eq rfl (ak.eq rfl (ak.dV rfl (.aY false) rfl rfl (ak.dV rfl (.kr _ _) rfl rfl .nil))))) ((Tree.eq _).trans rfl)) ?_
   refine ah.val rfl (aR (vs:=[(.d (az (Tree.mk [108,105] [48] [] [] [(Tree.mk [] [] [55] [] [])]))),(.d (az (Tree.mk [108,105] [49] [] [] [(Tree.mk [] [] [55] [] [])])))]) (ds:=[(az (Tree.mk [108,105] [48] [] [] [(Tree.mk [] [] [55] [] [])])),(az (Tree.mk [108,105] [49] [] [] [(Tree.mk [] [] [55] [] [])]))]) pz jI iq iA dO rfl (by decide) (.cons rfl (Tree.len _) (.cons rfl (Tree.len _) .nil)) rfl (by intro d hd; simp only [List.mem_cons,List.not_mem_nil,or_false] at hd; rcases hd with rfl | rfl <;> exact Tree.agg _) rfl) rfl ?_
   refine ah.val rfl (bW (cs:=[(.d (.str [117,108])),(.d (.str [])),(.d (.str [])),(.d .aY),(.d (.sl (([(Tree.mk [108,105] [48] [] [] [(Tree.mk [] [] [55] [] [])]),(Tree.mk [108,105] [49] [] [] [(Tree.mk [] [] [55] [] [])])]).map az) true))]) iA rfl (cK) (eG rfl rfl rfl rfl (eG rfl rfl rfl rfl rfl))) rfl ?_
   refine ah.less (Less.agg' (d:=az (Tree.mk [117,108] [] [] [] [(Tree.mk [108,105] [48] [] [] [(Tree.mk [] [] [55] [] [])]),(Tree.mk [108,105] [49] [] [] [(Tree.mk [] [] [55] [] [])])])) (ak.eq rfl (ak.eq rfl (ak.eq rfl (ak.dV rfl (.aY false) rfl rfl (ak.dV rfl (.kr _ _) rfl rfl .nil))))) ((Tree.eq _).trans rfl)) ?_
   obtain ⟨z20,hzz20,hzz19⟩:=bind_some hzz19
   refine ah.ret rfl (aC rfl rfl) (ji E _ _ _ _ hzz20 _ _ (aF.eq (aF.eq .nil))) rfl ?_
   refine ah.val rfl (ay (b:=true) rfl rfl) rfl ?_
   cases hzz19
   exact ah.nil ⟨_,rfl,(aa.put (aa.push rfl (aa.push rfl (aa.push rfl (aa.push rfl (aa.push rfl (aa.push rfl (aa.push rfl (aa.push rfl (aa.put (.refl _) (Less.eq (by rw [hB18]))))))))))) (.refl _))⟩
  refine ah.bool hB18 ?_
  refine ah.no rfl rfl ?_
  refine ah.no rfl rfl ?_
  refine ah.no rfl rfl ?_
  refine ah.no rfl rfl ?_
  refine ah.no rfl rfl ?_
  refine ah.no rfl rfl ?_
  refine ah.no rfl rfl ?_
  refine ah.no rfl rfl ?_
  refine ah.val rfl (ay (b:=false) rfl rfl) rfl ?_
  replace hzz19:=bQ hB18 hzz19
  cases hzz19
  exact ah.nil ⟨_,rfl,(aa.put (aa.push rfl (aa.push rfl (aa.push rfl (aa.push rfl (aa.push rfl (aa.push rfl (aa.push rfl (aa.push rfl (aa.put (.refl _) (Less.eq (by rw [hB18]))))))))))) (.refl _))⟩
 refine ah.val rfl (ae rfl) rfl ?_
 refine ah.aZ 3 43 (.d (.bool (z19 && (z12.2 == 6)))) ?_ ?_
 ·
  rcases Bool.eq_false_or_eq_true (z19) with hB21 | hB21
  ·
   refine ah.bool hB21 ?_
   refine ah.val rfl (ae rfl) rfl ?_
   refine ah.val rfl (au rfl rfl aU) rfl ?_
   refine ah.val rfl (ay (b:=true) rfl rfl) rfl ?_
   exact ah.nil ⟨_,rfl,(aa.put (aa.push rfl (aa.push rfl (aa.put (.refl _) (Less.eq (by rw [hB21]))))) (Less.eq (by rw [hB21]; rw [Bool.true_and])))⟩
  refine ah.bool hB21 ?_
  refine ah.no rfl rfl ?_
  refine ah.no rfl rfl ?_
  refine ah.val rfl (ay (b:=false) rfl rfl) rfl ?_
  exact ah.nil ⟨_,rfl,(aa.put (aa.push rfl (aa.push rfl (aa.put (.refl _) (Less.eq (by rw [hB21]))))) (Less.eq (by rw [hB21]; rw [Bool.false_and])))⟩
 refine ah.val rfl (ae rfl) rfl ?_
 obtain ⟨z23,hzz23,h⟩:=bind_some h
 refine ah.aZ 3 47 (.d (.bool z23)) ?_ ?_
 ·
  rcases Bool.eq_false_or_eq_true ((z19 && (z12.2 == 6))) with hB22 | hB22
  ·
   refine ah.bool hB22 ?_
   replace hzz23:=bO hB22 hzz23
   refine ah.val rfl (av H17 (i:=2) rfl rfl (aW gY dY rfl)) rfl ?_
   refine ah.less (Less.agg' (d:=aD (aT.mk 1 0 [117,108] [] [] [(aT.mk 6 0 [] [] [] [(aT.mk 1 0 [108,105] [] [] [(aT.mk 3 1 [] [] [] [])])])])) (ak.eq rfl (ak.eq rfl (ak.eq rfl (ak.eq rfl (ak.eq rfl (ak.eq rfl .nil)))))) ((aT.eq _).trans rfl)) ?_
   obtain ⟨z24,hzz24,hzz23⟩:=bind_some hzz23
   refine ah.ret rfl (aC rfl rfl) (kV E _ _ _ _ hzz24 _ _ (aF.eq (aF.eq .nil))) rfl ?_
   refine ah.val rfl (ay (b:=true) rfl rfl) rfl ?_
   cases hzz23
   exact ah.nil ⟨_,rfl,(aa.put (aa.push rfl (aa.push rfl (aa.put (.refl _) (Less.eq (by rw [hB22]))))) (.refl _))⟩
  refine ah.bool hB22 ?_
  refine ah.no rfl rfl ?_
  refine ah.no rfl rfl ?_
  refine ah.val rfl (ay (b:=false) rfl rfl) rfl ?_
  replace hzz23:=bQ hB22 hzz23
  cases hzz23
  exact ah.nil ⟨_,rfl,(aa.put (aa.push rfl (aa.push rfl (aa.put (.refl _) (Less.eq (by rw [hB22]))))) (.refl _))⟩
 refine ah.val rfl (ae rfl) rfl ?_
 obtain ⟨z26,hzz26,h⟩:=bind_some h
 refine ah.aZ 4 52 (.d (.bool z26)) ?_ ?_
 ·
  rcases Bool.eq_false_or_eq_true (z23) with hB25 | hB25
  ·
   refine ah.bool hB25 ?_
   replace hzz26:=bO hB25 hzz26
   refine ah.val rfl (av H17 (i:=2) rfl rfl (aW gY dY rfl)) rfl ?_
   refine ah.less (Less.agg' (d:=aD (aT.mk 1 0 [117,108] [] [] [(aT.mk 6 0 [] [] [] [(aT.mk 1 0 [108,105] [] [] [(aT.mk 3 1 [] [] [] [])])])])) (ak.eq rfl (ak.eq rfl (ak.eq rfl (ak.eq rfl (ak.eq rfl (ak.eq rfl .nil)))))) ((aT.eq _).trans rfl)) ?_
   obtain ⟨z27,hzz27,hzz26⟩:=bind_some hzz26
   refine ah.ret rfl (aC rfl rfl) (kV E _ _ _ _ hzz27 _ _ (aF.eq (aF.eq .nil))) rfl ?_
   refine ah.val rfl (dW rfl) rfl ?_
   refine ah.val rfl (ay (b:=true) rfl rfl) rfl ?_
   cases hzz26
   exact ah.nil ⟨_,rfl,(aa.put (aa.push rfl (aa.push rfl (aa.push rfl (aa.put (.refl _) (Less.eq (by rw [hB25])))))) (.refl _))⟩
  refine ah.bool hB25 ?_
  refine ah.no rfl rfl ?_
  refine ah.no rfl rfl ?_
  refine ah.no rfl rfl ?_
  refine ah.val rfl (ay (b:=false) rfl rfl) rfl ?_
  replace hzz26:=bQ hB25 hzz26
  cases hzz26
  exact ah.nil ⟨_,rfl,(aa.put (aa.push rfl (aa.push rfl (aa.push rfl (aa.put (.refl _) (Less.eq (by rw [hB25])))))) (.refl _))⟩
 refine ah.val rfl (ai rfl) rfl ?_
 refine ah.nil ?_
 have hr:=Option.some.inj h
 subst hr
 exact ax.ret ⟨_,rfl,rfl,gL (aF.eq .nil)⟩
set_option maxRecDepth 20000 in
set_option maxHeartbeats 4000000 in
theorem dE (n:Nat) (a1:Int) (a2:Int) (a3:Int) (r:Int) (h:dC n a1 a2 a3=some r):di R cfg.P 13 [(.int .i64 a1),(.int .i64 a2),(.int .i64 a3)] (.d (.int .i64 r)):=by
 unfold dC at h
 refine di.of_wp E.obj.toObjOk (C:=cfg) Tryd.func13 rfl Kn rfl ?_
 have H0:Has aI aI []:=Has.pure
 refine ax.seq ?_
 refine ax.region E.obj rfl ?_
 refine ah.val rfl (ai rfl) rfl ?_
 refine ah.nil ?_
 refine ax.seq ?_
 refine ax.region E.obj rfl ?_
 refine ah.val rfl (ae rfl) rfl ?_
 refine ah.val rfl (ae rfl) rfl ?_
 refine ah.val rfl (ae rfl) rfl ?_
 refine ah.val rfl (au rfl rfl mV) rfl ?_
 refine ah.val rfl (au rfl rfl bq) rfl ?_
 obtain ⟨z4,hzz4,h⟩:=bind_some h
 refine ah.val rfl (au rfl rfl (uj hzz4)) rfl ?_
 refine ah.val rfl (ai rfl) rfl ?_
 refine ah.nil ?_
 refine ax.join (B:=aI) (α:=Int) (fun a=>eX a2 a=some r) (fun a=>[(0,(.d (.int .i64 a))),(1,(.d (.int .i64 a2)))]) (fun a=>[]) ?_ ?_
 ·
  intro x7 S5 H6 h
  replace h:eX a2 x7=some r:=h
  replace H6:Has aI S5 []:=H6
  unfold eX at h
  refine ax.seq ?_
  refine ax.region E.obj rfl ?_
  refine ah.val rfl (ae rfl) rfl ?_
  refine ah.val rfl (ae rfl) rfl ?_
  refine ah.val rfl (au rfl rfl bq) rfl ?_
  refine ah.val rfl (ai rfl) rfl ?_
  refine ah.nil ?_
  have hr:=Option.some.inj h
  subst hr
  exact ax.ret ⟨_,rfl,rfl,gL (aF.eq .nil)⟩
 refine ax.seq ?_
 refine ax.region E.obj rfl ?_
 refine ah.val rfl (ae rfl) rfl ?_
 refine ah.val rfl (au rfl rfl bJ) rfl ?_
 refine ah.nil ?_
 refine ax.cond rfl (fun hb9=>?_) (fun hb9=>?_)
 ·
  replace h:=bO hb9 h
  refine ax.region E.obj rfl ?_
  refine ah.val rfl (ae rfl) rfl ?_
  refine ah.val rfl (ae rfl) rfl ?_
  refine ah.val rfl (au rfl rfl bq) rfl ?_
  refine ah.val rfl (ae rfl) rfl ?_
  refine ah.val rfl (au rfl rfl mV) rfl ?_
  refine ah.val rfl (au rfl rfl bq) rfl ?_
  refine ah.val rfl (ai rfl) rfl ?_
  refine ah.nil ?_
  exact ⟨(IntKind.wrap .i64 ((IntKind.wrap .i64 ((IntKind.wrap .i64 (z4 + a3)) - a2)) + 1)),_,_,aI,.refl _ _,.refl _,(aa.r rfl (aa.r rfl aa.nil)),H0.sl [] rfl rfl,h⟩
 replace h:=bQ hb9 h
 refine ax.skip ?_
 exact ⟨z4,_,_,aI,.refl _ _,.refl _,(aa.r rfl (aa.r rfl aa.nil)),H0.sl [] rfl rfl,h⟩
set_option maxRecDepth 20000 in
set_option maxHeartbeats 4000000 in
theorem qa (n:Nat)  (r:(List Str)) (h:je n  = some r):di R cfg.P 36 [] (.d (.sl ((r).map D.str) false)):=by
 unfold je at h
 refine di.of_wp E.obj.toObjOk (C:=cfg) Tryd.func36 rfl JZ rfl ?_
 have H0:Has aI aI []:=Has.pure
 refine ax.seq ?_
 refine ax.region E.obj rfl ?_
 refine ah.val rfl (ai rfl) rfl ?_
 refine ah.nil ?_
 refine ax.seq ?_
 refine ax.region E.obj rfl ?_
 refine ah.val rfl (aR (vs:=[(.d (.str [97])),(.d (.str [98])),(.d (.str [105,116,101,109])),(.d (.str [120,32,121])),(.d (.str [37])),(.d (.str [97,47,98])),(.d (.str [46,46])),(.d (.str [122])),(.d (.str [49])),(.d (.str [108,105,115,116])),(.d (.str [255])),(.d (.str [63,61,38]))]) (ds:=[(.str [97]),(.str [98]),(.str [105,116,101,109]),(.str [120,32,121]),(.str [37]),(.str [97,47,98]),(.str [46,46]),(.str [122]),(.str [49]),(.str [108,105,115,116]),(.str [255]),(.str [63,61,38])]) Hy BV j5 JE Ey rfl (by decide) (.cons rfl rfl (.cons rfl rfl (.cons rfl rfl (.cons rfl rfl (.cons rfl rfl (.cons rfl rfl (.cons rfl rfl (.cons rfl rfl (.cons rfl rfl (.cons rfl rfl (.cons rfl rfl (.cons rfl rfl .nil)))))))))))) rfl (by intro d hd; simp only [List.mem_cons,List.not_mem_nil,or_false] at hd; rcases hd with rfl | rfl | rfl | rfl | rfl | rfl | rfl | rfl | rfl | rfl | rfl | rfl <;> rfl) rfl) rfl ?_
 refine ah.val rfl (ai rfl) rfl ?_
 refine ah.nil ?_
 have hr:=Option.some.inj h
 subst hr
 exact ax.ret ⟨_,rfl,rfl,gL (aF.dV rfl (.kr _ _) .nil)⟩
set_option maxRecDepth 20000 in
set_option maxHeartbeats 4000000 in
theorem qG (n:Nat) (a1:(List Int)) (a2:Int) (r:Int) (h:iI n a1 a2=some r):di R cfg.P 37 [(.sl ((a1).map (D.int .i64)) false),(.int .i64 a2)] (.d (.int .i64 r)):=by
 unfold iI at h
 refine di.of_wp E.obj.toObjOk (C:=cfg) Tryd.func37 rfl Ka rfl ?_
 have H0:Has aI aI []:=Has.pure
 refine ax.seq ?_
 refine ax.region E.obj rfl ?_
 refine ah.val rfl (ai rfl) rfl ?_
 refine ah.nil ?_
 refine ax.seq ?_
 refine ax.region E.obj rfl ?_
 refine ah.val rfl (ai rfl) rfl ?_
 refine ah.nil ?_
 refine ax.seq ?_
 refine ax.block ?_
 refine lV.start (B:=aI) (α:=Int × Int) (fun k a=>dA a1 k a.1 a.2=some r) (fun a=>[(0,(.d (.sl ((a1).map (D.int .i64)) false))),(1,(.d (.int .i64 a.1))),(5,(.d (.int .i64 a.2)))]) (fun a=>[]) ?_ ?_ n ⟨⟨a2,0⟩,_,_,aI,.refl _ _,.refl _,(aa.r rfl (aa.r rfl (aa.r rfl aa.nil))),H0.sl [] rfl rfl,h⟩
 ·
  intro a h; simp [dA] at h
 intro k13 a S9 H10 h
 obtain ⟨x11,x12⟩:=a
 replace h:dA a1 (k13 + 1) x11 x12=some r:=h
 replace H10:Has aI S9 []:=H10
 unfold dA at h
 refine ax.seq ?_
 refine ax.seq ?_
 refine ax.region E.obj rfl ?_
 refine ah.val rfl (ae rfl) rfl ?_
 refine ah.val rfl (au rfl rfl kz) rfl ?_
 refine ah.val rfl (ae rfl) rfl ?_
 refine ah.aZ 3 11 (.d (.bool ((decide (0 ≤ x11)) && (decide (x12 < 99))))) ?_ ?_
 ·
  rcases Bool.eq_false_or_eq_true ((decide (0 ≤ x11))) with hB14 | hB14
  ·
   refine ah.bool hB14 ?_
   refine ah.val rfl (ae rfl) rfl ?_
   refine ah.val rfl (au rfl rfl bJ) rfl ?_
   refine ah.val rfl (ay (b:=true) rfl rfl) rfl ?_
   exact ah.nil ⟨_,rfl,(aa.put (aa.push rfl (aa.push rfl (aa.put (.refl _) (Less.eq (by rw [hB14]))))) (Less.eq (by rw [hB14]; rw [Bool.true_and])))⟩
  refine ah.bool hB14 ?_
  refine ah.no rfl rfl ?_
  refine ah.no rfl rfl ?_
  refine ah.val rfl (ay (b:=false) rfl rfl) rfl ?_
  exact ah.nil ⟨_,rfl,(aa.put (aa.push rfl (aa.push rfl (aa.put (.refl _) (Less.eq (by rw [hB14]))))) (Less.eq (by rw [hB14]; rw [Bool.false_and])))⟩
 refine ah.nil ?_
 refine ax.cond rfl (fun hb15=>?_) (fun hb15=>?_)
 ·
  replace h:=bO hb15 h
  refine ax.skip ?_
  refine ax.block ?_
  obtain ⟨z16,hzz16,h⟩:=bind_some h
  refine ax.jH E.obj nQ KS [(0,none),(1,some 7),(5,some 6)] (by kernel_rfl) [] (by decide) [some (.d (.int .i64 x12)),some (.d (.int .i64 (IntKind.wrap .i64 (x12 + 1)))),some (.d (.sl ((a1).map (D.int .i64)) false)),some (.d (.int .i64 x11)),some (.eptr (.int .i64 z16) 0),some (.d (.int .i64 z16)),some (.d (.int .i64 (IntKind.wrap .i64 (x12 + 1)))),some (.d (.int .i64 z16))] ?_
  refine ⟨[0,1,2,3,4,5,6,7],by kernel_rfl,?_,_,rfl,?_⟩
  ·
   refine .v rfl rfl rfl rfl (ae rfl) ?_
   refine .v rfl rfl rfl rfl (au rfl rfl bq) ?_
   refine .v rfl rfl rfl rfl (ae rfl) ?_
   refine .v rfl rfl rfl rfl (ae rfl) ?_
   refine .v rfl rfl rfl rfl (bA rfl rfl (cZ (enc:=(D.int .i64)) hzz16 mH C9 (((fun _=>rfl) _).trans tu.symm))) ?_
   refine .v rfl rfl rfl rfl (aV rfl (fQ jL rfl)) ?_
   refine .v rfl rfl rfl rfl (ai rfl) ?_
   refine .v rfl rfl rfl rfl (ai rfl) ?_
   exact .nil
  exact ⟨⟨z16,(IntKind.wrap .i64 (x12 + 1))⟩,_,_,S9,.refl _ _,.refl _,(aa.r rfl (aa.r rfl (aa.r rfl aa.nil))),H10.sl [] rfl rfl,h⟩
 replace h:=bQ hb15 h
 refine ax.exit ?_
 refine ax.seq ?_
 refine ax.region E.obj rfl ?_
 refine ah.val rfl (ae rfl) rfl ?_
 refine ah.val rfl (ai rfl) rfl ?_
 refine ah.nil ?_
 have hr:=Option.some.inj h
 subst hr
 exact ax.ret ⟨_,rfl,rfl,gL (aF.eq .nil)⟩
set_option maxRecDepth 20000 in
set_option maxHeartbeats 4000000 in
theorem gN (n:Nat) (a1:(List Int)) (a2:Int) (r:Int) (h:gu n a1 a2=some r):di R cfg.P 38 [(.sl ((a1).map (D.int .i64)) false),(.int .i64 a2)] (.d (.int .i64 r)):=by
 unfold gu at h
 refine di.of_wp E.obj.toObjOk (C:=cfg) Tryd.func38 rfl Kw rfl ?_
 have H0:Has aI aI []:=Has.pure
 refine ax.seq ?_
 refine ax.region E.obj rfl ?_
 refine ah.val rfl (ai rfl) rfl ?_
 refine ah.nil ?_
 refine ax.seq ?_
 refine ax.seq ?_
 refine ax.region E.obj rfl ?_
 refine ah.val rfl (ae rfl) rfl ?_
 refine ah.val rfl (aO rfl oF) rfl ?_
 refine ah.val rfl (au rfl rfl aU) rfl ?_
 refine ah.nil ?_
 refine ax.cond rfl (fun hb3=>?_) (fun hb3=>?_)
 ·
  replace h:=bO hb3 h
  refine ax.seq ?_
  refine ax.region E.obj rfl ?_
  refine ah.val rfl (ai rfl) rfl ?_
  refine ah.nil ?_
  have hr:=Option.some.inj h
  subst hr
  exact ax.ret ⟨_,rfl,rfl,gL (aF.eq .nil)⟩
 replace h:=bQ hb3 h
 refine ax.skip ?_
 refine ax.seq ?_
 refine ax.region E.obj rfl ?_
 refine ah.val rfl (ae rfl) rfl ?_
 refine ah.val rfl (ae rfl) rfl ?_
 refine ah.val rfl (ae rfl) rfl ?_
 refine ah.val rfl (aO rfl oF) rfl ?_
 obtain ⟨z4,hzz4,h⟩:=bind_some h
 refine ah.val rfl (au rfl rfl (uj hzz4)) rfl ?_
 obtain ⟨z5,hzz5,h⟩:=bind_some h
 refine ah.val rfl (bA rfl rfl (cZ (enc:=(D.int .i64)) hzz5 mH C9 (((fun _=>rfl) _).trans tu.symm))) rfl ?_
 refine ah.val rfl (aV rfl (fQ jL rfl)) rfl ?_
 refine ah.val rfl (ai rfl) rfl ?_
 refine ah.nil ?_
 have hr:=Option.some.inj h
 subst hr
 exact ax.ret ⟨_,rfl,rfl,gL (aF.eq .nil)⟩
set_option maxRecDepth 20000 in
set_option maxHeartbeats 4000000 in
theorem lU:∀ (n:Nat) (a1:(List bM)) (a2:(List Int)) (a3:Int) (r:aT),bS n a1 a2 a3=some r→di R cfg.P 39 [(.sl ((a1).map dI) false),(.sl ((a2).map (D.int .i64)) false),(.int .i64 a3)] (.d (aD r))
 | 0,a1,a2,a3,r,h=>by simp [bS] at h
 | n + 1,a1,a2,a3,r,h=>by
  have ih:=lU n
  unfold bS at h
  refine di.of_wp E.obj.toObjOk (C:=cfg) Tryd.func39 rfl JC rfl ?_
  have H0:Has aI aI []:=Has.pure
  refine ax.seq ?_
  refine ax.region E.obj rfl ?_
  refine ah.alloc H0 rfl uB lC rfl rfl (fun b4 S5 H6=>?_)
  refine ah.nil ?_
  refine ax.seq ?_
  refine ax.region E.obj rfl ?_
  refine ah.val rfl (ae rfl) rfl ?_
  refine ah.val rfl (ae rfl) rfl ?_
  obtain ⟨z7,hzz7,h⟩:=bind_some h
  refine ah.val rfl (bA rfl rfl (cZ (enc:=dI) hzz7 qh mZ ((bM.len _).trans dY.symm))) rfl ?_
  refine ah.val rfl (aV rfl (bM.ib gY dY)) rfl ?_
  refine ah.alloc H6 rfl uB lC rfl rfl (fun b8 S9 H10=>?_)
  refine ah.store H10 (i:=0) rfl rfl rfl rfl (bM.bD _) rfl dY rfl mZ rfl rfl rfl (fun S11 H12=>?_)
  refine ah.nil ?_
  refine ax.seq ?_
  refine ax.seq ?_
  refine ax.region E.obj rfl ?_
  refine ah.val rfl (ae rfl) rfl ?_
  refine ah.val rfl (aO rfl w9) rfl ?_
  refine ah.val rfl (ae rfl) rfl ?_
  refine ah.nil ?_
  refine ax.block ?_
  have H48:=H12.Cn
  refine lV.start (B:=aI) (α:=(List aT) × AV × Int) (fun k a=>bV (bS n) a1 a2 a3 z7 k a.1 a.2.2=some r) (fun a=>[(0,(.d (.sl ((a1).map dI) false))),(1,(.d (.sl ((a2).map (D.int .i64)) false))),(2,(.d (.int .i64 a3))),(6,(.ptr b4 0 0)),(7,(.ptr b8 0 0)),(14,(.d (.int .i64 ((a1).length:Int)))),(15,(.d (.int .i64 a.2.2)))]) (fun a=>[.box b8 [(.d (.int .i64 z7.Kind)),(.d (.int .i64 z7.N)),(.d (.str z7.Tag)),(.d (.str z7.Text)),(.d (.sl ((z7.aH).map aB) false)),a.2.1],.box b4 [(.d (.int .i64 0)),(.d (.int .i64 0)),(.d (.str [])),(.d (.str [])),(.d .aY),(.d .aY)],.grow a.2.1 ((a.1).map aD)]) ?_ ?_ n ⟨⟨[],(.d .aY),0⟩,_,_,S11,.refl _ _,.refl _,(aa.r rfl (aa.r rfl (aa.r rfl (aa.r rfl (aa.r rfl (aa.r rfl (aa.r rfl aa.nil))))))),H48.sl [1,2,0] rfl rfl,h⟩
  ·
   intro a h; simp [bV] at h
  intro k25 a S20 H21 h
  obtain ⟨x22,v23,x24⟩:=a
  replace h:bV (bS n) a1 a2 a3 z7 (k25 + 1) x22 x24=some r:=h
  replace H21:Has aI S20 [.box b8 [(.d (.int .i64 z7.Kind)),(.d (.int .i64 z7.N)),(.d (.str z7.Tag)),(.d (.str z7.Text)),(.d (.sl ((z7.aH).map aB) false)),v23],.box b4 [(.d (.int .i64 0)),(.d (.int .i64 0)),(.d (.str [])),(.d (.str [])),(.d .aY),(.d .aY)],.grow v23 ((x22).map aD)]:=H21
  unfold bV at h
  refine ax.seq ?_
  refine ax.region E.obj rfl ?_
  refine ah.val rfl (au rfl rfl bJ) rfl ?_
  refine ah.nil ?_
  refine ax.seq ?_
  refine ax.cond rfl (fun hb26=>?_) (fun hb26=>?_)
  ·
   replace h:=bO hb26 h
   refine ax.skip ?_
   refine ax.join (B:=aI) (α:=(List aT) × AV) (fun a=>eD x24 (bV (bS n) a1 a2 a3 z7 k25) a.1=some r) (fun a=>[(0,(.d (.sl ((a1).map dI) false))),(1,(.d (.sl ((a2).map (D.int .i64)) false))),(2,(.d (.int .i64 a3))),(6,(.ptr b4 0 0)),(7,(.ptr b8 0 0)),(14,(.d (.int .i64 ((a1).length:Int)))),(15,(.d (.int .i64 x24)))]) (fun a=>[.box b8 [(.d (.int .i64 z7.Kind)),(.d (.int .i64 z7.N)),(.d (.str z7.Tag)),(.d (.str z7.Text)),(.d (.sl ((z7.aH).map aB) false)),a.2],.box b4 [(.d (.int .i64 0)),(.d (.int .i64 0)),(.d (.str [])),(.d (.str [])),(.d .aY),(.d .aY)],.grow a.2 ((a.1).map aD)]) ?_ ?_
   ·
    intro a S27 H28 h
    obtain ⟨x29,v30⟩:=a
    replace h:eD x24 (bV (bS n) a1 a2 a3 z7 k25) x29=some r:=h
    replace H28:Has aI S27 [.box b8 [(.d (.int .i64 z7.Kind)),(.d (.int .i64 z7.N)),(.d (.str z7.Tag)),(.d (.str z7.Text)),(.d (.sl ((z7.aH).map aB) false)),v30],.box b4 [(.d (.int .i64 0)),(.d (.int .i64 0)),(.d (.str [])),(.d (.str [])),(.d .aY),(.d .aY)],.grow v30 ((x29).map aD)]:=H28
    unfold eD at h
    refine ax.region E.obj rfl ?_
    refine ah.val rfl (au rfl rfl bq) rfl ?_
    refine ah.val rfl (ae rfl) rfl ?_
    refine ah.nil ?_
    exact ⟨⟨x29,v30,(IntKind.wrap .i64 (x24 + 1))⟩,_,_,S27,.refl _ _,.refl _,(aa.r rfl (aa.r rfl (aa.r rfl (aa.r rfl (aa.r rfl (aa.r rfl (aa.r rfl aa.nil))))))),H28.sl [0,1,2] rfl rfl,h⟩
   refine ax.block ?_
   refine ax.seq ?_
   refine ax.region E.obj rfl ?_
   refine ah.val rfl (ae rfl) rfl ?_
   refine ah.val rfl (ai rfl) rfl ?_
   refine ah.nil ?_
   refine ax.seq ?_
   refine ax.region E.obj rfl ?_
   refine ah.val rfl (ae rfl) rfl ?_
   refine ah.val rfl (ae rfl) rfl ?_
   obtain ⟨z32,hzz32,h⟩:=bind_some h
   refine ah.val rfl (bA rfl rfl (cZ (enc:=(D.int .i64)) hzz32 mH C9 (((fun _=>rfl) _).trans tu.symm))) rfl ?_
   refine ah.val rfl (aV rfl (fQ jL rfl)) rfl ?_
   refine ah.val rfl (ae rfl) rfl ?_
   refine ah.val rfl (au rfl rfl aU) rfl ?_
   refine ah.nil ?_
   refine ax.cond rfl (fun hb33=>?_) (fun hb33=>?_)
   ·
    replace h:=bO hb33 h
    obtain ⟨z34,hzz34,h⟩:=bind_some h
    obtain ⟨z35,hzz35,h⟩:=bind_some h
    refine ax.jH E.obj nQ KZ [(0,none),(1,none),(2,none),(6,none),(7,none),(14,none),(15,none)] (by kernel_rfl) [7,9] (by decide) [some (.ptr b8 0 5),some v23,some (.d (.sl ((a1).map dI) false)),some (.d (.sl ((a2).map (D.int .i64)) false)),some (.d (.int .i64 x24)),some (.d (aD z34)),some (.d (.sl (([z34]).map aD) true)),none,none,none] ?_
    refine ⟨[0,1,2,3,4,5,6],by kernel_rfl,?_,_,_,rfl,rfl,.step ?_⟩
    ·
     refine .v rfl rfl rfl rfl (aj rfl jd pF rfl) ?_
     refine .v rfl rfl rfl rfl (av H21 (i:=0) rfl rfl (aA qi rfl)) ?_
     refine .v rfl rfl rfl rfl (ae rfl) ?_
     refine .v rfl rfl rfl rfl (ae rfl) ?_
     refine .v rfl rfl rfl rfl (ae rfl) ?_
     refine .cons rfl rfl rfl (.step ?_) ?_
     ·
      refine ah.ret rfl (aC rfl rfl) (ih _ _ _ _ hzz34 _ _ (aF.eq (aF.eq (aF.eq .nil)))) rfl ?_
      exact ah.nil ⟨_,_,rfl,fun _ ht=>by cases ht; exact ⟨rfl,.refl _⟩⟩
     refine .v rfl rfl rfl rfl (aR (vs:=[(.d (aD z34))]) (ds:=[(aD z34)]) Aq qh gY lC dY rfl (by decide) (.cons rfl (aT.len _) .nil) rfl (by intro d hd; simp only [List.mem_cons,List.not_mem_nil,or_false] at hd; rcases hd with rfl <;> exact aT.agg _) rfl) ?_
     exact .nil
    refine ah.append (xs:=(x22).map aD) (ys:=([z34]).map aD) (zs:=(z35).map aD) H21 rfl rfl rfl (i:=2) rfl rfl Aq Iw qh (iL hzz35) IE rfl (dK (enc:=aD) (fun z=>(aT.len z).trans dY.symm) _) (dK (enc:=aD) (fun z=>(aT.len z).trans dY.symm) _) IQ rfl (mM hzz35) (fun v41 S42 H43=>?_)
    refine ah.nil ⟨_,_,_,rfl,(fun _ ht=>by cases ht; rfl),_,(.q (.o (.o (.o (.w v41 (.w (.ptr b8 0 5) (.n .nil))))))),(fun _ ht=>by cases ht; exact ⟨_,rfl,.refl _⟩),?_⟩
    refine ⟨[8],by kernel_rfl,?_,_,_,rfl,rfl,.step ?_⟩
    ·
     refine .v rfl rfl rfl rfl (aj rfl jd pF rfl) ?_
     exact .nil
    refine ah.store H43 (i:=0) rfl rfl rfl rfl (wU (H43.at (i:=2) rfl)).2.2.2.2 rfl J7 (wU (H43.at (i:=2) rfl)).2.2.2.1 JX rfl rfl rfl (fun S44 H45=>?_)
    refine ah.nil ⟨_,.any,_,rfl,(fun _ ht=>by cases ht),_,(.q (.q (.o (.w .any .nil)))),(fun _ ht=>by cases ht),?_⟩
    refine ⟨[],by kernel_rfl,?_,_,rfl,?_⟩
    ·
     exact .nil
    exact ⟨⟨z35,v41⟩,_,_,S44,.refl _ _,.refl _,(aa.r rfl (aa.r rfl (aa.r rfl (aa.r rfl (aa.r rfl (aa.r rfl (aa.r rfl aa.nil))))))),H45.sl [0,1,2] rfl rfl,h⟩
   replace h:=bQ hb33 h
   refine ax.skip ?_
   exact ⟨⟨x22,v23⟩,_,_,S20,.refl _ _,.refl _,(aa.r rfl (aa.r rfl (aa.r rfl (aa.r rfl (aa.r rfl (aa.r rfl (aa.r rfl aa.nil))))))),H21.sl [0,1,2] rfl rfl,h⟩
  replace h:=bQ hb26 h
  refine ax.exit ?_
  refine ax.seq ?_
  refine ax.region E.obj rfl ?_
  refine ah.val rfl (av H21 (i:=0) rfl rfl (aW gY dY rfl)) rfl ?_
  refine ah.less (Less.agg' (d:=aD (aT.mk z7.Kind z7.N z7.Tag z7.Text z7.aH x22)) (ak.eq rfl (ak.eq rfl (ak.eq rfl (ak.eq rfl (ak.eq rfl (ak.grow H21 (i:=2) rfl .nil)))))) ((aT.eq _).trans rfl)) ?_
  refine ah.store H21 (i:=1) rfl rfl rfl rfl (aT.bD _) rfl dY rfl mZ rfl rfl rfl (fun S46 H47=>?_)
  refine ah.nil ?_
  have hr:=Option.some.inj h
  subst hr
  exact ax.ret ⟨_,qU H47 (i:=1) rfl rfl rfl (aW gY dY rfl),rfl,gL (aF.mr (d:=aD (aT.mk z7.Kind z7.N z7.Tag z7.Text z7.aH x22)) (ak.eq rfl (ak.eq rfl (ak.eq rfl (ak.eq rfl (ak.eq rfl (ak.eq rfl .nil)))))) ((aT.eq _).trans rfl))⟩
end
end Pr
end Go.Ev

import Derived.Test.YtbjneeknddapfaaPartC
import Derived.Test.YtbjneeknddapfaaProg
import Derived.WalkKit
import Derived.ProofKit
namespace Go.Ev
theorem ai.r {t:Nat} {x:AV} {e2 e:Env} (h:AL.get e t=some x) (k:ai e2 e):ai ((t,x) :: e2) e:=.cons h (.refl _) k
theorem Al.o {x:AV} {a b:List (Option AV)} (k:Al a b):Al (some x :: a) (some x :: b):=.old (.refl _) k
theorem RL.v {R:bO} {C:eT} {nt:Nat} {ops:Array Oper} {srcs:List Src} {e0:Env} {ws:List (Option AV)} {S:St} {i:Nat} {o:Oper} {x:AV} {e:Env} {os:List Nat} (ho:ops[i]? = some o) (hx:ws[i]? = some (some x)) (he:qi ws e0 (srcs.getD i [])=some e) (hw:bC ops e o=some true) (h:oper C (bB e) S o.op=some (.val x S)) (k:RL R C nt ops srcs e0 ws S os):RL R C nt ops srcs e0 ws S (i :: os):=.cons ho hx he (.val hw h (.refl _)) k
theorem Has.sl {B S:St} {l:List bG} (h:Has B S l) (is:List Nat) (hn:decide is.Nodup=true) {l':List bG} (hl:is.map (fun i=>l[i]?)=l'.map some):Has B S l':=h.OE is (of_decide_eq_true hn) hl
namespace Pr
set_option linter.unusedVariables false
set_option linter.unusedSimpArgs false
open Go.Proofs
noncomputable def cfg:eT:={ P:=Try.prog,good:=fun _=>true,rowT:=fun _=>false,prim:=fun _ _ _=>none,objT:=fun _=>none,hasPrim:=fun _=>false }
noncomputable def D7:eT:={ cfg with rowT:=fun t=>Nat.beq t 31 || Nat.beq t 85 }
noncomputable def rA:eT:={ cfg with rowT:=fun t=>Nat.beq t 31 }
theorem Fb:eZ cfg.P 90 0=some (0,4):=by kernel_rfl
theorem Og:Nat.beq (aM cfg.P 4) 0=false:=by kernel_rfl
theorem OJ:aM cfg.P 4=1:=by kernel_rfl
theorem OI:(eQ cfg.P 4).isSome=true:=by kernel_rfl
theorem uR:eZ cfg.P 87 1=some (1,31):=by kernel_rfl
theorem ng:Nat.beq (aM cfg.P 31) 0=false:=by kernel_rfl
theorem pI:eQ cfg.P 31=some false:=by kernel_rfl
theorem jh:(bz cfg.P 31).isSome=true:=by kernel_rfl
theorem jr:cfg.P.follows .mixedOrders=true:=by kernel_rfl
theorem kD:eZ cfg.P 87 0=some (0,85):=by kernel_rfl
theorem tY:Nat.beq (aM cfg.P 85) 0=false:=by kernel_rfl
theorem uF:eQ cfg.P 85=some false:=by kernel_rfl
theorem Kq:eQ cfg.P 90=some true:=by kernel_rfl
theorem qE:aM cfg.P 90=7:=by kernel_rfl
theorem I6:D7.rowT 85=true:=by kernel_rfl
theorem yh:bz cfg.P 85=some 90:=by kernel_rfl
theorem uT:(eQ cfg.P 90).isSome=true:=by kernel_rfl
theorem GV:zeroOf cfg.P 90=some (.agg [.bool false,.str [],.str [],.str [],.aS,.aS,.int .i64 0]):=by kernel_rfl
theorem Lf:iX D7 85=true:=by kernel_rfl
theorem Ot:bytesOf cfg.P 90=112:=by kernel_rfl
theorem K7:fK D7 90=true:=by kernel_rfl
theorem Nr:aM cfg.P 85=1:=by kernel_rfl
theorem NL:(eQ cfg.P 85).isSome=true:=by kernel_rfl
theorem Kh:(bz cfg.P 85).isSome=true:=by kernel_rfl
theorem fH:bz cfg.P 31=some 3:=by kernel_rfl
theorem pz:(eQ cfg.P 3).isSome=true:=by kernel_rfl
theorem kH:aM cfg.P 3=1:=by kernel_rfl
theorem nU:eQ cfg.P 3=some false:=by kernel_rfl
theorem GI:(cfg.P.underlying 3).isSome=true:=by kernel_rfl
theorem JK:aM cfg.P 31=1:=by kernel_rfl
theorem JP:(eQ cfg.P 31).isSome=true:=by kernel_rfl
theorem NA:(Try.f58.name == "runtime.NumGoroutine")=false:=by kernel_rfl
theorem Oo:(Try.f28.name == "runtime.NumGoroutine")=false:=by kernel_rfl
theorem NT:(Try.f13.name == "runtime.NumGoroutine")=false:=by kernel_rfl
theorem NR:zeroOf cfg.P 87=some (.agg [.aS,.aS]):=by kernel_rfl
theorem M3:(Try.f12.name == "runtime.NumGoroutine")=false:=by kernel_rfl
theorem Ow:eQ cfg.P 4=some false:=by kernel_rfl
theorem Nz:(Try.f59.name == "runtime.NumGoroutine")=false:=by kernel_rfl
theorem N7:(Try.f64.name == "runtime.NumGoroutine")=false:=by kernel_rfl
theorem Mm:cfg.P.underlying 31=some (.slice 3):=by kernel_rfl
theorem EW:cfg.rowT 31=false:=by kernel_rfl
theorem JJ:iX cfg 31=true:=by kernel_rfl
theorem KO:bytesOf cfg.P 3=8:=by kernel_rfl
theorem M9:fK cfg 3=true:=by kernel_rfl
theorem Kz:nD rA 31 0=false:=by kernel_rfl
theorem pR:rA.rowT 31=true:=by kernel_rfl
theorem zI:iX rA 31=true:=by kernel_rfl
theorem Es:fK rA 3=true:=by kernel_rfl
theorem rJ:cfg.P.underlying 91=some (.pointer 90):=by kernel_rfl
theorem nY:eZ cfg.P 90 5=some (5,31):=by kernel_rfl
theorem Nj:(Try.f19.name == "runtime.NumGoroutine")=false:=by kernel_rfl
theorem su:eZ cfg.P 90 6=some (6,3):=by kernel_rfl
theorem KT:Nat.beq (aM cfg.P 3) 0=false:=by kernel_rfl
theorem Mc:cfg.objT 90=none:=by kernel_rfl
theorem Ie:zeroOf cfg.P 3=some (.int .i64 0):=by kernel_rfl
theorem MZ:(Try.f18.name == "runtime.NumGoroutine")=false:=by kernel_rfl
theorem Ng:(Try.f66.name == "runtime.NumGoroutine")=false:=by kernel_rfl
theorem MM:cfg.P.underlying 36=some (.slice 54):=by kernel_rfl
theorem Fx:aM cfg.P 54=2:=by kernel_rfl
theorem Lh:cfg.rowT 36=false:=by kernel_rfl
theorem Jr:bz cfg.P 36=some 54:=by kernel_rfl
theorem KD:eQ cfg.P 54=some true:=by kernel_rfl
theorem M0:iX cfg 36=true:=by kernel_rfl
theorem Nv:bytesOf cfg.P 54=32:=by kernel_rfl
theorem M5:fK cfg 54=true:=by kernel_rfl
theorem qo:cfg.objT 39=none:=by kernel_rfl
theorem jv:zeroOf cfg.P 39=some (.agg [.str [],.str [],.str [],.aS,.aS]):=by kernel_rfl
theorem yH:eZ cfg.P 90 1=some (1,9):=by kernel_rfl
theorem uY:Nat.beq (aM cfg.P 9) 0=false:=by kernel_rfl
theorem tZ:eQ cfg.P 9=some false:=by kernel_rfl
theorem I4:eZ cfg.P 90 2=some (2,9):=by kernel_rfl
theorem Fu:eZ cfg.P 90 3=some (3,9):=by kernel_rfl
theorem Fv:eZ cfg.P 90 4=some (4,36):=by kernel_rfl
theorem DK:Nat.beq (aM cfg.P 36) 0=false:=by kernel_rfl
theorem HV:eQ cfg.P 36=some false:=by kernel_rfl
theorem bY:aM cfg.P 39=5:=by kernel_rfl
theorem kF:(eQ cfg.P 39).isSome=true:=by kernel_rfl
theorem jV:eZ cfg.P 39 4=some (4,37):=by kernel_rfl
theorem rT:Nat.beq (aM cfg.P 37) 0=false:=by kernel_rfl
theorem uW:eQ cfg.P 37=some false:=by kernel_rfl
theorem Am:cfg.rowT 37=false:=by kernel_rfl
theorem qb:bz cfg.P 37=some 39:=by kernel_rfl
theorem fA:eQ cfg.P 39=some true:=by kernel_rfl
theorem Ki:iX cfg 37=true:=by kernel_rfl
theorem Kk:bytesOf cfg.P 39=96:=by kernel_rfl
theorem Ka:fK cfg 39=true:=by kernel_rfl
theorem MC:aM cfg.P 37=1:=by kernel_rfl
theorem Ms:(eQ cfg.P 37).isSome=true:=by kernel_rfl
theorem NI:(Try.f65.name == "runtime.NumGoroutine")=false:=by kernel_rfl
theorem NF:(Try.f21.name == "runtime.NumGoroutine")=false:=by kernel_rfl
theorem NH:(Try.f22.name == "runtime.NumGoroutine")=false:=by kernel_rfl
theorem Ol:(Try.f25.name == "runtime.NumGoroutine")=false:=by kernel_rfl
theorem N8:(Try.f60.name == "runtime.NumGoroutine")=false:=by kernel_rfl
theorem NZ:(Try.f84.name == "runtime.NumGoroutine")=false:=by kernel_rfl
theorem Nu:(Try.f85.name == "runtime.NumGoroutine")=false:=by kernel_rfl
theorem Oc:(Try.f61.name == "runtime.NumGoroutine")=false:=by kernel_rfl
theorem Oq:(Try.f14.name == "runtime.NumGoroutine")=false:=by kernel_rfl
theorem Mt:aM cfg.P 36=1:=by kernel_rfl
theorem ME:(eQ cfg.P 36).isSome=true:=by kernel_rfl
theorem MX:(Try.f29.name == "runtime.NumGoroutine")=false:=by kernel_rfl
theorem qW:eZ cfg.P 39 0=some (0,9):=by kernel_rfl
theorem CV:eZ cfg.P 39 2=some (2,9):=by kernel_rfl
theorem uO:eZ cfg.P 39 1=some (1,9):=by kernel_rfl
theorem yU:eZ cfg.P 39 3=some (3,36):=by kernel_rfl
theorem AO:(bz cfg.P 37).isSome=true:=by kernel_rfl
theorem NW:(Try.f39.name == "runtime.NumGoroutine")=false:=by kernel_rfl
theorem Lt:aM cfg.P 9=1:=by kernel_rfl
theorem MN:(eQ cfg.P 9).isSome=true:=by kernel_rfl
theorem Om:(Try.f31.name == "runtime.NumGoroutine")=false:=by kernel_rfl
theorem Mq:cfg.objT 109=none:=by kernel_rfl
theorem KR:zeroOf cfg.P 109=some (.agg [.str [],.str []]):=by kernel_rfl
theorem KM:aM cfg.P 109=2:=by kernel_rfl
theorem Mf:(eQ cfg.P 109).isSome=true:=by kernel_rfl
theorem MB:eQ cfg.P 109=some true:=by kernel_rfl
theorem NG:(Try.f80.name == "runtime.NumGoroutine")=false:=by kernel_rfl
theorem tu:pQ rA 107=some (109,31):=by kernel_rfl
theorem I7:rA.objT 39=none:=by kernel_rfl
theorem LA:zeroOf cfg.P 31=some (.aS):=by kernel_rfl
theorem Ob:(Try.f44.name == "runtime.NumGoroutine")=false:=by kernel_rfl
theorem Oa:(Try.f15.name == "runtime.NumGoroutine")=false:=by kernel_rfl
theorem M4:(Try.f63.name == "runtime.NumGoroutine")=false:=by kernel_rfl
theorem Nk:(Try.f16.name == "runtime.NumGoroutine")=false:=by kernel_rfl
theorem Nl:(Try.f17.name == "runtime.NumGoroutine")=false:=by kernel_rfl
theorem NP:(Try.f46.name == "runtime.NumGoroutine")=false:=by kernel_rfl
theorem NC:(Try.f73.name == "runtime.NumGoroutine")=false:=by kernel_rfl
theorem J9:pQ cfg 30=some (3,3):=by kernel_rfl
theorem NM:cfg.P.underlying 3=some (.int .i64):=by kernel_rfl
theorem M6:(Try.f74.name == "runtime.NumGoroutine")=false:=by kernel_rfl
theorem Nh:(Try.f40.name == "runtime.NumGoroutine")=false:=by kernel_rfl
theorem JV:cfg.P.underlying 23=some (.pointer 87):=by kernel_rfl
theorem M8:(Try.f42.name == "runtime.NumGoroutine")=false:=by kernel_rfl
theorem Lc:(bz cfg.P 36).isSome=true:=by kernel_rfl
theorem Ma:(eQ cfg.P 54).isSome=true:=by kernel_rfl
theorem NN:(Try.f75.name == "runtime.NumGoroutine")=false:=by kernel_rfl
theorem Np:(Try.f41.name == "runtime.NumGoroutine")=false:=by kernel_rfl
theorem NJ:(Try.f24.name == "runtime.NumGoroutine")=false:=by kernel_rfl
theorem Mk:cfg.rowT 58=false:=by kernel_rfl
theorem JB:bz cfg.P 58=some 9:=by kernel_rfl
theorem Ox:zeroOf cfg.P 9=some (.str []):=by kernel_rfl
theorem MW:(Try.f76.name == "runtime.NumGoroutine")=false:=by kernel_rfl
theorem Oi:(Try.f77.name == "runtime.NumGoroutine")=false:=by kernel_rfl
theorem Nb:(Try.f78.name == "runtime.NumGoroutine")=false:=by kernel_rfl
theorem Nn:(Try.f79.name == "runtime.NumGoroutine")=false:=by kernel_rfl
theorem Iw:eZ cfg.P 65 0=some (0,31):=by kernel_rfl
theorem E9:eZ cfg.P 65 3=some (3,31):=by kernel_rfl
theorem LX:(bz cfg.P 58).isSome=true:=by kernel_rfl
theorem Lb:eZ cfg.P 65 1=some (1,31):=by kernel_rfl
theorem Ld:eZ cfg.P 65 2=some (2,31):=by kernel_rfl
theorem OB:(cfg.P.underlying 3).isSome=true:=by kernel_rfl
theorem OH:Hl cfg.P 5=some .u8:=by kernel_rfl
theorem Nt:cfg.rowT 44=false:=by kernel_rfl
theorem ND:bz cfg.P 44=some 5:=by kernel_rfl
theorem OU:eQ cfg.P 5=some false:=by kernel_rfl
theorem OD:zeroOf cfg.P 5=some (.int .u8 0):=by kernel_rfl
theorem OW:aM cfg.P 5=1:=by kernel_rfl
theorem NS:sM cfg 44=true:=by kernel_rfl
theorem OQ:yg cfg.P 9=true:=by kernel_rfl
theorem Mo:zeroOf cfg.P 54=some (.agg [.str [],.str []]):=by kernel_rfl
theorem Nf:(Try.f43.name == "runtime.NumGoroutine")=false:=by kernel_rfl
theorem NK:(Try.f45.name == "runtime.NumGoroutine")=false:=by kernel_rfl
theorem Ku:eQ cfg.P 65=some true:=by kernel_rfl
theorem JU:aM cfg.P 65=4:=by kernel_rfl
theorem OT:(Try.f7.name == "runtime.NumGoroutine")=false:=by kernel_rfl
theorem sQ:oper.P_place cfg 90=some (sS [(0,1),(1,1),(2,1),(3,1),(4,1),(5,1),(6,1)]):=nS (by kernel_rfl)
theorem yJ:oper.P_place cfg 87=some (sS [(0,1),(1,1)]):=nS (by kernel_rfl)
theorem fC:oper.P_place cfg 39=some (sS [(0,1),(1,1),(2,1),(3,1),(4,1)]):=nS (by kernel_rfl)
theorem yj:oper.P_place cfg 109=some (sS [(0,1),(1,1)]):=nS (by kernel_rfl)
theorem wJ:oper.P_place rA 90=some (sS [(0,1),(1,1),(2,1),(3,1),(4,1),(5,1),(6,1)]):=nS (by kernel_rfl)
theorem y9:oper.P_place cfg 54=some (sS [(0,1),(1,1)]):=nS (by kernel_rfl)
theorem Lv (x y:aY):AV.eqv cfg.P 109 (.d (.agg [(.str x.tag),(.str x.key)])) (.d (.agg [(.str y.tag),(.str y.key)]))=some (aY.beq x y) :=
 Dx (by kernel_rfl) Try.underlying109 (by kernel_rfl) (by kernel_rfl)
theorem Mg (x y:Attr):AV.eqv cfg.P 54 (.d (.agg [(.str x.Name),(.str x.Value)])) (.d (.agg [(.str y.Name),(.str y.Value)]))=some (Attr.beq x y) :=
 Dx (by kernel_rfl) Try.underlying54 (by kernel_rfl) (by kernel_rfl)
theorem K8 (x y:aY):aY.beq x y=(x == y):=by
 rw [Bool.eq_iff_iff]
 cases x; cases y
 simp [aY.beq]
theorem zF:rE cfg.P 109 aN where
 eq:=fun a b=>by rw [aY.eq,aY.eq,← LV (by kernel_rfl),Lv,K8]
 same:=fun a=>by rw [aY.eq]; simp [D.same,D.mP]
 ok:=fun a=>by rw [aY.eq]; exact BN Try.underlying109 rfl (by kernel_rfl)
def Oy:List Src:=[[(0,none)],[(0,none)],[(17,some 1)],[(18,some 2)],[(19,some 3)],[(3,none)],[(21,some 5)],[(20,some 4),(22,some 6)],[(16,some 0)],[(24,some 8)],[(23,some 7),(25,some 9)]]
def OC:List Src:=[[(0,none)],[(47,some 0)],[(48,some 1)],[(49,some 2)],[(6,none)],[(51,some 4)],[(3,none)],[(50,some 3),(52,some 5)],[(53,some 6),(54,some 7)]]
def OA:List Src:=[[(5,none)],[(17,some 0)],[(5,none)],[(19,some 2)],[(5,none)],[(21,some 4)],[(5,none)],[(23,some 6)],[(24,some 7)],[(18,some 1),(20,some 3),(22,some 5),(25,some 8)],[],[(6,some 10),(26,some 9)]]
def Oz:List Src:=[[(6,none)],[(34,some 0)],[(0,none)],[(8,none)],[(36,some 2),(37,some 3)],[(38,some 4)],[(35,some 1),(39,some 5)],[(6,none)],[(40,some 6),(41,some 7)]]
def OP:List Src:=[[(0,none)],[(3,some 0)],[(4,some 1)],[(5,some 2)],[(6,some 3)],[(0,none)],[(8,some 5)],[(9,some 6)],[(10,some 7)],[(11,some 8)],[(7,some 4),(12,some 9)],[(13,some 10)]]
def Ou:List Src:=[[(0,none)],[(5,none)],[(17,some 0),(18,some 1)],[(19,some 2)],[(1,none)],[(5,none)],[(21,some 4),(22,some 5)],[(23,some 6)],[(20,some 3),(24,some 7)]]
def OG:List Src:=[[(0,none)],[(1,none)],[(20,some 0),(21,some 1)],[(0,none)],[(2,none)],[(23,some 3),(24,some 4)],[(22,some 2),(25,some 5)],[(26,some 6)]]
def OY:List Src:=[[(0,none)],[(19,some 0)],[(20,some 1)],[(21,some 2)],[(4,none)],[(23,some 4)],[(24,some 5)],[(25,some 6)],[(26,some 7)],[(22,some 3),(27,some 8)],[(28,some 9)]]
def OM:List Src:=[[(9,none)],[(9,none)],[(44,some 1)],[(45,some 2)],[(46,some 3)],[(3,none)],[(9,none)],[(49,some 6)],[(50,some 7)],[(51,some 8)],[(52,some 9)],[(48,some 5),(53,some 10)],[(54,some 11)],[(2,none)],[(56,some 13)],[(47,some 4),(55,some 12),(57,some 14)],[(43,some 0)],[(59,some 16)],[(58,some 15),(60,some 17)]]
def OV:List Src:=[[(5,none)],[(7,none)],[(21,some 1)],[(5,none)],[(7,none)],[(24,some 4)],[(23,some 3),(25,some 5)],[(6,none)],[(27,some 7)],[(26,some 6),(28,some 8)],[(20,some 0),(22,some 2),(29,some 9)]]
def Nq:List Src:=[[(5,none)],[(10,none)],[(54,some 1)],[(11,none)],[(56,some 3)],[(53,some 0),(55,some 2),(57,some 4)]]
def Ny:List Src:=[[(0,none)],[(9,none)],[(53,some 0),(54,some 1)],[(5,none)],[(56,some 3)],[(55,some 2),(57,some 4)],[(58,some 5)]]
def NB:List Src:=[[(0,none)],[(9,none)],[(10,none)],[(13,none)],[(108,some 2),(109,some 3)],[(110,some 4)],[(107,some 1),(111,some 5)],[(112,some 6)],[(14,none)],[(106,some 0),(113,some 7),(114,some 8)]]
def Dj:List Src:=[[(4,none)],[(32,some 0)],[(33,some 1)],[(6,none),(34,some 2)],[(34,some 2),(35,some 3)],[(36,some 4)],[(5,none),(37,some 5)],[(38,some 6),(37,some 5)],[(39,some 7),(37,some 5)],[(37,some 5),(40,some 8)],[(41,some 9)],[(7,none),(42,some 10)],[(43,some 11),(42,some 10)],[(44,some 12),(42,some 10)],[(42,some 10),(45,some 13)],[(46,some 14)],[(5,none),(47,some 15)],[(48,some 16),(47,some 15)],[(49,some 17),(47,some 15)],[(7,none),(47,some 15)],[(51,some 19),(47,some 15)],[(52,some 20),(47,some 15)],[(50,some 18),(53,some 21),(47,some 15)],[(47,some 15),(54,some 22)],[(55,some 23)],[(5,none),(56,some 24)],[(57,some 25),(56,some 24)],[(58,some 26),(56,some 24)],[(7,none),(56,some 24)],[(60,some 28),(56,some 24)],[(61,some 29),(56,some 24)],[(59,some 27),(62,some 30),(56,some 24)],[(56,some 24),(63,some 31)],[(64,some 32)],[(1,none),(65,some 33)],[(4,none),(65,some 33)],[(66,some 34),(67,some 35),(65,some 33)],[(68,some 36),(65,some 33)],[(65,some 33),(69,some 37)],[(70,some 38)],[(1,none),(71,some 39)],[(72,some 40),(71,some 39)],[(73,some 41),(71,some 39)],[(71,some 39),(74,some 42)],[(75,some 43)]]
def Oe:List Src:=[[(2,none)],[(48,some 0)],[(5,none)],[(49,some 1),(50,some 2)],[(51,some 3)],[(3,none)],[(53,some 5)],[(5,none)],[(54,some 6),(55,some 7)],[(56,some 8)],[(52,some 4),(57,some 9)],[(58,some 10)]]
def NV:List Src:=[[(5,none)],[(12,some 0)],[(0,none)],[(1,none)],[(14,some 2),(15,some 3)],[(16,some 4)],[(13,some 1)],[(17,some 5)]]
def Na:List Src:=[[(7,none)],[(24,some 0)],[(0,none)],[(1,none)],[(8,none)],[(26,some 2),(27,some 3),(28,some 4)],[(29,some 5)],[(25,some 1),(30,some 6)],[(7,none)],[(31,some 7),(32,some 8)]]
def Ko:List Src:=[[(14,none)],[(72,some 0)],[(73,some 1)],[(13,none),(74,some 2)],[(7,none),(74,some 2)],[(75,some 3),(76,some 4),(74,some 2)],[(77,some 5),(74,some 2)],[(74,some 2),(78,some 6)],[(79,some 7)],[(12,none),(80,some 8)],[(81,some 9),(80,some 8)],[(11,none),(80,some 8)],[(83,some 11),(80,some 8)],[(82,some 10),(84,some 12),(80,some 8)],[(80,some 8),(85,some 13)],[(86,some 14)],[(5,none),(87,some 15)],[(88,some 16),(87,some 15)],[(7,none),(87,some 15)],[(90,some 18),(87,some 15)],[(91,some 19),(87,some 15)],[(89,some 17),(92,some 20),(87,some 15)],[(87,some 15),(93,some 21)]]
def K4:List Src:=[[(16,none)],[(9,none)],[(103,some 1)],[(102,some 0),(104,some 2)],[(105,some 3)],[(16,none),(106,some 4)],[(107,some 5),(106,some 4)],[(108,some 6),(106,some 4)],[(12,none),(109,some 7)],[(15,none),(109,some 7)],[(110,some 8),(111,some 9),(109,some 7)],[(112,some 10),(109,some 7)],[(9,none),(109,some 7)],[(16,none),(109,some 7)],[(114,some 12),(115,some 13),(109,some 7)],[(116,some 14),(109,some 7)],[(113,some 11),(117,some 15),(109,some 7)],[(109,some 7),(118,some 16),(106,some 4)],[(106,some 4),(119,some 17)]]
def GZ:List Src:=[[(18,none)],[(133,some 0)],[(17,none),(134,some 1)],[(6,none),(134,some 1)],[(135,some 2),(136,some 3),(134,some 1)],[(134,some 1),(137,some 4)],[(138,some 5)],[(5,none),(139,some 6)],[(140,some 7),(139,some 6)],[(10,none),(139,some 6)],[(141,some 8),(142,some 9),(139,some 6)],[(139,some 6),(143,some 10)],[(144,some 11)],[(5,none),(145,some 12)],[(8,none),(145,some 12)],[(146,some 13),(147,some 14),(145,some 12)],[(6,none),(145,some 12)],[(149,some 16),(145,some 12)],[(148,some 15),(150,some 17),(145,some 12)],[(145,some 12),(151,some 18)],[(152,some 19)],[(5,none),(153,some 20)],[(154,some 21),(153,some 20)],[(155,some 22),(153,some 20)],[(153,some 20),(156,some 23)],[(157,some 24)],[(158,some 25)],[(158,some 25),(159,some 26)],[(160,some 27)]]
structure K9 (R:bO):Prop where
 obj:kG R cfg
 insp:BS R cfg.P 62 nK
section
variable {R:bO} (E:K9 R)
include E
theorem uh:kG R D7:=⟨E.obj.toObjOk,E.obj.new⟩
theorem eP:kG R rA:=⟨E.obj.toObjOk,E.obj.new⟩
set_option maxRecDepth 20000 in
set_option maxHeartbeats 4000000 in
theorem rW (n:Nat) (a2:ay) (a6:aG) (r:(Int × ay)) (h:jQ n a2 a6=some r) (b1:Nat) (v3:AV) (ws4:List (List AV)) (w5:AV):dL R cfg.P 58 [.ptr b1 0 0,.d (dV a6)] [.box b1 [v3,w5],aA ae ah.kids 7 5 v3 ws4 a2.l none,aI w5 a2.freed] (fun v l=>v=.d (.int .i64 r.1)∧∃ dv0 dws0 dw0,l=[.box b1 [dv0,dw0],aA ae ah.kids 7 5 dv0 dws0 r.2.l none,aI dw0 r.2.freed]):=by
 unfold jQ at h
 refine dL.of_wp (C:=D7) Try.func58 rfl NA rfl (fun B0 S0 H0=>?_)
 replace H0:Has B0 S0 [.box b1 [v3,w5],aA ae ah.kids 7 5 v3 ws4 a2.l none,aI w5 a2.freed]:=H0
 refine aC.seq ?_
 refine aC.region (uh E) rfl ?_
 refine aj.box H0 rfl rfl rfl (aG.dN _) rfl (fun b7 S8 H9=>?_)
 refine aj.val rfl (au rfl) rfl ?_
 refine aj.nil ?_
 refine aC.seq ?_
 refine aC.region (uh E) rfl ?_
 refine aj.val rfl (aF rfl Fb Og rfl) rfl ?_
 refine aj.store H9 (i:=0) rfl rfl rfl rfl rfl rfl OJ rfl OI rfl rfl rfl (fun S10 H11=>?_)
 refine aj.nil ?_
 refine aC.seq ?_
 refine aC.region (uh E) rfl ?_
 refine aj.val rfl (aa rfl) rfl ?_
 refine aj.val rfl (bI rfl) rfl ?_
 refine aj.val rfl (aF rfl uR ng rfl) rfl ?_
 refine aj.val rfl (aJ H11 (i:=1) rfl rfl (aU pI rfl)) rfl ?_
 refine aj.val rfl (kr H11 (i:=3) rfl rfl jh) rfl ?_
 refine aj.val rfl (aD rfl rfl gX) rfl ?_
 refine aj.val rfl (au rfl) rfl ?_
 refine aj.nil ?_
 refine aC.seq ?_
 refine aC.seq ?_
 refine aC.region (uh E) rfl ?_
 refine aj.val rfl (aa rfl) rfl ?_
 refine aj.val rfl (aD rfl rfl dO) rfl ?_
 refine aj.nil ?_
 refine aC.cond rfl (fun hb12=>?_) (fun hb12=>?_)
 ·
  replace h:=dE hb12 h
  refine aC.seq ?_
  obtain ⟨z17,hzz17,h⟩:=bind_some h
  refine aC.gG (uh E) jr Oy [(0,none)] (by kernel_rfl) [6,7,10] (by decide) [some (.ptr b1 0 0),some (.ptr b1 0 0),some (.ptr b1 0 0),some (.ptr b1 0 0),some v3,some (.d (dV (aG.mk true a6.tag a6.key a6.text a6.attrs a6.parent))),none,none,none,none,none] ?_
  refine ⟨[0,1,2,3,4,5],by kernel_rfl,?_,_,_,rfl,rfl,.step ?_⟩
  ·
   refine .v rfl rfl rfl rfl (aa rfl) ?_
   refine .v rfl rfl rfl rfl (aa rfl) ?_
   refine .v rfl rfl rfl rfl (bI rfl) ?_
   refine .v rfl rfl rfl rfl (aF rfl kD tY rfl) ?_
   refine .v rfl rfl rfl rfl (aJ H11 (i:=1) rfl rfl (aU uF rfl)) ?_
   refine .cons rfl rfl rfl (.step ?_) ?_
   ·
    refine aj.val rfl (aJ H11 (i:=0) rfl rfl (aZ Kq qE rfl)) rfl ?_
    refine aj.less (Less.agg' (d:=dV (aG.mk true a6.tag a6.key a6.text a6.attrs a6.parent)) (ax.eq rfl (ax.eq rfl (ax.eq rfl (ax.eq rfl (ax.eq rfl (ax.eq rfl (ax.eq rfl .nil))))))) ((aG.eq _).trans rfl)) ?_
    exact aj.nil ⟨_,_,rfl,fun _ ht=>by cases ht; exact ⟨rfl,.refl _⟩⟩
   exact .nil
  refine aj.qA (vs:=[(.d (dV (aG.mk true a6.tag a6.key a6.text a6.attrs a6.parent)))]) (cs:=[[(.d (.bool (aG.mk true a6.tag a6.key a6.text a6.attrs a6.parent).lives)),(.d (.str (aG.mk true a6.tag a6.key a6.text a6.attrs a6.parent).tag)),(.d (.str (aG.mk true a6.tag a6.key a6.text a6.attrs a6.parent).key)),(.d (.str (aG.mk true a6.tag a6.key a6.text a6.attrs a6.parent).text)),(.d (.sl (((aG.mk true a6.tag a6.key a6.text a6.attrs a6.parent).attrs).map az) false)),(.d .aS),(.d (.int .i64 (aG.mk true a6.tag a6.key a6.text a6.attrs a6.parent).parent))]]) H11 rfl I6 yh uT GV qE rfl (by decide) (.cons (IA (aG.dN _)) rfl .nil) rfl rfl rfl (fun v26 S27 H28=>?_)
  have H29:Has B0 S27 [gN 7 1 v26 [(.d (.bool (aG.mk true a6.tag a6.key a6.text a6.attrs a6.parent).lives)),(.d (.str (aG.mk true a6.tag a6.key a6.text a6.attrs a6.parent).tag)),(.d (.str (aG.mk true a6.tag a6.key a6.text a6.attrs a6.parent).key)),(.d (.str (aG.mk true a6.tag a6.key a6.text a6.attrs a6.parent).text)),(.d (.sl (((aG.mk true a6.tag a6.key a6.text a6.attrs a6.parent).attrs).map az) false)),(.d .aS),(.d (.int .i64 (aG.mk true a6.tag a6.key a6.text a6.attrs a6.parent).parent))],.box b7 [(.d (.bool true)),(.d (.str a6.tag)),(.d (.str a6.key)),(.d (.str a6.text)),(.d (.sl ((a6.attrs).map az) false)),(.d .aS),(.d (.int .i64 a6.parent))],.box b1 [v3,w5],aA ae ah.kids 7 5 v3 ws4 a2.l none,aI w5 a2.freed]:=H28.sl [0,1,2,3,4] rfl rfl
  refine aj.nil ⟨_,_,_,rfl,(fun _ ht=>by cases ht; rfl),[some (.ptr b1 0 0),some (.ptr b1 0 0),some (.ptr b1 0 0),some (.ptr b1 0 0),some v3,some (.d (dV (aG.mk true a6.tag a6.key a6.text a6.attrs a6.parent))),some v26,none,none,none,none],(.o (.o (.o (.o (.o (.o (.new (.new (.new (.new (.new .nil))))))))))),(fun _ ht=>by cases ht; exact ⟨_,rfl,.refl _⟩),?_⟩
  refine ⟨[0,1,2,3,4],by kernel_rfl,?_,_,_,rfl,rfl,.step ?_⟩
  ·
   refine .v rfl rfl rfl rfl (aa rfl) ?_
   refine .v rfl rfl rfl rfl (aa rfl) ?_
   refine .v rfl rfl rfl rfl (bI rfl) ?_
   refine .v rfl rfl rfl rfl (aF rfl kD tY rfl) ?_
   refine .v rfl rfl rfl rfl (aJ H29 (i:=2) rfl rfl (aU uF rfl)) ?_
   exact .nil
  have H30:Has B0 S27 ([gN 7 1 v26 [(.d (.bool (aG.mk true a6.tag a6.key a6.text a6.attrs a6.parent).lives)),(.d (.str (aG.mk true a6.tag a6.key a6.text a6.attrs a6.parent).tag)),(.d (.str (aG.mk true a6.tag a6.key a6.text a6.attrs a6.parent).key)),(.d (.str (aG.mk true a6.tag a6.key a6.text a6.attrs a6.parent).text)),(.d (.sl (((aG.mk true a6.tag a6.key a6.text a6.attrs a6.parent).attrs).map az) false)),(.d .aS),(.d (.int .i64 (aG.mk true a6.tag a6.key a6.text a6.attrs a6.parent).parent))],aA ae ah.kids 7 5 v3 ws4 a2.l none] ++ [.box b7 [(.d (.bool true)),(.d (.str a6.tag)),(.d (.str a6.key)),(.d (.str a6.text)),(.d (.sl ((a6.attrs).map az) false)),(.d .aS),(.d (.int .i64 a6.parent))],.box b1 [v3,w5],aI w5 a2.freed]):=H29.sl [0,3,1,2,4] rfl rfl
  replace H30:Has B0 S27 [gN 7 1 v26 [(.d (.bool (aG.mk true a6.tag a6.key a6.text a6.attrs a6.parent).lives)),(.d (.str (aG.mk true a6.tag a6.key a6.text a6.attrs a6.parent).tag)),(.d (.str (aG.mk true a6.tag a6.key a6.text a6.attrs a6.parent).key)),(.d (.str (aG.mk true a6.tag a6.key a6.text a6.attrs a6.parent).text)),(.d (.sl (((aG.mk true a6.tag a6.key a6.text a6.attrs a6.parent).attrs).map az) false)),(.d .aS),(.d (.int .i64 (aG.mk true a6.tag a6.key a6.text a6.attrs a6.parent).parent))],aA ae ah.kids 7 5 v3 ws4 a2.l none,.box b7 [(.d (.bool true)),(.d (.str a6.tag)),(.d (.str a6.key)),(.d (.str a6.text)),(.d (.sl ((a6.attrs).map az) false)),(.d .aS),(.d (.int .i64 a6.parent))],.box b1 [v3,w5],aI w5 a2.freed]:=H30
  refine aj.Fz (z:=(ah.mk (aG.mk true a6.tag a6.key a6.text a6.attrs a6.parent).lives (aG.mk true a6.tag a6.key a6.text a6.attrs a6.parent).tag (aG.mk true a6.tag a6.key a6.text a6.attrs a6.parent).key (aG.mk true a6.tag a6.key a6.text a6.attrs a6.parent).text (aG.mk true a6.tag a6.key a6.text a6.attrs a6.parent).attrs [] (aG.mk true a6.tag a6.key a6.text a6.attrs a6.parent).parent)) H30 rfl rfl rfl I6 Lf yh qE hzz17 Ot rfl K7 ⟨rfl,rfl,rfl,(.cons (.refl _) (.cons (.refl _) (.cons (.refl _) (.cons (.refl _) (.cons (.refl _) (.cons (Less.any _) (.cons (.refl _) .nil)))))))⟩ rfl rfl rfl (fun v31 ws32 S33 H34=>?_)
  have H35:Has B0 S33 [.box b7 [(.d (.bool true)),(.d (.str a6.tag)),(.d (.str a6.key)),(.d (.str a6.text)),(.d (.sl ((a6.attrs).map az) false)),(.d .aS),(.d (.int .i64 a6.parent))],.box b1 [v3,w5],aA ae ah.kids 7 5 v31 ws32 z17 none,aI w5 a2.freed]:=H34.sl [1,2,0,3] rfl rfl
  refine aj.nil ⟨_,_,_,rfl,(fun _ ht=>by cases ht; rfl),[some (.ptr b1 0 0),some (.ptr b1 0 0),some (.ptr b1 0 0),some (.ptr b1 0 0),some v3,some (.d (dV (aG.mk true a6.tag a6.key a6.text a6.attrs a6.parent))),some v26,some v31,some (.ptr b1 0 0),some (.ptr b1 0 0),none],(.o (.o (.o (.o (.o (.o (.o (.new (.new (.new (.new .nil))))))))))),(fun _ ht=>by cases ht; exact ⟨_,rfl,.refl _⟩),?_⟩
  refine ⟨[0,8,9],by kernel_rfl,?_,_,_,rfl,rfl,.step ?_⟩
  ·
   refine .v rfl rfl rfl rfl (aa rfl) ?_
   refine .v rfl rfl rfl rfl (bI rfl) ?_
   refine .v rfl rfl rfl rfl (aF rfl kD tY rfl) ?_
   exact .nil
  refine aj.store H35 (i:=1) rfl rfl rfl rfl (zZ H35 (i:=2) rfl).2 rfl Nr (zZ H35 (i:=2) rfl).1 NL rfl rfl rfl (fun S36 H37=>?_)
  refine aj.nil ⟨_,.any,_,rfl,(fun _ ht=>by cases ht),[some (.ptr b1 0 0),some (.ptr b1 0 0),some (.ptr b1 0 0),some (.ptr b1 0 0),some v3,some (.d (dV (aG.mk true a6.tag a6.key a6.text a6.attrs a6.parent))),some v26,some v31,some (.ptr b1 0 0),some (.ptr b1 0 0),some .any],(.o (.o (.o (.o (.o (.o (.o (.o (.o (.o (.new .nil))))))))))),(fun _ ht=>by cases ht),?_⟩
  refine ⟨[],by kernel_rfl,?_,_,rfl,?_⟩
  ·
   exact .nil
  refine aC.seq ?_
  refine aC.region (uh E) rfl ?_
  refine aj.val rfl (aa rfl) rfl ?_
  refine aj.val rfl (bI rfl) rfl ?_
  refine aj.val rfl (aF rfl kD tY rfl) rfl ?_
  refine aj.val rfl (aJ H37 (i:=1) rfl rfl (aU uF rfl)) rfl ?_
  refine aj.val rfl (sW H37 (i:=2) rfl rfl Kh) rfl ?_
  refine aj.val rfl (au rfl) rfl ?_
  refine aj.nil ?_
  have hr:=Option.some.inj h
  subst hr
  exact aC.ret ⟨_,rfl,rfl,_,_,_,.refl _,(.refl _),⟨rfl,v31,ws32,w5,rfl⟩,H37.sl [1,2,3] rfl rfl⟩
 ·
  replace h:=dG hb12 h
  refine aC.skip ?_
  refine aC.seq ?_
  refine aC.region (uh E) rfl ?_
  refine aj.val rfl (aa rfl) rfl ?_
  refine aj.val rfl (bI rfl) rfl ?_
  refine aj.val rfl (aF rfl uR ng rfl) rfl ?_
  refine aj.val rfl (aJ H11 (i:=1) rfl rfl (aU pI rfl)) rfl ?_
  refine aj.val rfl (aa rfl) rfl ?_
  obtain ⟨z38,hzz38,h⟩:=bind_some h
  refine aj.val rfl (sU H11 (q:=3) rfl hzz38 rfl rfl fH pz kH) rfl ?_
  refine aj.val rfl (qV H11 (q:=3) rfl hzz38 rfl nU) rfl ?_
  refine aj.val rfl (au rfl) rfl ?_
  refine aj.nil ?_
  refine aC.seq ?_
  refine aC.region (uh E) rfl ?_
  refine aj.val rfl (aa rfl) rfl ?_
  refine aj.val rfl (aa rfl) rfl ?_
  refine aj.val rfl (bI rfl) rfl ?_
  refine aj.val rfl (aF rfl uR ng rfl) rfl ?_
  refine aj.val rfl (aJ H11 (i:=1) rfl rfl (aU pI rfl)) rfl ?_
  refine aj.val rfl (aa rfl) rfl ?_
  obtain ⟨z39,hzz39,h⟩:=bind_some h
  have H40:Has B0 S10 ([aI w5 a2.freed] ++ [.box b7 [(.d (.bool true)),(.d (.str a6.tag)),(.d (.str a6.key)),(.d (.str a6.text)),(.d (.sl ((a6.attrs).map az) false)),(.d .aS),(.d (.int .i64 a6.parent))],.box b1 [v3,w5],aA ae ah.kids 7 5 v3 ws4 a2.l none]):=H11.sl [3,0,1,2] rfl rfl
  replace H40:Has B0 S10 [aI w5 a2.freed,.box b7 [(.d (.bool true)),(.d (.str a6.tag)),(.d (.str a6.key)),(.d (.str a6.text)),(.d (.sl ((a6.attrs).map az) false)),(.d .aS),(.d (.int .i64 a6.parent))],.box b1 [v3,w5],aA ae ah.kids 7 5 v3 ws4 a2.l none]:=H40
  refine aj.Lj H40 rfl rfl rfl fH GI kH hzz39 rfl (fun w41 H42=>?_)
  have H43:Has B0 S10 [.box b7 [(.d (.bool true)),(.d (.str a6.tag)),(.d (.str a6.key)),(.d (.str a6.text)),(.d (.sl ((a6.attrs).map az) false)),(.d .aS),(.d (.int .i64 a6.parent))],.box b1 [v3,w5],aA ae ah.kids 7 5 v3 ws4 a2.l none,aI w41 z39]:=H42.sl [1,2,3,0] rfl rfl
  refine aj.val rfl (bI rfl) rfl ?_
  refine aj.val rfl (aF rfl uR ng rfl) rfl ?_
  refine aj.store H43 (i:=1) rfl rfl rfl rfl (tN H43 (i:=3) rfl).2 rfl JK (tN H43 (i:=3) rfl).1 JP rfl rfl rfl (fun S44 H45=>?_)
  refine aj.nil ?_
  refine aC.seq ?_
  obtain ⟨z46,hzz46,h⟩:=bind_some h
  refine aC.gG (uh E) jr OC [(6,none)] (by kernel_rfl) [8] (by decide) [some (.ptr b1 0 0),some (.ptr b1 0 0),some (.ptr b1 0 0),some v3,some (.d (.int .i64 z38)),some (.d (.int .i64 (IntKind.wrap .i64 (z38 - 1)))),some (.d (dV (aG.mk true a6.tag a6.key a6.text a6.attrs a6.parent))),some (bF v3 (Int.toNat (IntKind.wrap .i64 (z38 - 1))) 0),none] ?_
  refine ⟨[0,1,2,3,4,5,6,7],by kernel_rfl,?_,_,_,rfl,rfl,.step ?_⟩
  ·
   refine .v rfl rfl rfl rfl (aa rfl) ?_
   refine .v rfl rfl rfl rfl (bI rfl) ?_
   refine .v rfl rfl rfl rfl (aF rfl kD tY rfl) ?_
   refine .v rfl rfl rfl rfl (aJ H45 (i:=1) rfl rfl (aU uF rfl)) ?_
   refine .v rfl rfl rfl rfl (aa rfl) ?_
   refine .v rfl rfl rfl rfl (aD rfl rfl gX) ?_
   refine .cons rfl rfl rfl (.step ?_) ?_
   ·
    refine aj.val rfl (aJ H45 (i:=0) rfl rfl (aZ Kq qE rfl)) rfl ?_
    refine aj.less (Less.agg' (d:=dV (aG.mk true a6.tag a6.key a6.text a6.attrs a6.parent)) (ax.eq rfl (ax.eq rfl (ax.eq rfl (ax.eq rfl (ax.eq rfl (ax.eq rfl (ax.eq rfl .nil))))))) ((aG.eq _).trans rfl)) ?_
    exact aj.nil ⟨_,_,rfl,fun _ ht=>by cases ht; exact ⟨rfl,.refl _⟩⟩
   refine .v rfl rfl rfl rfl (gU H45 (i:=2) rfl hzz46 rfl rfl yh uT qE) ?_
   exact .nil
  have H55:Has B0 S44 ([aA ae ah.kids 7 5 v3 ws4 a2.l none] ++ [.box b7 [(.d (.bool true)),(.d (.str a6.tag)),(.d (.str a6.key)),(.d (.str a6.text)),(.d (.sl ((a6.attrs).map az) false)),(.d .aS),(.d (.int .i64 a6.parent))],.box b1 [v3,w41],aI w41 z39]):=H45.sl [2,0,1,3] rfl rfl
  replace H55:Has B0 S44 [aA ae ah.kids 7 5 v3 ws4 a2.l none,.box b7 [(.d (.bool true)),(.d (.str a6.tag)),(.d (.str a6.key)),(.d (.str a6.text)),(.d (.sl ((a6.attrs).map az) false)),(.d .aS),(.d (.int .i64 a6.parent))],.box b1 [v3,w41],aI w41 z39]:=H55
  refine aj.Ae (z':=(ah.mk (aG.mk true a6.tag a6.key a6.text a6.attrs a6.parent).lives (aG.mk true a6.tag a6.key a6.text a6.attrs a6.parent).tag (aG.mk true a6.tag a6.key a6.text a6.attrs a6.parent).key (aG.mk true a6.tag a6.key a6.text a6.attrs a6.parent).text (aG.mk true a6.tag a6.key a6.text a6.attrs a6.parent).attrs [] (aG.mk true a6.tag a6.key a6.text a6.attrs a6.parent).parent)) H55 rfl hzz46 (.inl rfl) rfl rfl (aG.dN _) rfl qE uT rfl rfl rfl (.cons (.refl _) (.cons (.refl _) (.cons (.refl _) (.cons (.refl _) (.cons (.refl _) (.cons (Less.any _) (.cons (.refl _) .nil))))))) rfl rfl (fun ws54 S52 H53=>?_)
  have H56:Has B0 S52 [.box b7 [(.d (.bool true)),(.d (.str a6.tag)),(.d (.str a6.key)),(.d (.str a6.text)),(.d (.sl ((a6.attrs).map az) false)),(.d .aS),(.d (.int .i64 a6.parent))],.box b1 [v3,w41],aA ae ah.kids 7 5 v3 ws54 (kE a2.l (IntKind.wrap .i64 (z38 - 1)) (ah.mk (aG.mk true a6.tag a6.key a6.text a6.attrs a6.parent).lives (aG.mk true a6.tag a6.key a6.text a6.attrs a6.parent).tag (aG.mk true a6.tag a6.key a6.text a6.attrs a6.parent).key (aG.mk true a6.tag a6.key a6.text a6.attrs a6.parent).text (aG.mk true a6.tag a6.key a6.text a6.attrs a6.parent).attrs [] (aG.mk true a6.tag a6.key a6.text a6.attrs a6.parent).parent)) none,aI w41 z39]:=H53.sl [1,2,0,3] rfl rfl
  refine aj.nil ⟨_,.any,_,rfl,(fun _ ht=>by cases ht),[some (.ptr b1 0 0),some (.ptr b1 0 0),some (.ptr b1 0 0),some v3,some (.d (.int .i64 z38)),some (.d (.int .i64 (IntKind.wrap .i64 (z38 - 1)))),some (.d (dV (aG.mk true a6.tag a6.key a6.text a6.attrs a6.parent))),some (bF v3 (Int.toNat (IntKind.wrap .i64 (z38 - 1))) 0),some .any],(.o (.o (.o (.o (.o (.o (.o (.o (.new .nil))))))))),(fun _ ht=>by cases ht),?_⟩
  refine ⟨[],by kernel_rfl,?_,_,rfl,?_⟩
  ·
   exact .nil
  refine aC.seq ?_
  refine aC.region (uh E) rfl ?_
  refine aj.val rfl (aa rfl) rfl ?_
  refine aj.val rfl (au rfl) rfl ?_
  refine aj.nil ?_
  have hr:=Option.some.inj h
  subst hr
  exact aC.ret ⟨_,rfl,rfl,_,_,_,.refl _,(.refl _),⟨rfl,v3,ws54,w41,rfl⟩,H56.sl [1,2,3] rfl rfl⟩
set_option maxRecDepth 20000 in
set_option maxHeartbeats 4000000 in
theorem rD (n:Nat) (a2:ay) (a6:Str) (r:(Int × ay)) (h:j5 n a2 a6=some r) (b1:Nat) (v3:AV) (ws4:List (List AV)) (w5:AV):dL R cfg.P 28 [.ptr b1 0 0,.d (.str a6)] [.box b1 [v3,w5],aA ae ah.kids 7 5 v3 ws4 a2.l none,aI w5 a2.freed] (fun v l=>v=.d (.int .i64 r.1)∧∃ dv0 dws0 dw0,l=[.box b1 [dv0,dw0],aA ae ah.kids 7 5 dv0 dws0 r.2.l none,aI dw0 r.2.freed]):=by
 unfold j5 at h
 refine dL.of_wp (C:=cfg) Try.func28 rfl Oo rfl (fun B0 S0 H0=>?_)
 replace H0:Has B0 S0 [.box b1 [v3,w5],aA ae ah.kids 7 5 v3 ws4 a2.l none,aI w5 a2.freed]:=H0
 refine aC.seq ?_
 refine aC.region E.obj rfl ?_
 refine aj.val rfl (au rfl) rfl ?_
 refine aj.nil ?_
 refine aC.seq ?_
 refine aC.region E.obj rfl ?_
 refine aj.val rfl (aa rfl) rfl ?_
 refine aj.val rfl (aa rfl) rfl ?_
 refine aj.val rfl (fu (cs:=[(.d (.bool false)),(.d (.str [])),(.d (.str [])),(.d (.str a6)),(.d .aS),(.d .aS),(.d (.int .i64 0))]) GV rfl (sQ) (jl rfl rfl rfl rfl rfl)) rfl ?_
 refine aj.less (Less.agg' (d:=dV (aG.mk false [] [] a6 [] 0)) (ax.eq rfl (ax.eq rfl (ax.eq rfl (ax.eq rfl (ax.jI rfl (.aS false) rfl rfl (ax.eq rfl (ax.eq rfl .nil))))))) ((aG.eq _).trans rfl)) ?_
 obtain ⟨z7,hzz7,h⟩:=bind_some h
 refine aj.eF (ins:=[.box b1 [v3,w5],aA ae ah.kids 7 5 v3 ws4 a2.l none,aI w5 a2.freed]) (more:=[]) (H0.sl [0,1,2] rfl rfl) rfl (aH rfl rfl) (rW E n _ _ _ hzz7 b1 v3 ws4 w5) (.cons (.refl _) (.cons (.refl _) .nil)) rfl ?_
 rintro _ S11 _ ⟨rfl,v8,ws9,w10,rfl⟩ H12
 have H13:Has B0 S11 [.box b1 [v8,w10],aA ae ah.kids 7 5 v8 ws9 z7.2.l none,aI w10 z7.2.freed]:=H12.sl [0,1,2] rfl rfl
 refine aj.val rfl (au rfl) rfl ?_
 refine aj.nil ?_
 have hr:=Option.some.inj h
 subst hr
 exact aC.ret ⟨_,rfl,rfl,_,_,_,.refl _,(.refl _),⟨rfl,v8,ws9,w10,rfl⟩,H13.sl [0,1,2] rfl rfl⟩
set_option maxRecDepth 20000 in
set_option maxHeartbeats 4000000 in
theorem ow (n:Nat) (a2:ay) (a6:Str) (a7:Str) (r:(Int × ay)) (h:ic n a2 a6 a7=some r) (b1:Nat) (v3:AV) (ws4:List (List AV)) (w5:AV):dL R cfg.P 13 [.ptr b1 0 0,.d (.str a6),.d (.str a7)] [.box b1 [v3,w5],aA ae ah.kids 7 5 v3 ws4 a2.l none,aI w5 a2.freed] (fun v l=>v=.d (.int .i64 r.1)∧∃ dv0 dws0 dw0,l=[.box b1 [dv0,dw0],aA ae ah.kids 7 5 dv0 dws0 r.2.l none,aI dw0 r.2.freed]):=by
 unfold ic at h
 refine dL.of_wp (C:=cfg) Try.func13 rfl NT rfl (fun B0 S0 H0=>?_)
 replace H0:Has B0 S0 [.box b1 [v3,w5],aA ae ah.kids 7 5 v3 ws4 a2.l none,aI w5 a2.freed]:=H0
 refine aC.seq ?_
 refine aC.region E.obj rfl ?_
 refine aj.val rfl (au rfl) rfl ?_
 refine aj.nil ?_
 refine aC.seq ?_
 refine aC.seq ?_
 refine aC.region E.obj rfl ?_
 refine aj.val rfl (aa rfl) rfl ?_
 refine aj.val rfl (aD rfl rfl nR) rfl ?_
 refine aj.nil ?_
 refine aC.cond rfl (fun hb8=>?_) (fun hb8=>?_)
 ·
  replace h:=dE hb8 h
  refine aC.seq ?_
  refine aC.region E.obj rfl ?_
  refine aj.val rfl (aa rfl) rfl ?_
  obtain ⟨z9,hzz9,h⟩:=bind_some h
  refine aj.eF (ins:=[.box b1 [v3,w5],aA ae ah.kids 7 5 v3 ws4 a2.l none,aI w5 a2.freed]) (more:=[]) (H0.sl [0,1,2] rfl rfl) rfl (aH rfl rfl) (rD E n _ _ _ hzz9 b1 v3 ws4 w5) (.cons (.refl _) (.cons (.refl _) .nil)) rfl ?_
  rintro _ S13 _ ⟨rfl,v10,ws11,w12,rfl⟩ H14
  have H15:Has B0 S13 [.box b1 [v10,w12],aA ae ah.kids 7 5 v10 ws11 z9.2.l none,aI w12 z9.2.freed]:=H14.sl [0,1,2] rfl rfl
  refine aj.val rfl (au rfl) rfl ?_
  refine aj.nil ?_
  have hr:=Option.some.inj h
  subst hr
  exact aC.ret ⟨_,rfl,rfl,_,_,_,.refl _,(.refl _),⟨rfl,v10,ws11,w12,rfl⟩,H15.sl [0,1,2] rfl rfl⟩
 ·
  replace h:=dG hb8 h
  refine aC.skip ?_
  refine aC.seq ?_
  refine aC.region E.obj rfl ?_
  refine aj.val rfl (aa rfl) rfl ?_
  refine aj.val rfl (aa rfl) rfl ?_
  refine aj.val rfl (aa rfl) rfl ?_
  refine aj.val rfl (fu (cs:=[(.d (.bool false)),(.d (.str a6)),(.d (.str a7)),(.d (.str [])),(.d .aS),(.d .aS),(.d (.int .i64 0))]) GV rfl (sQ) (jl rfl rfl rfl rfl (jl rfl rfl rfl rfl rfl))) rfl ?_
  refine aj.less (Less.agg' (d:=dV (aG.mk false a6 a7 [] [] 0)) (ax.eq rfl (ax.eq rfl (ax.eq rfl (ax.eq rfl (ax.jI rfl (.aS false) rfl rfl (ax.eq rfl (ax.eq rfl .nil))))))) ((aG.eq _).trans rfl)) ?_
  obtain ⟨z16,hzz16,h⟩:=bind_some h
  refine aj.eF (ins:=[.box b1 [v3,w5],aA ae ah.kids 7 5 v3 ws4 a2.l none,aI w5 a2.freed]) (more:=[]) (H0.sl [0,1,2] rfl rfl) rfl (aH rfl rfl) (rW E n _ _ _ hzz16 b1 v3 ws4 w5) (.cons (.refl _) (.cons (.refl _) .nil)) rfl ?_
  rintro _ S20 _ ⟨rfl,v17,ws18,w19,rfl⟩ H21
  have H22:Has B0 S20 [.box b1 [v17,w19],aA ae ah.kids 7 5 v17 ws18 z16.2.l none,aI w19 z16.2.freed]:=H21.sl [0,1,2] rfl rfl
  refine aj.val rfl (au rfl) rfl ?_
  refine aj.nil ?_
  have hr:=Option.some.inj h
  subst hr
  exact aC.ret ⟨_,rfl,rfl,_,_,_,.refl _,(.refl _),⟨rfl,v17,ws18,w19,rfl⟩,H22.sl [0,1,2] rfl rfl⟩
set_option maxRecDepth 20000 in
set_option maxHeartbeats 4000000 in
theorem zf (n:Nat)  (r:(Option ay)) (h:tL n  = some r):dL R cfg.P 12 [] [] (fun v l=>match r with | none=>v=.d .nilp∧l=[] | some x=>∃ b dv dws dw,v=.ptr b 0 0∧l=[] ++ [.box b [dv,dw],aA ae ah.kids 7 5 dv dws x.l none,aI dw x.freed]):=by
 unfold tL at h
 refine dL.of_wp (C:=cfg) Try.func12 rfl M3 rfl (fun B0 S0 H0=>?_)
 replace H0:Has B0 S0 []:=H0
 refine aC.seq ?_
 refine aC.region E.obj rfl ?_
 refine aj.val rfl (au rfl) rfl ?_
 refine aj.nil ?_
 refine aC.seq ?_
 refine aC.region E.obj rfl ?_
 refine aj.val rfl (fu (cs:=[(.d .aS),(.d .aS)]) NR rfl (yJ) rfl) rfl ?_
 refine aj.box H0 rfl rfl rfl rfl rfl (fun b1 S2 H3=>?_)
 have H4:=H3.Io
 have H5:=Has.KF ae ah.kids 7 5 rfl H4
 have H6:Has B0 S2 [.box b1 [(.d .aS),(.d .aS)],aA ae ah.kids 7 5 (.d .aS) [] [] none,aI (.d .aS) []]:=H5.sl [2,0,1] rfl rfl
 refine aj.val rfl (au rfl) rfl ?_
 refine aj.nil ?_
 refine aC.seq ?_
 refine aC.region E.obj rfl ?_
 refine aj.val rfl (aa rfl) rfl ?_
 obtain ⟨z7,hzz7,h⟩:=bind_some h
 refine aj.eF (ins:=[.box b1 [(.d .aS),(.d .aS)],aA ae ah.kids 7 5 (.d .aS) [] [] none,aI (.d .aS) []]) (more:=[]) (H6.sl [0,1,2] rfl rfl) rfl (aH rfl rfl) (ow E n _ _ _ _ hzz7 b1 (.d .aS) [] (.d .aS)) (.cons (.refl _) (.cons (.refl _) (.cons (.refl _) .nil))) rfl ?_
 rintro _ S11 _ ⟨rfl,v8,ws9,w10,rfl⟩ H12
 have H13:Has B0 S11 [.box b1 [v8,w10],aA ae ah.kids 7 5 v8 ws9 z7.2.l none,aI w10 z7.2.freed]:=H12.sl [0,1,2] rfl rfl
 refine aj.nil ?_
 refine aC.seq ?_
 refine aC.region E.obj rfl ?_
 refine aj.val rfl (aa rfl) rfl ?_
 refine aj.val rfl (au rfl) rfl ?_
 refine aj.nil ?_
 have hr:=Option.some.inj h
 subst hr
 exact aC.ret ⟨_,rfl,rfl,_,_,_,.refl _,(.refl _),⟨_,v8,ws9,w10,rfl,rfl⟩,H13.sl [0,1,2] rfl rfl⟩
set_option maxRecDepth 20000 in
set_option maxHeartbeats 4000000 in
theorem gT (n:Nat) (a2:ay) (a6:Int) (r:Bool) (h:gM n a2 a6=some r) (b1:Nat) (v3:AV) (ws4:List (List AV)) (w5:AV):dL R cfg.P 59 [.ptr b1 0 0,.d (.int .i64 a6)] [.box b1 [v3,w5],aA ae ah.kids 7 5 v3 ws4 a2.l none,aI w5 a2.freed] (fun v l=>v=(bif r then bF v3 (Int.toNat (IntKind.wrap .i64 (a6 - 1))) 0 else .d .nilp)∧l=[.box b1 [v3,w5],aA ae ah.kids 7 5 v3 ws4 a2.l none,aI w5 a2.freed]):=by
 unfold gM at h
 refine dL.of_wp (C:=cfg) Try.func59 rfl Nz rfl (fun B0 S0 H0=>?_)
 replace H0:Has B0 S0 [.box b1 [v3,w5],aA ae ah.kids 7 5 v3 ws4 a2.l none,aI w5 a2.freed]:=H0
 refine aC.seq ?_
 refine aC.region E.obj rfl ?_
 refine aj.val rfl (au rfl) rfl ?_
 refine aj.nil ?_
 refine aC.seq ?_
 refine aC.seq ?_
 refine aC.region E.obj rfl ?_
 refine aj.val rfl (aa rfl) rfl ?_
 refine aj.val rfl (aD rfl rfl dO) rfl ?_
 refine aj.val rfl (aa rfl) rfl ?_
 refine aj.kS 8 15 (.d (.bool ((decide (a6 < 1)) || (decide (((a2.l).length:Int) < a6))))) ?_ ?_
 ·
  rcases Bool.eq_false_or_eq_true ((decide (a6 < 1))) with hB7 | hB7
  ·
   refine aj.bool hB7 ?_
   refine aj.no rfl rfl ?_
   refine aj.no rfl rfl ?_
   refine aj.no rfl rfl ?_
   refine aj.no rfl rfl ?_
   refine aj.no rfl rfl ?_
   refine aj.no rfl rfl ?_
   refine aj.no rfl rfl ?_
   refine aj.val rfl (aB (b:=true) rfl rfl) rfl ?_
   exact aj.nil ⟨_,rfl,(ai.put (ai.push rfl (ai.push rfl (ai.push rfl (ai.push rfl (ai.push rfl (ai.push rfl (ai.push rfl (ai.put (.refl _) (Less.eq (by rw [hB7])))))))))) (Less.eq (by rw [hB7]; rw [Bool.true_or])))⟩
  ·
   refine aj.bool hB7 ?_
   refine aj.val rfl (aa rfl) rfl ?_
   refine aj.val rfl (aa rfl) rfl ?_
   refine aj.val rfl (bI rfl) rfl ?_
   refine aj.val rfl (aF rfl kD tY rfl) rfl ?_
   refine aj.val rfl (aJ H0 (i:=0) rfl rfl (aU uF rfl)) rfl ?_
   refine aj.val rfl (sW H0 (i:=1) rfl rfl Kh) rfl ?_
   refine aj.val rfl (aD rfl rfl Er) rfl ?_
   refine aj.val rfl (aB (b:=false) rfl rfl) rfl ?_
   exact aj.nil ⟨_,rfl,(ai.put (ai.push rfl (ai.push rfl (ai.push rfl (ai.push rfl (ai.push rfl (ai.push rfl (ai.push rfl (ai.put (.refl _) (Less.eq (by rw [hB7])))))))))) (Less.eq (by rw [hB7]; rw [Bool.false_or])))⟩
 ·
  refine aj.val rfl (aa rfl) rfl ?_
  obtain ⟨z9,hzz9,h⟩:=bind_some h
  refine aj.kS 11 27 (.d (.bool z9)) ?_ ?_
  ·
   rcases Bool.eq_false_or_eq_true (((decide (a6 < 1)) || (decide (((a2.l).length:Int) < a6)))) with hB8 | hB8
   ·
    refine aj.bool hB8 ?_
    refine aj.no rfl rfl ?_
    refine aj.no rfl rfl ?_
    refine aj.no rfl rfl ?_
    refine aj.no rfl rfl ?_
    refine aj.no rfl rfl ?_
    refine aj.no rfl rfl ?_
    refine aj.no rfl rfl ?_
    refine aj.no rfl rfl ?_
    refine aj.no rfl rfl ?_
    refine aj.no rfl rfl ?_
    refine aj.val rfl (aB (b:=true) rfl rfl) rfl ?_
    replace hzz9:=dE hB8 hzz9
    cases hzz9
    exact aj.nil ⟨_,rfl,(ai.put (ai.push rfl (ai.push rfl (ai.push rfl (ai.push rfl (ai.push rfl (ai.push rfl (ai.push rfl (ai.push rfl (ai.push rfl (ai.push rfl (ai.put (.refl _) (Less.eq (by rw [hB8]))))))))))))) (.refl _))⟩
   ·
    refine aj.bool hB8 ?_
    replace hzz9:=dG hB8 hzz9
    refine aj.val rfl (aa rfl) rfl ?_
    refine aj.val rfl (bI rfl) rfl ?_
    refine aj.val rfl (aF rfl kD tY rfl) rfl ?_
    refine aj.val rfl (aJ H0 (i:=0) rfl rfl (aU uF rfl)) rfl ?_
    refine aj.val rfl (aa rfl) rfl ?_
    refine aj.val rfl (aD rfl rfl gX) rfl ?_
    obtain ⟨z10,hzz10,hzz9⟩:=bind_some hzz9
    refine aj.val rfl (gU H0 (i:=1) rfl hzz10 rfl rfl yh uT qE) rfl ?_
    refine aj.val rfl (bE H0 (i:=1) rfl hzz10 rfl Fb Og rfl) rfl ?_
    refine aj.j6 H0 rfl (q:=1) rfl hzz10 rfl Ow rfl rfl rfl ?_
    refine aj.val rfl (iI rfl) rfl ?_
    refine aj.val rfl (aB (b:=false) rfl rfl) rfl ?_
    cases hzz9
    exact aj.nil ⟨_,rfl,(ai.put (ai.push rfl (ai.push rfl (ai.push rfl (ai.push rfl (ai.push rfl (ai.push rfl (ai.push rfl (ai.push rfl (ai.push rfl (ai.push rfl (ai.put (.refl _) (Less.eq (by rw [hB8]))))))))))))) (.refl _))⟩
  ·
   refine aj.nil ?_
   refine aC.cond rfl (fun hb11=>?_) (fun hb11=>?_)
   ·
    replace h:=dE hb11 h
    refine aC.seq ?_
    refine aC.region E.obj rfl ?_
    refine aj.val rfl (au rfl) rfl ?_
    refine aj.nil ?_
    have hr:=Option.some.inj h
    subst hr
    exact aC.ret ⟨_,rfl,rfl,_,_,_,.refl _,(.refl _),⟨rfl,rfl⟩,H0.sl [0,1,2] rfl rfl⟩
   ·
    replace h:=dG hb11 h
    refine aC.skip ?_
    refine aC.seq ?_
    refine aC.region E.obj rfl ?_
    refine aj.val rfl (aa rfl) rfl ?_
    refine aj.val rfl (bI rfl) rfl ?_
    refine aj.val rfl (aF rfl kD tY rfl) rfl ?_
    refine aj.val rfl (aJ H0 (i:=0) rfl rfl (aU uF rfl)) rfl ?_
    refine aj.val rfl (aa rfl) rfl ?_
    refine aj.val rfl (aD rfl rfl gX) rfl ?_
    obtain ⟨z12,hzz12,h⟩:=bind_some h
    refine aj.val rfl (gU H0 (i:=1) rfl hzz12 rfl rfl yh uT qE) rfl ?_
    refine aj.val rfl (au rfl) rfl ?_
    refine aj.nil ?_
    have hr:=Option.some.inj h
    subst hr
    exact aC.ret ⟨_,rfl,rfl,_,_,_,.refl _,(.refl _),⟨rfl,rfl⟩,H0.sl [0,1,2] rfl rfl⟩
theorem oI (n:Nat) (a1:List Int) (r:List Int) (h:il n a1=some r) (w:AV):dL R cfg.P 64 [w] [aI w a1] (fun v l=>l=[.row 1 v ((r).map (D.int .i64)),aI w a1]):=by
 unfold il at h
 refine dL.of_wp (C:=rA) Try.func64 rfl N7 rfl (fun B0 S0 H0=>?_)
 refine aC.seq ?_
 refine aC.region (eP E) rfl ?_
 refine aj.val rfl (au rfl) rfl ?_
 refine aj.nil ?_
 refine aC.seq ?_
 refine aC.seq ?_
 refine aC.region (eP E) rfl ?_
 refine aj.val rfl (aa rfl) rfl ?_
 refine aj.IV H0 rfl rfl rfl Mm rfl (fun bb hbb hbn=>?_)
 refine aj.nil ?_
 refine aC.cond rfl (fun hb=>?_) (fun hb=>?_)
 ·
  have e:=hbb hb
  subst e
  have hr:=(mO h).2
  subst hr
  refine aC.seq ?_
  refine aC.region (eP E) rfl ?_
  refine aj.val rfl (au rfl) rfl ?_
  refine aj.nil ?_
  exact aC.ret ⟨_,rfl,rfl,_,_,_,.refl _,.refl _,rfl,H0.MH 1⟩
 ·
  refine aC.skip ?_
  refine aC.seq ?_
  refine aC.region (eP E) rfl ?_
  refine aj.val rfl (wy Kz fH nU) rfl ?_
  refine aj.val rfl (aa rfl) rfl ?_
  refine aj.Ii H0 rfl (hbn hb) rfl rfl pR zI fH kH h KO rfl Es rfl (fun v2 S2 H2=>?_)
  refine aj.val rfl (au rfl) rfl ?_
  refine aj.nil ?_
  exact aC.ret ⟨_,rfl,rfl,_,_,_,.refl _,.refl _,rfl,H2⟩
set_option maxRecDepth 20000 in
set_option maxHeartbeats 4000000 in
theorem iL (n:Nat) (a2:ay) (a6:Int) (r:(List Int)) (h:gQ n a2 a6=some r) (b1:Nat) (v3:AV) (ws4:List (List AV)) (w5:AV):dL R cfg.P 19 [.ptr b1 0 0,.d (.int .i64 a6)] [.box b1 [v3,w5],aA ae ah.kids 7 5 v3 ws4 a2.l none,aI w5 a2.freed] (fun v l=>v=.d (.sl ((r).map (D.int .i64)) false)∧l=[.box b1 [v3,w5],aA ae ah.kids 7 5 v3 ws4 a2.l none,aI w5 a2.freed]):=by
 unfold gQ at h
 refine dL.of_wp (C:=cfg) Try.func19 rfl Nj rfl (fun B0 S0 H0=>?_)
 replace H0:Has B0 S0 [.box b1 [v3,w5],aA ae ah.kids 7 5 v3 ws4 a2.l none,aI w5 a2.freed]:=H0
 refine aC.seq ?_
 refine aC.region E.obj rfl ?_
 refine aj.val rfl (au rfl) rfl ?_
 refine aj.nil ?_
 refine aC.seq ?_
 refine aC.region E.obj rfl ?_
 refine aj.val rfl (aa rfl) rfl ?_
 refine aj.val rfl (aa rfl) rfl ?_
 obtain ⟨z7,hzz7,h⟩:=bind_some h
 refine aj.eF (ins:=[.box b1 [v3,w5],aA ae ah.kids 7 5 v3 ws4 a2.l none,aI w5 a2.freed]) (more:=[]) (H0.sl [0,1,2] rfl rfl) rfl (aH rfl rfl) (gT E n _ _ _ hzz7 b1 v3 ws4 w5) (.cons (.refl _) (.cons (.refl _) .nil)) rfl ?_
 rintro v8 S9 l10 hr11 H12
 rcases z7 with _ | _
 ·
  obtain ⟨rfl,rfl⟩:=hr11
  replace h:=dG rfl h
  replace H12:Has B0 S9 [.box b1 [v3,w5],aA ae ah.kids 7 5 v3 ws4 a2.l none,aI w5 a2.freed]:=H12
  have H13:Has B0 S9 [.box b1 [v3,w5],aA ae ah.kids 7 5 v3 ws4 a2.l none,aI w5 a2.freed]:=H12.sl [0,1,2] rfl rfl
  refine aj.val rfl (au rfl) rfl ?_
  refine aj.nil ?_
  refine aC.seq ?_
  refine aC.seq ?_
  refine aC.region E.obj rfl ?_
  refine aj.val rfl (aa rfl) rfl ?_
  refine aj.val rfl (aD rfl rfl (lH rJ)) rfl ?_
  refine aj.nil ?_
  refine aC.cond rfl (fun hb=>?_) (fun hb=>?_)
  ·
   refine aC.seq ?_
   refine aC.region E.obj rfl ?_
   refine aj.val rfl (au rfl) rfl ?_
   refine aj.nil ?_
   have hr:=Option.some.inj h
   subst hr
   exact aC.ret ⟨_,rfl,rfl,_,_,_,.refl _,LF,⟨rfl,rfl⟩,H13.sl [0,1,2] rfl rfl⟩
  ·
   cases hb
 ·
  obtain ⟨rfl,rfl⟩:=hr11
  replace h:=dE rfl h
  have H14:Has B0 S9 [.box b1 [v3,w5],aA ae ah.kids 7 5 v3 ws4 a2.l none,aI w5 a2.freed]:=H12.sl [0,1,2] rfl rfl
  refine aj.val rfl (au rfl) rfl ?_
  refine aj.nil ?_
  refine aC.seq ?_
  refine aC.seq ?_
  refine aC.region E.obj rfl ?_
  refine aj.val rfl (aa rfl) rfl ?_
  obtain ⟨z15,hzz15,h⟩:=bind_some h
  refine aj.val rfl (lN H14 (q:=1) rfl hzz15 rfl rfl rJ) rfl ?_
  refine aj.nil ?_
  refine aC.cond rfl (fun hb=>?_) (fun hb=>?_)
  ·
   cases hb
  ·
   refine aC.skip ?_
   refine aC.seq ?_
   refine aC.region E.obj rfl ?_
   refine aj.val rfl (aa rfl) rfl ?_
   refine aj.val rfl (bN H14 (q:=1) rfl hzz15 rfl) rfl ?_
   refine aj.val rfl (bE H14 (i:=1) rfl hzz15 rfl nY ng rfl) rfl ?_
   refine aj.val rfl (gY H14 (i:=1) rfl hzz15 rfl pI) rfl ?_
   obtain ⟨z16,hzz16,h⟩:=bind_some h
   have H17:Has B0 S9 ([aA ae ah.kids 7 5 v3 ws4 a2.l none] ++ [.box b1 [v3,w5],aI w5 a2.freed]):=H14.sl [1,0,2] rfl rfl
   replace H17:Has B0 S9 [aA ae ah.kids 7 5 v3 ws4 a2.l none,.box b1 [v3,w5],aI w5 a2.freed]:=H17
   have H18:=Has.take H17 (dR hzz15).2
   have H19:Has B0 S9 [aI (iN 5 ws4 (Int.toNat (IntKind.wrap .i64 (a6 - 1)))) z15.kids,.box b1 [v3,w5],aA ae ah.kids 7 5 v3 ws4 a2.l (some (Int.toNat (IntKind.wrap .i64 (a6 - 1)))),aI w5 a2.freed]:=H18.sl [0,2,1,3] rfl rfl
   refine aj.eF (ins:=[aI (iN 5 ws4 (Int.toNat (IntKind.wrap .i64 (a6 - 1)))) z15.kids]) (more:=[.box b1 [v3,w5],aA ae ah.kids 7 5 v3 ws4 a2.l (some (Int.toNat (IntKind.wrap .i64 (a6 - 1)))),aI w5 a2.freed]) (H19.sl [0,1,2,3] rfl rfl) rfl (aH rfl rfl) (oI E n _ _ hzz16 _) (.cons (.refl _) .nil) rfl ?_
   rintro v20 S21 _ rfl H22
   have H23:Has B0 S21 [.row 1 v20 ((z16).map (D.int .i64)),aI (iN 5 ws4 (Int.toNat (IntKind.wrap .i64 (a6 - 1)))) z15.kids,.box b1 [v3,w5],aA ae ah.kids 7 5 v3 ws4 a2.l (some (Int.toNat (IntKind.wrap .i64 (a6 - 1)))),aI w5 a2.freed]:=H22.sl [0,1,2,3,4] rfl rfl
   have H24:Has B0 S21 ([aI (iN 5 ws4 (Int.toNat (IntKind.wrap .i64 (a6 - 1)))) z15.kids,aA ae ah.kids 7 5 v3 ws4 a2.l (some (Int.toNat (IntKind.wrap .i64 (a6 - 1))))] ++ [.row 1 v20 ((z16).map (D.int .i64)),.box b1 [v3,w5],aI w5 a2.freed]):=H23.sl [1,3,0,2,4] rfl rfl
   replace H24:Has B0 S21 [aI (iN 5 ws4 (Int.toNat (IntKind.wrap .i64 (a6 - 1)))) z15.kids,aA ae ah.kids 7 5 v3 ws4 a2.l (some (Int.toNat (IntKind.wrap .i64 (a6 - 1)))),.row 1 v20 ((z16).map (D.int .i64)),.box b1 [v3,w5],aI w5 a2.freed]:=H24
   have H25:=Has.LJ H24 (dR hzz15).2
   have H26:Has B0 S21 [.row 1 v20 ((z16).map (D.int .i64)),.box b1 [v3,w5],aA ae ah.kids 7 5 v3 ws4 a2.l none,aI w5 a2.freed]:=H25.sl [1,2,0,3] rfl rfl
   refine aj.val rfl (au rfl) rfl ?_
   refine aj.nil ?_
   obtain ⟨SF1,HF1,hgF1⟩:=H26.freeze E.obj.toObjOk (i:=0) (l':=[.box b1 [v3,w5],aA ae ah.kids 7 5 v3 ws4 a2.l none,aI w5 a2.freed]) rfl (.same (.same (.same .nil)))
   refine aC.ghost (hgF1 _ _ [(0,(.ptr b1 0 0)),(1,(.d (.int .i64 a6))),(4,(.d (.sl ((z16).map (D.int .i64)) false))),(5,(bF v3 (Int.toNat (IntKind.wrap .i64 (a6 - 1))) 0)),(6,(.ptr b1 0 0)),(7,(.d (.int .i64 a6))),(8,(bF v3 (Int.toNat (IntKind.wrap .i64 (a6 - 1))) 0)),(9,(bF v3 (Int.toNat (IntKind.wrap .i64 (a6 - 1))) 0)),(10,(.d (.bool false))),(11,(bF v3 (Int.toNat (IntKind.wrap .i64 (a6 - 1))) 0)),(12,(bF v3 (Int.toNat (IntKind.wrap .i64 (a6 - 1))) 0)),(13,(bF v3 (Int.toNat (IntKind.wrap .i64 (a6 - 1))) 5)),(14,(iN 5 ws4 (Int.toNat (IntKind.wrap .i64 (a6 - 1))))),(15,(.d (.sl ((z16).map (D.int .i64)) false)))] (.cons rfl (.refl _) (.cons rfl (.refl _) (.it rfl (.cons rfl (.refl _) (.cons rfl (.refl _) (.cons rfl (.refl _) (.cons rfl (.refl _) (.cons rfl (.refl _) (.cons rfl (.refl _) (.cons rfl (.refl _) (.cons rfl (.refl _) (.cons rfl (.refl _) (.cons rfl (.refl _) (.it rfl .nil))))))))))))))) ?_
   have hr:=Option.some.inj h
   subst hr
   exact aC.ret ⟨_,rfl,rfl,_,_,_,.refl _,(.refl _),⟨rfl,rfl⟩,HF1.sl [0,1,2] rfl rfl⟩
set_option maxRecDepth 20000 in
set_option maxHeartbeats 4000000 in
theorem HZ (n:Nat) (a2:ay) (r:(List Int)) (h:uo n a2=some r) (b1:Nat) (v3:AV) (ws4:List (List AV)) (w5:AV):dL R cfg.P 18 [.ptr b1 0 0] [.box b1 [v3,w5],aA ae ah.kids 7 5 v3 ws4 a2.l none,aI w5 a2.freed] (fun v l=>v=.d (.sl ((r).map (D.int .i64)) false)∧l=[.box b1 [v3,w5],aA ae ah.kids 7 5 v3 ws4 a2.l none,aI w5 a2.freed]):=by
 unfold uo at h
 refine dL.of_wp (C:=cfg) Try.func18 rfl MZ rfl (fun B0 S0 H0=>?_)
 replace H0:Has B0 S0 [.box b1 [v3,w5],aA ae ah.kids 7 5 v3 ws4 a2.l none,aI w5 a2.freed]:=H0
 refine aC.seq ?_
 refine aC.region E.obj rfl ?_
 refine aj.val rfl (au rfl) rfl ?_
 refine aj.nil ?_
 refine aC.seq ?_
 refine aC.region E.obj rfl ?_
 refine aj.val rfl (au rfl) rfl ?_
 refine aj.nil ?_
 refine aC.seq ?_
 refine aC.seq ?_
 refine aC.region E.obj rfl ?_
 refine aj.val rfl (aa rfl) rfl ?_
 refine aj.val rfl (bI rfl) rfl ?_
 refine aj.val rfl (aF rfl kD tY rfl) rfl ?_
 refine aj.val rfl (aJ H0 (i:=0) rfl rfl (aU uF rfl)) rfl ?_
 refine aj.val rfl (sW H0 (i:=1) rfl rfl Kh) rfl ?_
 refine aj.val rfl (aa rfl) rfl ?_
 refine aj.nil ?_
 refine aC.block ?_
 have H38:=H0.IB
 refine qd.start (B:=B0) (α:=(List Int) × AV × Int) (fun k a=>eG a2 k a.1 a.2.2=some r) (fun a=>[(3,a.2.1),(10,v3),(11,(.d (.int .i64 ((a2.l).length:Int)))),(12,(.d (.int .i64 a.2.2)))]) (fun a=>[.grow a.2.1 ((a.1).map (D.int .i64)),.box b1 [v3,w5],aA ae ah.kids 7 5 v3 ws4 a2.l none,aI w5 a2.freed]) ?_ ?_ n ⟨⟨[],(.d .aS),0⟩,_,_,S0,.refl _ _,.refl _,(ai.r rfl (ai.r rfl (ai.r rfl (ai.r rfl ai.nil)))),H38.sl [0,1,2,3] rfl rfl,h⟩
 ·
  intro a h; simp [eG] at h
 ·
  intro k18 a S13 H14 h
  obtain ⟨x15,v16,x17⟩:=a
  replace h:eG a2 (k18 + 1) x15 x17=some r:=h
  replace H14:Has B0 S13 [.grow v16 ((x15).map (D.int .i64)),.box b1 [v3,w5],aA ae ah.kids 7 5 v3 ws4 a2.l none,aI w5 a2.freed]:=H14
  unfold eG at h
  refine aC.seq ?_
  refine aC.region E.obj rfl ?_
  refine aj.val rfl (aD rfl rfl dO) rfl ?_
  refine aj.nil ?_
  refine aC.seq ?_
  refine aC.cond rfl (fun hb19=>?_) (fun hb19=>?_)
  ·
   replace h:=dE hb19 h
   refine aC.skip ?_
   refine aC.join (B:=B0) (α:=(List Int) × AV) (fun a=>iU x17 (eG a2 k18) a.1=some r) (fun a=>[(3,a.2),(10,v3),(11,(.d (.int .i64 ((a2.l).length:Int)))),(12,(.d (.int .i64 x17)))]) (fun a=>[.grow a.2 ((a.1).map (D.int .i64)),.box b1 [v3,w5],aA ae ah.kids 7 5 v3 ws4 a2.l none,aI w5 a2.freed]) ?_ ?_
   ·
    intro a S20 H21 h
    obtain ⟨x22,v23⟩:=a
    replace h:iU x17 (eG a2 k18) x22=some r:=h
    replace H21:Has B0 S20 [.grow v23 ((x22).map (D.int .i64)),.box b1 [v3,w5],aA ae ah.kids 7 5 v3 ws4 a2.l none,aI w5 a2.freed]:=H21
    unfold iU at h
    refine aC.region E.obj rfl ?_
    refine aj.val rfl (aD rfl rfl dx) rfl ?_
    refine aj.val rfl (aa rfl) rfl ?_
    refine aj.nil ?_
    exact ⟨⟨x22,v23,(IntKind.wrap .i64 (x17 + 1))⟩,_,_,S20,.refl _ _,.refl _,(ai.r rfl (ai.r rfl (ai.r rfl (ai.r rfl ai.nil)))),H21.sl [0,1,2,3] rfl rfl,h⟩
   ·
    refine aC.block ?_
    refine aC.seq ?_
    refine aC.region E.obj rfl ?_
    refine aj.val rfl (aa rfl) rfl ?_
    obtain ⟨z25,hzz25,h⟩:=bind_some h
    refine aj.val rfl (gU H14 (i:=2) rfl hzz25 rfl rfl yh uT qE) rfl ?_
    refine aj.Be (cs:=[(.d (.bool z25.lives)),(.d (.str z25.tag)),(.d (.str z25.key)),(.d (.str z25.text)),(.d (.sl ((z25.attrs).map az) false)),(iN 5 ws4 (Int.toNat x17)),(.d (.int .i64 z25.parent))]) H14 rfl (q:=2) rfl hzz25 rfl Kq qE rfl rfl ?_
    refine aj.alloc H14 rfl Mc GV rfl rfl (fun b26 S27 H28=>?_)
    refine aj.val rfl (au rfl) rfl ?_
    refine aj.store H28 (i:=0) rfl rfl rfl rfl (xI _) rfl qE (xJ _) uT rfl rfl rfl (fun S29 H30=>?_)
    refine aj.nil ?_
    refine aC.seq ?_
    refine aC.region E.obj rfl ?_
    refine aj.val rfl (aa rfl) rfl ?_
    refine aj.val rfl (aD rfl rfl dx) rfl ?_
    refine aj.val rfl (au rfl) rfl ?_
    refine aj.nil ?_
    refine aC.seq ?_
    refine aC.region E.obj rfl ?_
    refine aj.val rfl (aF rfl Fb Og rfl) rfl ?_
    refine aj.val rfl (aJ H30 (i:=0) rfl rfl (aU Ow rfl)) rfl ?_
    refine aj.val rfl (aa rfl) rfl ?_
    refine aj.kS 4 25 (.d (.bool (z25.lives && (z25.parent == 0)))) ?_ ?_
    ·
     rcases Bool.eq_false_or_eq_true (z25.lives) with hB31 | hB31
     ·
      refine aj.bool hB31 ?_
      refine aj.val rfl (aF rfl su KT rfl) rfl ?_
      refine aj.val rfl (aJ H30 (i:=0) rfl rfl (aU nU rfl)) rfl ?_
      refine aj.val rfl (aD rfl rfl bq) rfl ?_
      refine aj.val rfl (aB (b:=true) rfl rfl) rfl ?_
      exact aj.nil ⟨_,rfl,(ai.put (ai.push rfl (ai.push rfl (ai.push rfl (ai.put (.refl _) (Less.eq (by rw [hB31])))))) (Less.eq (by rw [hB31]; rw [Bool.true_and])))⟩
     ·
      refine aj.bool hB31 ?_
      refine aj.no rfl rfl ?_
      refine aj.no rfl rfl ?_
      refine aj.no rfl rfl ?_
      refine aj.val rfl (aB (b:=false) rfl rfl) rfl ?_
      exact aj.nil ⟨_,rfl,(ai.put (ai.push rfl (ai.push rfl (ai.push rfl (ai.put (.refl _) (Less.eq (by rw [hB31])))))) (Less.eq (by rw [hB31]; rw [Bool.false_and])))⟩
    ·
     refine aj.val rfl (aa rfl) rfl ?_
     refine aj.kS 3 29 (.d (.bool ((z25.lives && (z25.parent == 0)) && ((IntKind.wrap .i64 (x17 + 1)) != 1)))) ?_ ?_
     ·
      rcases Bool.eq_false_or_eq_true ((z25.lives && (z25.parent == 0))) with hB32 | hB32
      ·
       refine aj.bool hB32 ?_
       refine aj.val rfl (aa rfl) rfl ?_
       refine aj.val rfl (aD rfl rfl jd) rfl ?_
       refine aj.val rfl (aB (b:=true) rfl rfl) rfl ?_
       exact aj.nil ⟨_,rfl,(ai.put (ai.push rfl (ai.push rfl (ai.put (.refl _) (Less.eq (by rw [hB32]))))) (Less.eq (by rw [hB32]; rw [Bool.true_and])))⟩
      ·
       refine aj.bool hB32 ?_
       refine aj.no rfl rfl ?_
       refine aj.no rfl rfl ?_
       refine aj.val rfl (aB (b:=false) rfl rfl) rfl ?_
       exact aj.nil ⟨_,rfl,(ai.put (ai.push rfl (ai.push rfl (ai.put (.refl _) (Less.eq (by rw [hB32]))))) (Less.eq (by rw [hB32]; rw [Bool.false_and])))⟩
     ·
      refine aj.nil ?_
      refine aC.cond rfl (fun hb33=>?_) (fun hb33=>?_)
      ·
       replace h:=dE hb33 h
       refine aC.region E.obj rfl ?_
       refine aj.val rfl (aa rfl) rfl ?_
       refine aj.val rfl (aa rfl) rfl ?_
       refine aj.val rfl (cK (vs:=[(.d (.int .i64 (IntKind.wrap .i64 (x17 + 1))))]) (ds:=[(.int .i64 (IntKind.wrap .i64 (x17 + 1)))]) EW fH nU Ie kH rfl (by decide) (.cons rfl rfl .nil) rfl (by intro d hd; simp only [List.mem_cons,List.not_mem_nil,or_false] at hd; rcases hd with rfl <;> rfl) rfl) rfl ?_
       obtain ⟨z34,hzz34,h⟩:=bind_some h
       refine aj.append (xs:=(x15).map (D.int .i64)) (ys:=([(IntKind.wrap .i64 (x17 + 1))]).map (D.int .i64)) (zs:=(z34).map (D.int .i64)) H30 rfl rfl rfl (i:=1) rfl rfl EW JJ fH (lC hzz34) KO rfl (fI (enc:=(D.int .i64)) (fun _=>kH.symm) _) (fI (enc:=(D.int .i64)) (fun _=>kH.symm) _) M9 rfl (sG hzz34) (fun v35 S36 H37=>?_)
       refine aj.val rfl (au rfl) rfl ?_
       refine aj.nil ?_
       exact ⟨⟨z34,v35⟩,_,_,S36,.refl _ _,.refl _,(ai.r rfl (ai.r rfl (ai.r rfl (ai.r rfl ai.nil)))),H37.sl [1,2,3,4] rfl rfl,h⟩
      ·
       replace h:=dG hb33 h
       refine aC.skip ?_
       exact ⟨⟨x15,v16⟩,_,_,S29,.refl _ _,.refl _,(ai.r rfl (ai.r rfl (ai.r rfl (ai.r rfl ai.nil)))),H30.sl [1,2,3,4] rfl rfl,h⟩
  ·
   replace h:=dG hb19 h
   refine aC.exit ?_
   refine aC.seq ?_
   refine aC.region E.obj rfl ?_
   refine aj.val rfl (aa rfl) rfl ?_
   refine aj.val rfl (au rfl) rfl ?_
   refine aj.nil ?_
   have hr:=Option.some.inj h
   subst hr
   exact aC.ret ⟨_,rfl,rfl,_,_,_,.refl _,(KS H14 (i:=0) rfl),⟨rfl,rfl⟩,H14.sl [1,2,3] rfl rfl⟩
theorem fE (n:Nat) (a1:(List Attr)) (r:(List Attr)) (h:cu n a1=some r):fw R cfg.P 66 [(.sl ((a1).map az) false)] (.d (.sl ((r).map az) false)):=by
 unfold cu at h
 refine fw.of_wp E.obj.toObjOk (C:=cfg) Try.func66 rfl Ng rfl ?_
 have H0:Has aK aK []:=Has.pure
 refine aC.seq ?_
 refine aC.region E.obj rfl ?_
 refine aj.val rfl (au rfl) rfl ?_
 refine aj.nil ?_
 refine aC.seq ?_
 refine aC.seq ?_
 refine aC.region E.obj rfl ?_
 refine aj.val rfl (aa rfl) rfl ?_
 refine aj.Mr rfl rfl rfl MM rfl (fun bb hbb=>?_)
 refine aj.nil ?_
 refine aC.cond rfl (fun hb=>?_) (fun hb=>?_)
 ·
  have e:=map_nil (hbb hb)
  subst e
  have hr:=(mO h).2
  subst hr
  refine aC.seq ?_
  refine aC.region E.obj rfl ?_
  refine aj.val rfl (au rfl) rfl ?_
  refine aj.nil ?_
  exact aC.ret ⟨_,rfl,rfl,jW (aQ.jI rfl (.aS false) .nil)⟩
 ·
  refine aC.skip ?_
  refine aC.seq ?_
  refine aC.region E.obj rfl ?_
  refine aj.val rfl (wG Lh Jr KD) rfl ?_
  refine aj.val rfl (aa rfl) rfl ?_
  have H1:=H0.FN (([]:(List Attr)).map az)
  refine aj.append (xs:=([]:(List Attr)).map az) (ys:=(a1).map az) (zs:=(r).map az) H1 rfl rfl rfl (i:=0) rfl rfl Lh M0 Jr (lC (enc:=az) h) Nv rfl (fI (enc:=az) (fun z=>(Attr.len z).trans Fx.symm) _) (fI (enc:=az) (fun z=>(Attr.len z).trans Fx.symm) _) M5 rfl (sG h) (fun v2 S2 H2=>?_)
  refine aj.val rfl (au rfl) rfl ?_
  refine aj.nil ?_
  exact aC.ret ⟨_,rfl,rfl,jW (aQ.grow H2 (i:=0) rfl .nil)⟩
set_option maxRecDepth 20000 in
set_option maxHeartbeats 4000000 in
theorem rC:∀ (n:Nat) (a2:ay) (a6:Int) (r:Tree),gB n a2 a6=some r→∀ (b1:Nat) (v3:AV) (ws4:List (List AV)) (w5:AV),dL R cfg.P 65 [.ptr b1 0 0,.d (.int .i64 a6)] [.box b1 [v3,w5],aA ae ah.kids 7 5 v3 ws4 a2.l none,aI w5 a2.freed] (fun v l=>v=.d (ak r)∧l=[.box b1 [v3,w5],aA ae ah.kids 7 5 v3 ws4 a2.l none,aI w5 a2.freed])
 | 0,a2,a6,r,h,b1,v3,ws4,w5=>by simp [gB] at h
 | n + 1,a2,a6,r,h,b1,v3,ws4,w5=>by
  have ih:=rC n
  unfold gB at h
  refine dL.of_wp (C:=cfg) Try.func65 rfl NI rfl (fun B0 S0 H0=>?_)
  replace H0:Has B0 S0 [.box b1 [v3,w5],aA ae ah.kids 7 5 v3 ws4 a2.l none,aI w5 a2.freed]:=H0
  refine aC.seq ?_
  refine aC.region E.obj rfl ?_
  refine aj.alloc H0 rfl qo jv rfl rfl (fun b7 S8 H9=>?_)
  refine aj.nil ?_
  refine aC.seq ?_
  refine aC.region E.obj rfl ?_
  refine aj.val rfl (aa rfl) rfl ?_
  refine aj.val rfl (bI rfl) rfl ?_
  refine aj.val rfl (aF rfl kD tY rfl) rfl ?_
  refine aj.val rfl (aJ H9 (i:=1) rfl rfl (aU uF rfl)) rfl ?_
  refine aj.val rfl (aa rfl) rfl ?_
  refine aj.val rfl (aD rfl rfl gX) rfl ?_
  obtain ⟨z10,hzz10,h⟩:=bind_some h
  refine aj.val rfl (gU H9 (i:=2) rfl hzz10 rfl rfl yh uT qE) rfl ?_
  refine aj.Be (cs:=[(.d (.bool z10.lives)),(.d (.str z10.tag)),(.d (.str z10.key)),(.d (.str z10.text)),(.d (.sl ((z10.attrs).map az) false)),(iN 5 ws4 (Int.toNat (IntKind.wrap .i64 (a6 - 1)))),(.d (.int .i64 z10.parent))]) H9 rfl (q:=2) rfl hzz10 rfl Kq qE rfl rfl ?_
  refine aj.alloc H9 rfl Mc GV rfl rfl (fun b11 S12 H13=>?_)
  refine aj.store H13 (i:=0) rfl rfl rfl rfl (xI _) rfl qE (xJ _) uT rfl rfl rfl (fun S14 H15=>?_)
  refine aj.nil ?_
  refine aC.seq ?_
  obtain ⟨z16,hzz16,h⟩:=bind_some h
  refine aC.gG E.obj jr OA [(0,none),(4,none),(5,none),(6,some 10)] (by kernel_rfl) [10,11] (by decide) [some (.ptr b11 0 1),some (.d (.str z10.tag)),some (.ptr b11 0 2),some (.d (.str z10.key)),some (.ptr b11 0 3),some (.d (.str z10.text)),some (.ptr b11 0 4),some (.d (.sl ((z10.attrs).map az) false)),some (.d (.sl ((z16).map az) false)),some (Ev.fD [(.d (.str z10.tag)),(.d (.str z10.key)),(.d (.str z10.text)),(.d (.sl ((z16).map az) false)),(.d .aS)]),none,none] ?_
  refine ⟨[0,1,2,3,4,5,6,7,8,9],by kernel_rfl,?_,_,_,rfl,rfl,.step ?_⟩
  ·
   refine .v rfl rfl rfl rfl (aF rfl yH uY rfl) ?_
   refine .v rfl rfl rfl rfl (aJ H15 (i:=0) rfl rfl (aU tZ rfl)) ?_
   refine .v rfl rfl rfl rfl (aF rfl I4 uY rfl) ?_
   refine .v rfl rfl rfl rfl (aJ H15 (i:=0) rfl rfl (aU tZ rfl)) ?_
   refine .v rfl rfl rfl rfl (aF rfl Fu uY rfl) ?_
   refine .v rfl rfl rfl rfl (aJ H15 (i:=0) rfl rfl (aU tZ rfl)) ?_
   refine .v rfl rfl rfl rfl (aF rfl Fv DK rfl) ?_
   refine .v rfl rfl rfl rfl (aJ H15 (i:=0) rfl rfl (aU HV rfl)) ?_
   refine .cons rfl rfl rfl (.step ?_) ?_
   ·
    refine aj.ret rfl (aH rfl rfl) (fE E _ _ _ hzz16 _ _ (aQ.eq .nil)) rfl ?_
    exact aj.nil ⟨_,_,rfl,fun _ ht=>by cases ht; exact ⟨rfl,.refl _⟩⟩
   refine .v rfl rfl rfl rfl (fu (cs:=[(.d (.str z10.tag)),(.d (.str z10.key)),(.d (.str z10.text)),(.d (.sl ((z16).map az) false)),(.d .aS)]) jv rfl (fC) (jl rfl rfl rfl rfl (jl rfl rfl rfl rfl (jl rfl rfl rfl rfl (jl rfl rfl rfl rfl rfl))))) ?_
   exact .nil
  refine aj.alloc H15 rfl qo jv rfl rfl (fun b22 S23 H24=>?_)
  refine aj.nil ⟨_,_,_,rfl,(fun _ ht=>by cases ht; rfl),[some (.ptr b11 0 1),some (.d (.str z10.tag)),some (.ptr b11 0 2),some (.d (.str z10.key)),some (.ptr b11 0 3),some (.d (.str z10.text)),some (.ptr b11 0 4),some (.d (.sl ((z10.attrs).map az) false)),some (.d (.sl ((z16).map az) false)),some (Ev.fD [(.d (.str z10.tag)),(.d (.str z10.key)),(.d (.str z10.text)),(.d (.sl ((z16).map az) false)),(.d .aS)]),some (.ptr b22 0 0),none],(.o (.o (.o (.o (.o (.o (.o (.o (.o (.o (.new (.new .nil)))))))))))),(fun _ ht=>by cases ht; exact ⟨_,rfl,.refl _⟩),?_⟩
  refine ⟨[0,1,2,3,4,5,6,7,8,9],by kernel_rfl,?_,_,_,rfl,rfl,.step ?_⟩
  ·
   refine .v rfl rfl rfl rfl (aF rfl yH uY rfl) ?_
   refine .v rfl rfl rfl rfl (aJ H24 (i:=1) rfl rfl (aU tZ rfl)) ?_
   refine .v rfl rfl rfl rfl (aF rfl I4 uY rfl) ?_
   refine .v rfl rfl rfl rfl (aJ H24 (i:=1) rfl rfl (aU tZ rfl)) ?_
   refine .v rfl rfl rfl rfl (aF rfl Fu uY rfl) ?_
   refine .v rfl rfl rfl rfl (aJ H24 (i:=1) rfl rfl (aU tZ rfl)) ?_
   refine .v rfl rfl rfl rfl (aF rfl Fv DK rfl) ?_
   refine .v rfl rfl rfl rfl (aJ H24 (i:=1) rfl rfl (aU HV rfl)) ?_
   refine .cons rfl rfl rfl (.step ?_) ?_
   ·
    refine aj.ret rfl (aH rfl rfl) (fE E _ _ _ hzz16 _ _ (aQ.eq .nil)) rfl ?_
    exact aj.nil ⟨_,_,rfl,fun _ ht=>by cases ht; exact ⟨rfl,.refl _⟩⟩
   refine .v rfl rfl rfl rfl (fu (cs:=[(.d (.str z10.tag)),(.d (.str z10.key)),(.d (.str z10.text)),(.d (.sl ((z16).map az) false)),(.d .aS)]) jv rfl (fC) (jl rfl rfl rfl rfl (jl rfl rfl rfl rfl (jl rfl rfl rfl rfl (jl rfl rfl rfl rfl rfl))))) ?_
   exact .nil
  refine aj.store H24 (i:=0) rfl rfl rfl rfl rfl rfl bY rfl kF rfl rfl rfl (fun S25 H26=>?_)
  refine aj.nil ⟨_,.any,_,rfl,(fun _ ht=>by cases ht),[some (.ptr b11 0 1),some (.d (.str z10.tag)),some (.ptr b11 0 2),some (.d (.str z10.key)),some (.ptr b11 0 3),some (.d (.str z10.text)),some (.ptr b11 0 4),some (.d (.sl ((z10.attrs).map az) false)),some (.d (.sl ((z16).map az) false)),some (Ev.fD [(.d (.str z10.tag)),(.d (.str z10.key)),(.d (.str z10.text)),(.d (.sl ((z16).map az) false)),(.d .aS)]),some (.ptr b22 0 0),some .any],(.o (.o (.o (.o (.o (.o (.o (.o (.o (.o (.o (.new .nil)))))))))))),(fun _ ht=>by cases ht),?_⟩
  refine ⟨[],by kernel_rfl,?_,_,rfl,?_⟩
  ·
   exact .nil
  refine aC.seq ?_
  refine aC.seq ?_
  refine aC.region E.obj rfl ?_
  refine aj.val rfl (aF rfl nY ng rfl) rfl ?_
  refine aj.val rfl (aJ H26 (i:=1) rfl rfl (aU pI rfl)) rfl ?_
  have H27:Has B0 S25 ([aA ae ah.kids 7 5 v3 ws4 a2.l none] ++ [.box b22 [(.d (.str z10.tag)),(.d (.str z10.key)),(.d (.str z10.text)),(.d (.sl ((z16).map az) false)),(.d .aS)],.box b11 [(.d (.bool z10.lives)),(.d (.str z10.tag)),(.d (.str z10.key)),(.d (.str z10.text)),(.d (.sl ((z10.attrs).map az) false)),(iN 5 ws4 (Int.toNat (IntKind.wrap .i64 (a6 - 1)))),(.d (.int .i64 z10.parent))],.box b7 [(.d (.str [])),(.d (.str [])),(.d (.str [])),(.d .aS),(.d .aS)],.box b1 [v3,w5],aI w5 a2.freed]):=H26.sl [4,0,1,2,3,5] rfl rfl
  replace H27:Has B0 S25 [aA ae ah.kids 7 5 v3 ws4 a2.l none,.box b22 [(.d (.str z10.tag)),(.d (.str z10.key)),(.d (.str z10.text)),(.d (.sl ((z16).map az) false)),(.d .aS)],.box b11 [(.d (.bool z10.lives)),(.d (.str z10.tag)),(.d (.str z10.key)),(.d (.str z10.text)),(.d (.sl ((z10.attrs).map az) false)),(iN 5 ws4 (Int.toNat (IntKind.wrap .i64 (a6 - 1)))),(.d (.int .i64 z10.parent))],.box b7 [(.d (.str [])),(.d (.str [])),(.d (.str [])),(.d .aS),(.d .aS)],.box b1 [v3,w5],aI w5 a2.freed]:=H27
  have H28:=Has.take H27 (dR hzz10).2
  refine aj.val rfl (kr H28 (i:=0) rfl rfl jh) rfl ?_
  refine aj.val rfl (aa rfl) rfl ?_
  refine aj.nil ?_
  refine aC.block ?_
  have H68:=H26.IB
  refine qd.start (B:=B0) (α:=(List Tree) × AV × Int) (fun k a=>fe (gB n) a2 z10 z16 k a.1 a.2.2=some r) (fun a=>[(0,(.ptr b1 0 0)),(4,(.ptr b7 0 0)),(6,(.ptr b22 0 0)),(28,(iN 5 ws4 (Int.toNat (IntKind.wrap .i64 (a6 - 1))))),(29,(.d (.int .i64 ((z10.kids).length:Int)))),(30,(.d (.int .i64 a.2.2)))]) (fun a=>[.box b22 [(.d (.str z10.tag)),(.d (.str z10.key)),(.d (.str z10.text)),(.d (.sl ((z16).map az) false)),a.2.1],.box b7 [(.d (.str [])),(.d (.str [])),(.d (.str [])),(.d .aS),(.d .aS)],.grow a.2.1 ((a.1).map ak),.box b1 [v3,w5],aA ae ah.kids 7 5 v3 ws4 a2.l none,aI w5 a2.freed]) ?_ ?_ n ⟨⟨[],(.d .aS),0⟩,_,_,S25,.refl _ _,.refl _,(ai.r rfl (ai.r rfl (ai.r rfl (ai.r rfl (ai.r rfl (ai.r rfl ai.nil)))))),H68.sl [1,3,0,4,5,6] rfl rfl,h⟩
  ·
   intro a h; simp [fe] at h
  ·
   intro k41 a S36 H37 h
   obtain ⟨x38,v39,x40⟩:=a
   replace h:fe (gB n) a2 z10 z16 (k41 + 1) x38 x40=some r:=h
   replace H37:Has B0 S36 [.box b22 [(.d (.str z10.tag)),(.d (.str z10.key)),(.d (.str z10.text)),(.d (.sl ((z16).map az) false)),v39],.box b7 [(.d (.str [])),(.d (.str [])),(.d (.str [])),(.d .aS),(.d .aS)],.grow v39 ((x38).map ak),.box b1 [v3,w5],aA ae ah.kids 7 5 v3 ws4 a2.l none,aI w5 a2.freed]:=H37
   unfold fe at h
   refine aC.seq ?_
   refine aC.region E.obj rfl ?_
   refine aj.val rfl (aD rfl rfl dO) rfl ?_
   refine aj.nil ?_
   refine aC.seq ?_
   refine aC.cond rfl (fun hb42=>?_) (fun hb42=>?_)
   ·
    replace h:=dE hb42 h
    refine aC.skip ?_
    refine aC.seq ?_
    refine aC.block ?_
    refine aC.seq ?_
    refine aC.region E.obj rfl ?_
    obtain ⟨z43,hzz43,h⟩:=bind_some h
    have H44:Has B0 S36 ([aA ae ah.kids 7 5 v3 ws4 a2.l none] ++ [.box b22 [(.d (.str z10.tag)),(.d (.str z10.key)),(.d (.str z10.text)),(.d (.sl ((z16).map az) false)),v39],.box b7 [(.d (.str [])),(.d (.str [])),(.d (.str [])),(.d .aS),(.d .aS)],.grow v39 ((x38).map ak),.box b1 [v3,w5],aI w5 a2.freed]):=H37.sl [4,0,1,2,3,5] rfl rfl
    replace H44:Has B0 S36 [aA ae ah.kids 7 5 v3 ws4 a2.l none,.box b22 [(.d (.str z10.tag)),(.d (.str z10.key)),(.d (.str z10.text)),(.d (.sl ((z16).map az) false)),v39],.box b7 [(.d (.str [])),(.d (.str [])),(.d (.str [])),(.d .aS),(.d .aS)],.grow v39 ((x38).map ak),.box b1 [v3,w5],aI w5 a2.freed]:=H44
    have H45:=Has.take H44 (dR hzz10).2
    refine aj.val rfl (sU H45 (q:=0) rfl hzz43 rfl rfl fH pz kH) rfl ?_
    have H46:Has B0 S36 ([aA ae ah.kids 7 5 v3 ws4 a2.l none] ++ [.box b22 [(.d (.str z10.tag)),(.d (.str z10.key)),(.d (.str z10.text)),(.d (.sl ((z16).map az) false)),v39],.box b7 [(.d (.str [])),(.d (.str [])),(.d (.str [])),(.d .aS),(.d .aS)],.grow v39 ((x38).map ak),.box b1 [v3,w5],aI w5 a2.freed]):=H37.sl [4,0,1,2,3,5] rfl rfl
    replace H46:Has B0 S36 [aA ae ah.kids 7 5 v3 ws4 a2.l none,.box b22 [(.d (.str z10.tag)),(.d (.str z10.key)),(.d (.str z10.text)),(.d (.sl ((z16).map az) false)),v39],.box b7 [(.d (.str [])),(.d (.str [])),(.d (.str [])),(.d .aS),(.d .aS)],.grow v39 ((x38).map ak),.box b1 [v3,w5],aI w5 a2.freed]:=H46
    have H47:=Has.take H46 (dR hzz10).2
    refine aj.val rfl (qV H47 (q:=0) rfl hzz43 rfl nU) rfl ?_
    refine aj.val rfl (au rfl) rfl ?_
    refine aj.nil ?_
    obtain ⟨z48,hzz48,h⟩:=bind_some h
    obtain ⟨z52,hzz52,h⟩:=bind_some h
    refine aC.gG E.obj jr Oz [(0,none),(4,none),(6,none),(28,none),(29,none),(30,none)] (by kernel_rfl) [4,6,8] (by decide) [some (.ptr b22 0 4),some v39,some (.ptr b1 0 0),some (.d (.int .i64 z43)),none,none,none,none,none] ?_
    refine ⟨[0,1,2,3],by kernel_rfl,?_,_,_,rfl,rfl,.step ?_⟩
    ·
     refine .v rfl rfl rfl rfl (aF rfl jV rT rfl) ?_
     refine .v rfl rfl rfl rfl (aJ H37 (i:=0) rfl rfl (aU uW rfl)) ?_
     refine .v rfl rfl rfl rfl (aa rfl) ?_
     refine .v rfl rfl rfl rfl (aa rfl) ?_
     exact .nil
    refine aj.eF (ins:=[.box b1 [v3,w5],aA ae ah.kids 7 5 v3 ws4 a2.l none,aI w5 a2.freed]) (more:=[.box b22 [(.d (.str z10.tag)),(.d (.str z10.key)),(.d (.str z10.text)),(.d (.sl ((z16).map az) false)),v39],.box b7 [(.d (.str [])),(.d (.str [])),(.d (.str [])),(.d .aS),(.d .aS)],.grow v39 ((x38).map ak)]) (H37.sl [3,4,5,0,1,2] rfl rfl) rfl (aH rfl rfl) (ih _ _ _ hzz48 b1 v3 ws4 w5) (.cons (.refl _) (.cons (.refl _) .nil)) rfl ?_
    rintro _ S58 _ ⟨rfl,rfl⟩ H59
    have H60:Has B0 S58 [.box b22 [(.d (.str z10.tag)),(.d (.str z10.key)),(.d (.str z10.text)),(.d (.sl ((z16).map az) false)),v39],.box b7 [(.d (.str [])),(.d (.str [])),(.d (.str [])),(.d .aS),(.d .aS)],.grow v39 ((x38).map ak),.box b1 [v3,w5],aA ae ah.kids 7 5 v3 ws4 a2.l none,aI w5 a2.freed]:=H59.sl [3,4,5,0,1,2] rfl rfl
    refine aj.nil ⟨_,_,_,rfl,(fun _ ht=>by cases ht; rfl),[some (.ptr b22 0 4),some v39,some (.ptr b1 0 0),some (.d (.int .i64 z43)),some (.d (ak z48)),some (.d (.sl (([z48]).map ak) true)),none,none,none],(.o (.o (.o (.o (.new (.new (.new (.new (.new .nil))))))))),(fun _ ht=>by cases ht; exact ⟨_,rfl,.refl _⟩),?_⟩
    refine ⟨[0,1,5],by kernel_rfl,?_,_,_,rfl,rfl,.step ?_⟩
    ·
     refine .v rfl rfl rfl rfl (aF rfl jV rT rfl) ?_
     refine .v rfl rfl rfl rfl (aJ H60 (i:=0) rfl rfl (aU uW rfl)) ?_
     refine .v rfl rfl rfl rfl (cK (vs:=[(.d (ak z48))]) (ds:=[(ak z48)]) Am qb fA jv bY rfl (by decide) (.cons rfl (Tree.len _) .nil) rfl (by intro d hd; simp only [List.mem_cons,List.not_mem_nil,or_false] at hd; rcases hd with rfl <;> exact Tree.agg _) rfl) ?_
     exact .nil
    refine aj.append (xs:=(x38).map ak) (ys:=([z48]).map ak) (zs:=(z52).map ak) H60 rfl rfl rfl (i:=2) rfl rfl Am Ki qb (lC hzz52) Kk rfl (fI (enc:=ak) (fun z=>(Tree.len z).trans bY.symm) _) (fI (enc:=ak) (fun z=>(Tree.len z).trans bY.symm) _) Ka rfl (sG hzz52) (fun v61 S62 H63=>?_)
    refine aj.nil ⟨_,_,_,rfl,(fun _ ht=>by cases ht; rfl),[some (.ptr b22 0 4),some v39,some (.ptr b1 0 0),some (.d (.int .i64 z43)),some (.d (ak z48)),some (.d (.sl (([z48]).map ak) true)),some v61,some (.ptr b22 0 4),none],(.o (.o (.o (.o (.o (.o (.new (.new (.new .nil))))))))),(fun _ ht=>by cases ht; exact ⟨_,rfl,.refl _⟩),?_⟩
    refine ⟨[7],by kernel_rfl,?_,_,_,rfl,rfl,.step ?_⟩
    ·
     refine .v rfl rfl rfl rfl (aF rfl jV rT rfl) ?_
     exact .nil
    refine aj.store H63 (i:=0) rfl rfl rfl rfl (vL (H63.at (i:=2) rfl)).2.2.2.2 rfl MC (vL (H63.at (i:=2) rfl)).2.2.2.1 Ms rfl rfl rfl (fun S64 H65=>?_)
    refine aj.nil ⟨_,.any,_,rfl,(fun _ ht=>by cases ht),[some (.ptr b22 0 4),some v39,some (.ptr b1 0 0),some (.d (.int .i64 z43)),some (.d (ak z48)),some (.d (.sl (([z48]).map ak) true)),some v61,some (.ptr b22 0 4),some .any],(.o (.o (.o (.o (.o (.o (.o (.o (.new .nil))))))))),(fun _ ht=>by cases ht),?_⟩
    refine ⟨[],by kernel_rfl,?_,_,rfl,?_⟩
    ·
     exact .nil
    refine aC.region E.obj rfl ?_
    refine aj.val rfl (aD rfl rfl dx) rfl ?_
    refine aj.val rfl (aa rfl) rfl ?_
    refine aj.nil ?_
    exact ⟨⟨z52,v61,(IntKind.wrap .i64 (x40 + 1))⟩,_,_,S64,.refl _ _,.refl _,(ai.r rfl (ai.r rfl (ai.r rfl (ai.r rfl (ai.r rfl (ai.r rfl ai.nil)))))),H65.sl [0,1,2,3,4,5] rfl rfl,h⟩
   ·
    replace h:=dG hb42 h
    refine aC.exit ?_
    refine aC.seq ?_
    refine aC.region E.obj rfl ?_
    refine aj.val rfl (aJ H37 (i:=0) rfl rfl (aZ fA bY rfl)) rfl ?_
    refine aj.less (Less.agg' (d:=ak (Tree.mk z10.tag z10.key z10.text z16 x38)) (ax.eq rfl (ax.eq rfl (ax.eq rfl (ax.eq rfl (ax.grow H37 (i:=2) rfl .nil))))) ((Tree.eq _).trans rfl)) ?_
    refine aj.store H37 (i:=1) rfl rfl rfl rfl (Tree.dN _) rfl bY rfl kF rfl rfl rfl (fun S66 H67=>?_)
    refine aj.nil ?_
    have hr:=Option.some.inj h
    subst hr
    exact aC.ret ⟨_,(mH H67 (i:=1) rfl rfl rfl (aZ fA bY rfl)),rfl,_,_,_,.refl _,(Less.agg' (d:=ak (Tree.mk z10.tag z10.key z10.text z16 x38)) (ax.eq rfl (ax.eq rfl (ax.eq rfl (ax.eq rfl (ax.eq rfl .nil))))) ((Tree.eq _).trans rfl)),⟨rfl,rfl⟩,H67.sl [3,4,5] rfl rfl⟩
set_option maxRecDepth 20000 in
set_option maxHeartbeats 4000000 in
theorem kP (n:Nat) (a2:ay) (a6:Int) (r:(Tree × Bool)) (h:iP n a2 a6=some r) (b1:Nat) (v3:AV) (ws4:List (List AV)) (w5:AV):dL R cfg.P 21 [.ptr b1 0 0,.d (.int .i64 a6)] [.box b1 [v3,w5],aA ae ah.kids 7 5 v3 ws4 a2.l none,aI w5 a2.freed] (fun v l=>v=.tup [.d (ak r.1),.d (.bool r.2)]∧l=[.box b1 [v3,w5],aA ae ah.kids 7 5 v3 ws4 a2.l none,aI w5 a2.freed]):=by
 unfold iP at h
 refine dL.of_wp (C:=cfg) Try.func21 rfl NF rfl (fun B0 S0 H0=>?_)
 replace H0:Has B0 S0 [.box b1 [v3,w5],aA ae ah.kids 7 5 v3 ws4 a2.l none,aI w5 a2.freed]:=H0
 refine aC.seq ?_
 refine aC.region E.obj rfl ?_
 refine aj.alloc H0 rfl qo jv rfl rfl (fun b7 S8 H9=>?_)
 refine aj.val rfl (au rfl) rfl ?_
 refine aj.nil ?_
 refine aC.seq ?_
 refine aC.seq ?_
 refine aC.region E.obj rfl ?_
 refine aj.val rfl (aa rfl) rfl ?_
 refine aj.val rfl (aa rfl) rfl ?_
 obtain ⟨z10,hzz10,h⟩:=bind_some h
 refine aj.eF (ins:=[.box b1 [v3,w5],aA ae ah.kids 7 5 v3 ws4 a2.l none,aI w5 a2.freed]) (more:=[.box b7 [(.d (.str [])),(.d (.str [])),(.d (.str [])),(.d .aS),(.d .aS)]]) (H9.sl [1,2,3,0] rfl rfl) rfl (aH rfl rfl) (gT E n _ _ _ hzz10 b1 v3 ws4 w5) (.cons (.refl _) (.cons (.refl _) .nil)) rfl ?_
 rintro v11 S12 l13 hr14 H15
 rcases z10 with _ | _
 ·
  obtain ⟨rfl,rfl⟩:=hr14
  replace h:=dG rfl h
  replace H15:Has B0 S12 [.box b1 [v3,w5],aA ae ah.kids 7 5 v3 ws4 a2.l none,aI w5 a2.freed,.box b7 [(.d (.str [])),(.d (.str [])),(.d (.str [])),(.d .aS),(.d .aS)]]:=H15
  have H16:Has B0 S12 [.box b7 [(.d (.str [])),(.d (.str [])),(.d (.str [])),(.d .aS),(.d .aS)],.box b1 [v3,w5],aA ae ah.kids 7 5 v3 ws4 a2.l none,aI w5 a2.freed]:=H15.sl [3,0,1,2] rfl rfl
  refine aj.val rfl (aD rfl rfl (lH rJ)) rfl ?_
  refine aj.nil ?_
  refine aC.cond rfl (fun hb=>?_) (fun hb=>?_)
  ·
   refine aC.seq ?_
   refine aC.region E.obj rfl ?_
   refine aj.val rfl (fu (cs:=[(.d (.str [])),(.d (.str [])),(.d (.str [])),(.d .aS),(.d .aS)]) jv rfl (fC) rfl) rfl ?_
   refine aj.less (Less.agg' (d:=ak (Tree.mk [] [] [] [] [])) (ax.eq rfl (ax.eq rfl (ax.eq rfl (ax.jI rfl (.aS false) rfl rfl (ax.jI rfl (.aS false) rfl rfl .nil))))) ((Tree.eq _).trans rfl)) ?_
   refine aj.store H16 (i:=0) rfl rfl rfl rfl (Tree.dN _) rfl bY rfl kF rfl rfl rfl (fun S17 H18=>?_)
   refine aj.val rfl (au rfl) rfl ?_
   refine aj.nil ?_
   have hr:=Option.some.inj h
   subst hr
   exact aC.ret ⟨_,(xD H18 (i:=0) rfl rfl rfl (aZ fA bY rfl) rfl),rfl,_,_,_,.refl _,(Less.Mw (Less.agg' (d:=ak (Tree.mk [] [] [] [] [])) (ax.eq rfl (ax.eq rfl (ax.eq rfl (ax.eq rfl (ax.eq rfl .nil))))) ((Tree.eq _).trans rfl)) (.refl _)),⟨rfl,rfl⟩,H18.sl [1,2,3] rfl rfl⟩
  ·
   cases hb
 ·
  obtain ⟨rfl,rfl⟩:=hr14
  replace h:=dE rfl h
  have H19:Has B0 S12 [.box b7 [(.d (.str [])),(.d (.str [])),(.d (.str [])),(.d .aS),(.d .aS)],.box b1 [v3,w5],aA ae ah.kids 7 5 v3 ws4 a2.l none,aI w5 a2.freed]:=H15.sl [3,0,1,2] rfl rfl
  obtain ⟨z20,hzz20,h⟩:=bind_some h
  refine aj.val rfl (lN H19 (q:=2) rfl hzz20 rfl rfl rJ) rfl ?_
  refine aj.nil ?_
  refine aC.cond rfl (fun hb=>?_) (fun hb=>?_)
  ·
   cases hb
  ·
   refine aC.skip ?_
   refine aC.seq ?_
   refine aC.region E.obj rfl ?_
   refine aj.val rfl (aa rfl) rfl ?_
   refine aj.val rfl (aa rfl) rfl ?_
   obtain ⟨z21,hzz21,h⟩:=bind_some h
   refine aj.eF (ins:=[.box b1 [v3,w5],aA ae ah.kids 7 5 v3 ws4 a2.l none,aI w5 a2.freed]) (more:=[.box b7 [(.d (.str [])),(.d (.str [])),(.d (.str [])),(.d .aS),(.d .aS)]]) (H19.sl [1,2,3,0] rfl rfl) rfl (aH rfl rfl) (rC E n _ _ _ hzz21 b1 v3 ws4 w5) (.cons (.refl _) (.cons (.refl _) .nil)) rfl ?_
   rintro _ S22 _ ⟨rfl,rfl⟩ H23
   have H24:Has B0 S22 [.box b7 [(.d (.str [])),(.d (.str [])),(.d (.str [])),(.d .aS),(.d .aS)],.box b1 [v3,w5],aA ae ah.kids 7 5 v3 ws4 a2.l none,aI w5 a2.freed]:=H23.sl [3,0,1,2] rfl rfl
   refine aj.store H24 (i:=0) rfl rfl rfl rfl (Tree.dN _) rfl bY rfl kF rfl rfl rfl (fun S25 H26=>?_)
   refine aj.val rfl (au rfl) rfl ?_
   refine aj.nil ?_
   have hr:=Option.some.inj h
   subst hr
   exact aC.ret ⟨_,(xD H26 (i:=0) rfl rfl rfl (aZ fA bY rfl) rfl),rfl,_,_,_,.refl _,(Less.Mw (Less.agg' (d:=ak z21) (ax.eq rfl (ax.eq rfl (ax.eq rfl (ax.eq rfl (ax.eq rfl .nil))))) ((Tree.eq _).trans rfl)) (.refl _)),⟨rfl,rfl⟩,H26.sl [1,2,3] rfl rfl⟩
set_option maxRecDepth 20000 in
set_option maxHeartbeats 4000000 in
theorem dF (n:Nat) (a2:ay) (r:Int) (h:dZ n a2=some r) (b1:Nat) (v3:AV) (ws4:List (List AV)) (w5:AV):dL R cfg.P 22 [.ptr b1 0 0] [.box b1 [v3,w5],aA ae ah.kids 7 5 v3 ws4 a2.l none,aI w5 a2.freed] (fun v l=>v=.d (.int .i64 r)∧l=[.box b1 [v3,w5],aA ae ah.kids 7 5 v3 ws4 a2.l none,aI w5 a2.freed]):=by
 unfold dZ at h
 refine dL.of_wp (C:=cfg) Try.func22 rfl NH rfl (fun B0 S0 H0=>?_)
 replace H0:Has B0 S0 [.box b1 [v3,w5],aA ae ah.kids 7 5 v3 ws4 a2.l none,aI w5 a2.freed]:=H0
 refine aC.seq ?_
 refine aC.region E.obj rfl ?_
 refine aj.val rfl (au rfl) rfl ?_
 refine aj.nil ?_
 refine aC.seq ?_
 refine aC.gG E.obj jr OP [(2,some 11)] (by kernel_rfl) [] (by decide) [some (.ptr b1 0 0),some (.ptr b1 0 0),some (.ptr b1 0 0),some v3,some (.d (.int .i64 ((a2.l).length:Int))),some (.ptr b1 0 0),some (.ptr b1 0 0),some (.ptr b1 0 1),some w5,some (.d (.int .i64 ((a2.freed).length:Int))),some (.d (.int .i64 (IntKind.wrap .i64 (((a2.l).length:Int) - ((a2.freed).length:Int))))),some (.d (.int .i64 (IntKind.wrap .i64 (((a2.l).length:Int) - ((a2.freed).length:Int)))))] ?_
 refine ⟨[0,1,2,3,4,5,6,7,8,9,10,11],by kernel_rfl,?_,_,rfl,?_⟩
 ·
  refine .v rfl rfl rfl rfl (aa rfl) ?_
  refine .v rfl rfl rfl rfl (bI rfl) ?_
  refine .v rfl rfl rfl rfl (aF rfl kD tY rfl) ?_
  refine .v rfl rfl rfl rfl (aJ H0 (i:=0) rfl rfl (aU uF rfl)) ?_
  refine .v rfl rfl rfl rfl (sW H0 (i:=1) rfl rfl Kh) ?_
  refine .v rfl rfl rfl rfl (aa rfl) ?_
  refine .v rfl rfl rfl rfl (bI rfl) ?_
  refine .v rfl rfl rfl rfl (aF rfl uR ng rfl) ?_
  refine .v rfl rfl rfl rfl (aJ H0 (i:=0) rfl rfl (aU pI rfl)) ?_
  refine .v rfl rfl rfl rfl (kr H0 (i:=2) rfl rfl jh) ?_
  refine .v rfl rfl rfl rfl (aD rfl rfl gX) ?_
  refine .v rfl rfl rfl rfl (au rfl) ?_
  exact .nil
 have hr:=Option.some.inj h
 subst hr
 exact aC.ret ⟨_,rfl,rfl,_,_,_,.refl _,(.refl _),⟨rfl,rfl⟩,H0.sl [0,1,2] rfl rfl⟩
set_option maxRecDepth 20000 in
set_option maxHeartbeats 4000000 in
theorem qa (n:Nat) (a1:(List Int)) (a2:(List Int)) (r:Bool) (h:gV n a1 a2=some r):fw R cfg.P 25 [(.sl ((a1).map (D.int .i64)) false),(.sl ((a2).map (D.int .i64)) false)] (.d (.bool r)):=by
 unfold gV at h
 refine fw.of_wp E.obj.toObjOk (C:=cfg) Try.func25 rfl Ol rfl ?_
 have H0:Has aK aK []:=Has.pure
 refine aC.seq ?_
 refine aC.region E.obj rfl ?_
 refine aj.val rfl (au rfl) rfl ?_
 refine aj.nil ?_
 refine aC.seq ?_
 refine aC.seq ?_
 refine aC.region E.obj rfl ?_
 refine aj.val rfl (aa rfl) rfl ?_
 refine aj.val rfl (bu rfl jh) rfl ?_
 refine aj.val rfl (aa rfl) rfl ?_
 refine aj.val rfl (bu rfl jh) rfl ?_
 refine aj.val rfl (aD rfl rfl jd) rfl ?_
 refine aj.nil ?_
 refine aC.cond rfl (fun hb3=>?_) (fun hb3=>?_)
 ·
  replace h:=dE hb3 h
  refine aC.seq ?_
  refine aC.region E.obj rfl ?_
  refine aj.val rfl (au rfl) rfl ?_
  refine aj.nil ?_
  have hr:=Option.some.inj h
  subst hr
  exact aC.ret ⟨_,rfl,rfl,jW (aQ.eq .nil)⟩
 ·
  replace h:=dG hb3 h
  refine aC.skip ?_
  refine aC.seq ?_
  refine aC.seq ?_
  refine aC.region E.obj rfl ?_
  refine aj.val rfl (au rfl) rfl ?_
  refine aj.nil ?_
  refine aC.block ?_
  refine qd.start (B:=aK) (α:=Int) (fun k a=>bX a1 a2 k a=some r) (fun a=>[(0,(.d (.sl ((a1).map (D.int .i64)) false))),(1,(.d (.sl ((a2).map (D.int .i64)) false))),(5,(.d (.int .i64 a)))]) (fun a=>[]) ?_ ?_ n ⟨0,_,_,aK,.refl _ _,.refl _,(ai.r rfl (ai.r rfl (ai.r rfl ai.nil))),H0.sl [] rfl rfl,h⟩
  ·
   intro a h; simp [bX] at h
  ·
   intro k12 x11 S9 H10 h
   replace h:bX a1 a2 (k12 + 1) x11=some r:=h
   replace H10:Has aK S9 []:=H10
   unfold bX at h
   refine aC.seq ?_
   refine aC.seq ?_
   refine aC.region E.obj rfl ?_
   refine aj.val rfl (aa rfl) rfl ?_
   refine aj.val rfl (aa rfl) rfl ?_
   refine aj.val rfl (bu rfl jh) rfl ?_
   refine aj.val rfl (aD rfl rfl dO) rfl ?_
   refine aj.nil ?_
   refine aC.cond rfl (fun hb13=>?_) (fun hb13=>?_)
   ·
    replace h:=dE hb13 h
    refine aC.skip ?_
    refine aC.seq ?_
    refine aC.block ?_
    refine aC.seq ?_
    obtain ⟨z14,hzz14,h⟩:=bind_some h
    obtain ⟨z15,hzz15,h⟩:=bind_some h
    refine aC.gG E.obj jr Ou [(0,none),(1,none),(5,none),(25,some 8)] (by kernel_rfl) [] (by decide) [some (.d (.sl ((a1).map (D.int .i64)) false)),some (.d (.int .i64 x11)),some (.eptr (.int .i64 z14) 0),some (.d (.int .i64 z14)),some (.d (.sl ((a2).map (D.int .i64)) false)),some (.d (.int .i64 x11)),some (.eptr (.int .i64 z15) 0),some (.d (.int .i64 z15)),some (.d (.bool (z14 != z15)))] ?_
    refine ⟨[0,1,2,3,4,5,6,7,8],by kernel_rfl,?_,_,rfl,?_⟩
    ·
     refine .v rfl rfl rfl rfl (aa rfl) ?_
     refine .v rfl rfl rfl rfl (aa rfl) ?_
     refine .v rfl rfl rfl rfl (bA rfl rfl (bS (enc:=(D.int .i64)) hzz14 fH pz (((fun _=>rfl) _).trans kH.symm))) ?_
     refine .v rfl rfl rfl rfl (aW rfl (bK nU rfl)) ?_
     refine .v rfl rfl rfl rfl (aa rfl) ?_
     refine .v rfl rfl rfl rfl (aa rfl) ?_
     refine .v rfl rfl rfl rfl (bA rfl rfl (bS (enc:=(D.int .i64)) hzz15 fH pz (((fun _=>rfl) _).trans kH.symm))) ?_
     refine .v rfl rfl rfl rfl (aW rfl (bK nU rfl)) ?_
     refine .v rfl rfl rfl rfl (aD rfl rfl jd) ?_
     exact .nil
    refine aC.cond rfl (fun hb16=>?_) (fun hb16=>?_)
    ·
     replace h:=dE hb16 h
     refine aC.seq ?_
     refine aC.region E.obj rfl ?_
     refine aj.val rfl (au rfl) rfl ?_
     refine aj.nil ?_
     have hr:=Option.some.inj h
     subst hr
     exact aC.ret ⟨_,rfl,rfl,jW (aQ.eq .nil)⟩
    ·
     replace h:=dG hb16 h
     refine aC.skip ?_
     refine aC.region E.obj rfl ?_
     refine aj.val rfl (aa rfl) rfl ?_
     refine aj.val rfl (aD rfl rfl dx) rfl ?_
     refine aj.val rfl (au rfl) rfl ?_
     refine aj.nil ?_
     exact ⟨(IntKind.wrap .i64 (x11 + 1)),_,_,S9,.refl _ _,.refl _,(ai.r rfl (ai.r rfl (ai.r rfl ai.nil))),H10.sl [] rfl rfl,h⟩
   ·
    replace h:=dG hb13 h
    refine aC.exit ?_
    refine aC.seq ?_
    refine aC.region E.obj rfl ?_
    refine aj.val rfl (au rfl) rfl ?_
    refine aj.nil ?_
    have hr:=Option.some.inj h
    subst hr
    exact aC.ret ⟨_,rfl,rfl,jW (aQ.eq .nil)⟩
set_option maxRecDepth 20000 in
set_option maxHeartbeats 4000000 in
theorem vW (n:Nat) (a2:ay) (a6:Int) (a7:Int) (r:Bool) (h:jP n a2 a6 a7=some r) (b1:Nat) (v3:AV) (ws4:List (List AV)) (w5:AV):dL R cfg.P 60 [.ptr b1 0 0,.d (.int .i64 a6),.d (.int .i64 a7)] [.box b1 [v3,w5],aA ae ah.kids 7 5 v3 ws4 a2.l none,aI w5 a2.freed] (fun v l=>v=.d (.bool r)∧l=[.box b1 [v3,w5],aA ae ah.kids 7 5 v3 ws4 a2.l none,aI w5 a2.freed]):=by
 unfold jP at h
 refine dL.of_wp (C:=cfg) Try.func60 rfl N8 rfl (fun B0 S0 H0=>?_)
 replace H0:Has B0 S0 [.box b1 [v3,w5],aA ae ah.kids 7 5 v3 ws4 a2.l none,aI w5 a2.freed]:=H0
 refine aC.seq ?_
 refine aC.region E.obj rfl ?_
 refine aj.val rfl (au rfl) rfl ?_
 refine aj.nil ?_
 refine aC.seq ?_
 refine aC.block ?_
 refine qd.start (B:=B0) (α:=Int) (fun k a=>dU a2 a7 k a=some r) (fun a=>[(0,(.ptr b1 0 0)),(1,(.d (.int .i64 a))),(2,(.d (.int .i64 a7)))]) (fun a=>[.box b1 [v3,w5],aA ae ah.kids 7 5 v3 ws4 a2.l none,aI w5 a2.freed]) ?_ ?_ n ⟨a6,_,_,S0,.refl _ _,.refl _,(ai.r rfl (ai.r rfl (ai.r rfl ai.nil))),H0.sl [0,1,2] rfl rfl,h⟩
 ·
  intro a h; simp [dU] at h
 ·
  intro k16 x15 S13 H14 h
  replace h:dU a2 a7 (k16 + 1) x15=some r:=h
  replace H14:Has B0 S13 [.box b1 [v3,w5],aA ae ah.kids 7 5 v3 ws4 a2.l none,aI w5 a2.freed]:=H14
  unfold dU at h
  refine aC.seq ?_
  refine aC.seq ?_
  refine aC.region E.obj rfl ?_
  refine aj.val rfl (aa rfl) rfl ?_
  refine aj.val rfl (aD rfl rfl jd) rfl ?_
  refine aj.val rfl (aa rfl) rfl ?_
  refine aj.kS 4 13 (.d (.bool ((x15 != 0) && (x15 != a7)))) ?_ ?_
  ·
   rcases Bool.eq_false_or_eq_true ((x15 != 0)) with hB17 | hB17
   ·
    refine aj.bool hB17 ?_
    refine aj.val rfl (aa rfl) rfl ?_
    refine aj.val rfl (aa rfl) rfl ?_
    refine aj.val rfl (aD rfl rfl jd) rfl ?_
    refine aj.val rfl (aB (b:=true) rfl rfl) rfl ?_
    exact aj.nil ⟨_,rfl,(ai.put (ai.push rfl (ai.push rfl (ai.push rfl (ai.put (.refl _) (Less.eq (by rw [hB17])))))) (Less.eq (by rw [hB17]; rw [Bool.true_and])))⟩
   ·
    refine aj.bool hB17 ?_
    refine aj.no rfl rfl ?_
    refine aj.no rfl rfl ?_
    refine aj.no rfl rfl ?_
    refine aj.val rfl (aB (b:=false) rfl rfl) rfl ?_
    exact aj.nil ⟨_,rfl,(ai.put (ai.push rfl (ai.push rfl (ai.push rfl (ai.put (.refl _) (Less.eq (by rw [hB17])))))) (Less.eq (by rw [hB17]; rw [Bool.false_and])))⟩
  ·
   refine aj.nil ?_
   refine aC.cond rfl (fun hb18=>?_) (fun hb18=>?_)
   ·
    replace h:=dE hb18 h
    refine aC.skip ?_
    refine aC.block ?_
    refine aC.region E.obj rfl ?_
    refine aj.val rfl (aa rfl) rfl ?_
    refine aj.val rfl (bI rfl) rfl ?_
    refine aj.val rfl (aF rfl kD tY rfl) rfl ?_
    refine aj.val rfl (aJ H14 (i:=0) rfl rfl (aU uF rfl)) rfl ?_
    refine aj.val rfl (aa rfl) rfl ?_
    refine aj.val rfl (aD rfl rfl gX) rfl ?_
    obtain ⟨z19,hzz19,h⟩:=bind_some h
    refine aj.val rfl (gU H14 (i:=1) rfl hzz19 rfl rfl yh uT qE) rfl ?_
    refine aj.val rfl (bE H14 (i:=1) rfl hzz19 rfl su KT rfl) rfl ?_
    refine aj.j6 H14 rfl (q:=1) rfl hzz19 rfl nU rfl rfl rfl ?_
    refine aj.val rfl (au rfl) rfl ?_
    refine aj.nil ?_
    exact ⟨z19.parent,_,_,S13,.refl _ _,.refl _,(ai.r rfl (ai.r rfl (ai.r rfl ai.nil))),H14.sl [0,1,2] rfl rfl,h⟩
   ·
    replace h:=dG hb18 h
    refine aC.exit ?_
    refine aC.seq ?_
    refine aC.region E.obj rfl ?_
    refine aj.val rfl (aa rfl) rfl ?_
    refine aj.val rfl (aa rfl) rfl ?_
    refine aj.val rfl (aD rfl rfl bq) rfl ?_
    refine aj.val rfl (au rfl) rfl ?_
    refine aj.nil ?_
    have hr:=Option.some.inj h
    subst hr
    exact aC.ret ⟨_,rfl,rfl,_,_,_,.refl _,(.refl _),⟨rfl,rfl⟩,H14.sl [0,1,2] rfl rfl⟩
set_option maxRecDepth 20000 in
set_option maxHeartbeats 4000000 in
theorem oU (n:Nat) (a1:(List Int)) (a2:Int) (r:Int) (h:gu n a1 a2=some r):fw R cfg.P 84 [(.sl ((a1).map (D.int .i64)) false),(.int .i64 a2)] (.d (.int .i64 r)):=by
 unfold gu at h
 refine fw.of_wp E.obj.toObjOk (C:=cfg) Try.func84 rfl NZ rfl ?_
 have H0:Has aK aK []:=Has.pure
 refine aC.seq ?_
 refine aC.region E.obj rfl ?_
 refine aj.val rfl (au rfl) rfl ?_
 refine aj.nil ?_
 refine aC.seq ?_
 refine aC.seq ?_
 refine aC.region E.obj rfl ?_
 refine aj.val rfl (aa rfl) rfl ?_
 refine aj.val rfl (bu rfl jh) rfl ?_
 refine aj.val rfl (aa rfl) rfl ?_
 refine aj.nil ?_
 refine aC.block ?_
 refine qd.start (B:=aK) (α:=Int) (fun k a=>bQ a1 a2 k a=some r) (fun a=>[(0,(.d (.sl ((a1).map (D.int .i64)) false))),(1,(.d (.int .i64 a2))),(7,(.d (.int .i64 ((a1).length:Int)))),(8,(.d (.int .i64 a)))]) (fun a=>[]) ?_ ?_ n ⟨0,_,_,aK,.refl _ _,.refl _,(ai.r rfl (ai.r rfl (ai.r rfl (ai.r rfl ai.nil)))),H0.sl [] rfl rfl,h⟩
 ·
  intro a h; simp [bQ] at h
 ·
  intro k11 x10 S8 H9 h
  replace h:bQ a1 a2 (k11 + 1) x10=some r:=h
  replace H9:Has aK S8 []:=H9
  unfold bQ at h
  refine aC.seq ?_
  refine aC.region E.obj rfl ?_
  refine aj.val rfl (aD rfl rfl dO) rfl ?_
  refine aj.nil ?_
  refine aC.seq ?_
  refine aC.cond rfl (fun hb12=>?_) (fun hb12=>?_)
  ·
   replace h:=dE hb12 h
   refine aC.skip ?_
   refine aC.seq ?_
   refine aC.block ?_
   refine aC.seq ?_
   refine aC.region E.obj rfl ?_
   refine aj.val rfl (aa rfl) rfl ?_
   refine aj.val rfl (au rfl) rfl ?_
   refine aj.nil ?_
   refine aC.seq ?_
   refine aC.region E.obj rfl ?_
   refine aj.val rfl (aa rfl) rfl ?_
   refine aj.val rfl (aa rfl) rfl ?_
   refine aj.val rfl (aa rfl) rfl ?_
   obtain ⟨z13,hzz13,h⟩:=bind_some h
   refine aj.val rfl (bA rfl rfl (bS (enc:=(D.int .i64)) hzz13 fH pz (((fun _=>rfl) _).trans kH.symm))) rfl ?_
   refine aj.val rfl (aW rfl (bK nU rfl)) rfl ?_
   refine aj.val rfl (aD rfl rfl bq) rfl ?_
   refine aj.nil ?_
   refine aC.cond rfl (fun hb14=>?_) (fun hb14=>?_)
   ·
    replace h:=dE hb14 h
    refine aC.seq ?_
    refine aC.region E.obj rfl ?_
    refine aj.val rfl (aa rfl) rfl ?_
    refine aj.val rfl (au rfl) rfl ?_
    refine aj.nil ?_
    have hr:=Option.some.inj h
    subst hr
    exact aC.ret ⟨_,rfl,rfl,jW (aQ.eq .nil)⟩
   ·
    replace h:=dG hb14 h
    refine aC.skip ?_
    refine aC.region E.obj rfl ?_
    refine aj.val rfl (aD rfl rfl dx) rfl ?_
    refine aj.val rfl (aa rfl) rfl ?_
    refine aj.nil ?_
    exact ⟨(IntKind.wrap .i64 (x10 + 1)),_,_,S8,.refl _ _,.refl _,(ai.r rfl (ai.r rfl (ai.r rfl (ai.r rfl ai.nil)))),H9.sl [] rfl rfl,h⟩
  ·
   replace h:=dG hb12 h
   refine aC.exit ?_
   refine aC.seq ?_
   refine aC.region E.obj rfl ?_
   refine aj.val rfl (au rfl) rfl ?_
   refine aj.nil ?_
   have hr:=Option.some.inj h
   subst hr
   exact aC.ret ⟨_,rfl,rfl,jW (aQ.eq .nil)⟩
set_option maxRecDepth 20000 in
set_option maxHeartbeats 4000000 in
theorem oC (n:Nat) (a1:(List Int)) (a3:Int) (a4:Int) (r:(List Int)) (h:fJ n a1 a3 a4=some r) (w2:AV):dL R cfg.P 85 [w2,.d (.int .i64 a3),.d (.int .i64 a4)] [aI w2 a1] (fun v l=>l=[aI v r]):=by
 unfold fJ at h
 refine dL.of_wp (C:=cfg) Try.func85 rfl Nu rfl (fun B0 S0 H0=>?_)
 replace H0:Has B0 S0 [aI w2 a1]:=H0
 refine aC.seq ?_
 refine aC.region E.obj rfl ?_
 refine aj.val rfl (au rfl) rfl ?_
 refine aj.nil ?_
 refine aC.seq ?_
 refine aC.region E.obj rfl ?_
 refine aj.val rfl (aa rfl) rfl ?_
 refine aj.val rfl (aa rfl) rfl ?_
 refine aj.val rfl (aa rfl) rfl ?_
 refine aj.val rfl (aa rfl) rfl ?_
 refine aj.val rfl (kr H0 (i:=0) rfl rfl jh) rfl ?_
 obtain ⟨z5,hzz5,h⟩:=bind_some h
 refine aj.val rfl (Ia H0 (q:=0) rfl rfl rfl rfl rfl fH GI kH (EG hzz5)) rfl ?_
 refine aj.nil ?_
 refine aC.seq ?_
 refine aC.seq ?_
 refine aC.region E.obj rfl ?_
 refine aj.val rfl (aa rfl) rfl ?_
 refine aj.val rfl (aa rfl) rfl ?_
 refine aj.val rfl (aD rfl rfl bq) rfl ?_
 refine aj.nil ?_
 refine aC.cond rfl (fun hb6=>?_) (fun hb6=>?_)
 ·
  replace h:=dE hb6 h
  refine aC.seq ?_
  refine aC.region E.obj rfl ?_
  refine aj.val rfl (aa rfl) rfl ?_
  refine aj.val rfl (au rfl) rfl ?_
  refine aj.nil ?_
  have hr:=Option.some.inj h
  subst hr
  exact aC.ret ⟨_,rfl,rfl,_,_,_,.refl _,(.refl _),rfl,H0.sl [0] rfl rfl⟩
 ·
  replace h:=dG hb6 h
  refine aC.skip ?_
  refine aC.seq ?_
  refine aC.region E.obj rfl ?_
  refine aj.val rfl (aa rfl) rfl ?_
  refine aj.val rfl (kr H0 (i:=0) rfl rfl jh) rfl ?_
  refine aj.val rfl (au rfl) rfl ?_
  refine aj.nil ?_
  refine aC.seq ?_
  refine aC.gG E.obj jr OG [(0,some 7),(7,none)] (by kernel_rfl) [6] (by decide) [some w2,some (.d (.int .i64 a3)),some (l7 w2 (Int.toNat a3)),some w2,some (.d (.int .i64 a4)),some (nN w2 (Int.toNat a4)),none,none] ?_
  refine ⟨[0,1,2,3,4,5],by kernel_rfl,?_,_,_,rfl,rfl,.step ?_⟩
  ·
   refine .v rfl rfl rfl rfl (aa rfl) ?_
   refine .v rfl rfl rfl rfl (aa rfl) ?_
   refine .v rfl rfl rfl rfl (FB H0 (q:=0) rfl rfl rfl fH GI kH (EG hzz5)) ?_
   refine .v rfl rfl rfl rfl (aa rfl) ?_
   refine .v rfl rfl rfl rfl (aa rfl) ?_
   refine .v rfl rfl rfl rfl (CB H0 (q:=0) rfl rfl rfl fH GI kH (EG hzz5)) ?_
   exact .nil
  have H12:Has B0 S0 ([aI w2 a1] ++ []):=H0.sl [0] rfl rfl
  replace H12:Has B0 S0 [aI w2 a1]:=H12
  refine aj.Li H12 rfl rfl rfl JJ fH kH hzz5 rfl (fun S13 H14 hroom15=>?_)
  have H16:Has B0 S13 [aI (l7 w2 (z5).length) z5]:=H14.sl [0] rfl rfl
  refine aj.nil ⟨_,_,_,rfl,(fun _ ht=>by cases ht; rfl),[some w2,some (.d (.int .i64 a3)),some (l7 w2 (Int.toNat a3)),some w2,some (.d (.int .i64 a4)),some (nN w2 (Int.toNat a4)),some (l7 w2 (z5).length),some (l7 w2 (z5).length)],(.o (.o (.o (.o (.o (.o (.new (.new .nil)))))))),(fun _ ht=>by cases ht; exact ⟨_,rfl,.refl _⟩),?_⟩
  refine ⟨[7],by kernel_rfl,?_,_,rfl,?_⟩
  ·
   refine .v rfl rfl rfl rfl (au rfl) ?_
   exact .nil
  refine aC.seq ?_
  refine aC.region E.obj rfl ?_
  refine aj.val rfl (aa rfl) rfl ?_
  refine aj.val rfl (aa rfl) rfl ?_
  refine aj.val rfl (kr H16 (i:=0) rfl rfl jh) rfl ?_
  refine aj.val rfl (aa rfl) rfl ?_
  refine aj.val rfl (Dp H16 (q:=0) rfl rfl rfl rfl fH GI kH (Int.natCast_nonneg _) hroom15) rfl ?_
  have H17:Has B0 S13 ([aI (l7 w2 (z5).length) z5] ++ []):=H16.sl [0] rfl rfl
  replace H17:Has B0 S13 [aI (l7 w2 (z5).length) z5]:=H17
  refine aj.Ip (jj:=_) H17 rfl rfl fH Ie rfl hroom15 (fun S18 H19=>?_)
  have H20:Has B0 S18 [aI (l7 w2 (z5).length) z5]:=H19.sl [0] rfl rfl
  refine aj.nil ?_
  refine aC.seq ?_
  refine aC.region E.obj rfl ?_
  refine aj.val rfl (aa rfl) rfl ?_
  refine aj.val rfl (au rfl) rfl ?_
  refine aj.nil ?_
  have hr:=Option.some.inj h
  subst hr
  exact aC.ret ⟨_,rfl,rfl,_,_,_,.refl _,(.refl _),rfl,H20.sl [0] rfl rfl⟩
set_option maxRecDepth 20000 in
set_option maxHeartbeats 4000000 in
theorem qw (n:Nat) (a2:ay) (a6:Int) (r:ay) (h:jE n a2 a6=some r) (b1:Nat) (v3:AV) (ws4:List (List AV)) (w5:AV):dL R cfg.P 61 [.ptr b1 0 0,.d (.int .i64 a6)] [.box b1 [v3,w5],aA ae ah.kids 7 5 v3 ws4 a2.l none,aI w5 a2.freed] (fun v l=>v=.tup []∧∃ dws0 dw0,l=[.box b1 [v3,dw0],aA ae ah.kids 7 5 v3 dws0 r.l none,aI dw0 r.freed]):=by
 unfold jE at h
 refine dL.of_wp (C:=cfg) Try.func61 rfl Oc rfl (fun B0 S0 H0=>?_)
 replace H0:Has B0 S0 [.box b1 [v3,w5],aA ae ah.kids 7 5 v3 ws4 a2.l none,aI w5 a2.freed]:=H0
 refine aC.seq ?_
 refine aC.region E.obj rfl ?_
 refine aj.val rfl (aa rfl) rfl ?_
 refine aj.val rfl (bI rfl) rfl ?_
 refine aj.val rfl (aF rfl kD tY rfl) rfl ?_
 refine aj.val rfl (aJ H0 (i:=0) rfl rfl (aU uF rfl)) rfl ?_
 refine aj.val rfl (aa rfl) rfl ?_
 refine aj.val rfl (aD rfl rfl gX) rfl ?_
 obtain ⟨z7,hzz7,h⟩:=bind_some h
 refine aj.val rfl (gU H0 (i:=1) rfl hzz7 rfl rfl yh uT qE) rfl ?_
 refine aj.val rfl (au rfl) rfl ?_
 refine aj.nil ?_
 refine aC.seq ?_
 refine aC.seq ?_
 refine aC.region E.obj rfl ?_
 refine aj.val rfl (aa rfl) rfl ?_
 refine aj.val rfl (bN H0 (q:=1) rfl hzz7 rfl) rfl ?_
 refine aj.val rfl (bE H0 (i:=1) rfl hzz7 rfl su KT rfl) rfl ?_
 refine aj.j6 H0 rfl (q:=1) rfl hzz7 rfl nU rfl rfl rfl ?_
 refine aj.val rfl (aD rfl rfl bq) rfl ?_
 refine aj.nil ?_
 refine aC.cond rfl (fun hb8=>?_) (fun hb8=>?_)
 ·
  replace h:=dE hb8 h
  have hr:=Option.some.inj h
  subst hr
  exact aC.ret ⟨_,rfl,rfl,_,_,_,.refl _,(.refl _),⟨rfl,ws4,w5,rfl⟩,H0.sl [0,1,2] rfl rfl⟩
 ·
  replace h:=dG hb8 h
  refine aC.skip ?_
  refine aC.seq ?_
  obtain ⟨z9,hzz9,h⟩:=bind_some h
  refine aC.gG E.obj jr OY [(1,none),(4,none),(5,some 10)] (by kernel_rfl) [] (by decide) [some (.ptr b1 0 0),some (.ptr b1 0 0),some (.ptr b1 0 0),some v3,some (bF v3 (Int.toNat (IntKind.wrap .i64 (a6 - 1))) 0),some (bF v3 (Int.toNat (IntKind.wrap .i64 (a6 - 1))) 0),some (bF v3 (Int.toNat (IntKind.wrap .i64 (a6 - 1))) 6),some (.d (.int .i64 z7.parent)),some (.d (.int .i64 (IntKind.wrap .i64 (z7.parent - 1)))),some (bF v3 (Int.toNat (IntKind.wrap .i64 (z7.parent - 1))) 0),some (bF v3 (Int.toNat (IntKind.wrap .i64 (z7.parent - 1))) 0)] ?_
  refine ⟨[0,1,2,3,4,5,6,7,8,9,10],by kernel_rfl,?_,_,rfl,?_⟩
  ·
   refine .v rfl rfl rfl rfl (aa rfl) ?_
   refine .v rfl rfl rfl rfl (bI rfl) ?_
   refine .v rfl rfl rfl rfl (aF rfl kD tY rfl) ?_
   refine .v rfl rfl rfl rfl (aJ H0 (i:=0) rfl rfl (aU uF rfl)) ?_
   refine .v rfl rfl rfl rfl (aa rfl) ?_
   refine .v rfl rfl rfl rfl (bN H0 (q:=1) rfl hzz7 rfl) ?_
   refine .v rfl rfl rfl rfl (bE H0 (i:=1) rfl hzz7 rfl su KT rfl) ?_
   refine .cons rfl rfl rfl (.step ?_) ?_
   ·
    refine aj.j6 H0 rfl (q:=1) rfl hzz7 rfl nU rfl rfl rfl ?_
    exact aj.nil ⟨_,_,rfl,fun _ ht=>by cases ht; exact ⟨rfl,.refl _⟩⟩
   refine .v rfl rfl rfl rfl (aD rfl rfl gX) ?_
   refine .v rfl rfl rfl rfl (gU H0 (i:=1) rfl hzz9 rfl rfl yh uT qE) ?_
   refine .v rfl rfl rfl rfl (au rfl) ?_
   exact .nil
  refine aC.seq ?_
  refine aC.region E.obj rfl ?_
  refine aj.val rfl (aa rfl) rfl ?_
  obtain ⟨z10,hzz10,h⟩:=bind_some h
  refine aj.val rfl (bN H0 (q:=1) rfl hzz10 rfl) rfl ?_
  refine aj.val rfl (bE H0 (i:=1) rfl hzz10 rfl nY ng rfl) rfl ?_
  refine aj.val rfl (gY H0 (i:=1) rfl hzz10 rfl pI) rfl ?_
  refine aj.val rfl (aa rfl) rfl ?_
  obtain ⟨z11,hzz11,h⟩:=bind_some h
  have H12:Has B0 S0 ([aA ae ah.kids 7 5 v3 ws4 a2.l none] ++ [.box b1 [v3,w5],aI w5 a2.freed]):=H0.sl [1,0,2] rfl rfl
  replace H12:Has B0 S0 [aA ae ah.kids 7 5 v3 ws4 a2.l none,.box b1 [v3,w5],aI w5 a2.freed]:=H12
  have H13:=Has.take H12 (dR hzz10).2
  refine aj.Od E.obj.toObjOk rfl (aH rfl rfl) (oU E n _ _ _ hzz11) rfl (.cons (EL.OX H13 (q:=0) rfl) (.cons (.less (.refl _)) .nil)) rfl ?_
  refine aj.val rfl (au rfl) rfl ?_
  refine aj.nil ?_
  refine aC.seq ?_
  refine aC.region E.obj rfl ?_
  refine aj.val rfl (aa rfl) rfl ?_
  refine aj.val rfl (aa rfl) rfl ?_
  refine aj.val rfl (bN H0 (q:=1) rfl hzz10 rfl) rfl ?_
  refine aj.val rfl (bE H0 (i:=1) rfl hzz10 rfl nY ng rfl) rfl ?_
  refine aj.val rfl (gY H0 (i:=1) rfl hzz10 rfl pI) rfl ?_
  refine aj.val rfl (aa rfl) rfl ?_
  refine aj.val rfl (aa rfl) rfl ?_
  refine aj.val rfl (aD rfl rfl dx) rfl ?_
  obtain ⟨z14,hzz14,h⟩:=bind_some h
  have H15:Has B0 S0 ([aA ae ah.kids 7 5 v3 ws4 a2.l none] ++ [.box b1 [v3,w5],aI w5 a2.freed]):=H0.sl [1,0,2] rfl rfl
  replace H15:Has B0 S0 [aA ae ah.kids 7 5 v3 ws4 a2.l none,.box b1 [v3,w5],aI w5 a2.freed]:=H15
  have H16:=Has.take H15 (dR hzz10).2
  have H17:Has B0 S0 [aI (iN 5 ws4 (Int.toNat (IntKind.wrap .i64 (z7.parent - 1)))) z10.kids,.box b1 [v3,w5],aA ae ah.kids 7 5 v3 ws4 a2.l (some (Int.toNat (IntKind.wrap .i64 (z7.parent - 1)))),aI w5 a2.freed]:=H16.sl [0,2,1,3] rfl rfl
  refine aj.eF (ins:=[aI (iN 5 ws4 (Int.toNat (IntKind.wrap .i64 (z7.parent - 1)))) z10.kids]) (more:=[.box b1 [v3,w5],aA ae ah.kids 7 5 v3 ws4 a2.l (some (Int.toNat (IntKind.wrap .i64 (z7.parent - 1)))),aI w5 a2.freed]) (H17.sl [0,1,2,3] rfl rfl) rfl (aH rfl rfl) (oC E n _ _ _ _ hzz14 _) (.cons (.refl _) (.cons (.refl _) (.cons (.refl _) .nil))) rfl ?_
  rintro v18 S19 _ rfl H20
  have H21:Has B0 S19 [aI v18 z14,.box b1 [v3,w5],aA ae ah.kids 7 5 v3 ws4 a2.l (some (Int.toNat (IntKind.wrap .i64 (z7.parent - 1)))),aI w5 a2.freed]:=H20.sl [0,1,2,3] rfl rfl
  refine aj.val rfl (bN H21 (q:=2) rfl hzz10 rfl) rfl ?_
  refine aj.val rfl (bE H21 (i:=2) rfl hzz10 rfl nY ng rfl) rfl ?_
  have H25:Has B0 S19 ([aI v18 z14,aA ae ah.kids 7 5 v3 ws4 a2.l (some (Int.toNat (IntKind.wrap .i64 (z7.parent - 1))))] ++ [.box b1 [v3,w5],aI w5 a2.freed]):=H21.sl [0,2,1,3] rfl rfl
  replace H25:Has B0 S19 [aI v18 z14,aA ae ah.kids 7 5 v3 ws4 a2.l (some (Int.toNat (IntKind.wrap .i64 (z7.parent - 1)))),.box b1 [v3,w5],aI w5 a2.freed]:=H25
  refine aj.Ao (z':=(ah.mk z10.lives z10.tag z10.key z10.text z10.attrs z14 z10.parent)) (c:=.sl ((z14).map (D.int .i64)) false) H25 rfl hzz10 (.inr rfl) rfl rfl JK JP rfl rfl rfl (fun ws24 S22 H23=>?_)
  have H26:Has B0 S22 [.box b1 [v3,w5],aA ae ah.kids 7 5 v3 ws24 (kE a2.l (IntKind.wrap .i64 (z7.parent - 1)) (ah.mk z10.lives z10.tag z10.key z10.text z10.attrs z14 z10.parent)) none,aI w5 a2.freed]:=H23.sl [1,0,2] rfl rfl
  refine aj.nil ?_
  refine aC.region E.obj rfl ?_
  refine aj.val rfl (aa rfl) rfl ?_
  obtain ⟨z27,hzz27,h⟩:=bind_some h
  refine aj.val rfl (bN H26 (q:=1) rfl hzz27 rfl) rfl ?_
  refine aj.val rfl (bE H26 (i:=1) rfl hzz27 rfl su KT rfl) rfl ?_
  have H31:Has B0 S22 ([aA ae ah.kids 7 5 v3 ws24 (kE a2.l (IntKind.wrap .i64 (z7.parent - 1)) (ah.mk z10.lives z10.tag z10.key z10.text z10.attrs z14 z10.parent)) none] ++ [.box b1 [v3,w5],aI w5 a2.freed]):=H26.sl [1,0,2] rfl rfl
  replace H31:Has B0 S22 [aA ae ah.kids 7 5 v3 ws24 (kE a2.l (IntKind.wrap .i64 (z7.parent - 1)) (ah.mk z10.lives z10.tag z10.key z10.text z10.attrs z14 z10.parent)) none,.box b1 [v3,w5],aI w5 a2.freed]:=H31
  refine aj.ru (z':=(ah.mk z27.lives z27.tag z27.key z27.text z27.attrs z27.kids 0)) H31 rfl hzz27 rfl rfl rfl rfl (.refl _) kH pz rfl rfl rfl rfl rfl (fun ws30 S28 H29=>?_)
  have H32:Has B0 S28 [.box b1 [v3,w5],aA ae ah.kids 7 5 v3 ws30 (kE (kE a2.l (IntKind.wrap .i64 (z7.parent - 1)) (ah.mk z10.lives z10.tag z10.key z10.text z10.attrs z14 z10.parent)) (IntKind.wrap .i64 (a6 - 1)) (ah.mk z27.lives z27.tag z27.key z27.text z27.attrs z27.kids 0)) none,aI w5 a2.freed]:=H29.sl [1,0,2] rfl rfl
  refine aj.nil ?_
  have hr:=Option.some.inj h
  subst hr
  exact ⟨_,rfl,rfl,_,_,_,.refl _,(.refl _),⟨rfl,ws30,w5,rfl⟩,H32.sl [0,1,2] rfl rfl⟩
set_option maxRecDepth 20000 in
set_option maxHeartbeats 4000000 in
theorem lI (n:Nat) (a2:ay) (a6:Int) (a7:Int) (a8:Int) (r:(Bool × ay)) (h:fQ n a2 a6 a7 a8=some r) (b1:Nat) (v3:AV) (ws4:List (List AV)) (w5:AV):dL R cfg.P 14 [.ptr b1 0 0,.d (.int .i64 a6),.d (.int .i64 a7),.d (.int .i64 a8)] [.box b1 [v3,w5],aA ae ah.kids 7 5 v3 ws4 a2.l none,aI w5 a2.freed] (fun v l=>v=.d (.bool r.1)∧∃ dws0 dw0,l=[.box b1 [v3,dw0],aA ae ah.kids 7 5 v3 dws0 r.2.l none,aI dw0 r.2.freed]):=by
 unfold fQ at h
 refine dL.of_wp (C:=rA) Try.func14 rfl Oq rfl (fun B0 S0 H0=>?_)
 replace H0:Has B0 S0 [.box b1 [v3,w5],aA ae ah.kids 7 5 v3 ws4 a2.l none,aI w5 a2.freed]:=H0
 refine aC.seq ?_
 refine aC.region (eP E) rfl ?_
 refine aj.val rfl (au rfl) rfl ?_
 refine aj.nil ?_
 refine aC.seq ?_
 refine aC.region (eP E) rfl ?_
 refine aj.val rfl (aa rfl) rfl ?_
 refine aj.val rfl (aa rfl) rfl ?_
 obtain ⟨z9,hzz9,h⟩:=bind_some h
 refine aj.eF (ins:=[.box b1 [v3,w5],aA ae ah.kids 7 5 v3 ws4 a2.l none,aI w5 a2.freed]) (more:=[]) (H0.sl [0,1,2] rfl rfl) rfl (aH rfl rfl) (gT E n _ _ _ hzz9 b1 v3 ws4 w5) (.cons (.refl _) (.cons (.refl _) .nil)) rfl ?_
 rintro v10 S11 l12 hr13 H14
 rcases z9 with _ | _
 ·
  obtain ⟨rfl,rfl⟩:=hr13
  replace h:=dG rfl h
  replace H14:Has B0 S11 [.box b1 [v3,w5],aA ae ah.kids 7 5 v3 ws4 a2.l none,aI w5 a2.freed]:=H14
  have H15:Has B0 S11 [.box b1 [v3,w5],aA ae ah.kids 7 5 v3 ws4 a2.l none,aI w5 a2.freed]:=H14.sl [0,1,2] rfl rfl
  refine aj.val rfl (aa rfl) rfl ?_
  refine aj.val rfl (aa rfl) rfl ?_
  obtain ⟨z16,hzz16,h⟩:=bind_some h
  refine aj.eF (ins:=[.box b1 [v3,w5],aA ae ah.kids 7 5 v3 ws4 a2.l none,aI w5 a2.freed]) (more:=[]) (H15.sl [0,1,2] rfl rfl) rfl (aH rfl rfl) (gT E n _ _ _ hzz16 b1 v3 ws4 w5) (.cons (.refl _) (.cons (.refl _) .nil)) rfl ?_
  rintro v17 S18 l19 hr20 H21
  rcases z16 with _ | _
  ·
   obtain ⟨rfl,rfl⟩:=hr20
   replace h:=dG rfl h
   replace H21:Has B0 S18 [.box b1 [v3,w5],aA ae ah.kids 7 5 v3 ws4 a2.l none,aI w5 a2.freed]:=H21
   have H22:Has B0 S18 [.box b1 [v3,w5],aA ae ah.kids 7 5 v3 ws4 a2.l none,aI w5 a2.freed]:=H21.sl [0,1,2] rfl rfl
   refine aj.val rfl (au rfl) rfl ?_
   refine aj.val rfl (au rfl) rfl ?_
   refine aj.nil ?_
   refine aC.seq ?_
   refine aC.seq ?_
   refine aC.region (eP E) rfl ?_
   refine aj.val rfl (aa rfl) rfl ?_
   refine aj.val rfl (aD rfl rfl (lH rJ)) rfl ?_
   refine aj.val rfl (aa rfl) rfl ?_
   refine aj.no rfl rfl ?_
   refine aj.no rfl rfl ?_
   refine aj.val rfl (aB (b:=true) rfl rfl) rfl ?_
   refine aj.val rfl (aa rfl) rfl ?_
   refine aj.no rfl rfl ?_
   refine aj.no rfl rfl ?_
   refine aj.no rfl rfl ?_
   refine aj.no rfl rfl ?_
   refine aj.no rfl rfl ?_
   refine aj.val rfl (aB (b:=true) rfl rfl) rfl ?_
   refine aj.val rfl (aa rfl) rfl ?_
   refine aj.no rfl rfl ?_
   refine aj.no rfl rfl ?_
   refine aj.val rfl (aB (b:=true) rfl rfl) rfl ?_
   refine aj.val rfl (aa rfl) rfl ?_
   refine aj.no rfl rfl ?_
   refine aj.no rfl rfl ?_
   refine aj.no rfl rfl ?_
   refine aj.no rfl rfl ?_
   refine aj.val rfl (aB (b:=true) rfl rfl) rfl ?_
   refine aj.nil ?_
   refine aC.cond rfl (fun hb=>?_) (fun hb=>?_)
   ·
    refine aC.seq ?_
    refine aC.region (eP E) rfl ?_
    refine aj.val rfl (au rfl) rfl ?_
    refine aj.nil ?_
    have hr:=Option.some.inj h
    subst hr
    exact aC.ret ⟨_,rfl,rfl,_,_,_,.refl _,(.refl _),⟨rfl,ws4,w5,rfl⟩,H22.sl [0,1,2] rfl rfl⟩
   ·
    cases hb
  ·
   obtain ⟨rfl,rfl⟩:=hr20
   replace h:=dE rfl h
   have H23:Has B0 S18 [.box b1 [v3,w5],aA ae ah.kids 7 5 v3 ws4 a2.l none,aI w5 a2.freed]:=H21.sl [0,1,2] rfl rfl
   refine aj.val rfl (au rfl) rfl ?_
   refine aj.val rfl (au rfl) rfl ?_
   refine aj.nil ?_
   refine aC.seq ?_
   refine aC.seq ?_
   refine aC.region (eP E) rfl ?_
   refine aj.val rfl (aa rfl) rfl ?_
   refine aj.val rfl (aD rfl rfl (lH rJ)) rfl ?_
   refine aj.val rfl (aa rfl) rfl ?_
   refine aj.no rfl rfl ?_
   refine aj.no rfl rfl ?_
   refine aj.val rfl (aB (b:=true) rfl rfl) rfl ?_
   refine aj.val rfl (aa rfl) rfl ?_
   refine aj.no rfl rfl ?_
   refine aj.no rfl rfl ?_
   refine aj.no rfl rfl ?_
   refine aj.no rfl rfl ?_
   refine aj.no rfl rfl ?_
   refine aj.val rfl (aB (b:=true) rfl rfl) rfl ?_
   refine aj.val rfl (aa rfl) rfl ?_
   refine aj.no rfl rfl ?_
   refine aj.no rfl rfl ?_
   refine aj.val rfl (aB (b:=true) rfl rfl) rfl ?_
   refine aj.val rfl (aa rfl) rfl ?_
   refine aj.no rfl rfl ?_
   refine aj.no rfl rfl ?_
   refine aj.no rfl rfl ?_
   refine aj.no rfl rfl ?_
   refine aj.val rfl (aB (b:=true) rfl rfl) rfl ?_
   refine aj.nil ?_
   refine aC.cond rfl (fun hb=>?_) (fun hb=>?_)
   ·
    refine aC.seq ?_
    refine aC.region (eP E) rfl ?_
    refine aj.val rfl (au rfl) rfl ?_
    refine aj.nil ?_
    have hr:=Option.some.inj h
    subst hr
    exact aC.ret ⟨_,rfl,rfl,_,_,_,.refl _,(.refl _),⟨rfl,ws4,w5,rfl⟩,H23.sl [0,1,2] rfl rfl⟩
   ·
    cases hb
 ·
  obtain ⟨rfl,rfl⟩:=hr13
  replace h:=dE rfl h
  have H24:Has B0 S11 [.box b1 [v3,w5],aA ae ah.kids 7 5 v3 ws4 a2.l none,aI w5 a2.freed]:=H14.sl [0,1,2] rfl rfl
  refine aj.val rfl (aa rfl) rfl ?_
  refine aj.val rfl (aa rfl) rfl ?_
  obtain ⟨z25,hzz25,h⟩:=bind_some h
  refine aj.eF (ins:=[.box b1 [v3,w5],aA ae ah.kids 7 5 v3 ws4 a2.l none,aI w5 a2.freed]) (more:=[]) (H24.sl [0,1,2] rfl rfl) rfl (aH rfl rfl) (gT E n _ _ _ hzz25 b1 v3 ws4 w5) (.cons (.refl _) (.cons (.refl _) .nil)) rfl ?_
  rintro v26 S27 l28 hr29 H30
  rcases z25 with _ | _
  ·
   obtain ⟨rfl,rfl⟩:=hr29
   replace h:=dG rfl h
   replace H30:Has B0 S27 [.box b1 [v3,w5],aA ae ah.kids 7 5 v3 ws4 a2.l none,aI w5 a2.freed]:=H30
   have H31:Has B0 S27 [.box b1 [v3,w5],aA ae ah.kids 7 5 v3 ws4 a2.l none,aI w5 a2.freed]:=H30.sl [0,1,2] rfl rfl
   refine aj.val rfl (au rfl) rfl ?_
   refine aj.val rfl (au rfl) rfl ?_
   refine aj.nil ?_
   refine aC.seq ?_
   refine aC.seq ?_
   refine aC.region (eP E) rfl ?_
   refine aj.val rfl (aa rfl) rfl ?_
   obtain ⟨z32,hzz32,h⟩:=bind_some h
   refine aj.val rfl (lN H31 (q:=1) rfl hzz32 rfl rfl rJ) rfl ?_
   refine aj.val rfl (aa rfl) rfl ?_
   refine aj.val rfl (aa rfl) rfl ?_
   refine aj.val rfl (aD rfl rfl (lH rJ)) rfl ?_
   refine aj.val rfl (aB (b:=false) rfl rfl) rfl ?_
   refine aj.val rfl (aa rfl) rfl ?_
   refine aj.no rfl rfl ?_
   refine aj.no rfl rfl ?_
   refine aj.no rfl rfl ?_
   refine aj.no rfl rfl ?_
   refine aj.no rfl rfl ?_
   refine aj.val rfl (aB (b:=true) rfl rfl) rfl ?_
   refine aj.val rfl (aa rfl) rfl ?_
   refine aj.no rfl rfl ?_
   refine aj.no rfl rfl ?_
   refine aj.val rfl (aB (b:=true) rfl rfl) rfl ?_
   refine aj.val rfl (aa rfl) rfl ?_
   refine aj.no rfl rfl ?_
   refine aj.no rfl rfl ?_
   refine aj.no rfl rfl ?_
   refine aj.no rfl rfl ?_
   refine aj.val rfl (aB (b:=true) rfl rfl) rfl ?_
   refine aj.nil ?_
   refine aC.cond rfl (fun hb=>?_) (fun hb=>?_)
   ·
    refine aC.seq ?_
    refine aC.region (eP E) rfl ?_
    refine aj.val rfl (au rfl) rfl ?_
    refine aj.nil ?_
    have hr:=Option.some.inj h
    subst hr
    exact aC.ret ⟨_,rfl,rfl,_,_,_,.refl _,(.refl _),⟨rfl,ws4,w5,rfl⟩,H31.sl [0,1,2] rfl rfl⟩
   ·
    cases hb
  ·
   obtain ⟨rfl,rfl⟩:=hr29
   replace h:=dE rfl h
   have H33:Has B0 S27 [.box b1 [v3,w5],aA ae ah.kids 7 5 v3 ws4 a2.l none,aI w5 a2.freed]:=H30.sl [0,1,2] rfl rfl
   refine aj.val rfl (au rfl) rfl ?_
   refine aj.val rfl (au rfl) rfl ?_
   refine aj.nil ?_
   refine aC.seq ?_
   refine aC.seq ?_
   refine aC.region (eP E) rfl ?_
   refine aj.val rfl (aa rfl) rfl ?_
   obtain ⟨z34,hzz34,h⟩:=bind_some h
   refine aj.val rfl (lN H33 (q:=1) rfl hzz34 rfl rfl rJ) rfl ?_
   refine aj.val rfl (aa rfl) rfl ?_
   refine aj.val rfl (aa rfl) rfl ?_
   obtain ⟨z35,hzz35,h⟩:=bind_some h
   refine aj.val rfl (lN H33 (q:=1) rfl hzz35 rfl rfl rJ) rfl ?_
   refine aj.val rfl (aB (b:=false) rfl rfl) rfl ?_
   refine aj.val rfl (aa rfl) rfl ?_
   refine aj.val rfl (aa rfl) rfl ?_
   refine aj.val rfl (bN H33 (q:=1) rfl hzz34 rfl) rfl ?_
   refine aj.val rfl (bE H33 (i:=1) rfl hzz34 rfl yH uY rfl) rfl ?_
   refine aj.j6 H33 rfl (q:=1) rfl hzz34 rfl tZ rfl rfl rfl ?_
   refine aj.val rfl (aD rfl rfl nR) rfl ?_
   refine aj.val rfl (aB (b:=false) rfl rfl) rfl ?_
   refine aj.val rfl (aa rfl) rfl ?_
   refine aj.kS 3 33 (.d (.bool ((z34.tag == []) || (a7 == 1)))) ?_ ?_
   ·
    rcases Bool.eq_false_or_eq_true ((z34.tag == [])) with hB36 | hB36
    ·
     refine aj.bool hB36 ?_
     refine aj.no rfl rfl ?_
     refine aj.no rfl rfl ?_
     refine aj.val rfl (aB (b:=true) rfl rfl) rfl ?_
     exact aj.nil ⟨_,rfl,(ai.put (ai.push rfl (ai.push rfl (ai.put (.refl _) (Less.eq (by rw [hB36]))))) (Less.eq (by rw [hB36]; rw [Bool.true_or])))⟩
    ·
     refine aj.bool hB36 ?_
     refine aj.val rfl (aa rfl) rfl ?_
     refine aj.val rfl (aD rfl rfl bq) rfl ?_
     refine aj.val rfl (aB (b:=false) rfl rfl) rfl ?_
     exact aj.nil ⟨_,rfl,(ai.put (ai.push rfl (ai.push rfl (ai.put (.refl _) (Less.eq (by rw [hB36]))))) (Less.eq (by rw [hB36]; rw [Bool.false_or])))⟩
   ·
    refine aj.val rfl (aa rfl) rfl ?_
    rcases Bool.eq_false_or_eq_true (((z34.tag == []) || (a7 == 1))) with hB37 | hB37
    ·
     replace h:=dE hB37 h
     refine aj.bool hB37 ?_
     refine aj.no rfl rfl ?_
     refine aj.no rfl rfl ?_
     refine aj.no rfl rfl ?_
     refine aj.no rfl rfl ?_
     refine aj.val rfl (aB (b:=true) rfl rfl) rfl ?_
     refine aj.nil ?_
     refine aC.cond rfl (fun hb=>?_) (fun hb=>?_)
     ·
      refine aC.seq ?_
      refine aC.region (eP E) rfl ?_
      refine aj.val rfl (au rfl) rfl ?_
      refine aj.nil ?_
      have hr:=Option.some.inj h
      subst hr
      exact aC.ret ⟨_,rfl,rfl,_,_,_,.refl _,(.refl _),⟨rfl,ws4,w5,rfl⟩,H33.sl [0,1,2] rfl rfl⟩
     ·
      cases hb
    ·
     replace h:=dG hB37 h
     refine aj.bool hB37 ?_
     refine aj.val rfl (aa rfl) rfl ?_
     refine aj.val rfl (aa rfl) rfl ?_
     refine aj.val rfl (aa rfl) rfl ?_
     obtain ⟨z38,hzz38,h⟩:=bind_some h
     refine aj.eF (ins:=[.box b1 [v3,w5],aA ae ah.kids 7 5 v3 ws4 a2.l none,aI w5 a2.freed]) (more:=[]) (H33.sl [0,1,2] rfl rfl) rfl (aH rfl rfl) (vW E n _ _ _ _ hzz38 b1 v3 ws4 w5) (.cons (.refl _) (.cons (.refl _) (.cons (.refl _) .nil))) rfl ?_
     rintro _ S39 _ ⟨rfl,rfl⟩ H40
     have H41:Has B0 S39 [.box b1 [v3,w5],aA ae ah.kids 7 5 v3 ws4 a2.l none,aI w5 a2.freed]:=H40.sl [0,1,2] rfl rfl
     refine aj.val rfl (aB (b:=false) rfl rfl) rfl ?_
     refine aj.nil ?_
     refine aC.cond rfl (fun hb42=>?_) (fun hb42=>?_)
     ·
      replace h:=dE hb42 h
      refine aC.seq ?_
      refine aC.region (eP E) rfl ?_
      refine aj.val rfl (au rfl) rfl ?_
      refine aj.nil ?_
      have hr:=Option.some.inj h
      subst hr
      exact aC.ret ⟨_,rfl,rfl,_,_,_,.refl _,(.refl _),⟨rfl,ws4,w5,rfl⟩,H41.sl [0,1,2] rfl rfl⟩
     ·
      replace h:=dG hb42 h
      refine aC.skip ?_
      refine aC.seq ?_
      refine aC.region (eP E) rfl ?_
      refine aj.val rfl (aa rfl) rfl ?_
      refine aj.val rfl (aa rfl) rfl ?_
      obtain ⟨z43,hzz43,h⟩:=bind_some h
      refine aj.eF (ins:=[.box b1 [v3,w5],aA ae ah.kids 7 5 v3 ws4 a2.l none,aI w5 a2.freed]) (more:=[]) (H41.sl [0,1,2] rfl rfl) rfl (aH rfl rfl) (qw E n _ _ _ hzz43 b1 v3 ws4 w5) (.cons (.refl _) (.cons (.refl _) .nil)) rfl ?_
      rintro _ S46 _ ⟨rfl,ws44,w45,rfl⟩ H47
      have H48:Has B0 S46 [.box b1 [v3,w45],aA ae ah.kids 7 5 v3 ws44 z43.l none,aI w45 z43.freed]:=H47.sl [0,1,2] rfl rfl
      refine aj.nil ?_
      refine aC.seq ?_
      obtain ⟨z49,hzz49,h⟩:=bind_some h
      obtain ⟨z56,hzz56,h⟩:=bind_some h
      refine aC.gG (eP E) jr OM [(1,none),(10,none)] (by kernel_rfl) [14,15,18] (by decide) [some (bF v3 (Int.toNat (IntKind.wrap .i64 (a6 - 1))) 0),some (bF v3 (Int.toNat (IntKind.wrap .i64 (a6 - 1))) 0),some (bF v3 (Int.toNat (IntKind.wrap .i64 (a6 - 1))) 0),some (bF v3 (Int.toNat (IntKind.wrap .i64 (a6 - 1))) 5),some (iN 5 ws44 (Int.toNat (IntKind.wrap .i64 (a6 - 1)))),some (.d (.int .i64 a8)),some (bF v3 (Int.toNat (IntKind.wrap .i64 (a6 - 1))) 0),some (bF v3 (Int.toNat (IntKind.wrap .i64 (a6 - 1))) 0),some (bF v3 (Int.toNat (IntKind.wrap .i64 (a6 - 1))) 5),some (iN 5 ws44 (Int.toNat (IntKind.wrap .i64 (a6 - 1)))),some (.d (.int .i64 ((z49.kids).length:Int))),some (.d (.int .i64 (wK a8 ((z49.kids).length:Int)))),some (.d (.int .i64 (vk 0 (wK a8 ((z49.kids).length:Int))))),some (.d (.int .i64 a7)),none,none,none,none,none] ?_
      refine ⟨[0,1,2,3,4,5,6,7,8,9,10,11,12,13],by kernel_rfl,?_,_,_,rfl,rfl,.step ?_⟩
      ·
       refine .v rfl rfl rfl rfl (aa rfl) ?_
       refine .v rfl rfl rfl rfl (aa rfl) ?_
       refine .v rfl rfl rfl rfl (bN H48 (q:=1) rfl hzz49 rfl) ?_
       refine .v rfl rfl rfl rfl (bE H48 (i:=1) rfl hzz49 rfl nY ng rfl) ?_
       refine .v rfl rfl rfl rfl (gY H48 (i:=1) rfl hzz49 rfl pI) ?_
       refine .v rfl rfl rfl rfl (aa rfl) ?_
       refine .v rfl rfl rfl rfl (aa rfl) ?_
       refine .v rfl rfl rfl rfl (bN H48 (q:=1) rfl hzz49 rfl) ?_
       refine .v rfl rfl rfl rfl (bE H48 (i:=1) rfl hzz49 rfl nY ng rfl) ?_
       refine .v rfl rfl rfl rfl (gY H48 (i:=1) rfl hzz49 rfl pI) ?_
       refine .cons rfl rfl rfl (.step ?_) ?_
       ·
        have H69:Has B0 S46 ([aA ae ah.kids 7 5 v3 ws44 z43.l none] ++ [.box b1 [v3,w45],aI w45 z43.freed]):=H48.sl [1,0,2] rfl rfl
        replace H69:Has B0 S46 [aA ae ah.kids 7 5 v3 ws44 z43.l none,.box b1 [v3,w45],aI w45 z43.freed]:=H69
        have H70:=Has.take H69 (dR hzz49).2
        refine aj.val rfl (kr H70 (i:=0) rfl rfl jh) rfl ?_
        exact aj.nil ⟨_,_,rfl,fun _ ht=>by cases ht; exact ⟨rfl,.refl _⟩⟩
       refine .v rfl rfl rfl rfl (Dk rfl rfl) ?_
       refine .v rfl rfl rfl rfl (zm rfl rfl) ?_
       refine .v rfl rfl rfl rfl (aa rfl) ?_
       exact .nil
      refine aj.qA (vs:=[(.d (.int .i64 a7))]) (cs:=[[(.d (.int .i64 a7))]]) H48 rfl pR fH pz Ie kH rfl (by decide) (.cons rfl rfl .nil) rfl rfl rfl (fun v69 S70 H71=>?_)
      have H72:Has B0 S70 [gN 1 1 v69 [(.d (.int .i64 a7))],.box b1 [v3,w45],aA ae ah.kids 7 5 v3 ws44 z43.l none,aI w45 z43.freed]:=H71.sl [0,1,2,3] rfl rfl
      refine aj.nil ⟨_,_,_,rfl,(fun _ ht=>by cases ht; rfl),[some (bF v3 (Int.toNat (IntKind.wrap .i64 (a6 - 1))) 0),some (bF v3 (Int.toNat (IntKind.wrap .i64 (a6 - 1))) 0),some (bF v3 (Int.toNat (IntKind.wrap .i64 (a6 - 1))) 0),some (bF v3 (Int.toNat (IntKind.wrap .i64 (a6 - 1))) 5),some (iN 5 ws44 (Int.toNat (IntKind.wrap .i64 (a6 - 1)))),some (.d (.int .i64 a8)),some (bF v3 (Int.toNat (IntKind.wrap .i64 (a6 - 1))) 0),some (bF v3 (Int.toNat (IntKind.wrap .i64 (a6 - 1))) 0),some (bF v3 (Int.toNat (IntKind.wrap .i64 (a6 - 1))) 5),some (iN 5 ws44 (Int.toNat (IntKind.wrap .i64 (a6 - 1)))),some (.d (.int .i64 ((z49.kids).length:Int))),some (.d (.int .i64 (wK a8 ((z49.kids).length:Int)))),some (.d (.int .i64 (vk 0 (wK a8 ((z49.kids).length:Int))))),some (.d (.int .i64 a7)),some v69,none,none,none,none],(.o (.o (.o (.o (.o (.o (.o (.o (.o (.o (.o (.o (.o (.o (.new (.new (.new (.new (.new .nil))))))))))))))))))),(fun _ ht=>by cases ht; exact ⟨_,rfl,.refl _⟩),?_⟩
      refine ⟨[0,1,2,3,4,5,6,7,8,9,10,11,12],by kernel_rfl,?_,_,_,rfl,rfl,.step ?_⟩
      ·
       refine .v rfl rfl rfl rfl (aa rfl) ?_
       refine .v rfl rfl rfl rfl (aa rfl) ?_
       refine .v rfl rfl rfl rfl (bN H72 (q:=2) rfl hzz49 rfl) ?_
       refine .v rfl rfl rfl rfl (bE H72 (i:=2) rfl hzz49 rfl nY ng rfl) ?_
       refine .v rfl rfl rfl rfl (gY H72 (i:=2) rfl hzz49 rfl pI) ?_
       refine .v rfl rfl rfl rfl (aa rfl) ?_
       refine .v rfl rfl rfl rfl (aa rfl) ?_
       refine .v rfl rfl rfl rfl (bN H72 (q:=2) rfl hzz49 rfl) ?_
       refine .v rfl rfl rfl rfl (bE H72 (i:=2) rfl hzz49 rfl nY ng rfl) ?_
       refine .v rfl rfl rfl rfl (gY H72 (i:=2) rfl hzz49 rfl pI) ?_
       refine .cons rfl rfl rfl (.step ?_) ?_
       ·
        have H73:Has B0 S70 ([aA ae ah.kids 7 5 v3 ws44 z43.l none] ++ [gN 1 1 v69 [(.d (.int .i64 a7))],.box b1 [v3,w45],aI w45 z43.freed]):=H72.sl [2,0,1,3] rfl rfl
        replace H73:Has B0 S70 [aA ae ah.kids 7 5 v3 ws44 z43.l none,gN 1 1 v69 [(.d (.int .i64 a7))],.box b1 [v3,w45],aI w45 z43.freed]:=H73
        have H74:=Has.take H73 (dR hzz49).2
        refine aj.val rfl (kr H74 (i:=0) rfl rfl jh) rfl ?_
        exact aj.nil ⟨_,_,rfl,fun _ ht=>by cases ht; exact ⟨rfl,.refl _⟩⟩
       refine .v rfl rfl rfl rfl (Dk rfl rfl) ?_
       refine .v rfl rfl rfl rfl (zm rfl rfl) ?_
       exact .nil
      have H73:Has B0 S70 ([aA ae ah.kids 7 5 v3 ws44 z43.l none] ++ [gN 1 1 v69 [(.d (.int .i64 a7))],.box b1 [v3,w45],aI w45 z43.freed]):=H72.sl [2,0,1,3] rfl rfl
      replace H73:Has B0 S70 [aA ae ah.kids 7 5 v3 ws44 z43.l none,gN 1 1 v69 [(.d (.int .i64 a7))],.box b1 [v3,w45],aI w45 z43.freed]:=H73
      have H74:=Has.take H73 (dR hzz49).2
      have H75:Has B0 S70 [aI (iN 5 ws44 (Int.toNat (IntKind.wrap .i64 (a6 - 1)))) z49.kids,gN 1 1 v69 [(.d (.int .i64 a7))],.box b1 [v3,w45],aA ae ah.kids 7 5 v3 ws44 z43.l (some (Int.toNat (IntKind.wrap .i64 (a6 - 1)))),aI w45 z43.freed]:=H74.sl [0,2,3,1,4] rfl rfl
      refine aj.eF (ins:=[gN 1 1 v69 [(.d (.int .i64 a7))],aI (iN 5 ws44 (Int.toNat (IntKind.wrap .i64 (a6 - 1)))) z49.kids]) (more:=[.box b1 [v3,w45],aA ae ah.kids 7 5 v3 ws44 z43.l (some (Int.toNat (IntKind.wrap .i64 (a6 - 1)))),aI w45 z43.freed]) (H75.sl [1,0,2,3,4] rfl rfl) rfl (aH rfl rfl) (dL.ins E.insp hzz56) (.cons (.refl _) (.cons (.refl _) (.cons (.refl _) .nil))) rfl ?_
      rintro v76 S77 _ rfl H78
      have H79:Has B0 S77 [aI v76 z56,.box b1 [v3,w45],aA ae ah.kids 7 5 v3 ws44 z43.l (some (Int.toNat (IntKind.wrap .i64 (a6 - 1)))),aI w45 z43.freed]:=H78.sl [0,1,2,3] rfl rfl
      refine aj.nil ⟨_,_,_,rfl,(fun _ ht=>by cases ht; rfl),[some (bF v3 (Int.toNat (IntKind.wrap .i64 (a6 - 1))) 0),some (bF v3 (Int.toNat (IntKind.wrap .i64 (a6 - 1))) 0),some (bF v3 (Int.toNat (IntKind.wrap .i64 (a6 - 1))) 0),some (bF v3 (Int.toNat (IntKind.wrap .i64 (a6 - 1))) 5),some (iN 5 ws44 (Int.toNat (IntKind.wrap .i64 (a6 - 1)))),some (.d (.int .i64 a8)),some (bF v3 (Int.toNat (IntKind.wrap .i64 (a6 - 1))) 0),some (bF v3 (Int.toNat (IntKind.wrap .i64 (a6 - 1))) 0),some (bF v3 (Int.toNat (IntKind.wrap .i64 (a6 - 1))) 5),some (iN 5 ws44 (Int.toNat (IntKind.wrap .i64 (a6 - 1)))),some (.d (.int .i64 ((z49.kids).length:Int))),some (.d (.int .i64 (wK a8 ((z49.kids).length:Int)))),some (.d (.int .i64 (vk 0 (wK a8 ((z49.kids).length:Int))))),some (.d (.int .i64 a7)),some v69,some v76,some (bF v3 (Int.toNat (IntKind.wrap .i64 (a6 - 1))) 0),some (bF v3 (Int.toNat (IntKind.wrap .i64 (a6 - 1))) 5),none],(.o (.o (.o (.o (.o (.o (.o (.o (.o (.o (.o (.o (.o (.o (.o (.new (.new (.new (.new .nil))))))))))))))))))),(fun _ ht=>by cases ht; exact ⟨_,rfl,.refl _⟩),?_⟩
      refine ⟨[0,16,17],by kernel_rfl,?_,_,_,rfl,rfl,.step ?_⟩
      ·
       refine .v rfl rfl rfl rfl (aa rfl) ?_
       refine .v rfl rfl rfl rfl (bN H79 (q:=2) rfl hzz49 rfl) ?_
       refine .v rfl rfl rfl rfl (bE H79 (i:=2) rfl hzz49 rfl nY ng rfl) ?_
       exact .nil
      have H83:Has B0 S77 ([aI v76 z56,aA ae ah.kids 7 5 v3 ws44 z43.l (some (Int.toNat (IntKind.wrap .i64 (a6 - 1))))] ++ [.box b1 [v3,w45],aI w45 z43.freed]):=H79.sl [0,2,1,3] rfl rfl
      replace H83:Has B0 S77 [aI v76 z56,aA ae ah.kids 7 5 v3 ws44 z43.l (some (Int.toNat (IntKind.wrap .i64 (a6 - 1)))),.box b1 [v3,w45],aI w45 z43.freed]:=H83
      refine aj.Ao (z':=(ah.mk z49.lives z49.tag z49.key z49.text z49.attrs z56 z49.parent)) (c:=.sl ((z56).map (D.int .i64)) false) H83 rfl hzz49 (.inr rfl) rfl rfl JK JP rfl rfl rfl (fun ws82 S80 H81=>?_)
      have H84:Has B0 S80 [.box b1 [v3,w45],aA ae ah.kids 7 5 v3 ws82 (kE z43.l (IntKind.wrap .i64 (a6 - 1)) (ah.mk z49.lives z49.tag z49.key z49.text z49.attrs z56 z49.parent)) none,aI w45 z43.freed]:=H81.sl [1,0,2] rfl rfl
      refine aj.nil ⟨_,.any,_,rfl,(fun _ ht=>by cases ht),[some (bF v3 (Int.toNat (IntKind.wrap .i64 (a6 - 1))) 0),some (bF v3 (Int.toNat (IntKind.wrap .i64 (a6 - 1))) 0),some (bF v3 (Int.toNat (IntKind.wrap .i64 (a6 - 1))) 0),some (bF v3 (Int.toNat (IntKind.wrap .i64 (a6 - 1))) 5),some (iN 5 ws44 (Int.toNat (IntKind.wrap .i64 (a6 - 1)))),some (.d (.int .i64 a8)),some (bF v3 (Int.toNat (IntKind.wrap .i64 (a6 - 1))) 0),some (bF v3 (Int.toNat (IntKind.wrap .i64 (a6 - 1))) 0),some (bF v3 (Int.toNat (IntKind.wrap .i64 (a6 - 1))) 5),some (iN 5 ws44 (Int.toNat (IntKind.wrap .i64 (a6 - 1)))),some (.d (.int .i64 ((z49.kids).length:Int))),some (.d (.int .i64 (wK a8 ((z49.kids).length:Int)))),some (.d (.int .i64 (vk 0 (wK a8 ((z49.kids).length:Int))))),some (.d (.int .i64 a7)),some v69,some v76,some (bF v3 (Int.toNat (IntKind.wrap .i64 (a6 - 1))) 0),some (bF v3 (Int.toNat (IntKind.wrap .i64 (a6 - 1))) 5),some .any],(.o (.o (.o (.o (.o (.o (.o (.o (.o (.o (.o (.o (.o (.o (.o (.o (.o (.o (.new .nil))))))))))))))))))),(fun _ ht=>by cases ht),?_⟩
      refine ⟨[],by kernel_rfl,?_,_,rfl,?_⟩
      ·
       exact .nil
      refine aC.seq ?_
      refine aC.region (eP E) rfl ?_
      refine aj.val rfl (aa rfl) rfl ?_
      refine aj.val rfl (aa rfl) rfl ?_
      obtain ⟨z85,hzz85,h⟩:=bind_some h
      refine aj.val rfl (bN H84 (q:=1) rfl hzz85 rfl) rfl ?_
      refine aj.val rfl (bE H84 (i:=1) rfl hzz85 rfl su KT rfl) rfl ?_
      have H89:Has B0 S80 ([aA ae ah.kids 7 5 v3 ws82 (kE z43.l (IntKind.wrap .i64 (a6 - 1)) (ah.mk z49.lives z49.tag z49.key z49.text z49.attrs z56 z49.parent)) none] ++ [.box b1 [v3,w45],aI w45 z43.freed]):=H84.sl [1,0,2] rfl rfl
      replace H89:Has B0 S80 [aA ae ah.kids 7 5 v3 ws82 (kE z43.l (IntKind.wrap .i64 (a6 - 1)) (ah.mk z49.lives z49.tag z49.key z49.text z49.attrs z56 z49.parent)) none,.box b1 [v3,w45],aI w45 z43.freed]:=H89
      refine aj.ru (z':=(ah.mk z85.lives z85.tag z85.key z85.text z85.attrs z85.kids a6)) H89 rfl hzz85 rfl rfl rfl rfl (.refl _) kH pz rfl rfl rfl rfl rfl (fun ws88 S86 H87=>?_)
      have H90:Has B0 S86 [.box b1 [v3,w45],aA ae ah.kids 7 5 v3 ws88 (kE (kE z43.l (IntKind.wrap .i64 (a6 - 1)) (ah.mk z49.lives z49.tag z49.key z49.text z49.attrs z56 z49.parent)) (IntKind.wrap .i64 (a7 - 1)) (ah.mk z85.lives z85.tag z85.key z85.text z85.attrs z85.kids a6)) none,aI w45 z43.freed]:=H87.sl [1,0,2] rfl rfl
      refine aj.nil ?_
      refine aC.seq ?_
      refine aC.region (eP E) rfl ?_
      refine aj.val rfl (au rfl) rfl ?_
      refine aj.nil ?_
      have hr:=Option.some.inj h
      subst hr
      exact aC.ret ⟨_,rfl,rfl,_,_,_,.refl _,(.refl _),⟨rfl,ws88,w45,rfl⟩,H90.sl [0,1,2] rfl rfl⟩
set_option maxRecDepth 20000 in
set_option maxHeartbeats 4000000 in
theorem qy (n:Nat) (a2:ay) (a6:Int) (a7:(List Attr)) (r:(Bool × ay)) (h:jG n a2 a6 a7=some r) (b1:Nat) (v3:AV) (ws4:List (List AV)) (w5:AV):dL R cfg.P 29 [.ptr b1 0 0,.d (.int .i64 a6),.d (.sl ((a7).map az) false)] [.box b1 [v3,w5],aA ae ah.kids 7 5 v3 ws4 a2.l none,aI w5 a2.freed] (fun v l=>v=.d (.bool r.1)∧∃ dws0 dw0,l=[.box b1 [v3,dw0],aA ae ah.kids 7 5 v3 dws0 r.2.l none,aI dw0 r.2.freed]):=by
 unfold jG at h
 refine dL.of_wp (C:=cfg) Try.func29 rfl MX rfl (fun B0 S0 H0=>?_)
 replace H0:Has B0 S0 [.box b1 [v3,w5],aA ae ah.kids 7 5 v3 ws4 a2.l none,aI w5 a2.freed]:=H0
 refine aC.seq ?_
 refine aC.region E.obj rfl ?_
 refine aj.val rfl (au rfl) rfl ?_
 refine aj.nil ?_
 refine aC.seq ?_
 refine aC.region E.obj rfl ?_
 refine aj.val rfl (aa rfl) rfl ?_
 refine aj.val rfl (aa rfl) rfl ?_
 obtain ⟨z8,hzz8,h⟩:=bind_some h
 refine aj.eF (ins:=[.box b1 [v3,w5],aA ae ah.kids 7 5 v3 ws4 a2.l none,aI w5 a2.freed]) (more:=[]) (H0.sl [0,1,2] rfl rfl) rfl (aH rfl rfl) (gT E n _ _ _ hzz8 b1 v3 ws4 w5) (.cons (.refl _) (.cons (.refl _) .nil)) rfl ?_
 rintro v9 S10 l11 hr12 H13
 rcases z8 with _ | _
 ·
  obtain ⟨rfl,rfl⟩:=hr12
  replace h:=dG rfl h
  replace H13:Has B0 S10 [.box b1 [v3,w5],aA ae ah.kids 7 5 v3 ws4 a2.l none,aI w5 a2.freed]:=H13
  have H14:Has B0 S10 [.box b1 [v3,w5],aA ae ah.kids 7 5 v3 ws4 a2.l none,aI w5 a2.freed]:=H13.sl [0,1,2] rfl rfl
  refine aj.val rfl (au rfl) rfl ?_
  refine aj.nil ?_
  refine aC.seq ?_
  refine aC.seq ?_
  refine aC.region E.obj rfl ?_
  refine aj.val rfl (aa rfl) rfl ?_
  refine aj.val rfl (aD rfl rfl (lH rJ)) rfl ?_
  refine aj.val rfl (aa rfl) rfl ?_
  refine aj.no rfl rfl ?_
  refine aj.no rfl rfl ?_
  refine aj.no rfl rfl ?_
  refine aj.no rfl rfl ?_
  refine aj.no rfl rfl ?_
  refine aj.val rfl (aB (b:=true) rfl rfl) rfl ?_
  refine aj.nil ?_
  refine aC.cond rfl (fun hb=>?_) (fun hb=>?_)
  ·
   refine aC.seq ?_
   refine aC.region E.obj rfl ?_
   refine aj.val rfl (au rfl) rfl ?_
   refine aj.nil ?_
   have hr:=Option.some.inj h
   subst hr
   exact aC.ret ⟨_,rfl,rfl,_,_,_,.refl _,(.refl _),⟨rfl,ws4,w5,rfl⟩,H14.sl [0,1,2] rfl rfl⟩
  ·
   cases hb
 ·
  obtain ⟨rfl,rfl⟩:=hr12
  replace h:=dE rfl h
  have H15:Has B0 S10 [.box b1 [v3,w5],aA ae ah.kids 7 5 v3 ws4 a2.l none,aI w5 a2.freed]:=H13.sl [0,1,2] rfl rfl
  refine aj.val rfl (au rfl) rfl ?_
  refine aj.nil ?_
  refine aC.seq ?_
  refine aC.seq ?_
  refine aC.region E.obj rfl ?_
  refine aj.val rfl (aa rfl) rfl ?_
  obtain ⟨z16,hzz16,h⟩:=bind_some h
  refine aj.val rfl (lN H15 (q:=1) rfl hzz16 rfl rfl rJ) rfl ?_
  refine aj.val rfl (aa rfl) rfl ?_
  refine aj.val rfl (aa rfl) rfl ?_
  refine aj.val rfl (bN H15 (q:=1) rfl hzz16 rfl) rfl ?_
  refine aj.val rfl (bE H15 (i:=1) rfl hzz16 rfl yH uY rfl) rfl ?_
  refine aj.j6 H15 rfl (q:=1) rfl hzz16 rfl tZ rfl rfl rfl ?_
  refine aj.val rfl (aD rfl rfl nR) rfl ?_
  refine aj.val rfl (aB (b:=false) rfl rfl) rfl ?_
  refine aj.nil ?_
  refine aC.cond rfl (fun hb17=>?_) (fun hb17=>?_)
  ·
   replace h:=dE hb17 h
   refine aC.seq ?_
   refine aC.region E.obj rfl ?_
   refine aj.val rfl (au rfl) rfl ?_
   refine aj.nil ?_
   have hr:=Option.some.inj h
   subst hr
   exact aC.ret ⟨_,rfl,rfl,_,_,_,.refl _,(.refl _),⟨rfl,ws4,w5,rfl⟩,H15.sl [0,1,2] rfl rfl⟩
  ·
   replace h:=dG hb17 h
   refine aC.skip ?_
   refine aC.seq ?_
   refine aC.region E.obj rfl ?_
   refine aj.val rfl (aa rfl) rfl ?_
   refine aj.val rfl (aa rfl) rfl ?_
   obtain ⟨z18,hzz18,h⟩:=bind_some h
   refine aj.ret rfl (aH rfl rfl) (fE E _ _ _ hzz18 _ _ (aQ.eq .nil)) rfl ?_
   refine aj.val rfl (bN H15 (q:=1) rfl hzz16 rfl) rfl ?_
   refine aj.val rfl (bE H15 (i:=1) rfl hzz16 rfl Fv DK rfl) rfl ?_
   have H22:Has B0 S10 ([aA ae ah.kids 7 5 v3 ws4 a2.l none] ++ [.box b1 [v3,w5],aI w5 a2.freed]):=H15.sl [1,0,2] rfl rfl
   replace H22:Has B0 S10 [aA ae ah.kids 7 5 v3 ws4 a2.l none,.box b1 [v3,w5],aI w5 a2.freed]:=H22
   refine aj.ru (z':=(ah.mk z16.lives z16.tag z16.key z16.text z18 z16.kids z16.parent)) H22 rfl hzz16 rfl rfl rfl rfl (.refl _) Mt ME rfl rfl rfl rfl rfl (fun ws21 S19 H20=>?_)
   have H23:Has B0 S19 [.box b1 [v3,w5],aA ae ah.kids 7 5 v3 ws21 (kE a2.l (IntKind.wrap .i64 (a6 - 1)) (ah.mk z16.lives z16.tag z16.key z16.text z18 z16.kids z16.parent)) none,aI w5 a2.freed]:=H20.sl [1,0,2] rfl rfl
   refine aj.nil ?_
   refine aC.seq ?_
   refine aC.region E.obj rfl ?_
   refine aj.val rfl (au rfl) rfl ?_
   refine aj.nil ?_
   have hr:=Option.some.inj h
   subst hr
   exact aC.ret ⟨_,rfl,rfl,_,_,_,.refl _,(.refl _),⟨rfl,ws21,w5,rfl⟩,H23.sl [0,1,2] rfl rfl⟩
set_option maxRecDepth 20000 in
set_option maxHeartbeats 4000000 in
theorem nM:∀ (n:Nat) (a2:ay) (a6:Tree) (r:(Int × ay)),iD n a2 a6=some r→∀ (b1:Nat) (v3:AV) (ws4:List (List AV)) (w5:AV),dL R cfg.P 39 [.ptr b1 0 0,.d (ak a6)] [.box b1 [v3,w5],aA ae ah.kids 7 5 v3 ws4 a2.l none,aI w5 a2.freed] (fun v l=>v=.d (.int .i64 r.1)∧∃ dv0 dws0 dw0,l=[.box b1 [dv0,dw0],aA ae ah.kids 7 5 dv0 dws0 r.2.l none,aI dw0 r.2.freed])
 | 0,a2,a6,r,h,b1,v3,ws4,w5=>by simp [iD] at h
 | n + 1,a2,a6,r,h,b1,v3,ws4,w5=>by
  have ih:=nM n
  unfold iD at h
  refine dL.of_wp (C:=cfg) Try.func39 rfl NW rfl (fun B0 S0 H0=>?_)
  replace H0:Has B0 S0 [.box b1 [v3,w5],aA ae ah.kids 7 5 v3 ws4 a2.l none,aI w5 a2.freed]:=H0
  refine aC.seq ?_
  refine aC.region E.obj rfl ?_
  refine aj.box H0 rfl rfl rfl (Tree.dN _) rfl (fun b7 S8 H9=>?_)
  refine aj.val rfl (au rfl) rfl ?_
  refine aj.nil ?_
  refine aC.seq ?_
  refine aC.seq ?_
  refine aC.region E.obj rfl ?_
  refine aj.val rfl (aF rfl qW uY rfl) rfl ?_
  refine aj.val rfl (aJ H9 (i:=0) rfl rfl (aU tZ rfl)) rfl ?_
  refine aj.val rfl (aD rfl rfl nR) rfl ?_
  refine aj.nil ?_
  refine aC.cond rfl (fun hb10=>?_) (fun hb10=>?_)
  ·
   replace h:=dE hb10 h
   refine aC.seq ?_
   refine aC.region E.obj rfl ?_
   refine aj.val rfl (aa rfl) rfl ?_
   refine aj.val rfl (aF rfl CV uY rfl) rfl ?_
   refine aj.val rfl (aJ H9 (i:=0) rfl rfl (aU tZ rfl)) rfl ?_
   obtain ⟨z11,hzz11,h⟩:=bind_some h
   refine aj.eF (ins:=[.box b1 [v3,w5],aA ae ah.kids 7 5 v3 ws4 a2.l none,aI w5 a2.freed]) (more:=[.box b7 [(.d (.str a6.Tag)),(.d (.str a6.Key)),(.d (.str a6.Text)),(.d (.sl ((a6.aL).map az) false)),(.d (.sl ((a6.Kids).map ak) false))]]) (H9.sl [1,2,3,0] rfl rfl) rfl (aH rfl rfl) (rD E n _ _ _ hzz11 b1 v3 ws4 w5) (.cons (.refl _) (.cons (.refl _) .nil)) rfl ?_
   rintro _ S15 _ ⟨rfl,v12,ws13,w14,rfl⟩ H16
   have H17:Has B0 S15 [.box b7 [(.d (.str a6.Tag)),(.d (.str a6.Key)),(.d (.str a6.Text)),(.d (.sl ((a6.aL).map az) false)),(.d (.sl ((a6.Kids).map ak) false))],.box b1 [v12,w14],aA ae ah.kids 7 5 v12 ws13 z11.2.l none,aI w14 z11.2.freed]:=H16.sl [3,0,1,2] rfl rfl
   refine aj.val rfl (au rfl) rfl ?_
   refine aj.nil ?_
   have hr:=Option.some.inj h
   subst hr
   exact aC.ret ⟨_,rfl,rfl,_,_,_,.refl _,(.refl _),⟨rfl,v12,ws13,w14,rfl⟩,H17.sl [1,2,3] rfl rfl⟩
  ·
   replace h:=dG hb10 h
   refine aC.skip ?_
   refine aC.seq ?_
   refine aC.region E.obj rfl ?_
   refine aj.val rfl (aa rfl) rfl ?_
   refine aj.val rfl (aF rfl qW uY rfl) rfl ?_
   refine aj.val rfl (aJ H9 (i:=0) rfl rfl (aU tZ rfl)) rfl ?_
   refine aj.val rfl (aF rfl uO uY rfl) rfl ?_
   refine aj.val rfl (aJ H9 (i:=0) rfl rfl (aU tZ rfl)) rfl ?_
   obtain ⟨z18,hzz18,h⟩:=bind_some h
   refine aj.eF (ins:=[.box b1 [v3,w5],aA ae ah.kids 7 5 v3 ws4 a2.l none,aI w5 a2.freed]) (more:=[.box b7 [(.d (.str a6.Tag)),(.d (.str a6.Key)),(.d (.str a6.Text)),(.d (.sl ((a6.aL).map az) false)),(.d (.sl ((a6.Kids).map ak) false))]]) (H9.sl [1,2,3,0] rfl rfl) rfl (aH rfl rfl) (ow E n _ _ _ _ hzz18 b1 v3 ws4 w5) (.cons (.refl _) (.cons (.refl _) (.cons (.refl _) .nil))) rfl ?_
   rintro _ S22 _ ⟨rfl,v19,ws20,w21,rfl⟩ H23
   have H24:Has B0 S22 [.box b7 [(.d (.str a6.Tag)),(.d (.str a6.Key)),(.d (.str a6.Text)),(.d (.sl ((a6.aL).map az) false)),(.d (.sl ((a6.Kids).map ak) false))],.box b1 [v19,w21],aA ae ah.kids 7 5 v19 ws20 z18.2.l none,aI w21 z18.2.freed]:=H23.sl [3,0,1,2] rfl rfl
   refine aj.val rfl (au rfl) rfl ?_
   refine aj.nil ?_
   refine aC.seq ?_
   refine aC.region E.obj rfl ?_
   refine aj.val rfl (aa rfl) rfl ?_
   refine aj.val rfl (aa rfl) rfl ?_
   refine aj.val rfl (aF rfl yU DK rfl) rfl ?_
   refine aj.val rfl (aJ H24 (i:=0) rfl rfl (aU HV rfl)) rfl ?_
   obtain ⟨z25,hzz25,h⟩:=bind_some h
   refine aj.eF (ins:=[.box b1 [v19,w21],aA ae ah.kids 7 5 v19 ws20 z18.2.l none,aI w21 z18.2.freed]) (more:=[.box b7 [(.d (.str a6.Tag)),(.d (.str a6.Key)),(.d (.str a6.Text)),(.d (.sl ((a6.aL).map az) false)),(.d (.sl ((a6.Kids).map ak) false))]]) (H24.sl [1,2,3,0] rfl rfl) rfl (aH rfl rfl) (qy E n _ _ _ _ hzz25 b1 v19 ws20 w21) (.cons (.refl _) (.cons (.refl _) (.cons (.refl _) .nil))) rfl ?_
   rintro _ S28 _ ⟨rfl,ws26,w27,rfl⟩ H29
   have H30:Has B0 S28 [.box b7 [(.d (.str a6.Tag)),(.d (.str a6.Key)),(.d (.str a6.Text)),(.d (.sl ((a6.aL).map az) false)),(.d (.sl ((a6.Kids).map ak) false))],.box b1 [v19,w27],aA ae ah.kids 7 5 v19 ws26 z25.2.l none,aI w27 z25.2.freed]:=H29.sl [3,0,1,2] rfl rfl
   refine aj.nil ?_
   refine aC.seq ?_
   refine aC.seq ?_
   refine aC.region E.obj rfl ?_
   refine aj.val rfl (aF rfl jV rT rfl) rfl ?_
   refine aj.val rfl (aJ H30 (i:=0) rfl rfl (aU uW rfl)) rfl ?_
   refine aj.val rfl (bu rfl AO) rfl ?_
   refine aj.val rfl (aa rfl) rfl ?_
   refine aj.nil ?_
   refine aC.block ?_
   refine qd.start (B:=B0) (α:=ay × AV × (List (List AV)) × AV × Int) (fun k a=>gP n (iD n) a6 z18 k a.1 a.2.2.2.2=some r) (fun a=>[(0,(.ptr b1 0 0)),(5,(.d (.int .i64 z18.1))),(27,(.d (.sl ((a6.Kids).map ak) false))),(28,(.d (.int .i64 ((a6.Kids).length:Int)))),(29,(.d (.int .i64 a.2.2.2.2)))]) (fun a=>[.box b1 [a.2.1,a.2.2.2.1],aA ae ah.kids 7 5 a.2.1 a.2.2.1 a.1.l none,aI a.2.2.2.1 a.1.freed]) ?_ ?_ n ⟨⟨z25.2,v19,ws26,w27,0⟩,_,_,S28,.refl _ _,.refl _,(ai.r rfl (ai.r rfl (ai.r rfl (ai.r rfl (ai.r rfl ai.nil))))),H30.sl [1,2,3] rfl rfl,h⟩
   ·
    intro a h; simp [gP] at h
   ·
    intro k47 a S40 H41 h
    obtain ⟨x42,v45,ws43,w44,x46⟩:=a
    replace h:gP n (iD n) a6 z18 (k47 + 1) x42 x46=some r:=h
    replace H41:Has B0 S40 [.box b1 [v45,w44],aA ae ah.kids 7 5 v45 ws43 x42.l none,aI w44 x42.freed]:=H41
    unfold gP at h
    refine aC.seq ?_
    refine aC.region E.obj rfl ?_
    refine aj.val rfl (aD rfl rfl dO) rfl ?_
    refine aj.nil ?_
    refine aC.seq ?_
    refine aC.cond rfl (fun hb48=>?_) (fun hb48=>?_)
    ·
     replace h:=dE hb48 h
     refine aC.skip ?_
     refine aC.seq ?_
     refine aC.block ?_
     refine aC.seq ?_
     refine aC.region E.obj rfl ?_
     refine aj.val rfl (aa rfl) rfl ?_
     obtain ⟨z49,hzz49,h⟩:=bind_some h
     refine aj.val rfl (bA rfl rfl (bS (enc:=ak) hzz49 qb kF ((Tree.len _).trans bY.symm))) rfl ?_
     refine aj.val rfl (aW rfl (Tree.rF fA bY)) rfl ?_
     refine aj.alloc H41 rfl qo jv rfl rfl (fun b50 S51 H52=>?_)
     refine aj.val rfl (au rfl) rfl ?_
     refine aj.store H52 (i:=0) rfl rfl rfl rfl (Tree.dN _) rfl bY rfl kF rfl rfl rfl (fun S53 H54=>?_)
     refine aj.nil ?_
     refine aC.region E.obj rfl ?_
     refine aj.val rfl (aa rfl) rfl ?_
     refine aj.val rfl (aa rfl) rfl ?_
     refine aj.val rfl (aa rfl) rfl ?_
     refine aj.val rfl (aJ H54 (i:=0) rfl rfl (aZ fA bY rfl)) rfl ?_
     refine aj.less (Less.agg' (d:=ak z49) (ax.eq rfl (ax.eq rfl (ax.eq rfl (ax.eq rfl (ax.eq rfl .nil))))) ((Tree.eq _).trans rfl)) ?_
     obtain ⟨z55,hzz55,h⟩:=bind_some h
     refine aj.eF (ins:=[.box b1 [v45,w44],aA ae ah.kids 7 5 v45 ws43 x42.l none,aI w44 x42.freed]) (more:=[.box b50 [(.d (.str z49.Tag)),(.d (.str z49.Key)),(.d (.str z49.Text)),(.d (.sl ((z49.aL).map az) false)),(.d (.sl ((z49.Kids).map ak) false))]]) (H54.sl [1,2,3,0] rfl rfl) rfl (aH rfl rfl) (ih _ _ _ hzz55 b1 v45 ws43 w44) (.cons (.refl _) (.cons (.refl _) .nil)) rfl ?_
     rintro _ S59 _ ⟨rfl,v56,ws57,w58,rfl⟩ H60
     have H61:Has B0 S59 [.box b50 [(.d (.str z49.Tag)),(.d (.str z49.Key)),(.d (.str z49.Text)),(.d (.sl ((z49.aL).map az) false)),(.d (.sl ((z49.Kids).map ak) false))],.box b1 [v56,w58],aA ae ah.kids 7 5 v56 ws57 z55.2.l none,aI w58 z55.2.freed]:=H60.sl [3,0,1,2] rfl rfl
     refine aj.val rfl (aa rfl) rfl ?_
     obtain ⟨z62,hzz62,h⟩:=bind_some h
     refine aj.eF (ins:=[.box b1 [v56,w58],aA ae ah.kids 7 5 v56 ws57 z55.2.l none,aI w58 z55.2.freed]) (more:=[.box b50 [(.d (.str z49.Tag)),(.d (.str z49.Key)),(.d (.str z49.Text)),(.d (.sl ((z49.aL).map az) false)),(.d (.sl ((z49.Kids).map ak) false))]]) (H61.sl [1,2,3,0] rfl rfl) rfl (aH rfl rfl) (lI E n _ _ _ _ _ hzz62 b1 v56 ws57 w58) (.cons (.refl _) (.cons (.refl _) (.cons (.refl _) (.cons (.refl _) .nil)))) rfl ?_
     rintro _ S65 _ ⟨rfl,ws63,mf,rfl⟩ H66
     have H67:Has B0 S65 [.box b50 [(.d (.str z49.Tag)),(.d (.str z49.Key)),(.d (.str z49.Text)),(.d (.sl ((z49.aL).map az) false)),(.d (.sl ((z49.Kids).map ak) false))],.box b1 [v56,mf],aA ae ah.kids 7 5 v56 ws63 z62.2.l none,aI mf z62.2.freed]:=H66.sl [3,0,1,2] rfl rfl
     refine aj.nil ?_
     refine aC.region E.obj rfl ?_
     refine aj.val rfl (aD rfl rfl dx) rfl ?_
     refine aj.val rfl (aa rfl) rfl ?_
     refine aj.nil ?_
     exact ⟨⟨z62.2,v56,ws63,mf,(IntKind.wrap .i64 (x46 + 1))⟩,_,_,S65,.refl _ _,.refl _,(ai.r rfl (ai.r rfl (ai.r rfl (ai.r rfl (ai.r rfl ai.nil))))),H67.sl [1,2,3] rfl rfl,h⟩
    ·
     replace h:=dG hb48 h
     refine aC.exit ?_
     refine aC.seq ?_
     refine aC.region E.obj rfl ?_
     refine aj.val rfl (aa rfl) rfl ?_
     refine aj.val rfl (au rfl) rfl ?_
     refine aj.nil ?_
     have hr:=Option.some.inj h
     subst hr
     exact aC.ret ⟨_,rfl,rfl,_,_,_,.refl _,(.refl _),⟨rfl,v45,ws43,w44,rfl⟩,H41.sl [0,1,2] rfl rfl⟩
set_option maxRecDepth 20000 in
set_option maxHeartbeats 4000000 in
theorem yV (n:Nat) (a2:ay) (a6:Int) (a7:Str) (r:(Bool × ay)) (h:mY n a2 a6 a7=some r) (b1:Nat) (v3:AV) (ws4:List (List AV)) (w5:AV):dL R cfg.P 31 [.ptr b1 0 0,.d (.int .i64 a6),.d (.str a7)] [.box b1 [v3,w5],aA ae ah.kids 7 5 v3 ws4 a2.l none,aI w5 a2.freed] (fun v l=>v=.d (.bool r.1)∧∃ dws0 dw0,l=[.box b1 [v3,dw0],aA ae ah.kids 7 5 v3 dws0 r.2.l none,aI dw0 r.2.freed]):=by
 unfold mY at h
 refine dL.of_wp (C:=cfg) Try.func31 rfl Om rfl (fun B0 S0 H0=>?_)
 replace H0:Has B0 S0 [.box b1 [v3,w5],aA ae ah.kids 7 5 v3 ws4 a2.l none,aI w5 a2.freed]:=H0
 refine aC.seq ?_
 refine aC.region E.obj rfl ?_
 refine aj.val rfl (au rfl) rfl ?_
 refine aj.nil ?_
 refine aC.seq ?_
 refine aC.region E.obj rfl ?_
 refine aj.val rfl (aa rfl) rfl ?_
 refine aj.val rfl (aa rfl) rfl ?_
 obtain ⟨z8,hzz8,h⟩:=bind_some h
 refine aj.eF (ins:=[.box b1 [v3,w5],aA ae ah.kids 7 5 v3 ws4 a2.l none,aI w5 a2.freed]) (more:=[]) (H0.sl [0,1,2] rfl rfl) rfl (aH rfl rfl) (gT E n _ _ _ hzz8 b1 v3 ws4 w5) (.cons (.refl _) (.cons (.refl _) .nil)) rfl ?_
 rintro v9 S10 l11 hr12 H13
 rcases z8 with _ | _
 ·
  obtain ⟨rfl,rfl⟩:=hr12
  replace h:=dG rfl h
  replace H13:Has B0 S10 [.box b1 [v3,w5],aA ae ah.kids 7 5 v3 ws4 a2.l none,aI w5 a2.freed]:=H13
  have H14:Has B0 S10 [.box b1 [v3,w5],aA ae ah.kids 7 5 v3 ws4 a2.l none,aI w5 a2.freed]:=H13.sl [0,1,2] rfl rfl
  refine aj.val rfl (au rfl) rfl ?_
  refine aj.nil ?_
  refine aC.seq ?_
  refine aC.seq ?_
  refine aC.region E.obj rfl ?_
  refine aj.val rfl (aa rfl) rfl ?_
  refine aj.val rfl (aD rfl rfl (lH rJ)) rfl ?_
  refine aj.val rfl (aa rfl) rfl ?_
  refine aj.no rfl rfl ?_
  refine aj.no rfl rfl ?_
  refine aj.no rfl rfl ?_
  refine aj.no rfl rfl ?_
  refine aj.no rfl rfl ?_
  refine aj.val rfl (aB (b:=true) rfl rfl) rfl ?_
  refine aj.nil ?_
  refine aC.cond rfl (fun hb=>?_) (fun hb=>?_)
  ·
   refine aC.seq ?_
   refine aC.region E.obj rfl ?_
   refine aj.val rfl (au rfl) rfl ?_
   refine aj.nil ?_
   have hr:=Option.some.inj h
   subst hr
   exact aC.ret ⟨_,rfl,rfl,_,_,_,.refl _,(.refl _),⟨rfl,ws4,w5,rfl⟩,H14.sl [0,1,2] rfl rfl⟩
  ·
   cases hb
 ·
  obtain ⟨rfl,rfl⟩:=hr12
  replace h:=dE rfl h
  have H15:Has B0 S10 [.box b1 [v3,w5],aA ae ah.kids 7 5 v3 ws4 a2.l none,aI w5 a2.freed]:=H13.sl [0,1,2] rfl rfl
  refine aj.val rfl (au rfl) rfl ?_
  refine aj.nil ?_
  refine aC.seq ?_
  refine aC.seq ?_
  refine aC.region E.obj rfl ?_
  refine aj.val rfl (aa rfl) rfl ?_
  obtain ⟨z16,hzz16,h⟩:=bind_some h
  refine aj.val rfl (lN H15 (q:=1) rfl hzz16 rfl rfl rJ) rfl ?_
  refine aj.val rfl (aa rfl) rfl ?_
  refine aj.val rfl (aa rfl) rfl ?_
  refine aj.val rfl (bN H15 (q:=1) rfl hzz16 rfl) rfl ?_
  refine aj.val rfl (bE H15 (i:=1) rfl hzz16 rfl yH uY rfl) rfl ?_
  refine aj.j6 H15 rfl (q:=1) rfl hzz16 rfl tZ rfl rfl rfl ?_
  refine aj.val rfl (aD rfl rfl nX) rfl ?_
  refine aj.val rfl (aB (b:=false) rfl rfl) rfl ?_
  refine aj.nil ?_
  refine aC.cond rfl (fun hb17=>?_) (fun hb17=>?_)
  ·
   replace h:=dE hb17 h
   refine aC.seq ?_
   refine aC.region E.obj rfl ?_
   refine aj.val rfl (au rfl) rfl ?_
   refine aj.nil ?_
   have hr:=Option.some.inj h
   subst hr
   exact aC.ret ⟨_,rfl,rfl,_,_,_,.refl _,(.refl _),⟨rfl,ws4,w5,rfl⟩,H15.sl [0,1,2] rfl rfl⟩
  ·
   replace h:=dG hb17 h
   refine aC.skip ?_
   refine aC.seq ?_
   refine aC.region E.obj rfl ?_
   refine aj.val rfl (aa rfl) rfl ?_
   refine aj.val rfl (aa rfl) rfl ?_
   refine aj.val rfl (bN H15 (q:=1) rfl hzz16 rfl) rfl ?_
   refine aj.val rfl (bE H15 (i:=1) rfl hzz16 rfl Fu uY rfl) rfl ?_
   have H21:Has B0 S10 ([aA ae ah.kids 7 5 v3 ws4 a2.l none] ++ [.box b1 [v3,w5],aI w5 a2.freed]):=H15.sl [1,0,2] rfl rfl
   replace H21:Has B0 S10 [aA ae ah.kids 7 5 v3 ws4 a2.l none,.box b1 [v3,w5],aI w5 a2.freed]:=H21
   refine aj.ru (z':=(ah.mk z16.lives z16.tag z16.key a7 z16.attrs z16.kids z16.parent)) H21 rfl hzz16 rfl rfl rfl rfl (.refl _) Lt MN rfl rfl rfl rfl rfl (fun ws20 S18 H19=>?_)
   have H22:Has B0 S18 [.box b1 [v3,w5],aA ae ah.kids 7 5 v3 ws20 (kE a2.l (IntKind.wrap .i64 (a6 - 1)) (ah.mk z16.lives z16.tag z16.key a7 z16.attrs z16.kids z16.parent)) none,aI w5 a2.freed]:=H19.sl [1,0,2] rfl rfl
   refine aj.nil ?_
   refine aC.seq ?_
   refine aC.region E.obj rfl ?_
   refine aj.val rfl (au rfl) rfl ?_
   refine aj.nil ?_
   have hr:=Option.some.inj h
   subst hr
   exact aC.ret ⟨_,rfl,rfl,_,_,_,.refl _,(.refl _),⟨rfl,ws20,w5,rfl⟩,H22.sl [0,1,2] rfl rfl⟩
set_option maxRecDepth 20000 in
set_option maxHeartbeats 4000000 in
theorem kU (n:Nat) (a1:Tree) (r:aY) (h:oM n a1=some r):fw R cfg.P 80 [(ak a1)] (.d (aN r)):=by
 unfold oM at h
 refine fw.of_wp E.obj.toObjOk (C:=cfg) Try.func80 rfl NG rfl ?_
 have H0:Has aK aK []:=Has.pure
 refine aC.seq ?_
 refine aC.region E.obj rfl ?_
 refine aj.box H0 rfl rfl rfl (Tree.dN _) rfl (fun b2 S3 H4=>?_)
 refine aj.alloc H4 rfl Mq KR rfl rfl (fun b5 S6 H7=>?_)
 refine aj.nil ?_
 refine aC.seq ?_
 refine aC.region E.obj rfl ?_
 refine aj.val rfl (aF rfl qW uY rfl) rfl ?_
 refine aj.val rfl (aJ H7 (i:=1) rfl rfl (aU tZ rfl)) rfl ?_
 refine aj.val rfl (aF rfl uO uY rfl) rfl ?_
 refine aj.val rfl (aJ H7 (i:=1) rfl rfl (aU tZ rfl)) rfl ?_
 refine aj.val rfl (fu (cs:=[(.d (.str a1.Tag)),(.d (.str a1.Key))]) KR rfl (yj) (jl rfl rfl rfl rfl (jl rfl rfl rfl rfl rfl))) rfl ?_
 refine aj.less (Less.agg' (d:=aN (aY.mk a1.Tag a1.Key)) (ax.eq rfl (ax.eq rfl .nil)) ((aY.eq _).trans rfl)) ?_
 refine aj.store H7 (i:=0) rfl rfl rfl rfl (aY.dN _) rfl KM rfl Mf rfl rfl rfl (fun S8 H9=>?_)
 refine aj.nil ?_
 have hr:=Option.some.inj h
 subst hr
 exact aC.ret ⟨_,mH H9 (i:=0) rfl rfl rfl (aZ MB KM rfl),rfl,jW (aQ.lV (d:=aN (aY.mk a1.Tag a1.Key)) (ax.eq rfl (ax.eq rfl .nil)) ((aY.eq _).trans rfl))⟩
set_option maxRecDepth 20000 in
set_option maxHeartbeats 4000000 in
theorem ui (n:Nat) (a1:(List Tree)) (a2:(List Tree)) (r:(List Int)) (h:mq n a1 a2=some r):fw R cfg.P 44 [(.sl ((a1).map ak) false),(.sl ((a2).map ak) false)] (.d (.sl ((r).map (D.int .i64)) false)):=by
 unfold mq at h
 refine fw.of_wp (eP E).toObjOk (C:=rA) Try.func44 rfl Ob rfl ?_
 have H0:Has aK aK []:=Has.pure
 refine aC.seq ?_
 refine aC.region (eP E) rfl ?_
 refine aj.val rfl (au rfl) rfl ?_
 refine aj.nil ?_
 refine aC.seq ?_
 refine aC.region (eP E) rfl ?_
 refine aj.makeMap aN (D.int .i64) H0 rfl tu rfl (fun b3 S4 H5=>?_)
 have H6:=Has.NU (ek:=aN) rfl H5
 have H7:Has aK S4 [dI aN b3 [] [] true none]:=H6.sl [0] rfl rfl
 refine aj.val rfl (au rfl) rfl ?_
 refine aj.nil ?_
 refine aC.seq ?_
 refine aC.seq ?_
 refine aC.region (eP E) rfl ?_
 refine aj.val rfl (aa rfl) rfl ?_
 refine aj.val rfl (bu rfl AO) rfl ?_
 refine aj.val rfl (aa rfl) rfl ?_
 refine aj.nil ?_
 refine aC.block ?_
 refine qd.start (B:=aK) (α:=(List (aY × List Int)) × (List AV) × Int) (fun k a=>fO n a1 a2 k a.1 a.2.2=some r) (fun a=>[(1,(.d (.sl ((a2).map ak) false))),(5,(.map b3)),(13,(.d (.sl ((a1).map ak) false))),(14,(.d (.int .i64 ((a1).length:Int)))),(15,(.d (.int .i64 a.2.2)))]) (fun a=>[dI aN b3 a.1 a.2.1 true none]) ?_ ?_ n ⟨⟨[],[],0⟩,_,_,S4,.refl _ _,.refl _,(ai.r rfl (ai.r rfl (ai.r rfl (ai.r rfl (ai.r rfl ai.nil))))),H7.sl [0] rfl rfl,h⟩
 ·
  intro a h; simp [fO] at h
 ·
  intro k20 a S15 H16 h
  obtain ⟨x17,ws18,x19⟩:=a
  replace h:fO n a1 a2 (k20 + 1) x17 x19=some r:=h
  replace H16:Has aK S15 [dI aN b3 x17 ws18 true none]:=H16
  unfold fO at h
  refine aC.seq ?_
  refine aC.region (eP E) rfl ?_
  refine aj.val rfl (aD rfl rfl dO) rfl ?_
  refine aj.nil ?_
  refine aC.seq ?_
  refine aC.cond rfl (fun hb21=>?_) (fun hb21=>?_)
  ·
   replace h:=dE hb21 h
   refine aC.skip ?_
   refine aC.seq ?_
   refine aC.block ?_
   refine aC.seq ?_
   refine aC.region (eP E) rfl ?_
   refine aj.val rfl (aa rfl) rfl ?_
   obtain ⟨z22,hzz22,h⟩:=bind_some h
   refine aj.val rfl (bA rfl rfl (bS (enc:=ak) hzz22 qb kF ((Tree.len _).trans bY.symm))) rfl ?_
   refine aj.val rfl (aW rfl (Tree.rF fA bY)) rfl ?_
   refine aj.alloc H16 rfl I7 jv rfl rfl (fun b23 S24 H25=>?_)
   refine aj.val rfl (au rfl) rfl ?_
   refine aj.store H25 (i:=0) rfl rfl rfl rfl (Tree.dN _) rfl bY rfl kF rfl rfl rfl (fun S26 H27=>?_)
   refine aj.nil ?_
   obtain ⟨z28,hzz28,h⟩:=bind_some h
   obtain ⟨z36,hzz36,h⟩:=bind_some h
   refine aC.gG (eP E) jr OV [(1,none),(5,none),(13,none),(14,none),(15,none)] (by kernel_rfl) [8,9,10] (by decide) [some (.map b3),some (.d (ak z22)),some (.d (aN z28)),some (.map b3),some (.d (ak z22)),some (.d (aN z28)),some (mw x17 ws18 z28),some (.d (.int .i64 x19)),none,none,none] ?_
   refine ⟨[0,1,2,3,4,5,6,7],by kernel_rfl,?_,_,_,rfl,rfl,.step ?_⟩
   ·
    refine .v rfl rfl rfl rfl (aa rfl) ?_
    refine .cons rfl rfl rfl (.step ?_) ?_
    ·
     refine aj.val rfl (aJ H27 (i:=0) rfl rfl (aZ fA bY rfl)) rfl ?_
     refine aj.less (Less.agg' (d:=ak z22) (ax.eq rfl (ax.eq rfl (ax.eq rfl (ax.eq rfl (ax.eq rfl .nil))))) ((Tree.eq _).trans rfl)) ?_
     exact aj.nil ⟨_,_,rfl,fun _ ht=>by cases ht; exact ⟨rfl,.refl _⟩⟩
    refine .cons rfl rfl rfl (.step ?_) ?_
    ·
     refine aj.ret rfl (aH rfl rfl) (kU E _ _ _ hzz28 _ _ (aQ.eq .nil)) rfl ?_
     exact aj.nil ⟨_,_,rfl,fun _ ht=>by cases ht; exact ⟨rfl,.refl _⟩⟩
    refine .v rfl rfl rfl rfl (aa rfl) ?_
    refine .cons rfl rfl rfl (.step ?_) ?_
    ·
     refine aj.val rfl (aJ H27 (i:=0) rfl rfl (aZ fA bY rfl)) rfl ?_
     refine aj.less (Less.agg' (d:=ak z22) (ax.eq rfl (ax.eq rfl (ax.eq rfl (ax.eq rfl (ax.eq rfl .nil))))) ((Tree.eq _).trans rfl)) ?_
     exact aj.nil ⟨_,_,rfl,fun _ ht=>by cases ht; exact ⟨rfl,.refl _⟩⟩
    refine .cons rfl rfl rfl (.step ?_) ?_
    ·
     refine aj.ret rfl (aH rfl rfl) (kU E _ _ _ hzz28 _ _ (aQ.eq .nil)) rfl ?_
     exact aj.nil ⟨_,_,rfl,fun _ ht=>by cases ht; exact ⟨rfl,.refl _⟩⟩
    refine .v rfl rfl rfl rfl (rz H27 (q:=1) rfl rfl rfl tu zF LA) ?_
    refine .v rfl rfl rfl rfl (aa rfl) ?_
    exact .nil
   refine aj.qA (vs:=[(.d (.int .i64 x19))]) (cs:=[[(.d (.int .i64 x19))]]) H27 rfl pR fH pz Ie kH rfl (by decide) (.cons rfl rfl .nil) rfl rfl rfl (fun v47 S48 H49=>?_)
   have H50:Has aK S48 [gN 1 1 v47 [(.d (.int .i64 x19))],.box b23 [(.d (.str z22.Tag)),(.d (.str z22.Key)),(.d (.str z22.Text)),(.d (.sl ((z22.aL).map az) false)),(.d (.sl ((z22.Kids).map ak) false))],dI aN b3 x17 ws18 true none]:=H49.sl [0,1,2] rfl rfl
   refine aj.nil ⟨_,_,_,rfl,(fun _ ht=>by cases ht; rfl),[some (.map b3),some (.d (ak z22)),some (.d (aN z28)),some (.map b3),some (.d (ak z22)),some (.d (aN z28)),some (mw x17 ws18 z28),some (.d (.int .i64 x19)),some v47,none,none],(.o (.o (.o (.o (.o (.o (.o (.o (.new (.new (.new .nil))))))))))),(fun _ ht=>by cases ht; exact ⟨_,rfl,.refl _⟩),?_⟩
   refine ⟨[0,1,2,3,4,5,6],by kernel_rfl,?_,_,_,rfl,rfl,.step ?_⟩
   ·
    refine .v rfl rfl rfl rfl (aa rfl) ?_
    refine .cons rfl rfl rfl (.step ?_) ?_
    ·
     refine aj.val rfl (aJ H50 (i:=1) rfl rfl (aZ fA bY rfl)) rfl ?_
     refine aj.less (Less.agg' (d:=ak z22) (ax.eq rfl (ax.eq rfl (ax.eq rfl (ax.eq rfl (ax.eq rfl .nil))))) ((Tree.eq _).trans rfl)) ?_
     exact aj.nil ⟨_,_,rfl,fun _ ht=>by cases ht; exact ⟨rfl,.refl _⟩⟩
    refine .cons rfl rfl rfl (.step ?_) ?_
    ·
     refine aj.ret rfl (aH rfl rfl) (kU E _ _ _ hzz28 _ _ (aQ.eq .nil)) rfl ?_
     exact aj.nil ⟨_,_,rfl,fun _ ht=>by cases ht; exact ⟨rfl,.refl _⟩⟩
    refine .v rfl rfl rfl rfl (aa rfl) ?_
    refine .cons rfl rfl rfl (.step ?_) ?_
    ·
     refine aj.val rfl (aJ H50 (i:=1) rfl rfl (aZ fA bY rfl)) rfl ?_
     refine aj.less (Less.agg' (d:=ak z22) (ax.eq rfl (ax.eq rfl (ax.eq rfl (ax.eq rfl (ax.eq rfl .nil))))) ((Tree.eq _).trans rfl)) ?_
     exact aj.nil ⟨_,_,rfl,fun _ ht=>by cases ht; exact ⟨rfl,.refl _⟩⟩
    refine .cons rfl rfl rfl (.step ?_) ?_
    ·
     refine aj.ret rfl (aH rfl rfl) (kU E _ _ _ hzz28 _ _ (aQ.eq .nil)) rfl ?_
     exact aj.nil ⟨_,_,rfl,fun _ ht=>by cases ht; exact ⟨rfl,.refl _⟩⟩
    refine .v rfl rfl rfl rfl (rz H50 (q:=2) rfl rfl rfl tu zF LA) ?_
    exact .nil
   have H51:Has aK S48 ([dI aN b3 x17 ws18 true none] ++ [gN 1 1 v47 [(.d (.int .i64 x19))],.box b23 [(.d (.str z22.Tag)),(.d (.str z22.Key)),(.d (.str z22.Text)),(.d (.sl ((z22.aL).map az) false)),(.d (.sl ((z22.Kids).map ak) false))]]):=H50.sl [2,0,1] rfl rfl
   replace H51:Has aK S48 [dI aN b3 x17 ws18 true none,gN 1 1 v47 [(.d (.int .i64 x19))],.box b23 [(.d (.str z22.Tag)),(.d (.str z22.Key)),(.d (.str z22.Text)),(.d (.sl ((z22.aL).map az) false)),(.d (.sl ((z22.Kids).map ak) false))]]:=H51
   have H52:=Has.L8 H51 z28
   have H53:Has aK S48 [aI (mw x17 ws18 z28) (iT x17 z28 []),gN 1 1 v47 [(.d (.int .i64 x19))],.box b23 [(.d (.str z22.Tag)),(.d (.str z22.Key)),(.d (.str z22.Text)),(.d (.sl ((z22.aL).map az) false)),(.d (.sl ((z22.Kids).map ak) false))],dI aN b3 x17 ws18 true (yx x17 z28)]:=H52.sl [0,2,3,1] rfl rfl
   have H54:Has aK S48 ([gN 1 1 v47 [(.d (.int .i64 x19))],aI (mw x17 ws18 z28) (iT x17 z28 [])] ++ [.box b23 [(.d (.str z22.Tag)),(.d (.str z22.Key)),(.d (.str z22.Text)),(.d (.sl ((z22.aL).map az) false)),(.d (.sl ((z22.Kids).map ak) false))],dI aN b3 x17 ws18 true (yx x17 z28)]):=H53.sl [1,0,2,3] rfl rfl
   replace H54:Has aK S48 [gN 1 1 v47 [(.d (.int .i64 x19))],aI (mw x17 ws18 z28) (iT x17 z28 []),.box b23 [(.d (.str z22.Tag)),(.d (.str z22.Key)),(.d (.str z22.Text)),(.d (.sl ((z22.aL).map az) false)),(.d (.sl ((z22.Kids).map ak) false))],dI aN b3 x17 ws18 true (yx x17 z28)]:=H54
   refine aj.BJ H54 rfl rfl rfl pR zI fH kH hzz36 KO rfl Es rfl (fun w55 S56 H57=>?_)
   have H58:Has aK S56 [aI w55 z36,.box b23 [(.d (.str z22.Tag)),(.d (.str z22.Key)),(.d (.str z22.Text)),(.d (.sl ((z22.aL).map az) false)),(.d (.sl ((z22.Kids).map ak) false))],dI aN b3 x17 ws18 true (yx x17 z28)]:=H57.sl [0,1,2] rfl rfl
   refine aj.nil ⟨_,_,_,rfl,(fun _ ht=>by cases ht; rfl),[some (.map b3),some (.d (ak z22)),some (.d (aN z28)),some (.map b3),some (.d (ak z22)),some (.d (aN z28)),some (mw x17 ws18 z28),some (.d (.int .i64 x19)),some v47,some w55,none],(.o (.o (.o (.o (.o (.o (.o (.o (.o (.new (.new .nil))))))))))),(fun _ ht=>by cases ht; exact ⟨_,rfl,.refl _⟩),?_⟩
   refine ⟨[0],by kernel_rfl,?_,_,_,rfl,rfl,.step ?_⟩
   ·
    refine .v rfl rfl rfl rfl (aa rfl) ?_
    exact .nil
   have H62:Has aK S56 ([aI w55 z36,dI aN b3 x17 ws18 true (yx x17 z28)] ++ [.box b23 [(.d (.str z22.Tag)),(.d (.str z22.Key)),(.d (.str z22.Text)),(.d (.sl ((z22.aL).map az) false)),(.d (.sl ((z22.Kids).map ak) false))]]):=H58.sl [0,2,1] rfl rfl
   replace H62:Has aK S56 [aI w55 z36,dI aN b3 x17 ws18 true (yx x17 z28),.box b23 [(.d (.str z22.Tag)),(.d (.str z22.Key)),(.d (.str z22.Text)),(.d (.sl ((z22.aL).map az) false)),(.d (.sl ((z22.Kids).map ak) false))]]:=H62
   refine aj.Kc H62 rfl rfl rfl rfl tu zF (fun ws59 S60 H61=>?_)
   have H63:Has aK S60 [.box b23 [(.d (.str z22.Tag)),(.d (.str z22.Key)),(.d (.str z22.Text)),(.d (.sl ((z22.aL).map az) false)),(.d (.sl ((z22.Kids).map ak) false))],dI aN b3 (jZ x17 z28 z36) ws59 true none]:=H61.sl [1,0] rfl rfl
   refine aj.nil ⟨_,.any,_,rfl,(fun _ ht=>by cases ht),[some (.map b3),some (.d (ak z22)),some (.d (aN z28)),some (.map b3),some (.d (ak z22)),some (.d (aN z28)),some (mw x17 ws18 z28),some (.d (.int .i64 x19)),some v47,some w55,some .any],(.o (.o (.o (.o (.o (.o (.o (.o (.o (.o (.new .nil))))))))))),(fun _ ht=>by cases ht),?_⟩
   refine ⟨[],by kernel_rfl,?_,_,rfl,?_⟩
   ·
    exact .nil
   refine aC.region (eP E) rfl ?_
   refine aj.val rfl (aD rfl rfl dx) rfl ?_
   refine aj.val rfl (aa rfl) rfl ?_
   refine aj.nil ?_
   exact ⟨⟨(jZ x17 z28 z36),ws59,(IntKind.wrap .i64 (x19 + 1))⟩,_,_,S60,.refl _ _,.refl _,(ai.r rfl (ai.r rfl (ai.r rfl (ai.r rfl (ai.r rfl ai.nil))))),H63.sl [1] rfl rfl,h⟩
  ·
   replace h:=dG hb21 h
   refine aC.exit ?_
   refine aC.seq ?_
   refine aC.region (eP E) rfl ?_
   refine aj.val rfl (au rfl) rfl ?_
   refine aj.nil ?_
   refine aC.seq ?_
   refine aC.seq ?_
   refine aC.region (eP E) rfl ?_
   refine aj.val rfl (aa rfl) rfl ?_
   refine aj.val rfl (bu rfl AO) rfl ?_
   refine aj.val rfl (aa rfl) rfl ?_
   refine aj.nil ?_
   refine aC.block ?_
   have H64:Has aK S15 ([dI aN b3 x17 ws18 true none] ++ []):=H16.sl [0] rfl rfl
   replace H64:Has aK S15 [dI aN b3 x17 ws18 true none]:=H64
   have H65:=Has.MO H64
   have H66:Has aK S15 [dI aN b3 x17 ws18 false none]:=H65.sl [0] rfl rfl
   have H133:=H66.MH 1
   refine qd.start (B:=aK) (α:=(List (aY × List Int)) × (List AV) × (List Int) × AV × Int) (fun k a=>dW n a2 k a.1 a.2.2.1 a.2.2.2.2=some r) (fun a=>[(5,(.map b3)),(8,a.2.2.2.1),(31,(.d (.sl ((a2).map ak) false))),(32,(.d (.int .i64 ((a2).length:Int)))),(33,(.d (.int .i64 a.2.2.2.2)))]) (fun a=>[dI aN b3 a.1 a.2.1 false none,.row 1 a.2.2.2.1 ((a.2.2.1).map (D.int .i64))]) ?_ ?_ n ⟨⟨x17,ws18,[],(.d .aS),0⟩,_,_,S15,.refl _ _,.refl _,(ai.r rfl (ai.r rfl (ai.r rfl (ai.r rfl (ai.r rfl ai.nil))))),H133.sl [1,0] rfl rfl,h⟩
   ·
    intro a h; simp [dW] at h
   ·
    intro k83 a S76 H77 h
    obtain ⟨x78,ws79,x80,v81,x82⟩:=a
    replace h:dW n a2 (k83 + 1) x78 x80 x82=some r:=h
    replace H77:Has aK S76 [dI aN b3 x78 ws79 false none,.row 1 v81 ((x80).map (D.int .i64))]:=H77
    unfold dW at h
    refine aC.seq ?_
    refine aC.region (eP E) rfl ?_
    refine aj.val rfl (aD rfl rfl dO) rfl ?_
    refine aj.nil ?_
    refine aC.seq ?_
    refine aC.cond rfl (fun hb84=>?_) (fun hb84=>?_)
    ·
     replace h:=dE hb84 h
     refine aC.skip ?_
     refine aC.join (B:=aK) (α:=(List (aY × List Int)) × (List AV) × (List Int) × AV) (fun a=>iJ x82 (dW n a2 k83) a.1 a.2.2.1=some r) (fun a=>[(5,(.map b3)),(8,a.2.2.2),(31,(.d (.sl ((a2).map ak) false))),(32,(.d (.int .i64 ((a2).length:Int)))),(33,(.d (.int .i64 x82)))]) (fun a=>[dI aN b3 a.1 a.2.1 false none,.row 1 a.2.2.2 ((a.2.2.1).map (D.int .i64))]) ?_ ?_
     ·
      intro a S85 H86 h
      obtain ⟨x87,ws88,x89,v90⟩:=a
      replace h:iJ x82 (dW n a2 k83) x87 x89=some r:=h
      replace H86:Has aK S85 [dI aN b3 x87 ws88 false none,.row 1 v90 ((x89).map (D.int .i64))]:=H86
      unfold iJ at h
      refine aC.region (eP E) rfl ?_
      refine aj.val rfl (aD rfl rfl dx) rfl ?_
      refine aj.val rfl (aa rfl) rfl ?_
      refine aj.nil ?_
      exact ⟨⟨x87,ws88,x89,v90,(IntKind.wrap .i64 (x82 + 1))⟩,_,_,S85,.refl _ _,.refl _,(ai.r rfl (ai.r rfl (ai.r rfl (ai.r rfl (ai.r rfl ai.nil))))),H86.sl [0,1] rfl rfl,h⟩
     ·
      refine aC.block ?_
      refine aC.seq ?_
      refine aC.region (eP E) rfl ?_
      obtain ⟨z92,hzz92,h⟩:=bind_some h
      refine aj.val rfl (bA rfl rfl (bS (enc:=ak) hzz92 qb kF ((Tree.len _).trans bY.symm))) rfl ?_
      refine aj.val rfl (aW rfl (Tree.rF fA bY)) rfl ?_
      refine aj.alloc H77 rfl I7 jv rfl rfl (fun b93 S94 H95=>?_)
      refine aj.store H95 (i:=0) rfl rfl rfl rfl (Tree.dN _) rfl bY rfl kF rfl rfl rfl (fun S96 H97=>?_)
      refine aj.nil ?_
      refine aC.seq ?_
      refine aC.region (eP E) rfl ?_
      refine aj.val rfl (aa rfl) rfl ?_
      refine aj.val rfl (aJ H97 (i:=0) rfl rfl (aZ fA bY rfl)) rfl ?_
      refine aj.less (Less.agg' (d:=ak z92) (ax.eq rfl (ax.eq rfl (ax.eq rfl (ax.eq rfl (ax.eq rfl .nil))))) ((Tree.eq _).trans rfl)) ?_
      obtain ⟨z98,hzz98,h⟩:=bind_some h
      refine aj.ret rfl (aH rfl rfl) (kU E _ _ _ hzz98 _ _ (aQ.eq .nil)) rfl ?_
      refine aj.val rfl (rz H97 (q:=1) rfl rfl rfl tu zF LA) rfl ?_
      refine aj.val rfl (au rfl) rfl ?_
      refine aj.nil ?_
      refine aC.seq ?_
      refine aC.seq ?_
      refine aC.region (eP E) rfl ?_
      refine aj.val rfl (aa rfl) rfl ?_
      refine aj.val rfl (Fp (Ai H97 (q:=1) rfl z98) rfl jh) rfl ?_
      refine aj.val rfl (aD rfl rfl bq) rfl ?_
      refine aj.nil ?_
      refine aC.cond rfl (fun hb99=>?_) (fun hb99=>?_)
      ·
       replace h:=dE hb99 h
       refine aC.seq ?_
       refine aC.region (eP E) rfl ?_
       refine aj.val rfl (aa rfl) rfl ?_
       refine aj.qA (vs:=[(.d (.int .i64 (-1)))]) (cs:=[[(.d (.int .i64 (-1)))]]) H97 rfl pR fH pz Ie kH rfl (by decide) (.cons rfl rfl .nil) rfl rfl rfl (fun v100 S101 H102=>?_)
       have H103:Has aK S101 [gN 1 1 v100 [(.d (.int .i64 (-1)))],.box b93 [(.d (.str z92.Tag)),(.d (.str z92.Key)),(.d (.str z92.Text)),(.d (.sl ((z92.aL).map az) false)),(.d (.sl ((z92.Kids).map ak) false))],dI aN b3 x78 ws79 false none,.row 1 v81 ((x80).map (D.int .i64))]:=H102.sl [0,1,2,3] rfl rfl
       obtain ⟨z104,hzz104,h⟩:=bind_some h
       have H105:Has aK S101 ([gN 1 1 v100 [(.d (.int .i64 (-1)))],.row 1 v81 ((x80).map (D.int .i64))] ++ [.box b93 [(.d (.str z92.Tag)),(.d (.str z92.Key)),(.d (.str z92.Text)),(.d (.sl ((z92.aL).map az) false)),(.d (.sl ((z92.Kids).map ak) false))],dI aN b3 x78 ws79 false none]):=H103.sl [0,3,1,2] rfl rfl
       replace H105:Has aK S101 [gN 1 1 v100 [(.d (.int .i64 (-1)))],.row 1 v81 ((x80).map (D.int .i64)),.box b93 [(.d (.str z92.Tag)),(.d (.str z92.Key)),(.d (.str z92.Text)),(.d (.sl ((z92.aL).map az) false)),(.d (.sl ((z92.Kids).map ak) false))],dI aN b3 x78 ws79 false none]:=H105
       refine aj.zw (enc:=(D.int .i64)) (z:=(-1)) H105 rfl rfl rfl pR zI fH kH rfl hzz104 KO rfl Es (.refl _) rfl rfl rfl (fun v106 S107 H108=>?_)
       have H109:Has aK S107 [.row 1 v106 ((z104).map (D.int .i64)),.box b93 [(.d (.str z92.Tag)),(.d (.str z92.Key)),(.d (.str z92.Text)),(.d (.sl ((z92.aL).map az) false)),(.d (.sl ((z92.Kids).map ak) false))],dI aN b3 x78 ws79 false none]:=H108.sl [0,1,2] rfl rfl
       refine aj.val rfl (au rfl) rfl ?_
       refine aj.nil ?_
       refine aC.exit ?_
       exact ⟨⟨x78,ws79,z104,v106⟩,_,_,S107,.refl _ _,.refl _,(ai.r rfl (ai.r rfl (ai.r rfl (ai.r rfl (ai.r rfl ai.nil))))),H109.sl [2,0] rfl rfl,h⟩
      ·
       replace h:=dG hb99 h
       refine aC.skip ?_
       refine aC.seq ?_
       refine aC.region (eP E) rfl ?_
       refine aj.val rfl (aa rfl) rfl ?_
       refine aj.val rfl (aa rfl) rfl ?_
       obtain ⟨z110,hzz110,h⟩:=bind_some h
       refine aj.val rfl (EO (Ai H97 (q:=1) rfl z98) hzz110 rfl rfl fH pz kH) rfl ?_
       refine aj.val rfl (Ez (Ai H97 (q:=1) rfl z98) hzz110 rfl nU) rfl ?_
       refine aj.qA (vs:=[(.d (.int .i64 z110))]) (cs:=[[(.d (.int .i64 z110))]]) H97 rfl pR fH pz Ie kH rfl (by decide) (.cons rfl rfl .nil) rfl rfl rfl (fun v111 S112 H113=>?_)
       have H114:Has aK S112 [gN 1 1 v111 [(.d (.int .i64 z110))],.box b93 [(.d (.str z92.Tag)),(.d (.str z92.Key)),(.d (.str z92.Text)),(.d (.sl ((z92.aL).map az) false)),(.d (.sl ((z92.Kids).map ak) false))],dI aN b3 x78 ws79 false none,.row 1 v81 ((x80).map (D.int .i64))]:=H113.sl [0,1,2,3] rfl rfl
       obtain ⟨z115,hzz115,h⟩:=bind_some h
       have H116:Has aK S112 ([gN 1 1 v111 [(.d (.int .i64 z110))],.row 1 v81 ((x80).map (D.int .i64))] ++ [.box b93 [(.d (.str z92.Tag)),(.d (.str z92.Key)),(.d (.str z92.Text)),(.d (.sl ((z92.aL).map az) false)),(.d (.sl ((z92.Kids).map ak) false))],dI aN b3 x78 ws79 false none]):=H114.sl [0,3,1,2] rfl rfl
       replace H116:Has aK S112 [gN 1 1 v111 [(.d (.int .i64 z110))],.row 1 v81 ((x80).map (D.int .i64)),.box b93 [(.d (.str z92.Tag)),(.d (.str z92.Key)),(.d (.str z92.Text)),(.d (.sl ((z92.aL).map az) false)),(.d (.sl ((z92.Kids).map ak) false))],dI aN b3 x78 ws79 false none]:=H116
       refine aj.zw (enc:=(D.int .i64)) (z:=z110) H116 rfl rfl rfl pR zI fH kH rfl hzz115 KO rfl Es (.refl _) rfl rfl rfl (fun v117 S118 H119=>?_)
       have H120:Has aK S118 [.row 1 v117 ((z115).map (D.int .i64)),.box b93 [(.d (.str z92.Tag)),(.d (.str z92.Key)),(.d (.str z92.Text)),(.d (.sl ((z92.aL).map az) false)),(.d (.sl ((z92.Kids).map ak) false))],dI aN b3 x78 ws79 false none]:=H119.sl [0,1,2] rfl rfl
       refine aj.val rfl (au rfl) rfl ?_
       refine aj.nil ?_
       obtain ⟨z121,hzz121,h⟩:=bind_some h
       obtain ⟨z122,hzz122,h⟩:=bind_some h
       refine aC.gG (eP E) jr Nq [(5,none),(8,none),(31,none),(32,none),(33,none)] (by kernel_rfl) [5] (by decide) [some (.map b3),some (.d (ak z92)),some (.d (aN z121)),some (mw x78 ws79 z98),some (pX (mw x78 ws79 z98) (Int.toNat 1)),none] ?_
       refine ⟨[0,1,2,3,4],by kernel_rfl,?_,_,_,rfl,rfl,.step ?_⟩
       ·
        refine .v rfl rfl rfl rfl (aa rfl) ?_
        refine .cons rfl rfl rfl (.step ?_) ?_
        ·
         refine aj.val rfl (aJ H120 (i:=1) rfl rfl (aZ fA bY rfl)) rfl ?_
         refine aj.less (Less.agg' (d:=ak z92) (ax.eq rfl (ax.eq rfl (ax.eq rfl (ax.eq rfl (ax.eq rfl .nil))))) ((Tree.eq _).trans rfl)) ?_
         exact aj.nil ⟨_,_,rfl,fun _ ht=>by cases ht; exact ⟨rfl,.refl _⟩⟩
        refine .cons rfl rfl rfl (.step ?_) ?_
        ·
         refine aj.ret rfl (aH rfl rfl) (kU E _ _ _ hzz121 _ _ (aQ.eq .nil)) rfl ?_
         exact aj.nil ⟨_,_,rfl,fun _ ht=>by cases ht; exact ⟨rfl,.refl _⟩⟩
        refine .v rfl rfl rfl rfl (aa rfl) ?_
        refine .v rfl rfl rfl rfl (Ec (Ai H120 (q:=2) rfl z98) hzz122 (F7 hzz110) rfl rfl fH GI kH) ?_
        exact .nil
       have H131:Has aK S118 ([dI aN b3 x78 ws79 false none] ++ [.row 1 v117 ((z115).map (D.int .i64)),.box b93 [(.d (.str z92.Tag)),(.d (.str z92.Key)),(.d (.str z92.Text)),(.d (.sl ((z92.aL).map az) false)),(.d (.sl ((z92.Kids).map ak) false))]]):=H120.sl [2,0,1] rfl rfl
       replace H131:Has aK S118 [dI aN b3 x78 ws79 false none,.row 1 v117 ((z115).map (D.int .i64)),.box b93 [(.d (.str z92.Tag)),(.d (.str z92.Key)),(.d (.str z92.Text)),(.d (.sl ((z92.aL).map az) false)),(.d (.sl ((z92.Kids).map ak) false))]]:=H131
       refine aj.JN (j:=1) H131 rfl rfl (show _=some (AV.d (aN z98)) from congrArg (fun q=>some (AV.d (aN q))) (Option.some.inj (hzz121.symm.trans hzz98))) hzz122 (F7 hzz110) rfl tu zF (fun ws128 S129 H130=>?_)
       have H132:Has aK S129 [.row 1 v117 ((z115).map (D.int .i64)),.box b93 [(.d (.str z92.Tag)),(.d (.str z92.Key)),(.d (.str z92.Text)),(.d (.sl ((z92.aL).map az) false)),(.d (.sl ((z92.Kids).map ak) false))],dI aN b3 (jZ x78 z98 z122) ws128 false none]:=H130.sl [1,2,0] rfl rfl
       refine aj.nil ⟨_,.any,_,rfl,(fun _ ht=>by cases ht),[some (.map b3),some (.d (ak z92)),some (.d (aN z121)),some (mw x78 ws79 z98),some (pX (mw x78 ws79 z98) (Int.toNat 1)),some .any],(.o (.o (.o (.o (.o (.new .nil)))))),(fun _ ht=>by cases ht),?_⟩
       refine ⟨[],by kernel_rfl,?_,_,rfl,?_⟩
       ·
        exact .nil
       exact ⟨⟨(jZ x78 z98 z122),ws128,z115,v117⟩,_,_,S129,.refl _ _,.refl _,(ai.r rfl (ai.r rfl (ai.r rfl (ai.r rfl (ai.r rfl ai.nil))))),H132.sl [2,0] rfl rfl,h⟩
    ·
     replace h:=dG hb84 h
     refine aC.exit ?_
     refine aC.seq ?_
     refine aC.region (eP E) rfl ?_
     refine aj.val rfl (aa rfl) rfl ?_
     refine aj.val rfl (au rfl) rfl ?_
     refine aj.nil ?_
     obtain ⟨SF1,HF1,hgF1⟩:=H77.freeze (eP E).toObjOk (i:=1) (l':=[dI aN b3 x78 ws79 false none]) rfl (.same .nil)
     refine aC.ghost (hgF1 _ _ [(4,(.d (.sl ((x80).map (D.int .i64)) false))),(5,(.map b3)),(8,(.d (.sl ((x80).map (D.int .i64)) false))),(31,(.d (.sl ((a2).map ak) false))),(32,(.d (.int .i64 ((a2).length:Int)))),(33,(.d (.int .i64 x82))),(34,(.d (.bool (decide (x82 < ((a2).length:Int)))))),(59,(.d (.sl ((x80).map (D.int .i64)) false)))] (.it rfl (.cons rfl (.refl _) (.it rfl (.cons rfl (.refl _) (.cons rfl (.refl _) (.cons rfl (.refl _) (.cons rfl (.refl _) (.it rfl .nil))))))))) ?_
     have hr:=Option.some.inj h
     subst hr
     exact aC.ret ⟨_,rfl,rfl,jW (aQ.eq .nil)⟩
set_option maxRecDepth 20000 in
set_option maxHeartbeats 4000000 in
theorem vQ (n:Nat) (a2:ay) (a6:Int) (r:(Bool × ay)) (h:jX n a2 a6=some r) (b1:Nat) (v3:AV) (ws4:List (List AV)) (w5:AV):dL R cfg.P 15 [.ptr b1 0 0,.d (.int .i64 a6)] [.box b1 [v3,w5],aA ae ah.kids 7 5 v3 ws4 a2.l none,aI w5 a2.freed] (fun v l=>v=.d (.bool r.1)∧∃ dws0 dw0,l=[.box b1 [v3,dw0],aA ae ah.kids 7 5 v3 dws0 r.2.l none,aI dw0 r.2.freed]):=by
 unfold jX at h
 refine dL.of_wp (C:=cfg) Try.func15 rfl Oa rfl (fun B0 S0 H0=>?_)
 replace H0:Has B0 S0 [.box b1 [v3,w5],aA ae ah.kids 7 5 v3 ws4 a2.l none,aI w5 a2.freed]:=H0
 refine aC.seq ?_
 refine aC.region E.obj rfl ?_
 refine aj.val rfl (au rfl) rfl ?_
 refine aj.nil ?_
 refine aC.seq ?_
 refine aC.region E.obj rfl ?_
 refine aj.val rfl (aa rfl) rfl ?_
 refine aj.val rfl (aa rfl) rfl ?_
 obtain ⟨z7,hzz7,h⟩:=bind_some h
 refine aj.eF (ins:=[.box b1 [v3,w5],aA ae ah.kids 7 5 v3 ws4 a2.l none,aI w5 a2.freed]) (more:=[]) (H0.sl [0,1,2] rfl rfl) rfl (aH rfl rfl) (gT E n _ _ _ hzz7 b1 v3 ws4 w5) (.cons (.refl _) (.cons (.refl _) .nil)) rfl ?_
 rintro v8 S9 l10 hr11 H12
 rcases z7 with _ | _
 ·
  obtain ⟨rfl,rfl⟩:=hr11
  replace h:=dG rfl h
  replace H12:Has B0 S9 [.box b1 [v3,w5],aA ae ah.kids 7 5 v3 ws4 a2.l none,aI w5 a2.freed]:=H12
  have H13:Has B0 S9 [.box b1 [v3,w5],aA ae ah.kids 7 5 v3 ws4 a2.l none,aI w5 a2.freed]:=H12.sl [0,1,2] rfl rfl
  refine aj.val rfl (au rfl) rfl ?_
  refine aj.nil ?_
  refine aC.seq ?_
  refine aC.seq ?_
  refine aC.region E.obj rfl ?_
  refine aj.val rfl (aa rfl) rfl ?_
  refine aj.val rfl (aD rfl rfl (lH rJ)) rfl ?_
  refine aj.val rfl (aa rfl) rfl ?_
  refine aj.no rfl rfl ?_
  refine aj.no rfl rfl ?_
  refine aj.no rfl rfl ?_
  refine aj.no rfl rfl ?_
  refine aj.no rfl rfl ?_
  refine aj.val rfl (aB (b:=true) rfl rfl) rfl ?_
  refine aj.nil ?_
  refine aC.cond rfl (fun hb=>?_) (fun hb=>?_)
  ·
   refine aC.seq ?_
   refine aC.region E.obj rfl ?_
   refine aj.val rfl (au rfl) rfl ?_
   refine aj.nil ?_
   have hr:=Option.some.inj h
   subst hr
   exact aC.ret ⟨_,rfl,rfl,_,_,_,.refl _,(.refl _),⟨rfl,ws4,w5,rfl⟩,H13.sl [0,1,2] rfl rfl⟩
  ·
   cases hb
 ·
  obtain ⟨rfl,rfl⟩:=hr11
  replace h:=dE rfl h
  have H14:Has B0 S9 [.box b1 [v3,w5],aA ae ah.kids 7 5 v3 ws4 a2.l none,aI w5 a2.freed]:=H12.sl [0,1,2] rfl rfl
  refine aj.val rfl (au rfl) rfl ?_
  refine aj.nil ?_
  refine aC.seq ?_
  refine aC.seq ?_
  refine aC.region E.obj rfl ?_
  refine aj.val rfl (aa rfl) rfl ?_
  obtain ⟨z15,hzz15,h⟩:=bind_some h
  refine aj.val rfl (lN H14 (q:=1) rfl hzz15 rfl rfl rJ) rfl ?_
  refine aj.val rfl (aa rfl) rfl ?_
  refine aj.val rfl (aa rfl) rfl ?_
  refine aj.val rfl (bN H14 (q:=1) rfl hzz15 rfl) rfl ?_
  refine aj.val rfl (bE H14 (i:=1) rfl hzz15 rfl su KT rfl) rfl ?_
  refine aj.j6 H14 rfl (q:=1) rfl hzz15 rfl nU rfl rfl rfl ?_
  refine aj.val rfl (aD rfl rfl bq) rfl ?_
  refine aj.val rfl (aB (b:=false) rfl rfl) rfl ?_
  refine aj.nil ?_
  refine aC.cond rfl (fun hb16=>?_) (fun hb16=>?_)
  ·
   replace h:=dE hb16 h
   refine aC.seq ?_
   refine aC.region E.obj rfl ?_
   refine aj.val rfl (au rfl) rfl ?_
   refine aj.nil ?_
   have hr:=Option.some.inj h
   subst hr
   exact aC.ret ⟨_,rfl,rfl,_,_,_,.refl _,(.refl _),⟨rfl,ws4,w5,rfl⟩,H14.sl [0,1,2] rfl rfl⟩
  ·
   replace h:=dG hb16 h
   refine aC.skip ?_
   refine aC.seq ?_
   refine aC.region E.obj rfl ?_
   refine aj.val rfl (aa rfl) rfl ?_
   refine aj.val rfl (aa rfl) rfl ?_
   obtain ⟨z17,hzz17,h⟩:=bind_some h
   refine aj.eF (ins:=[.box b1 [v3,w5],aA ae ah.kids 7 5 v3 ws4 a2.l none,aI w5 a2.freed]) (more:=[]) (H14.sl [0,1,2] rfl rfl) rfl (aH rfl rfl) (qw E n _ _ _ hzz17 b1 v3 ws4 w5) (.cons (.refl _) (.cons (.refl _) .nil)) rfl ?_
   rintro _ S20 _ ⟨rfl,ws18,w19,rfl⟩ H21
   have H22:Has B0 S20 [.box b1 [v3,w19],aA ae ah.kids 7 5 v3 ws18 z17.l none,aI w19 z17.freed]:=H21.sl [0,1,2] rfl rfl
   refine aj.nil ?_
   refine aC.seq ?_
   refine aC.region E.obj rfl ?_
   refine aj.val rfl (au rfl) rfl ?_
   refine aj.nil ?_
   have hr:=Option.some.inj h
   subst hr
   exact aC.ret ⟨_,rfl,rfl,_,_,_,.refl _,(.refl _),⟨rfl,ws18,w19,rfl⟩,H22.sl [0,1,2] rfl rfl⟩
set_option maxRecDepth 20000 in
set_option maxHeartbeats 4000000 in
theorem rG:∀ (n:Nat) (a2:ay) (a6:Int) (r:ay),fT n a2 a6=some r→∀ (b1:Nat) (v3:AV) (ws4:List (List AV)) (w5:AV),dL R cfg.P 63 [.ptr b1 0 0,.d (.int .i64 a6)] [.box b1 [v3,w5],aA ae ah.kids 7 5 v3 ws4 a2.l none,aI w5 a2.freed] (fun v l=>v=.tup []∧∃ dws0 dw0,l=[.box b1 [v3,dw0],aA ae ah.kids 7 5 v3 dws0 r.l none,aI dw0 r.freed])
 | 0,a2,a6,r,h,b1,v3,ws4,w5=>by simp [fT] at h
 | n + 1,a2,a6,r,h,b1,v3,ws4,w5=>by
  have ih:=rG n
  unfold fT at h
  refine dL.of_wp (C:=rA) Try.func63 rfl M4 rfl (fun B0 S0 H0=>?_)
  replace H0:Has B0 S0 [.box b1 [v3,w5],aA ae ah.kids 7 5 v3 ws4 a2.l none,aI w5 a2.freed]:=H0
  refine aC.seq ?_
  refine aC.region (eP E) rfl ?_
  refine aj.val rfl (aa rfl) rfl ?_
  refine aj.val rfl (bI rfl) rfl ?_
  refine aj.val rfl (aF rfl kD tY rfl) rfl ?_
  refine aj.val rfl (aJ H0 (i:=0) rfl rfl (aU uF rfl)) rfl ?_
  refine aj.val rfl (aa rfl) rfl ?_
  refine aj.val rfl (aD rfl rfl gX) rfl ?_
  obtain ⟨z7,hzz7,h⟩:=bind_some h
  refine aj.val rfl (gU H0 (i:=1) rfl hzz7 rfl rfl yh uT qE) rfl ?_
  refine aj.val rfl (bE H0 (i:=1) rfl hzz7 rfl nY ng rfl) rfl ?_
  have H8:Has B0 S0 ([aA ae ah.kids 7 5 v3 ws4 a2.l none] ++ [.box b1 [v3,w5],aI w5 a2.freed]):=H0.sl [1,0,2] rfl rfl
  replace H8:Has B0 S0 [aA ae ah.kids 7 5 v3 ws4 a2.l none,.box b1 [v3,w5],aI w5 a2.freed]:=H8
  have H9:=Has.take H8 (dR hzz7).2
  have H10:Has B0 S0 [aI (iN 5 ws4 (Int.toNat (IntKind.wrap .i64 (a6 - 1)))) z7.kids,.box b1 [v3,w5],aA ae ah.kids 7 5 v3 ws4 a2.l (some (Int.toNat (IntKind.wrap .i64 (a6 - 1)))),aI w5 a2.freed]:=H9.sl [0,2,1,3] rfl rfl
  refine aj.val rfl (gY H10 (i:=2) rfl hzz7 rfl pI) rfl ?_
  refine aj.val rfl (au rfl) rfl ?_
  refine aj.nil ?_
  refine aC.seq ?_
  refine aC.region (eP E) rfl ?_
  refine aj.val rfl (aa rfl) rfl ?_
  refine aj.val rfl (bI rfl) rfl ?_
  refine aj.val rfl (aF rfl kD tY rfl) rfl ?_
  refine aj.val rfl (aJ H10 (i:=1) rfl rfl (aU uF rfl)) rfl ?_
  refine aj.val rfl (aa rfl) rfl ?_
  refine aj.val rfl (aD rfl rfl gX) rfl ?_
  refine aj.val rfl (fu (cs:=[(.d (.bool false)),(.d (.str [])),(.d (.str [])),(.d (.str [])),(.d .aS),(.d .aS),(.d (.int .i64 0))]) GV rfl (wJ) rfl) rfl ?_
  refine aj.less (Less.agg' (d:=dV (aG.mk false [] [] [] [] 0)) (ax.eq rfl (ax.eq rfl (ax.eq rfl (ax.eq rfl (ax.jI rfl (.aS false) rfl rfl (ax.eq rfl (ax.eq rfl .nil))))))) ((aG.eq _).trans rfl)) ?_
  refine aj.val rfl (gU H10 (i:=2) rfl hzz7 rfl rfl yh uT qE) rfl ?_
  have H14:Has B0 S0 ([aA ae ah.kids 7 5 v3 ws4 a2.l (some (Int.toNat (IntKind.wrap .i64 (a6 - 1))))] ++ [aI (iN 5 ws4 (Int.toNat (IntKind.wrap .i64 (a6 - 1)))) z7.kids,.box b1 [v3,w5],aI w5 a2.freed]):=H10.sl [2,0,1,3] rfl rfl
  replace H14:Has B0 S0 [aA ae ah.kids 7 5 v3 ws4 a2.l (some (Int.toNat (IntKind.wrap .i64 (a6 - 1)))),aI (iN 5 ws4 (Int.toNat (IntKind.wrap .i64 (a6 - 1)))) z7.kids,.box b1 [v3,w5],aI w5 a2.freed]:=H14
  refine aj.Ae (z':=(ah.mk (aG.mk false [] [] [] [] 0).lives (aG.mk false [] [] [] [] 0).tag (aG.mk false [] [] [] [] 0).key (aG.mk false [] [] [] [] 0).text (aG.mk false [] [] [] [] 0).attrs [] (aG.mk false [] [] [] [] 0).parent)) H14 rfl hzz7 (.inr rfl) rfl rfl (aG.dN _) rfl qE uT rfl rfl rfl (.cons (.refl _) (.cons (.refl _) (.cons (.refl _) (.cons (.refl _) (.cons (.refl _) (.cons (Less.any _) (.cons (.refl _) .nil))))))) rfl rfl (fun ws13 S11 H12=>?_)
  have H15:Has B0 S11 [aI (iN 5 ws4 (Int.toNat (IntKind.wrap .i64 (a6 - 1)))) z7.kids,.box b1 [v3,w5],aA ae ah.kids 7 5 v3 ws13 (kE a2.l (IntKind.wrap .i64 (a6 - 1)) (ah.mk (aG.mk false [] [] [] [] 0).lives (aG.mk false [] [] [] [] 0).tag (aG.mk false [] [] [] [] 0).key (aG.mk false [] [] [] [] 0).text (aG.mk false [] [] [] [] 0).attrs [] (aG.mk false [] [] [] [] 0).parent)) none,aI w5 a2.freed]:=H12.sl [1,2,0,3] rfl rfl
  refine aj.nil ?_
  refine aC.seq ?_
  refine aC.region (eP E) rfl ?_
  refine aj.val rfl (aa rfl) rfl ?_
  refine aj.val rfl (aa rfl) rfl ?_
  refine aj.val rfl (bI rfl) rfl ?_
  refine aj.val rfl (aF rfl uR ng rfl) rfl ?_
  refine aj.val rfl (aJ H15 (i:=1) rfl rfl (aU pI rfl)) rfl ?_
  refine aj.val rfl (aa rfl) rfl ?_
  refine aj.qA (vs:=[(.d (.int .i64 a6))]) (cs:=[[(.d (.int .i64 a6))]]) H15 rfl pR fH pz Ie kH rfl (by decide) (.cons rfl rfl .nil) rfl rfl rfl (fun v16 S17 H18=>?_)
  have H19:Has B0 S17 [gN 1 1 v16 [(.d (.int .i64 a6))],aI (iN 5 ws4 (Int.toNat (IntKind.wrap .i64 (a6 - 1)))) z7.kids,.box b1 [v3,w5],aA ae ah.kids 7 5 v3 ws13 (kE a2.l (IntKind.wrap .i64 (a6 - 1)) (ah.mk (aG.mk false [] [] [] [] 0).lives (aG.mk false [] [] [] [] 0).tag (aG.mk false [] [] [] [] 0).key (aG.mk false [] [] [] [] 0).text (aG.mk false [] [] [] [] 0).attrs [] (aG.mk false [] [] [] [] 0).parent)) none,aI w5 a2.freed]:=H18.sl [0,1,2,3,4] rfl rfl
  obtain ⟨z20,hzz20,h⟩:=bind_some h
  have H21:Has B0 S17 ([gN 1 1 v16 [(.d (.int .i64 a6))],aI w5 a2.freed] ++ [aI (iN 5 ws4 (Int.toNat (IntKind.wrap .i64 (a6 - 1)))) z7.kids,.box b1 [v3,w5],aA ae ah.kids 7 5 v3 ws13 (kE a2.l (IntKind.wrap .i64 (a6 - 1)) (ah.mk (aG.mk false [] [] [] [] 0).lives (aG.mk false [] [] [] [] 0).tag (aG.mk false [] [] [] [] 0).key (aG.mk false [] [] [] [] 0).text (aG.mk false [] [] [] [] 0).attrs [] (aG.mk false [] [] [] [] 0).parent)) none]):=H19.sl [0,4,1,2,3] rfl rfl
  replace H21:Has B0 S17 [gN 1 1 v16 [(.d (.int .i64 a6))],aI w5 a2.freed,aI (iN 5 ws4 (Int.toNat (IntKind.wrap .i64 (a6 - 1)))) z7.kids,.box b1 [v3,w5],aA ae ah.kids 7 5 v3 ws13 (kE a2.l (IntKind.wrap .i64 (a6 - 1)) (ah.mk (aG.mk false [] [] [] [] 0).lives (aG.mk false [] [] [] [] 0).tag (aG.mk false [] [] [] [] 0).key (aG.mk false [] [] [] [] 0).text (aG.mk false [] [] [] [] 0).attrs [] (aG.mk false [] [] [] [] 0).parent)) none]:=H21
  refine aj.BJ H21 rfl rfl rfl pR zI fH kH hzz20 KO rfl Es rfl (fun w22 S23 H24=>?_)
  have H25:Has B0 S23 [aI (iN 5 ws4 (Int.toNat (IntKind.wrap .i64 (a6 - 1)))) z7.kids,.box b1 [v3,w5],aA ae ah.kids 7 5 v3 ws13 (kE a2.l (IntKind.wrap .i64 (a6 - 1)) (ah.mk (aG.mk false [] [] [] [] 0).lives (aG.mk false [] [] [] [] 0).tag (aG.mk false [] [] [] [] 0).key (aG.mk false [] [] [] [] 0).text (aG.mk false [] [] [] [] 0).attrs [] (aG.mk false [] [] [] [] 0).parent)) none,aI w22 z20]:=H24.sl [1,2,3,0] rfl rfl
  refine aj.val rfl (bI rfl) rfl ?_
  refine aj.val rfl (aF rfl uR ng rfl) rfl ?_
  refine aj.store H25 (i:=1) rfl rfl rfl rfl (tN H25 (i:=3) rfl).2 rfl JK (tN H25 (i:=3) rfl).1 JP rfl rfl rfl (fun S26 H27=>?_)
  refine aj.nil ?_
  refine aC.seq ?_
  refine aC.region (eP E) rfl ?_
  refine aj.val rfl (aa rfl) rfl ?_
  refine aj.val rfl (kr H27 (i:=0) rfl rfl jh) rfl ?_
  refine aj.val rfl (aa rfl) rfl ?_
  refine aj.nil ?_
  refine aC.block ?_
  refine qd.start (B:=B0) (α:=ay × (List (List AV)) × AV × Int) (fun k a=>eY (fT n) z7 k a.1 a.2.2.2=some r) (fun a=>[(0,(.ptr b1 0 0)),(34,(iN 5 ws4 (Int.toNat (IntKind.wrap .i64 (a6 - 1))))),(35,(.d (.int .i64 ((z7.kids).length:Int)))),(36,(.d (.int .i64 a.2.2.2)))]) (fun a=>[aI (iN 5 ws4 (Int.toNat (IntKind.wrap .i64 (a6 - 1)))) z7.kids,.box b1 [v3,a.2.2.1],aA ae ah.kids 7 5 v3 a.2.1 a.1.l none,aI a.2.2.1 a.1.freed]) ?_ ?_ n ⟨⟨(ay.mk (kE a2.l (IntKind.wrap .i64 (a6 - 1)) (ah.mk (aG.mk false [] [] [] [] 0).lives (aG.mk false [] [] [] [] 0).tag (aG.mk false [] [] [] [] 0).key (aG.mk false [] [] [] [] 0).text (aG.mk false [] [] [] [] 0).attrs [] (aG.mk false [] [] [] [] 0).parent)) z20),ws13,w22,0⟩,_,_,S26,.refl _ _,.refl _,(ai.r rfl (ai.r rfl (ai.r rfl (ai.r rfl ai.nil)))),H27.sl [0,1,2,3] rfl rfl,h⟩
  ·
   intro a h; simp [eY] at h
  ·
   intro k42 a S36 H37 h
   obtain ⟨x38,ws39,w40,x41⟩:=a
   replace h:eY (fT n) z7 (k42 + 1) x38 x41=some r:=h
   replace H37:Has B0 S36 [aI (iN 5 ws4 (Int.toNat (IntKind.wrap .i64 (a6 - 1)))) z7.kids,.box b1 [v3,w40],aA ae ah.kids 7 5 v3 ws39 x38.l none,aI w40 x38.freed]:=H37
   unfold eY at h
   refine aC.seq ?_
   refine aC.region (eP E) rfl ?_
   refine aj.val rfl (aD rfl rfl dO) rfl ?_
   refine aj.nil ?_
   refine aC.seq ?_
   refine aC.cond rfl (fun hb43=>?_) (fun hb43=>?_)
   ·
    replace h:=dE hb43 h
    refine aC.skip ?_
    refine aC.seq ?_
    refine aC.block ?_
    refine aC.seq ?_
    refine aC.region (eP E) rfl ?_
    obtain ⟨z44,hzz44,h⟩:=bind_some h
    refine aj.val rfl (sU H37 (q:=0) rfl hzz44 rfl rfl fH pz kH) rfl ?_
    refine aj.val rfl (qV H37 (q:=0) rfl hzz44 rfl nU) rfl ?_
    refine aj.val rfl (au rfl) rfl ?_
    refine aj.nil ?_
    refine aC.region (eP E) rfl ?_
    refine aj.val rfl (aa rfl) rfl ?_
    refine aj.val rfl (aa rfl) rfl ?_
    obtain ⟨z45,hzz45,h⟩:=bind_some h
    refine aj.eF (ins:=[.box b1 [v3,w40],aA ae ah.kids 7 5 v3 ws39 x38.l none,aI w40 x38.freed]) (more:=[aI (iN 5 ws4 (Int.toNat (IntKind.wrap .i64 (a6 - 1)))) z7.kids]) (H37.sl [1,2,3,0] rfl rfl) rfl (aH rfl rfl) (ih _ _ _ hzz45 b1 v3 ws39 w40) (.cons (.refl _) (.cons (.refl _) .nil)) rfl ?_
    rintro _ S48 _ ⟨rfl,ws46,w47,rfl⟩ H49
    have H50:Has B0 S48 [aI (iN 5 ws4 (Int.toNat (IntKind.wrap .i64 (a6 - 1)))) z7.kids,.box b1 [v3,w47],aA ae ah.kids 7 5 v3 ws46 z45.l none,aI w47 z45.freed]:=H49.sl [3,0,1,2] rfl rfl
    refine aj.nil ?_
    refine aC.region (eP E) rfl ?_
    refine aj.val rfl (aD rfl rfl dx) rfl ?_
    refine aj.val rfl (aa rfl) rfl ?_
    refine aj.nil ?_
    exact ⟨⟨z45,ws46,w47,(IntKind.wrap .i64 (x41 + 1))⟩,_,_,S48,.refl _ _,.refl _,(ai.r rfl (ai.r rfl (ai.r rfl (ai.r rfl ai.nil)))),H50.sl [0,1,2,3] rfl rfl,h⟩
   ·
    replace h:=dG hb43 h
    refine aC.exit ?_
    have hr:=Option.some.inj h
    subst hr
    exact ⟨_,rfl,rfl,_,_,_,.refl _,(.refl _),⟨rfl,ws39,w40,rfl⟩,H37.sl [1,2,3] rfl rfl⟩
set_option maxRecDepth 20000 in
set_option maxHeartbeats 4000000 in
theorem xX (n:Nat) (a2:ay) (a6:Int) (r:(Bool × ay)) (h:lT n a2 a6=some r) (b1:Nat) (v3:AV) (ws4:List (List AV)) (w5:AV):dL R cfg.P 16 [.ptr b1 0 0,.d (.int .i64 a6)] [.box b1 [v3,w5],aA ae ah.kids 7 5 v3 ws4 a2.l none,aI w5 a2.freed] (fun v l=>v=.d (.bool r.1)∧∃ dws0 dw0,l=[.box b1 [v3,dw0],aA ae ah.kids 7 5 v3 dws0 r.2.l none,aI dw0 r.2.freed]):=by
 unfold lT at h
 refine dL.of_wp (C:=cfg) Try.func16 rfl Nk rfl (fun B0 S0 H0=>?_)
 replace H0:Has B0 S0 [.box b1 [v3,w5],aA ae ah.kids 7 5 v3 ws4 a2.l none,aI w5 a2.freed]:=H0
 refine aC.seq ?_
 refine aC.region E.obj rfl ?_
 refine aj.val rfl (au rfl) rfl ?_
 refine aj.nil ?_
 refine aC.seq ?_
 refine aC.region E.obj rfl ?_
 refine aj.val rfl (aa rfl) rfl ?_
 refine aj.val rfl (aa rfl) rfl ?_
 obtain ⟨z7,hzz7,h⟩:=bind_some h
 refine aj.eF (ins:=[.box b1 [v3,w5],aA ae ah.kids 7 5 v3 ws4 a2.l none,aI w5 a2.freed]) (more:=[]) (H0.sl [0,1,2] rfl rfl) rfl (aH rfl rfl) (gT E n _ _ _ hzz7 b1 v3 ws4 w5) (.cons (.refl _) (.cons (.refl _) .nil)) rfl ?_
 rintro v8 S9 l10 hr11 H12
 rcases z7 with _ | _
 ·
  obtain ⟨rfl,rfl⟩:=hr11
  replace h:=dG rfl h
  replace H12:Has B0 S9 [.box b1 [v3,w5],aA ae ah.kids 7 5 v3 ws4 a2.l none,aI w5 a2.freed]:=H12
  have H13:Has B0 S9 [.box b1 [v3,w5],aA ae ah.kids 7 5 v3 ws4 a2.l none,aI w5 a2.freed]:=H12.sl [0,1,2] rfl rfl
  refine aj.val rfl (au rfl) rfl ?_
  refine aj.nil ?_
  refine aC.seq ?_
  refine aC.seq ?_
  refine aC.region E.obj rfl ?_
  refine aj.val rfl (aa rfl) rfl ?_
  refine aj.val rfl (aD rfl rfl (lH rJ)) rfl ?_
  refine aj.val rfl (aa rfl) rfl ?_
  refine aj.no rfl rfl ?_
  refine aj.no rfl rfl ?_
  refine aj.val rfl (aB (b:=true) rfl rfl) rfl ?_
  refine aj.val rfl (aa rfl) rfl ?_
  refine aj.no rfl rfl ?_
  refine aj.no rfl rfl ?_
  refine aj.no rfl rfl ?_
  refine aj.no rfl rfl ?_
  refine aj.no rfl rfl ?_
  refine aj.val rfl (aB (b:=true) rfl rfl) rfl ?_
  refine aj.nil ?_
  refine aC.cond rfl (fun hb=>?_) (fun hb=>?_)
  ·
   refine aC.seq ?_
   refine aC.region E.obj rfl ?_
   refine aj.val rfl (au rfl) rfl ?_
   refine aj.nil ?_
   have hr:=Option.some.inj h
   subst hr
   exact aC.ret ⟨_,rfl,rfl,_,_,_,.refl _,(.refl _),⟨rfl,ws4,w5,rfl⟩,H13.sl [0,1,2] rfl rfl⟩
  ·
   cases hb
 ·
  obtain ⟨rfl,rfl⟩:=hr11
  replace h:=dE rfl h
  have H14:Has B0 S9 [.box b1 [v3,w5],aA ae ah.kids 7 5 v3 ws4 a2.l none,aI w5 a2.freed]:=H12.sl [0,1,2] rfl rfl
  refine aj.val rfl (au rfl) rfl ?_
  refine aj.nil ?_
  refine aC.seq ?_
  refine aC.seq ?_
  refine aC.region E.obj rfl ?_
  refine aj.val rfl (aa rfl) rfl ?_
  obtain ⟨z15,hzz15,h⟩:=bind_some h
  refine aj.val rfl (lN H14 (q:=1) rfl hzz15 rfl rfl rJ) rfl ?_
  refine aj.val rfl (aa rfl) rfl ?_
  refine aj.val rfl (aa rfl) rfl ?_
  refine aj.val rfl (aD rfl rfl bq) rfl ?_
  refine aj.val rfl (aB (b:=false) rfl rfl) rfl ?_
  refine aj.val rfl (aa rfl) rfl ?_
  refine aj.kS 6 21 (.d (.bool ((a6 == 1) || (z15.parent != 0)))) ?_ ?_
  ·
   rcases Bool.eq_false_or_eq_true ((a6 == 1)) with hB16 | hB16
   ·
    refine aj.bool hB16 ?_
    refine aj.no rfl rfl ?_
    refine aj.no rfl rfl ?_
    refine aj.no rfl rfl ?_
    refine aj.no rfl rfl ?_
    refine aj.no rfl rfl ?_
    refine aj.val rfl (aB (b:=true) rfl rfl) rfl ?_
    exact aj.nil ⟨_,rfl,(ai.put (ai.push rfl (ai.push rfl (ai.push rfl (ai.push rfl (ai.push rfl (ai.put (.refl _) (Less.eq (by rw [hB16])))))))) (Less.eq (by rw [hB16]; rw [Bool.true_or])))⟩
   ·
    refine aj.bool hB16 ?_
    refine aj.val rfl (aa rfl) rfl ?_
    refine aj.val rfl (bN H14 (q:=1) rfl hzz15 rfl) rfl ?_
    refine aj.val rfl (bE H14 (i:=1) rfl hzz15 rfl su KT rfl) rfl ?_
    refine aj.j6 H14 rfl (q:=1) rfl hzz15 rfl nU rfl rfl rfl ?_
    refine aj.val rfl (aD rfl rfl jd) rfl ?_
    refine aj.val rfl (aB (b:=false) rfl rfl) rfl ?_
    exact aj.nil ⟨_,rfl,(ai.put (ai.push rfl (ai.push rfl (ai.push rfl (ai.push rfl (ai.push rfl (ai.put (.refl _) (Less.eq (by rw [hB16])))))))) (Less.eq (by rw [hB16]; rw [Bool.false_or])))⟩
  ·
   refine aj.nil ?_
   refine aC.cond rfl (fun hb17=>?_) (fun hb17=>?_)
   ·
    replace h:=dE hb17 h
    refine aC.seq ?_
    refine aC.region E.obj rfl ?_
    refine aj.val rfl (au rfl) rfl ?_
    refine aj.nil ?_
    have hr:=Option.some.inj h
    subst hr
    exact aC.ret ⟨_,rfl,rfl,_,_,_,.refl _,(.refl _),⟨rfl,ws4,w5,rfl⟩,H14.sl [0,1,2] rfl rfl⟩
   ·
    replace h:=dG hb17 h
    refine aC.skip ?_
    refine aC.seq ?_
    refine aC.region E.obj rfl ?_
    refine aj.val rfl (aa rfl) rfl ?_
    refine aj.val rfl (aa rfl) rfl ?_
    obtain ⟨z18,hzz18,h⟩:=bind_some h
    refine aj.eF (ins:=[.box b1 [v3,w5],aA ae ah.kids 7 5 v3 ws4 a2.l none,aI w5 a2.freed]) (more:=[]) (H14.sl [0,1,2] rfl rfl) rfl (aH rfl rfl) (rG E n _ _ _ hzz18 b1 v3 ws4 w5) (.cons (.refl _) (.cons (.refl _) .nil)) rfl ?_
    rintro _ S21 _ ⟨rfl,ws19,w20,rfl⟩ H22
    have H23:Has B0 S21 [.box b1 [v3,w20],aA ae ah.kids 7 5 v3 ws19 z18.l none,aI w20 z18.freed]:=H22.sl [0,1,2] rfl rfl
    refine aj.nil ?_
    refine aC.seq ?_
    refine aC.region E.obj rfl ?_
    refine aj.val rfl (au rfl) rfl ?_
    refine aj.nil ?_
    have hr:=Option.some.inj h
    subst hr
    exact aC.ret ⟨_,rfl,rfl,_,_,_,.refl _,(.refl _),⟨rfl,ws19,w20,rfl⟩,H23.sl [0,1,2] rfl rfl⟩
set_option maxRecDepth 20000 in
set_option maxHeartbeats 4000000 in
theorem xZ (n:Nat) (a2:ay) (r:Int) (h:nI n a2=some r) (b1:Nat) (v3:AV) (ws4:List (List AV)) (w5:AV):dL R cfg.P 17 [.ptr b1 0 0] [.box b1 [v3,w5],aA ae ah.kids 7 5 v3 ws4 a2.l none,aI w5 a2.freed] (fun v l=>v=.d (.int .i64 r)∧l=[.box b1 [v3,w5],aA ae ah.kids 7 5 v3 ws4 a2.l none,aI w5 a2.freed]):=by
 unfold nI at h
 refine dL.of_wp (C:=cfg) Try.func17 rfl Nl rfl (fun B0 S0 H0=>?_)
 replace H0:Has B0 S0 [.box b1 [v3,w5],aA ae ah.kids 7 5 v3 ws4 a2.l none,aI w5 a2.freed]:=H0
 refine aC.seq ?_
 refine aC.region E.obj rfl ?_
 refine aj.val rfl (au rfl) rfl ?_
 refine aj.nil ?_
 refine aC.seq ?_
 refine aC.region E.obj rfl ?_
 refine aj.val rfl (au rfl) rfl ?_
 refine aj.nil ?_
 have hr:=Option.some.inj h
 subst hr
 exact aC.ret ⟨_,rfl,rfl,_,_,_,.refl _,(.refl _),⟨rfl,rfl⟩,H0.sl [0,1,2] rfl rfl⟩
set_option maxRecDepth 20000 in
set_option maxHeartbeats 4000000 in
theorem jH (n:Nat) (a2:ay) (a6:Int) (r:(Int × ay)) (h:jN n a2 a6=some r) (b1:Nat) (v3:AV) (ws4:List (List AV)) (w5:AV):dL R cfg.P 46 [.ptr b1 0 0,.d (.int .i64 a6)] [.box b1 [v3,w5],aA ae ah.kids 7 5 v3 ws4 a2.l none,aI w5 a2.freed] (fun v l=>v=.d (.int .i64 r.1)∧∃ dws0 dw0,l=[.box b1 [v3,dw0],aA ae ah.kids 7 5 v3 dws0 r.2.l none,aI dw0 r.2.freed]):=by
 unfold jN at h
 refine dL.of_wp (C:=cfg) Try.func46 rfl NP rfl (fun B0 S0 H0=>?_)
 replace H0:Has B0 S0 [.box b1 [v3,w5],aA ae ah.kids 7 5 v3 ws4 a2.l none,aI w5 a2.freed]:=H0
 refine aC.seq ?_
 refine aC.region E.obj rfl ?_
 refine aj.val rfl (au rfl) rfl ?_
 refine aj.nil ?_
 refine aC.seq ?_
 refine aC.seq ?_
 refine aC.region E.obj rfl ?_
 refine aj.val rfl (aa rfl) rfl ?_
 refine aj.val rfl (aa rfl) rfl ?_
 obtain ⟨z7,hzz7,h⟩:=bind_some h
 refine aj.eF (ins:=[.box b1 [v3,w5],aA ae ah.kids 7 5 v3 ws4 a2.l none,aI w5 a2.freed]) (more:=[]) (H0.sl [0,1,2] rfl rfl) rfl (aH rfl rfl) (xZ E n _ _ hzz7 b1 v3 ws4 w5) (.cons (.refl _) .nil) rfl ?_
 rintro _ S8 _ ⟨rfl,rfl⟩ H9
 have H10:Has B0 S8 [.box b1 [v3,w5],aA ae ah.kids 7 5 v3 ws4 a2.l none,aI w5 a2.freed]:=H9.sl [0,1,2] rfl rfl
 refine aj.val rfl (aD rfl rfl bq) rfl ?_
 refine aj.nil ?_
 refine aC.cond rfl (fun hb11=>?_) (fun hb11=>?_)
 ·
  replace h:=dE hb11 h
  refine aC.seq ?_
  refine aC.region E.obj rfl ?_
  refine aj.val rfl (au rfl) rfl ?_
  refine aj.nil ?_
  have hr:=Option.some.inj h
  subst hr
  exact aC.ret ⟨_,rfl,rfl,_,_,_,.refl _,(.refl _),⟨rfl,ws4,w5,rfl⟩,H10.sl [0,1,2] rfl rfl⟩
 ·
  replace h:=dG hb11 h
  refine aC.skip ?_
  refine aC.seq ?_
  refine aC.region E.obj rfl ?_
  refine aj.val rfl (aa rfl) rfl ?_
  obtain ⟨z12,hzz12,h⟩:=bind_some h
  refine aj.eF (ins:=[.box b1 [v3,w5],aA ae ah.kids 7 5 v3 ws4 a2.l none,aI w5 a2.freed]) (more:=[]) (H10.sl [0,1,2] rfl rfl) rfl (aH rfl rfl) (dF E n _ _ hzz12 b1 v3 ws4 w5) (.cons (.refl _) .nil) rfl ?_
  rintro _ S13 _ ⟨rfl,rfl⟩ H14
  have H15:Has B0 S13 [.box b1 [v3,w5],aA ae ah.kids 7 5 v3 ws4 a2.l none,aI w5 a2.freed]:=H14.sl [0,1,2] rfl rfl
  refine aj.val rfl (au rfl) rfl ?_
  refine aj.nil ?_
  refine aC.seq ?_
  refine aC.region E.obj rfl ?_
  refine aj.val rfl (aa rfl) rfl ?_
  refine aj.val rfl (aa rfl) rfl ?_
  obtain ⟨z16,hzz16,h⟩:=bind_some h
  refine aj.eF (ins:=[.box b1 [v3,w5],aA ae ah.kids 7 5 v3 ws4 a2.l none,aI w5 a2.freed]) (more:=[]) (H15.sl [0,1,2] rfl rfl) rfl (aH rfl rfl) (vQ E n _ _ _ hzz16 b1 v3 ws4 w5) (.cons (.refl _) (.cons (.refl _) .nil)) rfl ?_
  rintro _ S19 _ ⟨rfl,ws17,w18,rfl⟩ H20
  have H21:Has B0 S19 [.box b1 [v3,w18],aA ae ah.kids 7 5 v3 ws17 z16.2.l none,aI w18 z16.2.freed]:=H20.sl [0,1,2] rfl rfl
  refine aj.nil ?_
  refine aC.seq ?_
  refine aC.region E.obj rfl ?_
  refine aj.val rfl (aa rfl) rfl ?_
  refine aj.val rfl (aa rfl) rfl ?_
  obtain ⟨z22,hzz22,h⟩:=bind_some h
  refine aj.eF (ins:=[.box b1 [v3,w18],aA ae ah.kids 7 5 v3 ws17 z16.2.l none,aI w18 z16.2.freed]) (more:=[]) (H21.sl [0,1,2] rfl rfl) rfl (aH rfl rfl) (xX E n _ _ _ hzz22 b1 v3 ws17 w18) (.cons (.refl _) (.cons (.refl _) .nil)) rfl ?_
  rintro _ S25 _ ⟨rfl,ws23,w24,rfl⟩ H26
  have H27:Has B0 S25 [.box b1 [v3,w24],aA ae ah.kids 7 5 v3 ws23 z22.2.l none,aI w24 z22.2.freed]:=H26.sl [0,1,2] rfl rfl
  refine aj.nil ?_
  refine aC.seq ?_
  refine aC.region E.obj rfl ?_
  refine aj.val rfl (aa rfl) rfl ?_
  refine aj.val rfl (aa rfl) rfl ?_
  obtain ⟨z28,hzz28,h⟩:=bind_some h
  refine aj.eF (ins:=[.box b1 [v3,w24],aA ae ah.kids 7 5 v3 ws23 z22.2.l none,aI w24 z22.2.freed]) (more:=[]) (H27.sl [0,1,2] rfl rfl) rfl (aH rfl rfl) (dF E n _ _ hzz28 b1 v3 ws23 w24) (.cons (.refl _) .nil) rfl ?_
  rintro _ S29 _ ⟨rfl,rfl⟩ H30
  have H31:Has B0 S29 [.box b1 [v3,w24],aA ae ah.kids 7 5 v3 ws23 z22.2.l none,aI w24 z22.2.freed]:=H30.sl [0,1,2] rfl rfl
  refine aj.val rfl (aD rfl rfl gX) rfl ?_
  refine aj.val rfl (au rfl) rfl ?_
  refine aj.nil ?_
  have hr:=Option.some.inj h
  subst hr
  exact aC.ret ⟨_,rfl,rfl,_,_,_,.refl _,(.refl _),⟨rfl,ws23,w24,rfl⟩,H31.sl [0,1,2] rfl rfl⟩
set_option maxRecDepth 20000 in
set_option maxHeartbeats 4000000 in
theorem Aw (n:Nat) (a2:ay) (a6:(List Int)) (r:(List Tree)) (h:oG n a2 a6=some r) (b1:Nat) (v3:AV) (ws4:List (List AV)) (w5:AV):dL R cfg.P 73 [.ptr b1 0 0,.d (.sl ((a6).map (D.int .i64)) false)] [.box b1 [v3,w5],aA ae ah.kids 7 5 v3 ws4 a2.l none,aI w5 a2.freed] (fun v l=>v=.d (.sl ((r).map ak) false)∧l=[.box b1 [v3,w5],aA ae ah.kids 7 5 v3 ws4 a2.l none,aI w5 a2.freed]):=by
 unfold oG at h
 refine dL.of_wp (C:=cfg) Try.func73 rfl NC rfl (fun B0 S0 H0=>?_)
 replace H0:Has B0 S0 [.box b1 [v3,w5],aA ae ah.kids 7 5 v3 ws4 a2.l none,aI w5 a2.freed]:=H0
 refine aC.seq ?_
 refine aC.region E.obj rfl ?_
 refine aj.val rfl (au rfl) rfl ?_
 refine aj.nil ?_
 refine aC.seq ?_
 refine aC.region E.obj rfl ?_
 refine aj.val rfl (au rfl) rfl ?_
 refine aj.nil ?_
 refine aC.seq ?_
 refine aC.seq ?_
 refine aC.region E.obj rfl ?_
 refine aj.val rfl (aa rfl) rfl ?_
 refine aj.val rfl (bu rfl jh) rfl ?_
 refine aj.val rfl (aa rfl) rfl ?_
 refine aj.nil ?_
 refine aC.block ?_
 have H35:=H0.IB
 refine qd.start (B:=B0) (α:=(List Tree) × AV × Int) (fun k a=>fM n a2 a6 k a.1 a.2.2=some r) (fun a=>[(0,(.ptr b1 0 0)),(5,a.2.1),(10,(.d (.sl ((a6).map (D.int .i64)) false))),(11,(.d (.int .i64 ((a6).length:Int)))),(12,(.d (.int .i64 a.2.2)))]) (fun a=>[.grow a.2.1 ((a.1).map ak),.box b1 [v3,w5],aA ae ah.kids 7 5 v3 ws4 a2.l none,aI w5 a2.freed]) ?_ ?_ n ⟨⟨[],(.d .aS),0⟩,_,_,S0,.refl _ _,.refl _,(ai.r rfl (ai.r rfl (ai.r rfl (ai.r rfl (ai.r rfl ai.nil))))),H35.sl [0,1,2,3] rfl rfl,h⟩
 ·
  intro a h; simp [fM] at h
 ·
  intro k19 a S14 H15 h
  obtain ⟨x16,v17,x18⟩:=a
  replace h:fM n a2 a6 (k19 + 1) x16 x18=some r:=h
  replace H15:Has B0 S14 [.grow v17 ((x16).map ak),.box b1 [v3,w5],aA ae ah.kids 7 5 v3 ws4 a2.l none,aI w5 a2.freed]:=H15
  unfold fM at h
  refine aC.seq ?_
  refine aC.region E.obj rfl ?_
  refine aj.val rfl (aD rfl rfl dO) rfl ?_
  refine aj.nil ?_
  refine aC.seq ?_
  refine aC.cond rfl (fun hb20=>?_) (fun hb20=>?_)
  ·
   replace h:=dE hb20 h
   refine aC.skip ?_
   refine aC.seq ?_
   refine aC.block ?_
   refine aC.seq ?_
   refine aC.region E.obj rfl ?_
   obtain ⟨z21,hzz21,h⟩:=bind_some h
   refine aj.val rfl (bA rfl rfl (bS (enc:=(D.int .i64)) hzz21 fH pz (((fun _=>rfl) _).trans kH.symm))) rfl ?_
   refine aj.val rfl (aW rfl (bK nU rfl)) rfl ?_
   refine aj.val rfl (au rfl) rfl ?_
   refine aj.nil ?_
   refine aC.seq ?_
   refine aC.region E.obj rfl ?_
   refine aj.val rfl (aa rfl) rfl ?_
   refine aj.val rfl (aa rfl) rfl ?_
   obtain ⟨z22,hzz22,h⟩:=bind_some h
   refine aj.eF (ins:=[.box b1 [v3,w5],aA ae ah.kids 7 5 v3 ws4 a2.l none,aI w5 a2.freed]) (more:=[.grow v17 ((x16).map ak)]) (H15.sl [1,2,3,0] rfl rfl) rfl (aH rfl rfl) (kP E n _ _ _ hzz22 b1 v3 ws4 w5) (.cons (.refl _) (.cons (.refl _) .nil)) rfl ?_
   rintro _ S23 _ ⟨rfl,rfl⟩ H24
   have H25:Has B0 S23 [.grow v17 ((x16).map ak),.box b1 [v3,w5],aA ae ah.kids 7 5 v3 ws4 a2.l none,aI w5 a2.freed]:=H24.sl [3,0,1,2] rfl rfl
   refine aj.val rfl (aa rfl) rfl ?_
   refine aj.val rfl (iR rfl rfl) rfl ?_
   refine aj.val rfl (iR rfl rfl) rfl ?_
   refine aj.alloc H25 rfl qo jv rfl rfl (fun b26 S27 H28=>?_)
   refine aj.store H28 (i:=0) rfl rfl rfl rfl (Tree.dN _) rfl bY rfl kF rfl rfl rfl (fun S29 H30=>?_)
   refine aj.val rfl (au rfl) rfl ?_
   refine aj.nil ?_
   refine aC.region E.obj rfl ?_
   refine aj.val rfl (aa rfl) rfl ?_
   refine aj.val rfl (aJ H30 (i:=0) rfl rfl (aZ fA bY rfl)) rfl ?_
   refine aj.less (Less.agg' (d:=ak z22.1) (ax.eq rfl (ax.eq rfl (ax.eq rfl (ax.eq rfl (ax.eq rfl .nil))))) ((Tree.eq _).trans rfl)) ?_
   refine aj.val rfl (cK (vs:=[(.d (ak z22.1))]) (ds:=[(ak z22.1)]) Am qb fA jv bY rfl (by decide) (.cons rfl (Tree.len _) .nil) rfl (by intro d hd; simp only [List.mem_cons,List.not_mem_nil,or_false] at hd; rcases hd with rfl <;> exact Tree.agg _) rfl) rfl ?_
   obtain ⟨z31,hzz31,h⟩:=bind_some h
   refine aj.append (xs:=(x16).map ak) (ys:=([z22.1]).map ak) (zs:=(z31).map ak) H30 rfl rfl rfl (i:=1) rfl rfl Am Ki qb (lC hzz31) Kk rfl (fI (enc:=ak) (fun z=>(Tree.len z).trans bY.symm) _) (fI (enc:=ak) (fun z=>(Tree.len z).trans bY.symm) _) Ka rfl (sG hzz31) (fun v32 S33 H34=>?_)
   refine aj.val rfl (au rfl) rfl ?_
   refine aj.nil ?_
   refine aC.region E.obj rfl ?_
   refine aj.val rfl (aD rfl rfl dx) rfl ?_
   refine aj.val rfl (aa rfl) rfl ?_
   refine aj.nil ?_
   exact ⟨⟨z31,v32,(IntKind.wrap .i64 (x18 + 1))⟩,_,_,S33,.refl _ _,.refl _,(ai.r rfl (ai.r rfl (ai.r rfl (ai.r rfl (ai.r rfl ai.nil))))),H34.sl [1,2,3,4] rfl rfl,h⟩
  ·
   replace h:=dG hb20 h
   refine aC.exit ?_
   refine aC.seq ?_
   refine aC.region E.obj rfl ?_
   refine aj.val rfl (aa rfl) rfl ?_
   refine aj.val rfl (au rfl) rfl ?_
   refine aj.nil ?_
   have hr:=Option.some.inj h
   subst hr
   exact aC.ret ⟨_,rfl,rfl,_,_,_,.refl _,(KS H15 (i:=0) rfl),⟨rfl,rfl⟩,H15.sl [1,2,3] rfl rfl⟩
set_option maxRecDepth 20000 in
set_option maxHeartbeats 4000000 in
theorem AA (n:Nat) (a1:Int) (a2:(List Int)) (r:(List Int)) (h:oq n a1 a2=some r):fw R cfg.P 74 [(.int .i64 a1),(.sl ((a2).map (D.int .i64)) false)] (.d (.sl ((r).map (D.int .i64)) false)):=by
 unfold oq at h
 refine fw.of_wp E.obj.toObjOk (C:=cfg) Try.func74 rfl M6 rfl ?_
 have H0:Has aK aK []:=Has.pure
 refine aC.seq ?_
 refine aC.region E.obj rfl ?_
 refine aj.val rfl (au rfl) rfl ?_
 refine aj.nil ?_
 refine aC.seq ?_
 refine aC.region E.obj rfl ?_
 refine aj.makeMap (D.int .i64) (D.int .i64) H0 rfl J9 rfl (fun b3 S4 H5=>?_)
 refine aj.val rfl (au rfl) rfl ?_
 refine aj.nil ?_
 refine aC.seq ?_
 refine aC.seq ?_
 refine aC.region E.obj rfl ?_
 refine aj.val rfl (aa rfl) rfl ?_
 refine aj.val rfl (bu rfl jh) rfl ?_
 refine aj.val rfl (aa rfl) rfl ?_
 refine aj.nil ?_
 refine aC.block ?_
 refine qd.start (B:=aK) (α:=(List (Int × Int)) × Int) (fun k a=>fU n a1 a2 k a.1 a.2=some r) (fun a=>[(0,(.d (.int .i64 a1))),(5,(.map b3)),(11,(.d (.sl ((a2).map (D.int .i64)) false))),(12,(.d (.int .i64 ((a2).length:Int)))),(13,(.d (.int .i64 a.2)))]) (fun a=>[.map b3 (mD (D.int .i64) (D.int .i64) a.1)]) ?_ ?_ n ⟨⟨[],0⟩,_,_,S4,.refl _ _,.refl _,(ai.r rfl (ai.r rfl (ai.r rfl (ai.r rfl (ai.r rfl ai.nil))))),H5.sl [0] rfl rfl,h⟩
 ·
  intro a h; simp [fU] at h
 ·
  intro k16 a S12 H13 h
  obtain ⟨x14,x15⟩:=a
  replace h:fU n a1 a2 (k16 + 1) x14 x15=some r:=h
  replace H13:Has aK S12 [.map b3 (mD (D.int .i64) (D.int .i64) x14)]:=H13
  unfold fU at h
  refine aC.seq ?_
  refine aC.region E.obj rfl ?_
  refine aj.val rfl (aD rfl rfl dO) rfl ?_
  refine aj.nil ?_
  refine aC.seq ?_
  refine aC.cond rfl (fun hb17=>?_) (fun hb17=>?_)
  ·
   replace h:=dE hb17 h
   refine aC.skip ?_
   refine aC.seq ?_
   refine aC.block ?_
   refine aC.seq ?_
   refine aC.region E.obj rfl ?_
   obtain ⟨z18,hzz18,h⟩:=bind_some h
   refine aj.val rfl (bA rfl rfl (bS (enc:=(D.int .i64)) hzz18 fH pz (((fun _=>rfl) _).trans kH.symm))) rfl ?_
   refine aj.val rfl (aW rfl (bK nU rfl)) rfl ?_
   refine aj.val rfl (au rfl) rfl ?_
   refine aj.nil ?_
   refine aC.region E.obj rfl ?_
   refine aj.val rfl (aa rfl) rfl ?_
   refine aj.val rfl (aa rfl) rfl ?_
   refine aj.val rfl (vN (ek:=(D.int .i64)) (ev:=(D.int .i64)) (k:=z18) (z:=0) H13 (i:=0) rfl rfl rfl J9 (FK NM) Ie) rfl ?_
   refine aj.val rfl (aD rfl rfl dx) rfl ?_
   refine aj.mapUpdate (ek:=(D.int .i64)) (ev:=(D.int .i64)) (k:=z18) (v:=(IntKind.wrap .i64 ((iT x14 z18 0) + 1))) H13 rfl (i:=0) rfl rfl rfl rfl J9 (FK NM) (fun S19 H20=>?_)
   refine aj.nil ?_
   refine aC.region E.obj rfl ?_
   refine aj.val rfl (aD rfl rfl dx) rfl ?_
   refine aj.val rfl (aa rfl) rfl ?_
   refine aj.nil ?_
   exact ⟨⟨(jZ x14 z18 (IntKind.wrap .i64 ((iT x14 z18 0) + 1))),(IntKind.wrap .i64 (x15 + 1))⟩,_,_,S19,.refl _ _,.refl _,(ai.r rfl (ai.r rfl (ai.r rfl (ai.r rfl (ai.r rfl ai.nil))))),H20.sl [0] rfl rfl,h⟩
  ·
   replace h:=dG hb17 h
   refine aC.exit ?_
   refine aC.seq ?_
   refine aC.region E.obj rfl ?_
   refine aj.val rfl (au rfl) rfl ?_
   refine aj.nil ?_
   refine aC.seq ?_
   refine aC.seq ?_
   refine aC.region E.obj rfl ?_
   refine aj.val rfl (aa rfl) rfl ?_
   refine aj.val rfl (zm rfl rfl) rfl ?_
   refine aj.val rfl (aa rfl) rfl ?_
   refine aj.nil ?_
   refine aC.block ?_
   have H45:=H13.IB
   refine qd.start (B:=aK) (α:=(List Int) × AV × Int) (fun k a=>dX a1 x14 k a.1 a.2.2=some r) (fun a=>[(5,(.map b3)),(8,a.2.1),(23,(.d (.int .i64 (vk a1 0)))),(24,(.d (.int .i64 a.2.2)))]) (fun a=>[.map b3 (mD (D.int .i64) (D.int .i64) x14),.grow a.2.1 ((a.1).map (D.int .i64))]) ?_ ?_ n ⟨⟨[],(.d .aS),0⟩,_,_,S12,.refl _ _,.refl _,(ai.r rfl (ai.r rfl (ai.r rfl (ai.r rfl ai.nil)))),H45.sl [1,0] rfl rfl,h⟩
   ·
    intro a h; simp [dX] at h
   ·
    intro k33 a S28 H29 h
    obtain ⟨x30,v31,x32⟩:=a
    replace h:dX a1 x14 (k33 + 1) x30 x32=some r:=h
    replace H29:Has aK S28 [.map b3 (mD (D.int .i64) (D.int .i64) x14),.grow v31 ((x30).map (D.int .i64))]:=H29
    unfold dX at h
    refine aC.seq ?_
    refine aC.region E.obj rfl ?_
    refine aj.val rfl (aD rfl rfl dO) rfl ?_
    refine aj.nil ?_
    refine aC.seq ?_
    refine aC.cond rfl (fun hb34=>?_) (fun hb34=>?_)
    ·
     replace h:=dE hb34 h
     refine aC.skip ?_
     refine aC.join (B:=aK) (α:=(List Int) × AV) (fun a=>iK x32 (dX a1 x14 k33) a.1=some r) (fun a=>[(5,(.map b3)),(8,a.2),(23,(.d (.int .i64 (vk a1 0)))),(24,(.d (.int .i64 x32)))]) (fun a=>[.map b3 (mD (D.int .i64) (D.int .i64) x14),.grow a.2 ((a.1).map (D.int .i64))]) ?_ ?_
     ·
      intro a S35 H36 h
      obtain ⟨x37,v38⟩:=a
      replace h:iK x32 (dX a1 x14 k33) x37=some r:=h
      replace H36:Has aK S35 [.map b3 (mD (D.int .i64) (D.int .i64) x14),.grow v38 ((x37).map (D.int .i64))]:=H36
      unfold iK at h
      refine aC.region E.obj rfl ?_
      refine aj.val rfl (aD rfl rfl dx) rfl ?_
      refine aj.val rfl (aa rfl) rfl ?_
      refine aj.nil ?_
      exact ⟨⟨x37,v38,(IntKind.wrap .i64 (x32 + 1))⟩,_,_,S35,.refl _ _,.refl _,(ai.r rfl (ai.r rfl (ai.r rfl (ai.r rfl ai.nil)))),H36.sl [0,1] rfl rfl,h⟩
     ·
      refine aC.block ?_
      refine aC.seq ?_
      refine aC.region E.obj rfl ?_
      refine aj.val rfl (aa rfl) rfl ?_
      refine aj.val rfl (au rfl) rfl ?_
      refine aj.nil ?_
      refine aC.seq ?_
      refine aC.region E.obj rfl ?_
      refine aj.val rfl (aa rfl) rfl ?_
      refine aj.val rfl (aa rfl) rfl ?_
      refine aj.val rfl (vN (ek:=(D.int .i64)) (ev:=(D.int .i64)) (k:=x32) (z:=0) H29 (i:=0) rfl rfl rfl J9 (FK NM) Ie) rfl ?_
      refine aj.val rfl (aD rfl rfl bq) rfl ?_
      refine aj.nil ?_
      refine aC.cond rfl (fun hb40=>?_) (fun hb40=>?_)
      ·
       replace h:=dE hb40 h
       refine aC.region E.obj rfl ?_
       refine aj.val rfl (aa rfl) rfl ?_
       refine aj.val rfl (aa rfl) rfl ?_
       refine aj.val rfl (cK (vs:=[(.d (.int .i64 x32))]) (ds:=[(.int .i64 x32)]) EW fH nU Ie kH rfl (by decide) (.cons rfl rfl .nil) rfl (by intro d hd; simp only [List.mem_cons,List.not_mem_nil,or_false] at hd; rcases hd with rfl <;> rfl) rfl) rfl ?_
       obtain ⟨z41,hzz41,h⟩:=bind_some h
       refine aj.append (xs:=(x30).map (D.int .i64)) (ys:=([x32]).map (D.int .i64)) (zs:=(z41).map (D.int .i64)) H29 rfl rfl rfl (i:=1) rfl rfl EW JJ fH (lC hzz41) KO rfl (fI (enc:=(D.int .i64)) (fun _=>kH.symm) _) (fI (enc:=(D.int .i64)) (fun _=>kH.symm) _) M9 rfl (sG hzz41) (fun v42 S43 H44=>?_)
       refine aj.val rfl (au rfl) rfl ?_
       refine aj.nil ?_
       exact ⟨⟨z41,v42⟩,_,_,S43,.refl _ _,.refl _,(ai.r rfl (ai.r rfl (ai.r rfl (ai.r rfl ai.nil)))),H44.sl [0,1] rfl rfl,h⟩
      ·
       replace h:=dG hb40 h
       refine aC.skip ?_
       exact ⟨⟨x30,v31⟩,_,_,S28,.refl _ _,.refl _,(ai.r rfl (ai.r rfl (ai.r rfl (ai.r rfl ai.nil)))),H29.sl [0,1] rfl rfl,h⟩
    ·
     replace h:=dG hb34 h
     refine aC.exit ?_
     refine aC.seq ?_
     refine aC.region E.obj rfl ?_
     refine aj.val rfl (aa rfl) rfl ?_
     refine aj.val rfl (au rfl) rfl ?_
     refine aj.nil ?_
     have hr:=Option.some.inj h
     subst hr
     exact aC.ret ⟨_,rfl,rfl,jW (aQ.grow H29 (i:=1) rfl .nil)⟩
end
end Pr
end Go.Ev

import Derived.Test.YtbjneeknddapfaaPartC
import Derived.Test.YtbjneeknddapfaaProg
import Derived.WalkKit
import Derived.ProofKit
namespace Go.Ev
theorem au.r {t:Nat} {x:AV} {e2 e:Env} (h:AL.get e t=some x) (k:au e2 e):au ((t,x) :: e2) e:=.cons h (.refl _) k
theorem lT.o {x:AV} {a b:List (Option AV)} (k:lT a b):lT (some x :: a) (some x :: b):=.old (.refl _) k
theorem lT.w (x:AV) {a b:List (Option AV)} (k:lT a b):lT (some x :: a) (none :: b):=.new k
theorem lT.n {a b:List (Option AV)} (k:lT a b):lT (none :: a) (none :: b):=.new k
theorem lT.z {a b:List (Option AV)} (k:lT a b):lT (some (.tup []) :: a) (none :: b):=.new k
theorem lT.f {a b:List (Option AV)} (k:lT a b):lT (some (.d (.bool false)) :: a) (none :: b):=.new k
theorem lT.q {x y z u:AV} {a b:List (Option AV)} (k:lT a b):lT (some x :: some y :: some z :: some u :: a) (some x :: some y :: some z :: some u :: b):=.o (.o (.o (.o k)))
theorem lT.m {a b:List (Option AV)} (k:lT a b):lT (none :: none :: none :: none :: a) (none :: none :: none :: none :: b):=.n (.n (.n (.n k)))
theorem RL.v {R:bU} {C:gV} {nt:Nat} {ops:Array Oper} {srcs:List Src} {e0:Env} {ws:List (Option AV)} {S:St} {i:Nat} {o:Oper} {x:AV} {e:Env} {os:List Nat} (ho:ops[i]? = some o) (hx:ws[i]? = some (some x)) (he:qE ws e0 (srcs.getD i [])=some e) (hw:bC ops e o=some true) (h:oper C (bB e) S o.op=some (.val x S)) (k:RL R C nt ops srcs e0 ws S os):RL R C nt ops srcs e0 ws S (i :: os):=.cons ho hx he (.val hw h (.refl _)) k
theorem Has.sl {B S:St} {l:List bA} (h:Has B S l) (is:List Nat) (hn:decide is.Nodup=true) {l':List bA} (hl:is.map (fun i=>l[i]?)=l'.map some):Has B S l':=h.Ou is (of_decide_eq_true hn) hl
namespace Pr
set_option linter.unusedVariables false
set_option linter.unusedSimpArgs false
open Go.Proofs
noncomputable def cfg:gV:={ P:=Try.prog,good:=fun _=>true,rowT:=fun _=>false,prim:=fun _ _ _=>none,objT:=fun _=>none,hasPrim:=fun _=>false }
noncomputable def C8:gV:={ cfg with rowT:=fun t=>Nat.beq t 31 || Nat.beq t 85 }
noncomputable def rM:gV:={ cfg with rowT:=fun t=>Nat.beq t 31 }
noncomputable def wz:gV:={ cfg with rowT:=fun t=>Nat.beq t 37 }
theorem ja:fw cfg.P 39 4=some (4,37):=by kernel_rfl
theorem oL:Nat.beq (aM cfg.P 37) 0=false:=by kernel_rfl
theorem rU:eD cfg.P 37=some false:=by kernel_rfl
theorem wE:(aZ cfg.P 37).isSome=true:=by kernel_rfl
theorem kJ:aZ cfg.P 37=some 39:=by kernel_rfl
theorem jc:(eD cfg.P 39).isSome=true:=by kernel_rfl
theorem bE:aM cfg.P 39=5:=by kernel_rfl
theorem dX:eD cfg.P 39=some true:=by kernel_rfl
theorem rV:cfg.objT 39=none:=by kernel_rfl
theorem fO:zeroOf cfg.P 39=some (.agg [.str [],.str [],.str [],.aO,.aO]):=by kernel_rfl
theorem Fa:fw cfg.P 90 0=some (0,4):=by kernel_rfl
theorem NH:Nat.beq (aM cfg.P 4) 0=false:=by kernel_rfl
theorem OH:aM cfg.P 4=1:=by kernel_rfl
theorem Ow:(eD cfg.P 4).isSome=true:=by kernel_rfl
theorem ve:fw cfg.P 87 1=some (1,31):=by kernel_rfl
theorem nR:Nat.beq (aM cfg.P 31) 0=false:=by kernel_rfl
theorem qg:eD cfg.P 31=some false:=by kernel_rfl
theorem nZ:(aZ cfg.P 31).isSome=true:=by kernel_rfl
theorem lQ:cfg.P.follows .mixedOrders=true:=by kernel_rfl
theorem kU:fw cfg.P 87 0=some (0,85):=by kernel_rfl
theorem uy:Nat.beq (aM cfg.P 85) 0=false:=by kernel_rfl
theorem vB:eD cfg.P 85=some false:=by kernel_rfl
theorem Kh:eD cfg.P 90=some true:=by kernel_rfl
theorem qx:aM cfg.P 90=7:=by kernel_rfl
theorem IC:C8.rowT 85=true:=by kernel_rfl
theorem xX:aZ cfg.P 85=some 90:=by kernel_rfl
theorem uU:(eD cfg.P 90).isSome=true:=by kernel_rfl
theorem GQ:zeroOf cfg.P 90=some (.agg [.bool false,.str [],.str [],.str [],.aO,.aO,.int .i64 0]):=by kernel_rfl
theorem LF:jd C8 85=true:=by kernel_rfl
theorem MV:bytesOf cfg.P 90=112:=by kernel_rfl
theorem Lc:fu C8 90=true:=by kernel_rfl
theorem Od:aM cfg.P 85=1:=by kernel_rfl
theorem NB:(eD cfg.P 85).isSome=true:=by kernel_rfl
theorem Kq:(aZ cfg.P 85).isSome=true:=by kernel_rfl
theorem fQ:aZ cfg.P 31=some 3:=by kernel_rfl
theorem vV:(eD cfg.P 3).isSome=true:=by kernel_rfl
theorem kV:aM cfg.P 3=1:=by kernel_rfl
theorem nV:eD cfg.P 3=some false:=by kernel_rfl
theorem Gc:(cfg.P.underlying 3).isSome=true:=by kernel_rfl
theorem JA:aM cfg.P 31=1:=by kernel_rfl
theorem JR:(eD cfg.P 31).isSome=true:=by kernel_rfl
theorem M8:(Try.f58.name == "runtime.NumGoroutine")=false:=by kernel_rfl
theorem MZ:(Try.f28.name == "runtime.NumGoroutine")=false:=by kernel_rfl
theorem Nr:(Try.f13.name == "runtime.NumGoroutine")=false:=by kernel_rfl
theorem M9:zeroOf cfg.P 87=some (.agg [.aO,.aO]):=by kernel_rfl
theorem Nt:(Try.f12.name == "runtime.NumGoroutine")=false:=by kernel_rfl
theorem Mq:cfg.objT 90=none:=by kernel_rfl
theorem Oo:eD cfg.P 4=some false:=by kernel_rfl
theorem rC:fw cfg.P 90 6=some (6,3):=by kernel_rfl
theorem Ko:Nat.beq (aM cfg.P 3) 0=false:=by kernel_rfl
theorem o7:cfg.rowT 31=false:=by kernel_rfl
theorem wD:zeroOf cfg.P 3=some (.int .i64 0):=by kernel_rfl
theorem J2:jd cfg 31=true:=by kernel_rfl
theorem KC:bytesOf cfg.P 3=8:=by kernel_rfl
theorem Nb:fu cfg 3=true:=by kernel_rfl
theorem Nn:(Try.f18.name == "runtime.NumGoroutine")=false:=by kernel_rfl
theorem Nj:(Try.f59.name == "runtime.NumGoroutine")=false:=by kernel_rfl
theorem qB:cfg.P.underlying 91=some (.pointer 90):=by kernel_rfl
theorem nm20:(Try.f20.name == "runtime.NumGoroutine")=false:=by kernel_rfl
theorem M0:(Try.f66.name == "runtime.NumGoroutine")=false:=by kernel_rfl
theorem Mc:cfg.P.underlying 36=some (.slice 54):=by kernel_rfl
theorem EF:aM cfg.P 54=2:=by kernel_rfl
theorem Lp:cfg.rowT 36=false:=by kernel_rfl
theorem Ik:aZ cfg.P 36=some 54:=by kernel_rfl
theorem Jw:eD cfg.P 54=some true:=by kernel_rfl
theorem Np:jd cfg 36=true:=by kernel_rfl
theorem Ol:bytesOf cfg.P 54=32:=by kernel_rfl
theorem M5:fu cfg 54=true:=by kernel_rfl
theorem zn:fw cfg.P 90 1=some (1,9):=by kernel_rfl
theorem uK:Nat.beq (aM cfg.P 9) 0=false:=by kernel_rfl
theorem sW:eD cfg.P 9=some false:=by kernel_rfl
theorem IX:fw cfg.P 90 2=some (2,9):=by kernel_rfl
theorem Fh:fw cfg.P 90 3=some (3,9):=by kernel_rfl
theorem EK:fw cfg.P 90 4=some (4,36):=by kernel_rfl
theorem Ab:Nat.beq (aM cfg.P 36) 0=false:=by kernel_rfl
theorem ER:eD cfg.P 36=some false:=by kernel_rfl
theorem oU:fw cfg.P 90 5=some (5,31):=by kernel_rfl
theorem tu:cfg.rowT 37=false:=by kernel_rfl
theorem JO:jd cfg 37=true:=by kernel_rfl
theorem II:bytesOf cfg.P 39=96:=by kernel_rfl
theorem JM:fu cfg 39=true:=by kernel_rfl
theorem IV:aM cfg.P 37=1:=by kernel_rfl
theorem Jk:(eD cfg.P 37).isSome=true:=by kernel_rfl
theorem MN:(Try.f65.name == "runtime.NumGoroutine")=false:=by kernel_rfl
theorem Oh:(Try.f21.name == "runtime.NumGoroutine")=false:=by kernel_rfl
theorem MO:(Try.f24.name == "runtime.NumGoroutine")=false:=by kernel_rfl
theorem M6:(Try.f25.name == "runtime.NumGoroutine")=false:=by kernel_rfl
theorem NF:(Try.f60.name == "runtime.NumGoroutine")=false:=by kernel_rfl
theorem Oi:(Try.f84.name == "runtime.NumGoroutine")=false:=by kernel_rfl
theorem Ob:(Try.f85.name == "runtime.NumGoroutine")=false:=by kernel_rfl
theorem NQ:(Try.f61.name == "runtime.NumGoroutine")=false:=by kernel_rfl
theorem qm:rM.rowT 31=true:=by kernel_rfl
theorem Ni:(Try.f14.name == "runtime.NumGoroutine")=false:=by kernel_rfl
theorem Lf:aM cfg.P 36=1:=by kernel_rfl
theorem LG:(eD cfg.P 36).isSome=true:=by kernel_rfl
theorem Og:(Try.f29.name == "runtime.NumGoroutine")=false:=by kernel_rfl
theorem oQ:fw cfg.P 39 0=some (0,9):=by kernel_rfl
theorem BP:fw cfg.P 39 2=some (2,9):=by kernel_rfl
theorem uZ:fw cfg.P 39 1=some (1,9):=by kernel_rfl
theorem vk:fw cfg.P 39 3=some (3,36):=by kernel_rfl
theorem Nw:(Try.f39.name == "runtime.NumGoroutine")=false:=by kernel_rfl
theorem KQ:(aZ cfg.P 36).isSome=true:=by kernel_rfl
theorem Mt:(eD cfg.P 54).isSome=true:=by kernel_rfl
theorem Nu:(Try.f75.name == "runtime.NumGoroutine")=false:=by kernel_rfl
theorem MP:(Try.f41.name == "runtime.NumGoroutine")=false:=by kernel_rfl
theorem Mh:cfg.rowT 58=false:=by kernel_rfl
theorem He:aZ cfg.P 58=some 9:=by kernel_rfl
theorem Om:zeroOf cfg.P 9=some (.str []):=by kernel_rfl
theorem K6:aM cfg.P 9=1:=by kernel_rfl
theorem ND:(Try.f76.name == "runtime.NumGoroutine")=false:=by kernel_rfl
theorem NM:(Try.f77.name == "runtime.NumGoroutine")=false:=by kernel_rfl
theorem Oj:(Try.f78.name == "runtime.NumGoroutine")=false:=by kernel_rfl
theorem NP:(Try.f79.name == "runtime.NumGoroutine")=false:=by kernel_rfl
theorem IK:fw cfg.P 65 0=some (0,31):=by kernel_rfl
theorem ES:fw cfg.P 65 3=some (3,31):=by kernel_rfl
theorem LW:(aZ cfg.P 58).isSome=true:=by kernel_rfl
theorem Mr:(eD cfg.P 9).isSome=true:=by kernel_rfl
theorem K9:fw cfg.P 65 1=some (1,31):=by kernel_rfl
theorem Lt:fw cfg.P 65 2=some (2,31):=by kernel_rfl
theorem Ov:(cfg.P.underlying 3).isSome=true:=by kernel_rfl
theorem OT:F6 cfg.P 5=some .u8:=by kernel_rfl
theorem MW:cfg.rowT 44=false:=by kernel_rfl
theorem MR:aZ cfg.P 44=some 5:=by kernel_rfl
theorem OA:eD cfg.P 5=some false:=by kernel_rfl
theorem OE:zeroOf cfg.P 5=some (.int .u8 0):=by kernel_rfl
theorem Oz:aM cfg.P 5=1:=by kernel_rfl
theorem N7:sU cfg 44=true:=by kernel_rfl
theorem OQ:xW cfg.P 9=true:=by kernel_rfl
theorem LM:zeroOf cfg.P 54=some (.agg [.str [],.str []]):=by kernel_rfl
theorem NZ:(Try.f43.name == "runtime.NumGoroutine")=false:=by kernel_rfl
theorem MM:(Try.f64.name == "runtime.NumGoroutine")=false:=by kernel_rfl
theorem Md:cfg.P.underlying 31=some (.slice 3):=by kernel_rfl
theorem JX:rZ rM 31 0=false:=by kernel_rfl
theorem zM:jd rM 31=true:=by kernel_rfl
theorem DK:fu rM 3=true:=by kernel_rfl
theorem Nc:(Try.f19.name == "runtime.NumGoroutine")=false:=by kernel_rfl
theorem Na:(Try.f17.name == "runtime.NumGoroutine")=false:=by kernel_rfl
theorem NK:(Try.f53.name == "runtime.NumGoroutine")=false:=by kernel_rfl
theorem Oa:(Try.f52.name == "runtime.NumGoroutine")=false:=by kernel_rfl
theorem NG:(Try.f54.name == "runtime.NumGoroutine")=false:=by kernel_rfl
theorem Nl:(Try.f15.name == "runtime.NumGoroutine")=false:=by kernel_rfl
theorem Nk:(Try.f31.name == "runtime.NumGoroutine")=false:=by kernel_rfl
theorem Ma:cfg.objT 109=none:=by kernel_rfl
theorem Kv:zeroOf cfg.P 109=some (.agg [.str [],.str []]):=by kernel_rfl
theorem KL:aM cfg.P 109=2:=by kernel_rfl
theorem LZ:(eD cfg.P 109).isSome=true:=by kernel_rfl
theorem Mi:eD cfg.P 109=some true:=by kernel_rfl
theorem NI:(Try.f80.name == "runtime.NumGoroutine")=false:=by kernel_rfl
theorem uf:ql rM 107=some (109,31):=by kernel_rfl
theorem Ho:rM.objT 39=none:=by kernel_rfl
theorem Le:zeroOf cfg.P 31=some (.aO):=by kernel_rfl
theorem Nq:(Try.f44.name == "runtime.NumGoroutine")=false:=by kernel_rfl
theorem MX:(Try.f63.name == "runtime.NumGoroutine")=false:=by kernel_rfl
theorem NT:(Try.f16.name == "runtime.NumGoroutine")=false:=by kernel_rfl
theorem NS:(Try.f22.name == "runtime.NumGoroutine")=false:=by kernel_rfl
theorem Ng:(Try.f46.name == "runtime.NumGoroutine")=false:=by kernel_rfl
theorem Nf:(Try.f73.name == "runtime.NumGoroutine")=false:=by kernel_rfl
theorem JJ:ql cfg 30=some (3,3):=by kernel_rfl
theorem Ns:cfg.P.underlying 3=some (.int .i64):=by kernel_rfl
theorem NR:(Try.f74.name == "runtime.NumGoroutine")=false:=by kernel_rfl
theorem Nv:(Try.f40.name == "runtime.NumGoroutine")=false:=by kernel_rfl
theorem M3:(Try.f56.name == "runtime.NumGoroutine")=false:=by kernel_rfl
theorem NA:(Try.f88.name == "runtime.NumGoroutine")=false:=by kernel_rfl
theorem LU:cfg.P.underlying 37=some (.slice 39):=by kernel_rfl
theorem J8:rZ wz 37 0=false:=by kernel_rfl
theorem IP:wz.rowT 37=true:=by kernel_rfl
theorem KR:jd wz 37=true:=by kernel_rfl
theorem K3:fu wz 39=true:=by kernel_rfl
theorem zK:wz.objT 39=none:=by kernel_rfl
theorem NW:(Try.f82.name == "runtime.NumGoroutine")=false:=by kernel_rfl
theorem MI:(Try.f83.name == "runtime.NumGoroutine")=false:=by kernel_rfl
theorem NC:(cfg.P.underlying 39).isSome=true:=by kernel_rfl
theorem N8:(Try.f57.name == "runtime.NumGoroutine")=false:=by kernel_rfl
theorem JH:cfg.P.underlying 23=some (.pointer 87):=by kernel_rfl
theorem Ny:(Try.f55.name == "runtime.NumGoroutine")=false:=by kernel_rfl
theorem zU:eD cfg.P 65=some true:=by kernel_rfl
theorem zI:aM cfg.P 65=4:=by kernel_rfl
theorem NL:(Try.f11.name == "runtime.NumGoroutine")=false:=by kernel_rfl
theorem sM:oper.P_place cfg 90=some (sK [(0,1),(1,1),(2,1),(3,1),(4,1),(5,1),(6,1)]):=oz (by kernel_rfl)
theorem zC:oper.P_place cfg 87=some (sK [(0,1),(1,1)]):=oz (by kernel_rfl)
theorem bq:oper.P_place cfg 39=some (sK [(0,1),(1,1),(2,1),(3,1),(4,1)]):=oz (by kernel_rfl)
theorem yZ:oper.P_place cfg 54=some (sK [(0,1),(1,1)]):=oz (by kernel_rfl)
theorem xQ:oper.P_place cfg 109=some (sK [(0,1),(1,1)]):=oz (by kernel_rfl)
theorem wM:oper.P_place rM 90=some (sK [(0,1),(1,1),(2,1),(3,1),(4,1),(5,1),(6,1)]):=oz (by kernel_rfl)
theorem Mg (x y:Attr):AV.eqv cfg.P 54 (.d (.agg [(.str x.Name),(.str x.Value)])) (.d (.agg [(.str y.Name),(.str y.Value)]))=some (Attr.beq x y) :=
 Dm (by kernel_rfl) Try.underlying54 (by kernel_rfl) (by kernel_rfl)
theorem LD (x y:bg):AV.eqv cfg.P 109 (.d (.agg [(.str x.tag),(.str x.key)])) (.d (.agg [(.str y.tag),(.str y.key)]))=some (bg.beq x y) :=
 Dm (by kernel_rfl) Try.underlying109 (by kernel_rfl) (by kernel_rfl)
theorem Li (x y:bg):bg.beq x y=(x == y):=by
 rw [Bool.eq_iff_iff]
 cases x; cases y
 simp [bg.beq]
theorem yY:rO cfg.P 109 aQ where
 eq:=fun a b=>by rw [bg.eq,bg.eq,← Mv (by kernel_rfl),LD,Li]
 same:=fun a=>by rw [bg.eq]; simp [D.same,D.nJ]
 ok:=fun a=>by rw [bg.eq]; exact BI Try.underlying109 rfl (by kernel_rfl)
def OB:List Src:=[[(0,none)],[(0,none)],[(17,some 1)],[(18,some 2)],[(19,some 3)],[(3,none)],[(21,some 5)],[(20,some 4),(22,some 6)],[(16,some 0)],[(24,some 8)],[(23,some 7),(25,some 9)]]
def OI:List Src:=[[(0,none)],[(47,some 0)],[(48,some 1)],[(49,some 2)],[(6,none)],[(51,some 4)],[(3,none)],[(50,some 3),(52,some 5)],[(53,some 6),(54,some 7)]]
def OJ:List Src:=[[(5,none)],[(17,some 0)],[(5,none)],[(19,some 2)],[(5,none)],[(21,some 4)],[(5,none)],[(23,some 6)],[(24,some 7)],[(18,some 1),(20,some 3),(22,some 5),(25,some 8)],[],[(6,some 10),(26,some 9)]]
def OL:List Src:=[[(6,none)],[(34,some 0)],[(0,none)],[(8,none)],[(36,some 2),(37,some 3)],[(38,some 4)],[(35,some 1),(39,some 5)],[(6,none)],[(40,some 6),(41,some 7)]]
def Ot:List Src:=[[(0,none)],[(5,none)],[(17,some 0),(18,some 1)],[(19,some 2)],[(1,none)],[(5,none)],[(21,some 4),(22,some 5)],[(23,some 6)],[(20,some 3),(24,some 7)]]
def OD:List Src:=[[(0,none)],[(1,none)],[(20,some 0),(21,some 1)],[(0,none)],[(2,none)],[(23,some 3),(24,some 4)],[(22,some 2),(25,some 5)],[(26,some 6)]]
def OO:List Src:=[[(0,none)],[(19,some 0)],[(20,some 1)],[(21,some 2)],[(4,none)],[(23,some 4)],[(24,some 5)],[(25,some 6)],[(26,some 7)],[(22,some 3),(27,some 8)],[(28,some 9)]]
def OM:List Src:=[[(9,none)],[(9,none)],[(44,some 1)],[(45,some 2)],[(46,some 3)],[(3,none)],[(9,none)],[(49,some 6)],[(50,some 7)],[(51,some 8)],[(52,some 9)],[(48,some 5),(53,some 10)],[(54,some 11)],[(2,none)],[(56,some 13)],[(47,some 4),(55,some 12),(57,some 14)],[(43,some 0)],[(59,some 16)],[(58,some 15),(60,some 17)]]
def Oy:List Src:=[[(2,none)],[(48,some 0)],[(5,none)],[(49,some 1),(50,some 2)],[(51,some 3)],[(3,none)],[(53,some 5)],[(5,none)],[(54,some 6),(55,some 7)],[(56,some 8)],[(52,some 4),(57,some 9)],[(58,some 10)]]
def Ox:List Src:=[[(5,none)],[(12,some 0)],[(0,none)],[(1,none)],[(14,some 2),(15,some 3)],[(16,some 4)],[(13,some 1)],[(17,some 5)]]
def M7:List Src:=[[(7,none)],[(24,some 0)],[(0,none)],[(1,none)],[(8,none)],[(26,some 2),(27,some 3),(28,some 4)],[(29,some 5)],[(25,some 1),(30,some 6)],[(7,none)],[(31,some 7),(32,some 8)]]
def Nz:List Src:=[[(5,none)],[(7,none)],[(21,some 1)],[(5,none)],[(7,none)],[(24,some 4)],[(23,some 3),(25,some 5)],[(6,none)],[(27,some 7)],[(26,some 6),(28,some 8)],[(20,some 0),(22,some 2),(29,some 9)]]
def MH:List Src:=[[(5,none)],[(10,none)],[(54,some 1)],[(11,none)],[(56,some 3)],[(53,some 0),(55,some 2),(57,some 4)]]
def NN:List Src:=[[(0,none)],[(3,some 0)],[(4,some 1)],[(5,some 2)],[(6,some 3)],[(0,none)],[(8,some 5)],[(9,some 6)],[(10,some 7)],[(11,some 8)],[(7,some 4),(12,some 9)],[(13,some 10)]]
def Nh:List Src:=[[(0,none)],[(9,none)],[(53,some 0),(54,some 1)],[(5,none)],[(56,some 3)],[(55,some 2),(57,some 4)],[(58,some 5)]]
def ML:List Src:=[[(0,none)],[(9,none)],[(10,none)],[(13,none)],[(108,some 2),(109,some 3)],[(110,some 4)],[(107,some 1),(111,some 5)],[(112,some 6)],[(14,none)],[(106,some 0),(113,some 7),(114,some 8)]]
def NU:List Src:=[[(1,none)],[(21,some 0)],[(3,none)],[(4,none)],[(24,some 3)],[(22,some 1),(23,some 2)],[(25,some 4),(26,some 5)]]
def M4:List Src:=[[(3,none)],[(0,none)],[(17,some 1)],[(18,some 2)],[(16,some 0),(19,some 3)],[(20,some 4)],[(15,some 5)],[(15,some 5)],[(3,none),(21,some 6)]]
def yD:List Src:=[[(9,none)],[(52,some 0)],[(8,none),(53,some 1)],[(2,none),(53,some 1)],[(55,some 3),(53,some 1)],[(54,some 2),(56,some 4),(53,some 1)],[(53,some 1),(57,some 5)],[(58,some 6)],[(5,none),(59,some 7)],[(7,none),(59,some 7)],[(60,some 8),(61,some 9),(59,some 7)],[(62,some 10),(59,some 7)],[(59,some 7),(63,some 11)],[(64,some 12)],[(5,none),(65,some 13)],[(66,some 14),(65,some 13)],[(6,none),(65,some 13)],[(10,none),(65,some 13)],[(7,none),(65,some 13)],[(68,some 16),(69,some 17),(70,some 18),(65,some 13)],[(67,some 15),(71,some 19),(65,some 13)],[(65,some 13),(72,some 20)],[(73,some 21)],[(5,none),(74,some 22)],[(10,none),(74,some 22)],[(75,some 23),(76,some 24),(74,some 22)],[(77,some 25),(74,some 22)],[(74,some 22),(78,some 26)],[(79,some 27)],[(5,none),(80,some 28)],[(10,none),(80,some 28)],[(7,none),(80,some 28)],[(81,some 29),(82,some 30),(83,some 31),(80,some 28)],[(84,some 32),(80,some 28)],[(80,some 28),(85,some 33)],[(86,some 34)],[(5,none),(87,some 35)],[(11,none),(87,some 35)],[(88,some 36),(89,some 37),(87,some 35)],[(90,some 38),(87,some 35)],[(87,some 35),(91,some 39)],[(92,some 40)],[(5,none),(93,some 41)],[(11,none),(93,some 41)],[(94,some 42),(95,some 43),(93,some 41)],[(96,some 44),(93,some 41)],[(93,some 41),(97,some 45)],[(98,some 46)],[(5,none),(99,some 47)],[(11,none),(99,some 47)],[(12,none),(99,some 47)],[(100,some 48),(101,some 49),(102,some 50),(99,some 47)],[(103,some 51),(99,some 47)],[(99,some 47),(104,some 52)],[(105,some 53)],[(12,none),(106,some 54)],[(106,some 54)],[(107,some 55),(108,some 56),(106,some 54)],[(109,some 57),(106,some 54)],[(12,none),(106,some 54)],[(110,some 58),(111,some 59),(106,some 54)],[(106,some 54),(112,some 60)],[(113,some 61)],[(114,some 62)],[(114,some 62),(115,some 63)],[(116,some 64)]]
structure Lh (R:bU):Prop where
 obj:mI R cfg
 insp:BU R cfg.P 62 og
section
variable {R:bU} (E:Lh R)
include E
theorem uI:mI R C8:=⟨E.obj.toObjOk,E.obj.new⟩
theorem eX:mI R rM:=⟨E.obj.toObjOk,E.obj.new⟩
theorem iR:mI R wz:=⟨E.obj.toObjOk,E.obj.new⟩
set_option maxRecDepth 20000 in
set_option maxHeartbeats 4000000 in
theorem sQ (n:Nat) (a2:aB) (a6:aK) (r:(Int × aB)) (h:kG n a2 a6=some r) (b1:Nat) (v3:AV) (ws4:List (List AV)) (w5:AV):dz R cfg.P 58 [.ptr b1 0 0,.d (gG a6)] [.box b1 [v3,w5],aA ae ah.kids 7 5 v3 ws4 a2.l none,aG w5 a2.freed] (fun v l=>v=.d (.int .i64 r.1)∧∃ dv0 dws0 dw0,l=[.box b1 [dv0,dw0],aA ae ah.kids 7 5 dv0 dws0 r.2.l none,aG dw0 r.2.freed]):=by
 unfold kG at h
 refine dz.of_wp (C:=C8) Try.func58 rfl M8 rfl (fun B0 S0 H0=>?_)
 replace H0:Has B0 S0 [.box b1 [v3,w5],aA ae ah.kids 7 5 v3 ws4 a2.l none,aG w5 a2.freed]:=H0
 refine aD.seq ?_
 refine aD.region (uI E) rfl ?_
 refine aj.box H0 rfl rfl rfl (aK.dx _) rfl (fun b7 S8 H9=>?_)
 refine aj.val rfl (ak rfl) rfl ?_
 refine aj.nil ?_
 refine aD.seq ?_
 refine aD.region (uI E) rfl ?_
 refine aj.val rfl (aF rfl Fa NH rfl) rfl ?_
 refine aj.store H9 (i:=0) rfl rfl rfl rfl rfl rfl OH rfl Ow rfl rfl rfl (fun S10 H11=>?_)
 refine aj.nil ?_
 refine aD.seq ?_
 refine aD.region (uI E) rfl ?_
 refine aj.val rfl (aa rfl) rfl ?_
 refine aj.val rfl (bF rfl) rfl ?_
 refine aj.val rfl (aF rfl ve nR rfl) rfl ?_
 refine aj.val rfl (aJ H11 (i:=1) rfl rfl (aS qg rfl)) rfl ?_
 refine aj.val rfl (kP H11 (i:=3) rfl rfl nZ) rfl ?_
 refine aj.val rfl (aH rfl rfl iB) rfl ?_
 refine aj.val rfl (ak rfl) rfl ?_
 refine aj.nil ?_
 refine aD.seq ?_
 refine aD.seq ?_
 refine aD.region (uI E) rfl ?_
 refine aj.val rfl (aa rfl) rfl ?_
 refine aj.val rfl (aH rfl rfl dR) rfl ?_
 refine aj.nil ?_
 refine aD.cond rfl (fun hb12=>?_) (fun hb12=>?_)
 ·
  replace h:=dH hb12 h
  refine aD.seq ?_
  obtain ⟨z17,hzz17,h⟩:=bind_some h
  refine aD.jf (uI E) lQ OB [(0,none)] (by kernel_rfl) [6,7,10] (by decide) [some (.ptr b1 0 0),some (.ptr b1 0 0),some (.ptr b1 0 0),some (.ptr b1 0 0),some v3,some (.d (gG (aK.mk true a6.tag a6.key a6.text a6.attrs a6.parent))),none,none,none,none,none] ?_
  refine ⟨[0,1,2,3,4,5],by kernel_rfl,?_,_,_,rfl,rfl,.step ?_⟩
  ·
   refine .v rfl rfl rfl rfl (aa rfl) ?_
   refine .v rfl rfl rfl rfl (aa rfl) ?_
   refine .v rfl rfl rfl rfl (bF rfl) ?_
   refine .v rfl rfl rfl rfl (aF rfl kU uy rfl) ?_
   refine .v rfl rfl rfl rfl (aJ H11 (i:=1) rfl rfl (aS vB rfl)) ?_
   refine .cons rfl rfl rfl (.step ?_) ?_
   ·
    refine aj.val rfl (aJ H11 (i:=0) rfl rfl (aW Kh qx rfl)) rfl ?_
    refine aj.less (Less.agg' (d:=gG (aK.mk true a6.tag a6.key a6.text a6.attrs a6.parent)) (ax.eq rfl (ax.eq rfl (ax.eq rfl (ax.eq rfl (ax.eq rfl (ax.eq rfl (ax.eq rfl .nil))))))) ((aK.eq _).trans rfl)) ?_
    exact aj.nil ⟨_,_,rfl,fun _ ht=>by cases ht; exact ⟨rfl,.refl _⟩⟩
   exact .nil
  refine aj.qG (vs:=[(.d (gG (aK.mk true a6.tag a6.key a6.text a6.attrs a6.parent)))]) (cs:=[[(.d (.bool (aK.mk true a6.tag a6.key a6.text a6.attrs a6.parent).lives)),(.d (.str (aK.mk true a6.tag a6.key a6.text a6.attrs a6.parent).tag)),(.d (.str (aK.mk true a6.tag a6.key a6.text a6.attrs a6.parent).key)),(.d (.str (aK.mk true a6.tag a6.key a6.text a6.attrs a6.parent).text)),(.d (.sl (((aK.mk true a6.tag a6.key a6.text a6.attrs a6.parent).attrs).map ay) false)),(.d .aO),(.d (.int .i64 (aK.mk true a6.tag a6.key a6.text a6.attrs a6.parent).parent))]]) H11 rfl IC xX uU GQ qx rfl (by decide) (.cons (Ed (aK.dx _)) rfl .nil) rfl rfl rfl (fun v26 S27 H28=>?_)
  have H29:Has B0 S27 [ic 7 1 v26 [(.d (.bool (aK.mk true a6.tag a6.key a6.text a6.attrs a6.parent).lives)),(.d (.str (aK.mk true a6.tag a6.key a6.text a6.attrs a6.parent).tag)),(.d (.str (aK.mk true a6.tag a6.key a6.text a6.attrs a6.parent).key)),(.d (.str (aK.mk true a6.tag a6.key a6.text a6.attrs a6.parent).text)),(.d (.sl (((aK.mk true a6.tag a6.key a6.text a6.attrs a6.parent).attrs).map ay) false)),(.d .aO),(.d (.int .i64 (aK.mk true a6.tag a6.key a6.text a6.attrs a6.parent).parent))],.box b7 [(.d (.bool true)),(.d (.str a6.tag)),(.d (.str a6.key)),(.d (.str a6.text)),(.d (.sl ((a6.attrs).map ay) false)),(.d .aO),(.d (.int .i64 a6.parent))],.box b1 [v3,w5],aA ae ah.kids 7 5 v3 ws4 a2.l none,aG w5 a2.freed]:=H28.sl [0,1,2,3,4] rfl rfl
  refine aj.nil ⟨_,_,_,rfl,(fun _ ht=>by cases ht; rfl),_,(.q (.o (.o (.w v26 (.m .nil))))),(fun _ ht=>by cases ht; exact ⟨_,rfl,.refl _⟩),?_⟩
  refine ⟨[0,1,2,3,4],by kernel_rfl,?_,_,_,rfl,rfl,.step ?_⟩
  ·
   refine .v rfl rfl rfl rfl (aa rfl) ?_
   refine .v rfl rfl rfl rfl (aa rfl) ?_
   refine .v rfl rfl rfl rfl (bF rfl) ?_
   refine .v rfl rfl rfl rfl (aF rfl kU uy rfl) ?_
   refine .v rfl rfl rfl rfl (aJ H29 (i:=2) rfl rfl (aS vB rfl)) ?_
   exact .nil
  have H30:Has B0 S27 ([ic 7 1 v26 [(.d (.bool (aK.mk true a6.tag a6.key a6.text a6.attrs a6.parent).lives)),(.d (.str (aK.mk true a6.tag a6.key a6.text a6.attrs a6.parent).tag)),(.d (.str (aK.mk true a6.tag a6.key a6.text a6.attrs a6.parent).key)),(.d (.str (aK.mk true a6.tag a6.key a6.text a6.attrs a6.parent).text)),(.d (.sl (((aK.mk true a6.tag a6.key a6.text a6.attrs a6.parent).attrs).map ay) false)),(.d .aO),(.d (.int .i64 (aK.mk true a6.tag a6.key a6.text a6.attrs a6.parent).parent))],aA ae ah.kids 7 5 v3 ws4 a2.l none] ++ [.box b7 [(.d (.bool true)),(.d (.str a6.tag)),(.d (.str a6.key)),(.d (.str a6.text)),(.d (.sl ((a6.attrs).map ay) false)),(.d .aO),(.d (.int .i64 a6.parent))],.box b1 [v3,w5],aG w5 a2.freed]):=H29.sl [0,3,1,2,4] rfl rfl
  replace H30:Has B0 S27 [ic 7 1 v26 [(.d (.bool (aK.mk true a6.tag a6.key a6.text a6.attrs a6.parent).lives)),(.d (.str (aK.mk true a6.tag a6.key a6.text a6.attrs a6.parent).tag)),(.d (.str (aK.mk true a6.tag a6.key a6.text a6.attrs a6.parent).key)),(.d (.str (aK.mk true a6.tag a6.key a6.text a6.attrs a6.parent).text)),(.d (.sl (((aK.mk true a6.tag a6.key a6.text a6.attrs a6.parent).attrs).map ay) false)),(.d .aO),(.d (.int .i64 (aK.mk true a6.tag a6.key a6.text a6.attrs a6.parent).parent))],aA ae ah.kids 7 5 v3 ws4 a2.l none,.box b7 [(.d (.bool true)),(.d (.str a6.tag)),(.d (.str a6.key)),(.d (.str a6.text)),(.d (.sl ((a6.attrs).map ay) false)),(.d .aO),(.d (.int .i64 a6.parent))],.box b1 [v3,w5],aG w5 a2.freed]:=H30
  refine aj.Ez (z:=(ah.mk (aK.mk true a6.tag a6.key a6.text a6.attrs a6.parent).lives (aK.mk true a6.tag a6.key a6.text a6.attrs a6.parent).tag (aK.mk true a6.tag a6.key a6.text a6.attrs a6.parent).key (aK.mk true a6.tag a6.key a6.text a6.attrs a6.parent).text (aK.mk true a6.tag a6.key a6.text a6.attrs a6.parent).attrs [] (aK.mk true a6.tag a6.key a6.text a6.attrs a6.parent).parent)) H30 rfl rfl rfl IC LF xX qx hzz17 MV rfl Lc ⟨rfl,rfl,rfl,(.cons (.refl _) (.cons (.refl _) (.cons (.refl _) (.cons (.refl _) (.cons (.refl _) (.cons (Less.any _) (.cons (.refl _) .nil)))))))⟩ rfl rfl rfl (fun v31 ws32 S33 H34=>?_)
  have H35:Has B0 S33 [.box b7 [(.d (.bool true)),(.d (.str a6.tag)),(.d (.str a6.key)),(.d (.str a6.text)),(.d (.sl ((a6.attrs).map ay) false)),(.d .aO),(.d (.int .i64 a6.parent))],.box b1 [v3,w5],aA ae ah.kids 7 5 v31 ws32 z17 none,aG w5 a2.freed]:=H34.sl [1,2,0,3] rfl rfl
  refine aj.nil ⟨_,_,_,rfl,(fun _ ht=>by cases ht; rfl),_,(.q (.o (.o (.o (.w v31 (.w (.ptr b1 0 0) (.w (.ptr b1 0 0) (.n .nil)))))))),(fun _ ht=>by cases ht; exact ⟨_,rfl,.refl _⟩),?_⟩
  refine ⟨[0,8,9],by kernel_rfl,?_,_,_,rfl,rfl,.step ?_⟩
  ·
   refine .v rfl rfl rfl rfl (aa rfl) ?_
   refine .v rfl rfl rfl rfl (bF rfl) ?_
   refine .v rfl rfl rfl rfl (aF rfl kU uy rfl) ?_
   exact .nil
  refine aj.store H35 (i:=1) rfl rfl rfl rfl (zN H35 (i:=2) rfl).2 rfl Od (zN H35 (i:=2) rfl).1 NB rfl rfl rfl (fun S36 H37=>?_)
  refine aj.nil ⟨_,.any,_,rfl,(fun _ ht=>by cases ht),_,(.q (.q (.o (.o (.w .any .nil))))),(fun _ ht=>by cases ht),?_⟩
  refine ⟨[],by kernel_rfl,?_,_,rfl,?_⟩
  ·
   exact .nil
  refine aD.seq ?_
  refine aD.region (uI E) rfl ?_
  refine aj.val rfl (aa rfl) rfl ?_
  refine aj.val rfl (bF rfl) rfl ?_
  refine aj.val rfl (aF rfl kU uy rfl) rfl ?_
  refine aj.val rfl (aJ H37 (i:=1) rfl rfl (aS vB rfl)) rfl ?_
  refine aj.val rfl (um H37 (i:=2) rfl rfl Kq) rfl ?_
  refine aj.val rfl (ak rfl) rfl ?_
  refine aj.nil ?_
  have hr:=Option.some.inj h
  subst hr
  exact aD.ret ⟨_,rfl,rfl,_,_,_,.refl _,(.refl _),⟨rfl,v31,ws32,w5,rfl⟩,H37.sl [1,2,3] rfl rfl⟩
 replace h:=dI hb12 h
 refine aD.skip ?_
 refine aD.seq ?_
 refine aD.region (uI E) rfl ?_
 refine aj.val rfl (aa rfl) rfl ?_
 refine aj.val rfl (bF rfl) rfl ?_
 refine aj.val rfl (aF rfl ve nR rfl) rfl ?_
 refine aj.val rfl (aJ H11 (i:=1) rfl rfl (aS qg rfl)) rfl ?_
 refine aj.val rfl (aa rfl) rfl ?_
 obtain ⟨z38,hzz38,h⟩:=bind_some h
 refine aj.val rfl (sD H11 (q:=3) rfl hzz38 rfl rfl fQ vV kV) rfl ?_
 refine aj.val rfl (qM H11 (q:=3) rfl hzz38 rfl nV) rfl ?_
 refine aj.val rfl (ak rfl) rfl ?_
 refine aj.nil ?_
 refine aD.seq ?_
 refine aD.region (uI E) rfl ?_
 refine aj.val rfl (aa rfl) rfl ?_
 refine aj.val rfl (aa rfl) rfl ?_
 refine aj.val rfl (bF rfl) rfl ?_
 refine aj.val rfl (aF rfl ve nR rfl) rfl ?_
 refine aj.val rfl (aJ H11 (i:=1) rfl rfl (aS qg rfl)) rfl ?_
 refine aj.val rfl (aa rfl) rfl ?_
 obtain ⟨z39,hzz39,h⟩:=bind_some h
 have H40:Has B0 S10 ([aG w5 a2.freed] ++ [.box b7 [(.d (.bool true)),(.d (.str a6.tag)),(.d (.str a6.key)),(.d (.str a6.text)),(.d (.sl ((a6.attrs).map ay) false)),(.d .aO),(.d (.int .i64 a6.parent))],.box b1 [v3,w5],aA ae ah.kids 7 5 v3 ws4 a2.l none]):=H11.sl [3,0,1,2] rfl rfl
 replace H40:Has B0 S10 [aG w5 a2.freed,.box b7 [(.d (.bool true)),(.d (.str a6.tag)),(.d (.str a6.key)),(.d (.str a6.text)),(.d (.sl ((a6.attrs).map ay) false)),(.d .aO),(.d (.int .i64 a6.parent))],.box b1 [v3,w5],aA ae ah.kids 7 5 v3 ws4 a2.l none]:=H40
 refine aj.La H40 rfl rfl rfl fQ Gc kV hzz39 rfl (fun w41 H42=>?_)
 have H43:Has B0 S10 [.box b7 [(.d (.bool true)),(.d (.str a6.tag)),(.d (.str a6.key)),(.d (.str a6.text)),(.d (.sl ((a6.attrs).map ay) false)),(.d .aO),(.d (.int .i64 a6.parent))],.box b1 [v3,w5],aA ae ah.kids 7 5 v3 ws4 a2.l none,aG w41 z39]:=H42.sl [1,2,3,0] rfl rfl
 refine aj.val rfl (bF rfl) rfl ?_
 refine aj.val rfl (aF rfl ve nR rfl) rfl ?_
 refine aj.store H43 (i:=1) rfl rfl rfl rfl (tQ H43 (i:=3) rfl).2 rfl JA (tQ H43 (i:=3) rfl).1 JR rfl rfl rfl (fun S44 H45=>?_)
 refine aj.nil ?_
 refine aD.seq ?_
 obtain ⟨z46,hzz46,h⟩:=bind_some h
 refine aD.jf (uI E) lQ OI [(6,none)] (by kernel_rfl) [8] (by decide) [some (.ptr b1 0 0),some (.ptr b1 0 0),some (.ptr b1 0 0),some v3,some (.d (.int .i64 z38)),some (.d (.int .i64 (IntKind.wrap .i64 (z38 - 1)))),some (.d (gG (aK.mk true a6.tag a6.key a6.text a6.attrs a6.parent))),some (dh v3 (Int.toNat (IntKind.wrap .i64 (z38 - 1))) 0),none] ?_
 refine ⟨[0,1,2,3,4,5,6,7],by kernel_rfl,?_,_,_,rfl,rfl,.step ?_⟩
 ·
  refine .v rfl rfl rfl rfl (aa rfl) ?_
  refine .v rfl rfl rfl rfl (bF rfl) ?_
  refine .v rfl rfl rfl rfl (aF rfl kU uy rfl) ?_
  refine .v rfl rfl rfl rfl (aJ H45 (i:=1) rfl rfl (aS vB rfl)) ?_
  refine .v rfl rfl rfl rfl (aa rfl) ?_
  refine .v rfl rfl rfl rfl (aH rfl rfl iB) ?_
  refine .cons rfl rfl rfl (.step ?_) ?_
  ·
   refine aj.val rfl (aJ H45 (i:=0) rfl rfl (aW Kh qx rfl)) rfl ?_
   refine aj.less (Less.agg' (d:=gG (aK.mk true a6.tag a6.key a6.text a6.attrs a6.parent)) (ax.eq rfl (ax.eq rfl (ax.eq rfl (ax.eq rfl (ax.eq rfl (ax.eq rfl (ax.eq rfl .nil))))))) ((aK.eq _).trans rfl)) ?_
   exact aj.nil ⟨_,_,rfl,fun _ ht=>by cases ht; exact ⟨rfl,.refl _⟩⟩
  refine .v rfl rfl rfl rfl (ig H45 (i:=2) rfl hzz46 rfl rfl xX uU qx) ?_
  exact .nil
 have H55:Has B0 S44 ([aA ae ah.kids 7 5 v3 ws4 a2.l none] ++ [.box b7 [(.d (.bool true)),(.d (.str a6.tag)),(.d (.str a6.key)),(.d (.str a6.text)),(.d (.sl ((a6.attrs).map ay) false)),(.d .aO),(.d (.int .i64 a6.parent))],.box b1 [v3,w41],aG w41 z39]):=H45.sl [2,0,1,3] rfl rfl
 replace H55:Has B0 S44 [aA ae ah.kids 7 5 v3 ws4 a2.l none,.box b7 [(.d (.bool true)),(.d (.str a6.tag)),(.d (.str a6.key)),(.d (.str a6.text)),(.d (.sl ((a6.attrs).map ay) false)),(.d .aO),(.d (.int .i64 a6.parent))],.box b1 [v3,w41],aG w41 z39]:=H55
 refine aj.yV (z':=(ah.mk (aK.mk true a6.tag a6.key a6.text a6.attrs a6.parent).lives (aK.mk true a6.tag a6.key a6.text a6.attrs a6.parent).tag (aK.mk true a6.tag a6.key a6.text a6.attrs a6.parent).key (aK.mk true a6.tag a6.key a6.text a6.attrs a6.parent).text (aK.mk true a6.tag a6.key a6.text a6.attrs a6.parent).attrs [] (aK.mk true a6.tag a6.key a6.text a6.attrs a6.parent).parent)) H55 rfl hzz46 (.inl rfl) rfl rfl (aK.dx _) rfl qx uU rfl rfl rfl (.cons (.refl _) (.cons (.refl _) (.cons (.refl _) (.cons (.refl _) (.cons (.refl _) (.cons (Less.any _) (.cons (.refl _) .nil))))))) rfl rfl (fun ws54 S52 H53=>?_)
 have H56:Has B0 S52 [.box b7 [(.d (.bool true)),(.d (.str a6.tag)),(.d (.str a6.key)),(.d (.str a6.text)),(.d (.sl ((a6.attrs).map ay) false)),(.d .aO),(.d (.int .i64 a6.parent))],.box b1 [v3,w41],aA ae ah.kids 7 5 v3 ws54 (jl a2.l (IntKind.wrap .i64 (z38 - 1)) (ah.mk (aK.mk true a6.tag a6.key a6.text a6.attrs a6.parent).lives (aK.mk true a6.tag a6.key a6.text a6.attrs a6.parent).tag (aK.mk true a6.tag a6.key a6.text a6.attrs a6.parent).key (aK.mk true a6.tag a6.key a6.text a6.attrs a6.parent).text (aK.mk true a6.tag a6.key a6.text a6.attrs a6.parent).attrs [] (aK.mk true a6.tag a6.key a6.text a6.attrs a6.parent).parent)) none,aG w41 z39]:=H53.sl [1,2,0,3] rfl rfl
 refine aj.nil ⟨_,.any,_,rfl,(fun _ ht=>by cases ht),_,(.q (.q (.w .any .nil))),(fun _ ht=>by cases ht),?_⟩
 refine ⟨[],by kernel_rfl,?_,_,rfl,?_⟩
 ·
  exact .nil
 refine aD.seq ?_
 refine aD.region (uI E) rfl ?_
 refine aj.val rfl (aa rfl) rfl ?_
 refine aj.val rfl (ak rfl) rfl ?_
 refine aj.nil ?_
 have hr:=Option.some.inj h
 subst hr
 exact aD.ret ⟨_,rfl,rfl,_,_,_,.refl _,(.refl _),⟨rfl,v3,ws54,w41,rfl⟩,H56.sl [1,2,3] rfl rfl⟩
set_option maxRecDepth 20000 in
set_option maxHeartbeats 4000000 in
theorem rH (n:Nat) (a2:aB) (a6:Str) (r:(Int × aB)) (h:kL n a2 a6=some r) (b1:Nat) (v3:AV) (ws4:List (List AV)) (w5:AV):dz R cfg.P 28 [.ptr b1 0 0,.d (.str a6)] [.box b1 [v3,w5],aA ae ah.kids 7 5 v3 ws4 a2.l none,aG w5 a2.freed] (fun v l=>v=.d (.int .i64 r.1)∧∃ dv0 dws0 dw0,l=[.box b1 [dv0,dw0],aA ae ah.kids 7 5 dv0 dws0 r.2.l none,aG dw0 r.2.freed]):=by
 unfold kL at h
 refine dz.of_wp (C:=cfg) Try.func28 rfl MZ rfl (fun B0 S0 H0=>?_)
 replace H0:Has B0 S0 [.box b1 [v3,w5],aA ae ah.kids 7 5 v3 ws4 a2.l none,aG w5 a2.freed]:=H0
 refine aD.seq ?_
 refine aD.region E.obj rfl ?_
 refine aj.val rfl (ak rfl) rfl ?_
 refine aj.nil ?_
 refine aD.seq ?_
 refine aD.region E.obj rfl ?_
 refine aj.val rfl (aa rfl) rfl ?_
 refine aj.val rfl (aa rfl) rfl ?_
 refine aj.val rfl (bM (cs:=[(.d (.bool false)),(.d (.str [])),(.d (.str [])),(.d (.str a6)),(.d .aO),(.d .aO),(.d (.int .i64 0))]) GQ rfl (sM) (fV rfl rfl rfl rfl rfl)) rfl ?_
 refine aj.less (Less.agg' (d:=gG (aK.mk false [] [] a6 [] 0)) (ax.eq rfl (ax.eq rfl (ax.eq rfl (ax.eq rfl (ax.dE rfl (.aO false) rfl rfl (ax.eq rfl (ax.eq rfl .nil))))))) ((aK.eq _).trans rfl)) ?_
 obtain ⟨z7,hzz7,h⟩:=bind_some h
 refine aj.bR (ins:=[.box b1 [v3,w5],aA ae ah.kids 7 5 v3 ws4 a2.l none,aG w5 a2.freed]) (more:=[]) (H0.sl [0,1,2] rfl rfl) rfl (az rfl rfl) (sQ E n _ _ _ hzz7 b1 v3 ws4 w5) (.cons (.refl _) (.cons (.refl _) .nil)) rfl ?_
 rintro _ S11 _ ⟨rfl,v8,ws9,w10,rfl⟩ H12
 have H13:Has B0 S11 [.box b1 [v8,w10],aA ae ah.kids 7 5 v8 ws9 z7.2.l none,aG w10 z7.2.freed]:=H12.sl [0,1,2] rfl rfl
 refine aj.val rfl (ak rfl) rfl ?_
 refine aj.nil ?_
 have hr:=Option.some.inj h
 subst hr
 exact aD.ret ⟨_,rfl,rfl,_,_,_,.refl _,(.refl _),⟨rfl,v8,ws9,w10,rfl⟩,H13.sl [0,1,2] rfl rfl⟩
set_option maxRecDepth 20000 in
set_option maxHeartbeats 4000000 in
theorem pI (n:Nat) (a2:aB) (a6:Str) (a7:Str) (r:(Int × aB)) (h:iG n a2 a6 a7=some r) (b1:Nat) (v3:AV) (ws4:List (List AV)) (w5:AV):dz R cfg.P 13 [.ptr b1 0 0,.d (.str a6),.d (.str a7)] [.box b1 [v3,w5],aA ae ah.kids 7 5 v3 ws4 a2.l none,aG w5 a2.freed] (fun v l=>v=.d (.int .i64 r.1)∧∃ dv0 dws0 dw0,l=[.box b1 [dv0,dw0],aA ae ah.kids 7 5 dv0 dws0 r.2.l none,aG dw0 r.2.freed]):=by
 unfold iG at h
 refine dz.of_wp (C:=cfg) Try.func13 rfl Nr rfl (fun B0 S0 H0=>?_)
 replace H0:Has B0 S0 [.box b1 [v3,w5],aA ae ah.kids 7 5 v3 ws4 a2.l none,aG w5 a2.freed]:=H0
 refine aD.seq ?_
 refine aD.region E.obj rfl ?_
 refine aj.val rfl (ak rfl) rfl ?_
 refine aj.nil ?_
 refine aD.seq ?_
 refine aD.seq ?_
 refine aD.region E.obj rfl ?_
 refine aj.val rfl (aa rfl) rfl ?_
 refine aj.val rfl (aH rfl rfl lL) rfl ?_
 refine aj.nil ?_
 refine aD.cond rfl (fun hb8=>?_) (fun hb8=>?_)
 ·
  replace h:=dH hb8 h
  refine aD.seq ?_
  refine aD.region E.obj rfl ?_
  refine aj.val rfl (aa rfl) rfl ?_
  obtain ⟨z9,hzz9,h⟩:=bind_some h
  refine aj.bR (ins:=[.box b1 [v3,w5],aA ae ah.kids 7 5 v3 ws4 a2.l none,aG w5 a2.freed]) (more:=[]) (H0.sl [0,1,2] rfl rfl) rfl (az rfl rfl) (rH E n _ _ _ hzz9 b1 v3 ws4 w5) (.cons (.refl _) (.cons (.refl _) .nil)) rfl ?_
  rintro _ S13 _ ⟨rfl,v10,ws11,w12,rfl⟩ H14
  have H15:Has B0 S13 [.box b1 [v10,w12],aA ae ah.kids 7 5 v10 ws11 z9.2.l none,aG w12 z9.2.freed]:=H14.sl [0,1,2] rfl rfl
  refine aj.val rfl (ak rfl) rfl ?_
  refine aj.nil ?_
  have hr:=Option.some.inj h
  subst hr
  exact aD.ret ⟨_,rfl,rfl,_,_,_,.refl _,(.refl _),⟨rfl,v10,ws11,w12,rfl⟩,H15.sl [0,1,2] rfl rfl⟩
 replace h:=dI hb8 h
 refine aD.skip ?_
 refine aD.seq ?_
 refine aD.region E.obj rfl ?_
 refine aj.val rfl (aa rfl) rfl ?_
 refine aj.val rfl (aa rfl) rfl ?_
 refine aj.val rfl (aa rfl) rfl ?_
 refine aj.val rfl (bM (cs:=[(.d (.bool false)),(.d (.str a6)),(.d (.str a7)),(.d (.str [])),(.d .aO),(.d .aO),(.d (.int .i64 0))]) GQ rfl (sM) (fV rfl rfl rfl rfl (fV rfl rfl rfl rfl rfl))) rfl ?_
 refine aj.less (Less.agg' (d:=gG (aK.mk false a6 a7 [] [] 0)) (ax.eq rfl (ax.eq rfl (ax.eq rfl (ax.eq rfl (ax.dE rfl (.aO false) rfl rfl (ax.eq rfl (ax.eq rfl .nil))))))) ((aK.eq _).trans rfl)) ?_
 obtain ⟨z16,hzz16,h⟩:=bind_some h
 refine aj.bR (ins:=[.box b1 [v3,w5],aA ae ah.kids 7 5 v3 ws4 a2.l none,aG w5 a2.freed]) (more:=[]) (H0.sl [0,1,2] rfl rfl) rfl (az rfl rfl) (sQ E n _ _ _ hzz16 b1 v3 ws4 w5) (.cons (.refl _) (.cons (.refl _) .nil)) rfl ?_
 rintro _ S20 _ ⟨rfl,v17,ws18,w19,rfl⟩ H21
 have H22:Has B0 S20 [.box b1 [v17,w19],aA ae ah.kids 7 5 v17 ws18 z16.2.l none,aG w19 z16.2.freed]:=H21.sl [0,1,2] rfl rfl
 refine aj.val rfl (ak rfl) rfl ?_
 refine aj.nil ?_
 have hr:=Option.some.inj h
 subst hr
 exact aD.ret ⟨_,rfl,rfl,_,_,_,.refl _,(.refl _),⟨rfl,v17,ws18,w19,rfl⟩,H22.sl [0,1,2] rfl rfl⟩
set_option maxRecDepth 20000 in
set_option maxHeartbeats 4000000 in
theorem zG (n:Nat)  (r:(Option aB)) (h:ui n  = some r):dz R cfg.P 12 [] [] (fun v l=>match r with | none=>v=.d .nilp∧l=[] | some x=>∃ b dv dws dw,v=.ptr b 0 0∧l=[] ++ [.box b [dv,dw],aA ae ah.kids 7 5 dv dws x.l none,aG dw x.freed]):=by
 unfold ui at h
 refine dz.of_wp (C:=cfg) Try.func12 rfl Nt rfl (fun B0 S0 H0=>?_)
 replace H0:Has B0 S0 []:=H0
 refine aD.seq ?_
 refine aD.region E.obj rfl ?_
 refine aj.val rfl (ak rfl) rfl ?_
 refine aj.nil ?_
 refine aD.seq ?_
 refine aD.region E.obj rfl ?_
 refine aj.val rfl (bM (cs:=[(.d .aO),(.d .aO)]) M9 rfl (zC) rfl) rfl ?_
 refine aj.box H0 rfl rfl rfl rfl rfl (fun b1 S2 H3=>?_)
 have H4:=H3.HY
 have H5:=Has.JG ae ah.kids 7 5 rfl H4
 have H6:Has B0 S2 [.box b1 [(.d .aO),(.d .aO)],aA ae ah.kids 7 5 (.d .aO) [] [] none,aG (.d .aO) []]:=H5.sl [2,0,1] rfl rfl
 refine aj.val rfl (ak rfl) rfl ?_
 refine aj.nil ?_
 refine aD.seq ?_
 refine aD.region E.obj rfl ?_
 refine aj.val rfl (aa rfl) rfl ?_
 obtain ⟨z7,hzz7,h⟩:=bind_some h
 refine aj.bR (ins:=[.box b1 [(.d .aO),(.d .aO)],aA ae ah.kids 7 5 (.d .aO) [] [] none,aG (.d .aO) []]) (more:=[]) (H6.sl [0,1,2] rfl rfl) rfl (az rfl rfl) (pI E n _ _ _ _ hzz7 b1 (.d .aO) [] (.d .aO)) (.cons (.refl _) (.cons (.refl _) (.cons (.refl _) .nil))) rfl ?_
 rintro _ S11 _ ⟨rfl,v8,ws9,w10,rfl⟩ H12
 have H13:Has B0 S11 [.box b1 [v8,w10],aA ae ah.kids 7 5 v8 ws9 z7.2.l none,aG w10 z7.2.freed]:=H12.sl [0,1,2] rfl rfl
 refine aj.nil ?_
 refine aD.seq ?_
 refine aD.region E.obj rfl ?_
 refine aj.val rfl (aa rfl) rfl ?_
 refine aj.val rfl (ak rfl) rfl ?_
 refine aj.nil ?_
 have hr:=Option.some.inj h
 subst hr
 exact aD.ret ⟨_,rfl,rfl,_,_,_,.refl _,(.refl _),⟨_,v8,ws9,w10,rfl,rfl⟩,H13.sl [0,1,2] rfl rfl⟩
set_option maxRecDepth 20000 in
set_option maxHeartbeats 4000000 in
theorem gu (n:Nat) (a2:aB) (r:(List Int)) (h:j3 n a2=some r) (b1:Nat) (v3:AV) (ws4:List (List AV)) (w5:AV):dz R cfg.P 18 [.ptr b1 0 0] [.box b1 [v3,w5],aA ae ah.kids 7 5 v3 ws4 a2.l none,aG w5 a2.freed] (fun v l=>v=.d (.sl ((r).map (D.int .i64)) false)∧l=[.box b1 [v3,w5],aA ae ah.kids 7 5 v3 ws4 a2.l none,aG w5 a2.freed]):=by
 unfold j3 at h
 refine dz.of_wp (C:=cfg) Try.func18 rfl Nn rfl (fun B0 S0 H0=>?_)
 replace H0:Has B0 S0 [.box b1 [v3,w5],aA ae ah.kids 7 5 v3 ws4 a2.l none,aG w5 a2.freed]:=H0
 refine aD.seq ?_
 refine aD.region E.obj rfl ?_
 refine aj.val rfl (ak rfl) rfl ?_
 refine aj.nil ?_
 refine aD.seq ?_
 refine aD.region E.obj rfl ?_
 refine aj.val rfl (ak rfl) rfl ?_
 refine aj.nil ?_
 refine aD.seq ?_
 refine aD.seq ?_
 refine aD.region E.obj rfl ?_
 refine aj.val rfl (aa rfl) rfl ?_
 refine aj.val rfl (bF rfl) rfl ?_
 refine aj.val rfl (aF rfl kU uy rfl) rfl ?_
 refine aj.val rfl (aJ H0 (i:=0) rfl rfl (aS vB rfl)) rfl ?_
 refine aj.val rfl (um H0 (i:=1) rfl rfl Kq) rfl ?_
 refine aj.val rfl (aa rfl) rfl ?_
 refine aj.nil ?_
 refine aD.block ?_
 have H38:=H0.Jc
 refine qo.start (B:=B0) (α:=(List Int) × AV × Int) (fun k a=>dD a2 k a.1 a.2.2=some r) (fun a=>[(3,a.2.1),(10,v3),(11,(.d (.int .i64 ((a2.l).length:Int)))),(12,(.d (.int .i64 a.2.2)))]) (fun a=>[.grow a.2.1 ((a.1).map (D.int .i64)),.box b1 [v3,w5],aA ae ah.kids 7 5 v3 ws4 a2.l none,aG w5 a2.freed]) ?_ ?_ n ⟨⟨[],(.d .aO),0⟩,_,_,S0,.refl _ _,.refl _,(au.r rfl (au.r rfl (au.r rfl (au.r rfl au.nil)))),H38.sl [0,1,2,3] rfl rfl,h⟩
 ·
  intro a h; simp [dD] at h
 intro k18 a S13 H14 h
 obtain ⟨x15,v16,x17⟩:=a
 replace h:dD a2 (k18 + 1) x15 x17=some r:=h
 replace H14:Has B0 S13 [.grow v16 ((x15).map (D.int .i64)),.box b1 [v3,w5],aA ae ah.kids 7 5 v3 ws4 a2.l none,aG w5 a2.freed]:=H14
 unfold dD at h
 refine aD.seq ?_
 refine aD.region E.obj rfl ?_
 refine aj.val rfl (aH rfl rfl dR) rfl ?_
 refine aj.nil ?_
 refine aD.seq ?_
 refine aD.cond rfl (fun hb19=>?_) (fun hb19=>?_)
 ·
  replace h:=dH hb19 h
  refine aD.skip ?_
  refine aD.join (B:=B0) (α:=(List Int) × AV) (fun a=>gD x17 (dD a2 k18) a.1=some r) (fun a=>[(3,a.2),(10,v3),(11,(.d (.int .i64 ((a2.l).length:Int)))),(12,(.d (.int .i64 x17)))]) (fun a=>[.grow a.2 ((a.1).map (D.int .i64)),.box b1 [v3,w5],aA ae ah.kids 7 5 v3 ws4 a2.l none,aG w5 a2.freed]) ?_ ?_
  ·
   intro a S20 H21 h
   obtain ⟨x22,v23⟩:=a
   replace h:gD x17 (dD a2 k18) x22=some r:=h
   replace H21:Has B0 S20 [.grow v23 ((x22).map (D.int .i64)),.box b1 [v3,w5],aA ae ah.kids 7 5 v3 ws4 a2.l none,aG w5 a2.freed]:=H21
   unfold gD at h
   refine aD.region E.obj rfl ?_
   refine aj.val rfl (aH rfl rfl dF) rfl ?_
   refine aj.val rfl (aa rfl) rfl ?_
   refine aj.nil ?_
   exact ⟨⟨x22,v23,(IntKind.wrap .i64 (x17 + 1))⟩,_,_,S20,.refl _ _,.refl _,(au.r rfl (au.r rfl (au.r rfl (au.r rfl au.nil)))),H21.sl [0,1,2,3] rfl rfl,h⟩
  refine aD.block ?_
  refine aD.seq ?_
  refine aD.region E.obj rfl ?_
  refine aj.val rfl (aa rfl) rfl ?_
  obtain ⟨z25,hzz25,h⟩:=bind_some h
  refine aj.val rfl (ig H14 (i:=2) rfl hzz25 rfl rfl xX uU qx) rfl ?_
  refine aj.A7 (cs:=[(.d (.bool z25.lives)),(.d (.str z25.tag)),(.d (.str z25.key)),(.d (.str z25.text)),(.d (.sl ((z25.attrs).map ay) false)),(jW 5 ws4 (Int.toNat x17)),(.d (.int .i64 z25.parent))]) H14 rfl (q:=2) rfl hzz25 rfl Kh qx rfl rfl ?_
  refine aj.alloc H14 rfl Mq GQ rfl rfl (fun b26 S27 H28=>?_)
  refine aj.val rfl (ak rfl) rfl ?_
  refine aj.store H28 (i:=0) rfl rfl rfl rfl (nM _) rfl qx (nA _) uU rfl rfl rfl (fun S29 H30=>?_)
  refine aj.nil ?_
  refine aD.seq ?_
  refine aD.region E.obj rfl ?_
  refine aj.val rfl (aa rfl) rfl ?_
  refine aj.val rfl (aH rfl rfl dF) rfl ?_
  refine aj.val rfl (ak rfl) rfl ?_
  refine aj.nil ?_
  refine aD.seq ?_
  refine aD.region E.obj rfl ?_
  refine aj.val rfl (aF rfl Fa NH rfl) rfl ?_
  refine aj.val rfl (aJ H30 (i:=0) rfl rfl (aS Oo rfl)) rfl ?_
  refine aj.val rfl (aa rfl) rfl ?_
  refine aj.jS 4 25 (.d (.bool (z25.lives && (z25.parent == 0)))) ?_ ?_
  ·
   rcases Bool.eq_false_or_eq_true (z25.lives) with hB31 | hB31
   ·
    refine aj.bool hB31 ?_
    refine aj.val rfl (aF rfl rC Ko rfl) rfl ?_
    refine aj.val rfl (aJ H30 (i:=0) rfl rfl (aS nV rfl)) rfl ?_
    refine aj.val rfl (aH rfl rfl bD) rfl ?_
    refine aj.val rfl (aC (b:=true) rfl rfl) rfl ?_
    exact aj.nil ⟨_,rfl,(au.put (au.push rfl (au.push rfl (au.push rfl (au.put (.refl _) (Less.eq (by rw [hB31])))))) (Less.eq (by rw [hB31]; rw [Bool.true_and])))⟩
   refine aj.bool hB31 ?_
   refine aj.no rfl rfl ?_
   refine aj.no rfl rfl ?_
   refine aj.no rfl rfl ?_
   refine aj.val rfl (aC (b:=false) rfl rfl) rfl ?_
   exact aj.nil ⟨_,rfl,(au.put (au.push rfl (au.push rfl (au.push rfl (au.put (.refl _) (Less.eq (by rw [hB31])))))) (Less.eq (by rw [hB31]; rw [Bool.false_and])))⟩
  refine aj.val rfl (aa rfl) rfl ?_
  refine aj.jS 3 29 (.d (.bool ((z25.lives && (z25.parent == 0)) && ((IntKind.wrap .i64 (x17 + 1)) != 1)))) ?_ ?_
  ·
   rcases Bool.eq_false_or_eq_true ((z25.lives && (z25.parent == 0))) with hB32 | hB32
   ·
    refine aj.bool hB32 ?_
    refine aj.val rfl (aa rfl) rfl ?_
    refine aj.val rfl (aH rfl rfl mZ) rfl ?_
    refine aj.val rfl (aC (b:=true) rfl rfl) rfl ?_
    exact aj.nil ⟨_,rfl,(au.put (au.push rfl (au.push rfl (au.put (.refl _) (Less.eq (by rw [hB32]))))) (Less.eq (by rw [hB32]; rw [Bool.true_and])))⟩
   refine aj.bool hB32 ?_
   refine aj.no rfl rfl ?_
   refine aj.no rfl rfl ?_
   refine aj.val rfl (aC (b:=false) rfl rfl) rfl ?_
   exact aj.nil ⟨_,rfl,(au.put (au.push rfl (au.push rfl (au.put (.refl _) (Less.eq (by rw [hB32]))))) (Less.eq (by rw [hB32]; rw [Bool.false_and])))⟩
  refine aj.nil ?_
  refine aD.cond rfl (fun hb33=>?_) (fun hb33=>?_)
  ·
   replace h:=dH hb33 h
   refine aD.region E.obj rfl ?_
   refine aj.val rfl (aa rfl) rfl ?_
   refine aj.val rfl (aa rfl) rfl ?_
   refine aj.val rfl (aR (vs:=[(.d (.int .i64 (IntKind.wrap .i64 (x17 + 1))))]) (ds:=[(.int .i64 (IntKind.wrap .i64 (x17 + 1)))]) o7 fQ nV wD kV rfl (by decide) (.cons rfl rfl .nil) rfl (by intro d hd; simp only [List.mem_cons,List.not_mem_nil,or_false] at hd; rcases hd with rfl <;> rfl) rfl) rfl ?_
   obtain ⟨z34,hzz34,h⟩:=bind_some h
   refine aj.append (xs:=(x15).map (D.int .i64)) (ys:=([(IntKind.wrap .i64 (x17 + 1))]).map (D.int .i64)) (zs:=(z34).map (D.int .i64)) H30 rfl rfl rfl (i:=1) rfl rfl o7 J2 fQ (kK hzz34) KC rfl (fJ (enc:=(D.int .i64)) (fun _=>kV.symm) _) (fJ (enc:=(D.int .i64)) (fun _=>kV.symm) _) Nb rfl (qZ hzz34) (fun v35 S36 H37=>?_)
   refine aj.val rfl (ak rfl) rfl ?_
   refine aj.nil ?_
   exact ⟨⟨z34,v35⟩,_,_,S36,.refl _ _,.refl _,(au.r rfl (au.r rfl (au.r rfl (au.r rfl au.nil)))),H37.sl [1,2,3,4] rfl rfl,h⟩
  replace h:=dI hb33 h
  refine aD.skip ?_
  exact ⟨⟨x15,v16⟩,_,_,S29,.refl _ _,.refl _,(au.r rfl (au.r rfl (au.r rfl (au.r rfl au.nil)))),H30.sl [1,2,3,4] rfl rfl,h⟩
 replace h:=dI hb19 h
 refine aD.exit ?_
 refine aD.seq ?_
 refine aD.region E.obj rfl ?_
 refine aj.val rfl (aa rfl) rfl ?_
 refine aj.val rfl (ak rfl) rfl ?_
 refine aj.nil ?_
 have hr:=Option.some.inj h
 subst hr
 exact aD.ret ⟨_,rfl,rfl,_,_,_,.refl _,(Ku H14 (i:=0) rfl),⟨rfl,rfl⟩,H14.sl [1,2,3] rfl rfl⟩
set_option maxRecDepth 20000 in
set_option maxHeartbeats 4000000 in
theorem gz (n:Nat) (a2:aB) (a6:Int) (r:Bool) (h:gL n a2 a6=some r) (b1:Nat) (v3:AV) (ws4:List (List AV)) (w5:AV):dz R cfg.P 59 [.ptr b1 0 0,.d (.int .i64 a6)] [.box b1 [v3,w5],aA ae ah.kids 7 5 v3 ws4 a2.l none,aG w5 a2.freed] (fun v l=>v=(bif r then dh v3 (Int.toNat (IntKind.wrap .i64 (a6 - 1))) 0 else .d .nilp)∧l=[.box b1 [v3,w5],aA ae ah.kids 7 5 v3 ws4 a2.l none,aG w5 a2.freed]):=by
 unfold gL at h
 refine dz.of_wp (C:=cfg) Try.func59 rfl Nj rfl (fun B0 S0 H0=>?_)
 replace H0:Has B0 S0 [.box b1 [v3,w5],aA ae ah.kids 7 5 v3 ws4 a2.l none,aG w5 a2.freed]:=H0
 refine aD.seq ?_
 refine aD.region E.obj rfl ?_
 refine aj.val rfl (ak rfl) rfl ?_
 refine aj.nil ?_
 refine aD.seq ?_
 refine aD.seq ?_
 refine aD.region E.obj rfl ?_
 refine aj.val rfl (aa rfl) rfl ?_
 refine aj.val rfl (aH rfl rfl dR) rfl ?_
 refine aj.val rfl (aa rfl) rfl ?_
 refine aj.jS 8 15 (.d (.bool ((decide (a6 < 1)) || (decide (((a2.l).length:Int) < a6))))) ?_ ?_
 ·
  rcases Bool.eq_false_or_eq_true ((decide (a6 < 1))) with hB7 | hB7
  ·
   refine aj.bool hB7 ?_
   refine aj.no rfl rfl ?_
   refine aj.no rfl rfl ?_
   refine aj.no rfl rfl ?_
   refine aj.no rfl rfl ?_
   refine aj.no rfl rfl ?_
   refine aj.no rfl rfl ?_
   refine aj.no rfl rfl ?_
   refine aj.val rfl (aC (b:=true) rfl rfl) rfl ?_
   exact aj.nil ⟨_,rfl,(au.put (au.push rfl (au.push rfl (au.push rfl (au.push rfl (au.push rfl (au.push rfl (au.push rfl (au.put (.refl _) (Less.eq (by rw [hB7])))))))))) (Less.eq (by rw [hB7]; rw [Bool.true_or])))⟩
  refine aj.bool hB7 ?_
  refine aj.val rfl (aa rfl) rfl ?_
  refine aj.val rfl (aa rfl) rfl ?_
  refine aj.val rfl (bF rfl) rfl ?_
  refine aj.val rfl (aF rfl kU uy rfl) rfl ?_
  refine aj.val rfl (aJ H0 (i:=0) rfl rfl (aS vB rfl)) rfl ?_
  refine aj.val rfl (um H0 (i:=1) rfl rfl Kq) rfl ?_
  refine aj.val rfl (aH rfl rfl sP) rfl ?_
  refine aj.val rfl (aC (b:=false) rfl rfl) rfl ?_
  exact aj.nil ⟨_,rfl,(au.put (au.push rfl (au.push rfl (au.push rfl (au.push rfl (au.push rfl (au.push rfl (au.push rfl (au.put (.refl _) (Less.eq (by rw [hB7])))))))))) (Less.eq (by rw [hB7]; rw [Bool.false_or])))⟩
 refine aj.val rfl (aa rfl) rfl ?_
 obtain ⟨z9,hzz9,h⟩:=bind_some h
 refine aj.jS 11 27 (.d (.bool z9)) ?_ ?_
 ·
  rcases Bool.eq_false_or_eq_true (((decide (a6 < 1)) || (decide (((a2.l).length:Int) < a6)))) with hB8 | hB8
  ·
   refine aj.bool hB8 ?_
   refine aj.no rfl rfl ?_
   refine aj.no rfl rfl ?_
   refine aj.no rfl rfl ?_
   refine aj.no rfl rfl ?_
   refine aj.no rfl rfl ?_
   refine aj.no rfl rfl ?_
   refine aj.no rfl rfl ?_
   refine aj.no rfl rfl ?_
   refine aj.no rfl rfl ?_
   refine aj.no rfl rfl ?_
   refine aj.val rfl (aC (b:=true) rfl rfl) rfl ?_
   replace hzz9:=dH hB8 hzz9
   cases hzz9
   exact aj.nil ⟨_,rfl,(au.put (au.push rfl (au.push rfl (au.push rfl (au.push rfl (au.push rfl (au.push rfl (au.push rfl (au.push rfl (au.push rfl (au.push rfl (au.put (.refl _) (Less.eq (by rw [hB8]))))))))))))) (.refl _))⟩
  refine aj.bool hB8 ?_
  replace hzz9:=dI hB8 hzz9
  refine aj.val rfl (aa rfl) rfl ?_
  refine aj.val rfl (bF rfl) rfl ?_
  refine aj.val rfl (aF rfl kU uy rfl) rfl ?_
  refine aj.val rfl (aJ H0 (i:=0) rfl rfl (aS vB rfl)) rfl ?_
  refine aj.val rfl (aa rfl) rfl ?_
  refine aj.val rfl (aH rfl rfl iB) rfl ?_
  obtain ⟨z10,hzz10,hzz9⟩:=bind_some hzz9
  refine aj.val rfl (ig H0 (i:=1) rfl hzz10 rfl rfl xX uU qx) rfl ?_
  refine aj.val rfl (bz H0 (i:=1) rfl hzz10 rfl Fa NH rfl) rfl ?_
  refine aj.ko H0 rfl (q:=1) rfl hzz10 rfl Oo rfl rfl rfl ?_
  refine aj.val rfl (gW rfl) rfl ?_
  refine aj.val rfl (aC (b:=false) rfl rfl) rfl ?_
  cases hzz9
  exact aj.nil ⟨_,rfl,(au.put (au.push rfl (au.push rfl (au.push rfl (au.push rfl (au.push rfl (au.push rfl (au.push rfl (au.push rfl (au.push rfl (au.push rfl (au.put (.refl _) (Less.eq (by rw [hB8]))))))))))))) (.refl _))⟩
 refine aj.nil ?_
 refine aD.cond rfl (fun hb11=>?_) (fun hb11=>?_)
 ·
  replace h:=dH hb11 h
  refine aD.seq ?_
  refine aD.region E.obj rfl ?_
  refine aj.val rfl (ak rfl) rfl ?_
  refine aj.nil ?_
  have hr:=Option.some.inj h
  subst hr
  exact aD.ret ⟨_,rfl,rfl,_,_,_,.refl _,(.refl _),⟨rfl,rfl⟩,H0.sl [0,1,2] rfl rfl⟩
 replace h:=dI hb11 h
 refine aD.skip ?_
 refine aD.seq ?_
 refine aD.region E.obj rfl ?_
 refine aj.val rfl (aa rfl) rfl ?_
 refine aj.val rfl (bF rfl) rfl ?_
 refine aj.val rfl (aF rfl kU uy rfl) rfl ?_
 refine aj.val rfl (aJ H0 (i:=0) rfl rfl (aS vB rfl)) rfl ?_
 refine aj.val rfl (aa rfl) rfl ?_
 refine aj.val rfl (aH rfl rfl iB) rfl ?_
 obtain ⟨z12,hzz12,h⟩:=bind_some h
 refine aj.val rfl (ig H0 (i:=1) rfl hzz12 rfl rfl xX uU qx) rfl ?_
 refine aj.val rfl (ak rfl) rfl ?_
 refine aj.nil ?_
 have hr:=Option.some.inj h
 subst hr
 exact aD.ret ⟨_,rfl,rfl,_,_,_,.refl _,(.refl _),⟨rfl,rfl⟩,H0.sl [0,1,2] rfl rfl⟩
set_option maxRecDepth 20000 in
set_option maxHeartbeats 4000000 in
theorem eT (n:Nat) (a2:aB) (a6:Int) (r:Int) (h:jD n a2 a6=some r) (b1:Nat) (v3:AV) (ws4:List (List AV)) (w5:AV):dz R cfg.P 20 [.ptr b1 0 0,.d (.int .i64 a6)] [.box b1 [v3,w5],aA ae ah.kids 7 5 v3 ws4 a2.l none,aG w5 a2.freed] (fun v l=>v=.d (.int .i64 r)∧l=[.box b1 [v3,w5],aA ae ah.kids 7 5 v3 ws4 a2.l none,aG w5 a2.freed]):=by
 unfold jD at h
 refine dz.of_wp (C:=cfg) Try.func20 rfl nm20 rfl (fun B0 S0 H0=>?_)
 replace H0:Has B0 S0 [.box b1 [v3,w5],aA ae ah.kids 7 5 v3 ws4 a2.l none,aG w5 a2.freed]:=H0
 refine aD.seq ?_
 refine aD.region E.obj rfl ?_
 refine aj.val rfl (ak rfl) rfl ?_
 refine aj.nil ?_
 refine aD.seq ?_
 refine aD.region E.obj rfl ?_
 refine aj.val rfl (aa rfl) rfl ?_
 refine aj.val rfl (aa rfl) rfl ?_
 obtain ⟨z7,hzz7,h⟩:=bind_some h
 refine aj.bR (ins:=[.box b1 [v3,w5],aA ae ah.kids 7 5 v3 ws4 a2.l none,aG w5 a2.freed]) (more:=[]) (H0.sl [0,1,2] rfl rfl) rfl (az rfl rfl) (gz E n _ _ _ hzz7 b1 v3 ws4 w5) (.cons (.refl _) (.cons (.refl _) .nil)) rfl ?_
 rintro v8 S9 l10 hr11 H12
 rcases z7 with _ | _
 ·
  obtain ⟨rfl,rfl⟩:=hr11
  replace h:=dI rfl h
  replace H12:Has B0 S9 [.box b1 [v3,w5],aA ae ah.kids 7 5 v3 ws4 a2.l none,aG w5 a2.freed]:=H12
  have H13:Has B0 S9 [.box b1 [v3,w5],aA ae ah.kids 7 5 v3 ws4 a2.l none,aG w5 a2.freed]:=H12.sl [0,1,2] rfl rfl
  refine aj.val rfl (ak rfl) rfl ?_
  refine aj.nil ?_
  refine aD.seq ?_
  refine aD.seq ?_
  refine aD.region E.obj rfl ?_
  refine aj.val rfl (aa rfl) rfl ?_
  refine aj.val rfl (aH rfl rfl (lq qB)) rfl ?_
  refine aj.nil ?_
  refine aD.cond rfl (fun hb=>?_) (fun hb=>?_)
  ·
   refine aD.seq ?_
   refine aD.region E.obj rfl ?_
   refine aj.val rfl (ak rfl) rfl ?_
   refine aj.nil ?_
   have hr:=Option.some.inj h
   subst hr
   exact aD.ret ⟨_,rfl,rfl,_,_,_,.refl _,(.refl _),⟨rfl,rfl⟩,H13.sl [0,1,2] rfl rfl⟩
  cases hb
 obtain ⟨rfl,rfl⟩:=hr11
 replace h:=dH rfl h
 have H14:Has B0 S9 [.box b1 [v3,w5],aA ae ah.kids 7 5 v3 ws4 a2.l none,aG w5 a2.freed]:=H12.sl [0,1,2] rfl rfl
 refine aj.val rfl (ak rfl) rfl ?_
 refine aj.nil ?_
 refine aD.seq ?_
 refine aD.seq ?_
 refine aD.region E.obj rfl ?_
 refine aj.val rfl (aa rfl) rfl ?_
 obtain ⟨z15,hzz15,h⟩:=bind_some h
 refine aj.val rfl (kW H14 (q:=1) rfl hzz15 rfl rfl qB) rfl ?_
 refine aj.nil ?_
 refine aD.cond rfl (fun hb=>?_) (fun hb=>?_)
 ·
  cases hb
 refine aD.skip ?_
 refine aD.seq ?_
 refine aD.region E.obj rfl ?_
 refine aj.val rfl (aa rfl) rfl ?_
 refine aj.val rfl (bL H14 (q:=1) rfl hzz15 rfl) rfl ?_
 refine aj.val rfl (bz H14 (i:=1) rfl hzz15 rfl rC Ko rfl) rfl ?_
 refine aj.ko H14 rfl (q:=1) rfl hzz15 rfl nV rfl rfl rfl ?_
 refine aj.val rfl (ak rfl) rfl ?_
 refine aj.nil ?_
 have hr:=Option.some.inj h
 subst hr
 exact aD.ret ⟨_,rfl,rfl,_,_,_,.refl _,(.refl _),⟨rfl,rfl⟩,H14.sl [0,1,2] rfl rfl⟩
theorem dV (n:Nat) (a1:(List Attr)) (r:(List Attr)) (h:bQ n a1=some r):fE R cfg.P 66 [(.sl ((a1).map ay) false)] (.d (.sl ((r).map ay) false)):=by
 unfold bQ at h
 refine fE.of_wp E.obj.toObjOk (C:=cfg) Try.func66 rfl M0 rfl ?_
 have H0:Has aL aL []:=Has.pure
 refine aD.seq ?_
 refine aD.region E.obj rfl ?_
 refine aj.val rfl (ak rfl) rfl ?_
 refine aj.nil ?_
 refine aD.seq ?_
 refine aD.seq ?_
 refine aD.region E.obj rfl ?_
 refine aj.val rfl (aa rfl) rfl ?_
 refine aj.Kt rfl rfl rfl Mc rfl (fun bb hbb=>?_)
 refine aj.nil ?_
 refine aD.cond rfl (fun hb=>?_) (fun hb=>?_)
 ·
  have e:=map_nil (hbb hb)
  subst e
  have hr:=(mq h).2
  subst hr
  refine aD.seq ?_
  refine aD.region E.obj rfl ?_
  refine aj.val rfl (ak rfl) rfl ?_
  refine aj.nil ?_
  exact aD.ret ⟨_,rfl,rfl,kR (aN.dE rfl (.aO false) .nil)⟩
 ·
  refine aD.skip ?_
  refine aD.seq ?_
  refine aD.region E.obj rfl ?_
  refine aj.val rfl (w9 Lp Ik Jw) rfl ?_
  refine aj.val rfl (aa rfl) rfl ?_
  have H1:=H0.ET (([]:(List Attr)).map ay)
  refine aj.append (xs:=([]:(List Attr)).map ay) (ys:=(a1).map ay) (zs:=(r).map ay) H1 rfl rfl rfl (i:=0) rfl rfl Lp Np Ik (kK (enc:=ay) h) Ol rfl (fJ (enc:=ay) (fun z=>(Attr.len z).trans EF.symm) _) (fJ (enc:=ay) (fun z=>(Attr.len z).trans EF.symm) _) M5 rfl (qZ h) (fun v2 S2 H2=>?_)
  refine aj.val rfl (ak rfl) rfl ?_
  refine aj.nil ?_
  exact aD.ret ⟨_,rfl,rfl,kR (aN.grow H2 (i:=0) rfl .nil)⟩
set_option maxRecDepth 20000 in
set_option maxHeartbeats 4000000 in
theorem rJ:∀ (n:Nat) (a2:aB) (a6:Int) (r:Tree),gK n a2 a6=some r→∀ (b1:Nat) (v3:AV) (ws4:List (List AV)) (w5:AV),dz R cfg.P 65 [.ptr b1 0 0,.d (.int .i64 a6)] [.box b1 [v3,w5],aA ae ah.kids 7 5 v3 ws4 a2.l none,aG w5 a2.freed] (fun v l=>v=.d (ai r)∧l=[.box b1 [v3,w5],aA ae ah.kids 7 5 v3 ws4 a2.l none,aG w5 a2.freed])
 | 0,a2,a6,r,h,b1,v3,ws4,w5=>by simp [gK] at h
 | n + 1,a2,a6,r,h,b1,v3,ws4,w5=>by
  have ih:=rJ n
  unfold gK at h
  refine dz.of_wp (C:=cfg) Try.func65 rfl MN rfl (fun B0 S0 H0=>?_)
  replace H0:Has B0 S0 [.box b1 [v3,w5],aA ae ah.kids 7 5 v3 ws4 a2.l none,aG w5 a2.freed]:=H0
  refine aD.seq ?_
  refine aD.region E.obj rfl ?_
  refine aj.alloc H0 rfl rV fO rfl rfl (fun b7 S8 H9=>?_)
  refine aj.nil ?_
  refine aD.seq ?_
  refine aD.region E.obj rfl ?_
  refine aj.val rfl (aa rfl) rfl ?_
  refine aj.val rfl (bF rfl) rfl ?_
  refine aj.val rfl (aF rfl kU uy rfl) rfl ?_
  refine aj.val rfl (aJ H9 (i:=1) rfl rfl (aS vB rfl)) rfl ?_
  refine aj.val rfl (aa rfl) rfl ?_
  refine aj.val rfl (aH rfl rfl iB) rfl ?_
  obtain ⟨z10,hzz10,h⟩:=bind_some h
  refine aj.val rfl (ig H9 (i:=2) rfl hzz10 rfl rfl xX uU qx) rfl ?_
  refine aj.A7 (cs:=[(.d (.bool z10.lives)),(.d (.str z10.tag)),(.d (.str z10.key)),(.d (.str z10.text)),(.d (.sl ((z10.attrs).map ay) false)),(jW 5 ws4 (Int.toNat (IntKind.wrap .i64 (a6 - 1)))),(.d (.int .i64 z10.parent))]) H9 rfl (q:=2) rfl hzz10 rfl Kh qx rfl rfl ?_
  refine aj.alloc H9 rfl Mq GQ rfl rfl (fun b11 S12 H13=>?_)
  refine aj.store H13 (i:=0) rfl rfl rfl rfl (nM _) rfl qx (nA _) uU rfl rfl rfl (fun S14 H15=>?_)
  refine aj.nil ?_
  refine aD.seq ?_
  obtain ⟨z16,hzz16,h⟩:=bind_some h
  refine aD.jf E.obj lQ OJ [(0,none),(4,none),(5,none),(6,some 10)] (by kernel_rfl) [10,11] (by decide) [some (.ptr b11 0 1),some (.d (.str z10.tag)),some (.ptr b11 0 2),some (.d (.str z10.key)),some (.ptr b11 0 3),some (.d (.str z10.text)),some (.ptr b11 0 4),some (.d (.sl ((z10.attrs).map ay) false)),some (.d (.sl ((z16).map ay) false)),some (Ev.gY [(.d (.str z10.tag)),(.d (.str z10.key)),(.d (.str z10.text)),(.d (.sl ((z16).map ay) false)),(.d .aO)]),none,none] ?_
  refine ⟨[0,1,2,3,4,5,6,7,8,9],by kernel_rfl,?_,_,_,rfl,rfl,.step ?_⟩
  ·
   refine .v rfl rfl rfl rfl (aF rfl zn uK rfl) ?_
   refine .v rfl rfl rfl rfl (aJ H15 (i:=0) rfl rfl (aS sW rfl)) ?_
   refine .v rfl rfl rfl rfl (aF rfl IX uK rfl) ?_
   refine .v rfl rfl rfl rfl (aJ H15 (i:=0) rfl rfl (aS sW rfl)) ?_
   refine .v rfl rfl rfl rfl (aF rfl Fh uK rfl) ?_
   refine .v rfl rfl rfl rfl (aJ H15 (i:=0) rfl rfl (aS sW rfl)) ?_
   refine .v rfl rfl rfl rfl (aF rfl EK Ab rfl) ?_
   refine .v rfl rfl rfl rfl (aJ H15 (i:=0) rfl rfl (aS ER rfl)) ?_
   refine .cons rfl rfl rfl (.step ?_) ?_
   ·
    refine aj.ret rfl (az rfl rfl) (dV E _ _ _ hzz16 _ _ (aN.eq .nil)) rfl ?_
    exact aj.nil ⟨_,_,rfl,fun _ ht=>by cases ht; exact ⟨rfl,.refl _⟩⟩
   refine .v rfl rfl rfl rfl (bM (cs:=[(.d (.str z10.tag)),(.d (.str z10.key)),(.d (.str z10.text)),(.d (.sl ((z16).map ay) false)),(.d .aO)]) fO rfl (bq) (fV rfl rfl rfl rfl (fV rfl rfl rfl rfl (fV rfl rfl rfl rfl (fV rfl rfl rfl rfl rfl))))) ?_
   exact .nil
  refine aj.alloc H15 rfl rV fO rfl rfl (fun b22 S23 H24=>?_)
  refine aj.nil ⟨_,_,_,rfl,(fun _ ht=>by cases ht; rfl),_,(.q (.q (.o (.o (.w (.ptr b22 0 0) (.n .nil)))))),(fun _ ht=>by cases ht; exact ⟨_,rfl,.refl _⟩),?_⟩
  refine ⟨[0,1,2,3,4,5,6,7,8,9],by kernel_rfl,?_,_,_,rfl,rfl,.step ?_⟩
  ·
   refine .v rfl rfl rfl rfl (aF rfl zn uK rfl) ?_
   refine .v rfl rfl rfl rfl (aJ H24 (i:=1) rfl rfl (aS sW rfl)) ?_
   refine .v rfl rfl rfl rfl (aF rfl IX uK rfl) ?_
   refine .v rfl rfl rfl rfl (aJ H24 (i:=1) rfl rfl (aS sW rfl)) ?_
   refine .v rfl rfl rfl rfl (aF rfl Fh uK rfl) ?_
   refine .v rfl rfl rfl rfl (aJ H24 (i:=1) rfl rfl (aS sW rfl)) ?_
   refine .v rfl rfl rfl rfl (aF rfl EK Ab rfl) ?_
   refine .v rfl rfl rfl rfl (aJ H24 (i:=1) rfl rfl (aS ER rfl)) ?_
   refine .cons rfl rfl rfl (.step ?_) ?_
   ·
    refine aj.ret rfl (az rfl rfl) (dV E _ _ _ hzz16 _ _ (aN.eq .nil)) rfl ?_
    exact aj.nil ⟨_,_,rfl,fun _ ht=>by cases ht; exact ⟨rfl,.refl _⟩⟩
   refine .v rfl rfl rfl rfl (bM (cs:=[(.d (.str z10.tag)),(.d (.str z10.key)),(.d (.str z10.text)),(.d (.sl ((z16).map ay) false)),(.d .aO)]) fO rfl (bq) (fV rfl rfl rfl rfl (fV rfl rfl rfl rfl (fV rfl rfl rfl rfl (fV rfl rfl rfl rfl rfl))))) ?_
   exact .nil
  refine aj.store H24 (i:=0) rfl rfl rfl rfl rfl rfl bE rfl jc rfl rfl rfl (fun S25 H26=>?_)
  refine aj.nil ⟨_,.any,_,rfl,(fun _ ht=>by cases ht),_,(.q (.q (.o (.o (.o (.w .any .nil)))))),(fun _ ht=>by cases ht),?_⟩
  refine ⟨[],by kernel_rfl,?_,_,rfl,?_⟩
  ·
   exact .nil
  refine aD.seq ?_
  refine aD.seq ?_
  refine aD.region E.obj rfl ?_
  refine aj.val rfl (aF rfl oU nR rfl) rfl ?_
  refine aj.val rfl (aJ H26 (i:=1) rfl rfl (aS qg rfl)) rfl ?_
  have H27:Has B0 S25 ([aA ae ah.kids 7 5 v3 ws4 a2.l none] ++ [.box b22 [(.d (.str z10.tag)),(.d (.str z10.key)),(.d (.str z10.text)),(.d (.sl ((z16).map ay) false)),(.d .aO)],.box b11 [(.d (.bool z10.lives)),(.d (.str z10.tag)),(.d (.str z10.key)),(.d (.str z10.text)),(.d (.sl ((z10.attrs).map ay) false)),(jW 5 ws4 (Int.toNat (IntKind.wrap .i64 (a6 - 1)))),(.d (.int .i64 z10.parent))],.box b7 [(.d (.str [])),(.d (.str [])),(.d (.str [])),(.d .aO),(.d .aO)],.box b1 [v3,w5],aG w5 a2.freed]):=H26.sl [4,0,1,2,3,5] rfl rfl
  replace H27:Has B0 S25 [aA ae ah.kids 7 5 v3 ws4 a2.l none,.box b22 [(.d (.str z10.tag)),(.d (.str z10.key)),(.d (.str z10.text)),(.d (.sl ((z16).map ay) false)),(.d .aO)],.box b11 [(.d (.bool z10.lives)),(.d (.str z10.tag)),(.d (.str z10.key)),(.d (.str z10.text)),(.d (.sl ((z10.attrs).map ay) false)),(jW 5 ws4 (Int.toNat (IntKind.wrap .i64 (a6 - 1)))),(.d (.int .i64 z10.parent))],.box b7 [(.d (.str [])),(.d (.str [])),(.d (.str [])),(.d .aO),(.d .aO)],.box b1 [v3,w5],aG w5 a2.freed]:=H27
  have H28:=Has.take H27 (dN hzz10).2
  refine aj.val rfl (kP H28 (i:=0) rfl rfl nZ) rfl ?_
  refine aj.val rfl (aa rfl) rfl ?_
  refine aj.nil ?_
  refine aD.block ?_
  have H68:=H26.Jc
  refine qo.start (B:=B0) (α:=(List Tree) × AV × Int) (fun k a=>fq (gK n) a2 z10 z16 k a.1 a.2.2=some r) (fun a=>[(0,(.ptr b1 0 0)),(4,(.ptr b7 0 0)),(6,(.ptr b22 0 0)),(28,(jW 5 ws4 (Int.toNat (IntKind.wrap .i64 (a6 - 1))))),(29,(.d (.int .i64 ((z10.kids).length:Int)))),(30,(.d (.int .i64 a.2.2)))]) (fun a=>[.box b22 [(.d (.str z10.tag)),(.d (.str z10.key)),(.d (.str z10.text)),(.d (.sl ((z16).map ay) false)),a.2.1],.box b7 [(.d (.str [])),(.d (.str [])),(.d (.str [])),(.d .aO),(.d .aO)],.grow a.2.1 ((a.1).map ai),.box b1 [v3,w5],aA ae ah.kids 7 5 v3 ws4 a2.l none,aG w5 a2.freed]) ?_ ?_ n ⟨⟨[],(.d .aO),0⟩,_,_,S25,.refl _ _,.refl _,(au.r rfl (au.r rfl (au.r rfl (au.r rfl (au.r rfl (au.r rfl au.nil)))))),H68.sl [1,3,0,4,5,6] rfl rfl,h⟩
  ·
   intro a h; simp [fq] at h
  intro k41 a S36 H37 h
  obtain ⟨x38,v39,x40⟩:=a
  replace h:fq (gK n) a2 z10 z16 (k41 + 1) x38 x40=some r:=h
  replace H37:Has B0 S36 [.box b22 [(.d (.str z10.tag)),(.d (.str z10.key)),(.d (.str z10.text)),(.d (.sl ((z16).map ay) false)),v39],.box b7 [(.d (.str [])),(.d (.str [])),(.d (.str [])),(.d .aO),(.d .aO)],.grow v39 ((x38).map ai),.box b1 [v3,w5],aA ae ah.kids 7 5 v3 ws4 a2.l none,aG w5 a2.freed]:=H37
  unfold fq at h
  refine aD.seq ?_
  refine aD.region E.obj rfl ?_
  refine aj.val rfl (aH rfl rfl dR) rfl ?_
  refine aj.nil ?_
  refine aD.seq ?_
  refine aD.cond rfl (fun hb42=>?_) (fun hb42=>?_)
  ·
   replace h:=dH hb42 h
   refine aD.skip ?_
   refine aD.seq ?_
   refine aD.block ?_
   refine aD.seq ?_
   refine aD.region E.obj rfl ?_
   obtain ⟨z43,hzz43,h⟩:=bind_some h
   have H44:Has B0 S36 ([aA ae ah.kids 7 5 v3 ws4 a2.l none] ++ [.box b22 [(.d (.str z10.tag)),(.d (.str z10.key)),(.d (.str z10.text)),(.d (.sl ((z16).map ay) false)),v39],.box b7 [(.d (.str [])),(.d (.str [])),(.d (.str [])),(.d .aO),(.d .aO)],.grow v39 ((x38).map ai),.box b1 [v3,w5],aG w5 a2.freed]):=H37.sl [4,0,1,2,3,5] rfl rfl
   replace H44:Has B0 S36 [aA ae ah.kids 7 5 v3 ws4 a2.l none,.box b22 [(.d (.str z10.tag)),(.d (.str z10.key)),(.d (.str z10.text)),(.d (.sl ((z16).map ay) false)),v39],.box b7 [(.d (.str [])),(.d (.str [])),(.d (.str [])),(.d .aO),(.d .aO)],.grow v39 ((x38).map ai),.box b1 [v3,w5],aG w5 a2.freed]:=H44
   have H45:=Has.take H44 (dN hzz10).2
   refine aj.val rfl (sD H45 (q:=0) rfl hzz43 rfl rfl fQ vV kV) rfl ?_
   have H46:Has B0 S36 ([aA ae ah.kids 7 5 v3 ws4 a2.l none] ++ [.box b22 [(.d (.str z10.tag)),(.d (.str z10.key)),(.d (.str z10.text)),(.d (.sl ((z16).map ay) false)),v39],.box b7 [(.d (.str [])),(.d (.str [])),(.d (.str [])),(.d .aO),(.d .aO)],.grow v39 ((x38).map ai),.box b1 [v3,w5],aG w5 a2.freed]):=H37.sl [4,0,1,2,3,5] rfl rfl
   replace H46:Has B0 S36 [aA ae ah.kids 7 5 v3 ws4 a2.l none,.box b22 [(.d (.str z10.tag)),(.d (.str z10.key)),(.d (.str z10.text)),(.d (.sl ((z16).map ay) false)),v39],.box b7 [(.d (.str [])),(.d (.str [])),(.d (.str [])),(.d .aO),(.d .aO)],.grow v39 ((x38).map ai),.box b1 [v3,w5],aG w5 a2.freed]:=H46
   have H47:=Has.take H46 (dN hzz10).2
   refine aj.val rfl (qM H47 (q:=0) rfl hzz43 rfl nV) rfl ?_
   refine aj.val rfl (ak rfl) rfl ?_
   refine aj.nil ?_
   obtain ⟨z48,hzz48,h⟩:=bind_some h
   obtain ⟨z52,hzz52,h⟩:=bind_some h
   refine aD.jf E.obj lQ OL [(0,none),(4,none),(6,none),(28,none),(29,none),(30,none)] (by kernel_rfl) [4,6,8] (by decide) [some (.ptr b22 0 4),some v39,some (.ptr b1 0 0),some (.d (.int .i64 z43)),none,none,none,none,none] ?_
   refine ⟨[0,1,2,3],by kernel_rfl,?_,_,_,rfl,rfl,.step ?_⟩
   ·
    refine .v rfl rfl rfl rfl (aF rfl ja oL rfl) ?_
    refine .v rfl rfl rfl rfl (aJ H37 (i:=0) rfl rfl (aS rU rfl)) ?_
    refine .v rfl rfl rfl rfl (aa rfl) ?_
    refine .v rfl rfl rfl rfl (aa rfl) ?_
    exact .nil
   refine aj.bR (ins:=[.box b1 [v3,w5],aA ae ah.kids 7 5 v3 ws4 a2.l none,aG w5 a2.freed]) (more:=[.box b22 [(.d (.str z10.tag)),(.d (.str z10.key)),(.d (.str z10.text)),(.d (.sl ((z16).map ay) false)),v39],.box b7 [(.d (.str [])),(.d (.str [])),(.d (.str [])),(.d .aO),(.d .aO)],.grow v39 ((x38).map ai)]) (H37.sl [3,4,5,0,1,2] rfl rfl) rfl (az rfl rfl) (ih _ _ _ hzz48 b1 v3 ws4 w5) (.cons (.refl _) (.cons (.refl _) .nil)) rfl ?_
   rintro _ S58 _ ⟨rfl,rfl⟩ H59
   have H60:Has B0 S58 [.box b22 [(.d (.str z10.tag)),(.d (.str z10.key)),(.d (.str z10.text)),(.d (.sl ((z16).map ay) false)),v39],.box b7 [(.d (.str [])),(.d (.str [])),(.d (.str [])),(.d .aO),(.d .aO)],.grow v39 ((x38).map ai),.box b1 [v3,w5],aA ae ah.kids 7 5 v3 ws4 a2.l none,aG w5 a2.freed]:=H59.sl [3,4,5,0,1,2] rfl rfl
   refine aj.nil ⟨_,_,_,rfl,(fun _ ht=>by cases ht; rfl),_,(.q (.w (.d (ai z48)) (.w (.d (.sl (([z48]).map ai) true)) (.n (.n (.n .nil)))))),(fun _ ht=>by cases ht; exact ⟨_,rfl,.refl _⟩),?_⟩
   refine ⟨[0,1,5],by kernel_rfl,?_,_,_,rfl,rfl,.step ?_⟩
   ·
    refine .v rfl rfl rfl rfl (aF rfl ja oL rfl) ?_
    refine .v rfl rfl rfl rfl (aJ H60 (i:=0) rfl rfl (aS rU rfl)) ?_
    refine .v rfl rfl rfl rfl (aR (vs:=[(.d (ai z48))]) (ds:=[(ai z48)]) tu kJ dX fO bE rfl (by decide) (.cons rfl (Tree.len _) .nil) rfl (by intro d hd; simp only [List.mem_cons,List.not_mem_nil,or_false] at hd; rcases hd with rfl <;> exact Tree.agg _) rfl) ?_
    exact .nil
   refine aj.append (xs:=(x38).map ai) (ys:=([z48]).map ai) (zs:=(z52).map ai) H60 rfl rfl rfl (i:=2) rfl rfl tu JO kJ (kK hzz52) II rfl (fJ (enc:=ai) (fun z=>(Tree.len z).trans bE.symm) _) (fJ (enc:=ai) (fun z=>(Tree.len z).trans bE.symm) _) JM rfl (qZ hzz52) (fun v61 S62 H63=>?_)
   refine aj.nil ⟨_,_,_,rfl,(fun _ ht=>by cases ht; rfl),_,(.q (.o (.o (.w v61 (.w (.ptr b22 0 4) (.n .nil)))))),(fun _ ht=>by cases ht; exact ⟨_,rfl,.refl _⟩),?_⟩
   refine ⟨[7],by kernel_rfl,?_,_,_,rfl,rfl,.step ?_⟩
   ·
    refine .v rfl rfl rfl rfl (aF rfl ja oL rfl) ?_
    exact .nil
   refine aj.store H63 (i:=0) rfl rfl rfl rfl (vU (H63.at (i:=2) rfl)).2.2.2.2 rfl IV (vU (H63.at (i:=2) rfl)).2.2.2.1 Jk rfl rfl rfl (fun S64 H65=>?_)
   refine aj.nil ⟨_,.any,_,rfl,(fun _ ht=>by cases ht),_,(.q (.q (.w .any .nil))),(fun _ ht=>by cases ht),?_⟩
   refine ⟨[],by kernel_rfl,?_,_,rfl,?_⟩
   ·
    exact .nil
   refine aD.region E.obj rfl ?_
   refine aj.val rfl (aH rfl rfl dF) rfl ?_
   refine aj.val rfl (aa rfl) rfl ?_
   refine aj.nil ?_
   exact ⟨⟨z52,v61,(IntKind.wrap .i64 (x40 + 1))⟩,_,_,S64,.refl _ _,.refl _,(au.r rfl (au.r rfl (au.r rfl (au.r rfl (au.r rfl (au.r rfl au.nil)))))),H65.sl [0,1,2,3,4,5] rfl rfl,h⟩
  replace h:=dI hb42 h
  refine aD.exit ?_
  refine aD.seq ?_
  refine aD.region E.obj rfl ?_
  refine aj.val rfl (aJ H37 (i:=0) rfl rfl (aW dX bE rfl)) rfl ?_
  refine aj.less (Less.agg' (d:=ai (Tree.mk z10.tag z10.key z10.text z16 x38)) (ax.eq rfl (ax.eq rfl (ax.eq rfl (ax.eq rfl (ax.grow H37 (i:=2) rfl .nil))))) ((Tree.eq _).trans rfl)) ?_
  refine aj.store H37 (i:=1) rfl rfl rfl rfl (Tree.dx _) rfl bE rfl jc rfl rfl rfl (fun S66 H67=>?_)
  refine aj.nil ?_
  have hr:=Option.some.inj h
  subst hr
  exact aD.ret ⟨_,(jw H67 (i:=1) rfl rfl rfl (aW dX bE rfl)),rfl,_,_,_,.refl _,(Less.agg' (d:=ai (Tree.mk z10.tag z10.key z10.text z16 x38)) (ax.eq rfl (ax.eq rfl (ax.eq rfl (ax.eq rfl (ax.eq rfl .nil))))) ((Tree.eq _).trans rfl)),⟨rfl,rfl⟩,H67.sl [3,4,5] rfl rfl⟩
set_option maxRecDepth 20000 in
set_option maxHeartbeats 4000000 in
theorem jY (n:Nat) (a2:aB) (a6:Int) (r:(Tree × Bool)) (h:fP n a2 a6=some r) (b1:Nat) (v3:AV) (ws4:List (List AV)) (w5:AV):dz R cfg.P 21 [.ptr b1 0 0,.d (.int .i64 a6)] [.box b1 [v3,w5],aA ae ah.kids 7 5 v3 ws4 a2.l none,aG w5 a2.freed] (fun v l=>v=.tup [.d (ai r.1),.d (.bool r.2)]∧l=[.box b1 [v3,w5],aA ae ah.kids 7 5 v3 ws4 a2.l none,aG w5 a2.freed]):=by
 unfold fP at h
 refine dz.of_wp (C:=cfg) Try.func21 rfl Oh rfl (fun B0 S0 H0=>?_)
 replace H0:Has B0 S0 [.box b1 [v3,w5],aA ae ah.kids 7 5 v3 ws4 a2.l none,aG w5 a2.freed]:=H0
 refine aD.seq ?_
 refine aD.region E.obj rfl ?_
 refine aj.alloc H0 rfl rV fO rfl rfl (fun b7 S8 H9=>?_)
 refine aj.val rfl (ak rfl) rfl ?_
 refine aj.nil ?_
 refine aD.seq ?_
 refine aD.seq ?_
 refine aD.region E.obj rfl ?_
 refine aj.val rfl (aa rfl) rfl ?_
 refine aj.val rfl (aa rfl) rfl ?_
 obtain ⟨z10,hzz10,h⟩:=bind_some h
 refine aj.bR (ins:=[.box b1 [v3,w5],aA ae ah.kids 7 5 v3 ws4 a2.l none,aG w5 a2.freed]) (more:=[.box b7 [(.d (.str [])),(.d (.str [])),(.d (.str [])),(.d .aO),(.d .aO)]]) (H9.sl [1,2,3,0] rfl rfl) rfl (az rfl rfl) (gz E n _ _ _ hzz10 b1 v3 ws4 w5) (.cons (.refl _) (.cons (.refl _) .nil)) rfl ?_
 rintro v11 S12 l13 hr14 H15
 rcases z10 with _ | _
 ·
  obtain ⟨rfl,rfl⟩:=hr14
  replace h:=dI rfl h
  replace H15:Has B0 S12 [.box b1 [v3,w5],aA ae ah.kids 7 5 v3 ws4 a2.l none,aG w5 a2.freed,.box b7 [(.d (.str [])),(.d (.str [])),(.d (.str [])),(.d .aO),(.d .aO)]]:=H15
  have H16:Has B0 S12 [.box b7 [(.d (.str [])),(.d (.str [])),(.d (.str [])),(.d .aO),(.d .aO)],.box b1 [v3,w5],aA ae ah.kids 7 5 v3 ws4 a2.l none,aG w5 a2.freed]:=H15.sl [3,0,1,2] rfl rfl
  refine aj.val rfl (aH rfl rfl (lq qB)) rfl ?_
  refine aj.nil ?_
  refine aD.cond rfl (fun hb=>?_) (fun hb=>?_)
  ·
   refine aD.seq ?_
   refine aD.region E.obj rfl ?_
   refine aj.val rfl (bM (cs:=[(.d (.str [])),(.d (.str [])),(.d (.str [])),(.d .aO),(.d .aO)]) fO rfl (bq) rfl) rfl ?_
   refine aj.less (Less.agg' (d:=ai (Tree.mk [] [] [] [] [])) (ax.eq rfl (ax.eq rfl (ax.eq rfl (ax.dE rfl (.aO false) rfl rfl (ax.dE rfl (.aO false) rfl rfl .nil))))) ((Tree.eq _).trans rfl)) ?_
   refine aj.store H16 (i:=0) rfl rfl rfl rfl (Tree.dx _) rfl bE rfl jc rfl rfl rfl (fun S17 H18=>?_)
   refine aj.val rfl (ak rfl) rfl ?_
   refine aj.nil ?_
   have hr:=Option.some.inj h
   subst hr
   exact aD.ret ⟨_,(nk H18 (i:=0) rfl rfl rfl (aW dX bE rfl) rfl),rfl,_,_,_,.refl _,(Less.Mo (Less.agg' (d:=ai (Tree.mk [] [] [] [] [])) (ax.eq rfl (ax.eq rfl (ax.eq rfl (ax.eq rfl (ax.eq rfl .nil))))) ((Tree.eq _).trans rfl)) (.refl _)),⟨rfl,rfl⟩,H18.sl [1,2,3] rfl rfl⟩
  cases hb
 obtain ⟨rfl,rfl⟩:=hr14
 replace h:=dH rfl h
 have H19:Has B0 S12 [.box b7 [(.d (.str [])),(.d (.str [])),(.d (.str [])),(.d .aO),(.d .aO)],.box b1 [v3,w5],aA ae ah.kids 7 5 v3 ws4 a2.l none,aG w5 a2.freed]:=H15.sl [3,0,1,2] rfl rfl
 obtain ⟨z20,hzz20,h⟩:=bind_some h
 refine aj.val rfl (kW H19 (q:=2) rfl hzz20 rfl rfl qB) rfl ?_
 refine aj.nil ?_
 refine aD.cond rfl (fun hb=>?_) (fun hb=>?_)
 ·
  cases hb
 refine aD.skip ?_
 refine aD.seq ?_
 refine aD.region E.obj rfl ?_
 refine aj.val rfl (aa rfl) rfl ?_
 refine aj.val rfl (aa rfl) rfl ?_
 obtain ⟨z21,hzz21,h⟩:=bind_some h
 refine aj.bR (ins:=[.box b1 [v3,w5],aA ae ah.kids 7 5 v3 ws4 a2.l none,aG w5 a2.freed]) (more:=[.box b7 [(.d (.str [])),(.d (.str [])),(.d (.str [])),(.d .aO),(.d .aO)]]) (H19.sl [1,2,3,0] rfl rfl) rfl (az rfl rfl) (rJ E n _ _ _ hzz21 b1 v3 ws4 w5) (.cons (.refl _) (.cons (.refl _) .nil)) rfl ?_
 rintro _ S22 _ ⟨rfl,rfl⟩ H23
 have H24:Has B0 S22 [.box b7 [(.d (.str [])),(.d (.str [])),(.d (.str [])),(.d .aO),(.d .aO)],.box b1 [v3,w5],aA ae ah.kids 7 5 v3 ws4 a2.l none,aG w5 a2.freed]:=H23.sl [3,0,1,2] rfl rfl
 refine aj.store H24 (i:=0) rfl rfl rfl rfl (Tree.dx _) rfl bE rfl jc rfl rfl rfl (fun S25 H26=>?_)
 refine aj.val rfl (ak rfl) rfl ?_
 refine aj.nil ?_
 have hr:=Option.some.inj h
 subst hr
 exact aD.ret ⟨_,(nk H26 (i:=0) rfl rfl rfl (aW dX bE rfl) rfl),rfl,_,_,_,.refl _,(Less.Mo (Less.agg' (d:=ai z21) (ax.eq rfl (ax.eq rfl (ax.eq rfl (ax.eq rfl (ax.eq rfl .nil))))) ((Tree.eq _).trans rfl)) (.refl _)),⟨rfl,rfl⟩,H26.sl [1,2,3] rfl rfl⟩
set_option maxRecDepth 20000 in
set_option maxHeartbeats 4000000 in
theorem fI (n:Nat) (a1:Int) (a2:Int) (a3:Int) (r:Int) (h:df n a1 a2 a3=some r):fE R cfg.P 24 [(.int .i64 a1),(.int .i64 a2),(.int .i64 a3)] (.d (.int .i64 r)):=by
 unfold df at h
 refine fE.of_wp E.obj.toObjOk (C:=cfg) Try.func24 rfl MO rfl ?_
 have H0:Has aL aL []:=Has.pure
 refine aD.seq ?_
 refine aD.region E.obj rfl ?_
 refine aj.val rfl (ak rfl) rfl ?_
 refine aj.nil ?_
 refine aD.seq ?_
 refine aD.region E.obj rfl ?_
 refine aj.val rfl (aa rfl) rfl ?_
 refine aj.val rfl (aa rfl) rfl ?_
 refine aj.val rfl (aa rfl) rfl ?_
 refine aj.val rfl (aH rfl rfl iB) rfl ?_
 refine aj.val rfl (aH rfl rfl dF) rfl ?_
 obtain ⟨z4,hzz4,h⟩:=bind_some h
 refine aj.val rfl (aH rfl rfl (Bn hzz4)) rfl ?_
 refine aj.val rfl (ak rfl) rfl ?_
 refine aj.nil ?_
 refine aD.join (B:=aL) (α:=Int) (fun a=>eP a2 a=some r) (fun a=>[(0,(.d (.int .i64 a))),(1,(.d (.int .i64 a2)))]) (fun a=>[]) ?_ ?_
 ·
  intro x7 S5 H6 h
  replace h:eP a2 x7=some r:=h
  replace H6:Has aL S5 []:=H6
  unfold eP at h
  refine aD.seq ?_
  refine aD.region E.obj rfl ?_
  refine aj.val rfl (aa rfl) rfl ?_
  refine aj.val rfl (aa rfl) rfl ?_
  refine aj.val rfl (aH rfl rfl dF) rfl ?_
  refine aj.val rfl (ak rfl) rfl ?_
  refine aj.nil ?_
  have hr:=Option.some.inj h
  subst hr
  exact aD.ret ⟨_,rfl,rfl,kR (aN.eq .nil)⟩
 refine aD.seq ?_
 refine aD.region E.obj rfl ?_
 refine aj.val rfl (aa rfl) rfl ?_
 refine aj.val rfl (aH rfl rfl dR) rfl ?_
 refine aj.nil ?_
 refine aD.cond rfl (fun hb9=>?_) (fun hb9=>?_)
 ·
  replace h:=dH hb9 h
  refine aD.region E.obj rfl ?_
  refine aj.val rfl (aa rfl) rfl ?_
  refine aj.val rfl (aa rfl) rfl ?_
  refine aj.val rfl (aH rfl rfl dF) rfl ?_
  refine aj.val rfl (aa rfl) rfl ?_
  refine aj.val rfl (aH rfl rfl iB) rfl ?_
  refine aj.val rfl (aH rfl rfl dF) rfl ?_
  refine aj.val rfl (ak rfl) rfl ?_
  refine aj.nil ?_
  exact ⟨(IntKind.wrap .i64 ((IntKind.wrap .i64 ((IntKind.wrap .i64 (z4 + a3)) - a2)) + 1)),_,_,aL,.refl _ _,.refl _,(au.r rfl (au.r rfl au.nil)),H0.sl [] rfl rfl,h⟩
 replace h:=dI hb9 h
 refine aD.skip ?_
 exact ⟨z4,_,_,aL,.refl _ _,.refl _,(au.r rfl (au.r rfl au.nil)),H0.sl [] rfl rfl,h⟩
set_option maxRecDepth 20000 in
set_option maxHeartbeats 4000000 in
theorem dK (n:Nat) (a1:(List Int)) (a2:(List Int)) (r:Bool) (h:iy n a1 a2=some r):fE R cfg.P 25 [(.sl ((a1).map (D.int .i64)) false),(.sl ((a2).map (D.int .i64)) false)] (.d (.bool r)):=by
 unfold iy at h
 refine fE.of_wp E.obj.toObjOk (C:=cfg) Try.func25 rfl M6 rfl ?_
 have H0:Has aL aL []:=Has.pure
 refine aD.seq ?_
 refine aD.region E.obj rfl ?_
 refine aj.val rfl (ak rfl) rfl ?_
 refine aj.nil ?_
 refine aD.seq ?_
 refine aD.seq ?_
 refine aD.region E.obj rfl ?_
 refine aj.val rfl (aa rfl) rfl ?_
 refine aj.val rfl (cz rfl nZ) rfl ?_
 refine aj.val rfl (aa rfl) rfl ?_
 refine aj.val rfl (cz rfl nZ) rfl ?_
 refine aj.val rfl (aH rfl rfl mZ) rfl ?_
 refine aj.nil ?_
 refine aD.cond rfl (fun hb3=>?_) (fun hb3=>?_)
 ·
  replace h:=dH hb3 h
  refine aD.seq ?_
  refine aD.region E.obj rfl ?_
  refine aj.val rfl (ak rfl) rfl ?_
  refine aj.nil ?_
  have hr:=Option.some.inj h
  subst hr
  exact aD.ret ⟨_,rfl,rfl,kR (aN.eq .nil)⟩
 replace h:=dI hb3 h
 refine aD.skip ?_
 refine aD.seq ?_
 refine aD.seq ?_
 refine aD.region E.obj rfl ?_
 refine aj.val rfl (ak rfl) rfl ?_
 refine aj.nil ?_
 refine aD.block ?_
 refine qo.start (B:=aL) (α:=Int) (fun k a=>cu a1 a2 k a=some r) (fun a=>[(0,(.d (.sl ((a1).map (D.int .i64)) false))),(1,(.d (.sl ((a2).map (D.int .i64)) false))),(5,(.d (.int .i64 a)))]) (fun a=>[]) ?_ ?_ n ⟨0,_,_,aL,.refl _ _,.refl _,(au.r rfl (au.r rfl (au.r rfl au.nil))),H0.sl [] rfl rfl,h⟩
 ·
  intro a h; simp [cu] at h
 intro k12 x11 S9 H10 h
 replace h:cu a1 a2 (k12 + 1) x11=some r:=h
 replace H10:Has aL S9 []:=H10
 unfold cu at h
 refine aD.seq ?_
 refine aD.seq ?_
 refine aD.region E.obj rfl ?_
 refine aj.val rfl (aa rfl) rfl ?_
 refine aj.val rfl (aa rfl) rfl ?_
 refine aj.val rfl (cz rfl nZ) rfl ?_
 refine aj.val rfl (aH rfl rfl dR) rfl ?_
 refine aj.nil ?_
 refine aD.cond rfl (fun hb13=>?_) (fun hb13=>?_)
 ·
  replace h:=dH hb13 h
  refine aD.skip ?_
  refine aD.seq ?_
  refine aD.block ?_
  refine aD.seq ?_
  obtain ⟨z14,hzz14,h⟩:=bind_some h
  obtain ⟨z15,hzz15,h⟩:=bind_some h
  refine aD.jf E.obj lQ Ot [(0,none),(1,none),(5,none),(25,some 8)] (by kernel_rfl) [] (by decide) [some (.d (.sl ((a1).map (D.int .i64)) false)),some (.d (.int .i64 x11)),some (.eptr (.int .i64 z14) 0),some (.d (.int .i64 z14)),some (.d (.sl ((a2).map (D.int .i64)) false)),some (.d (.int .i64 x11)),some (.eptr (.int .i64 z15) 0),some (.d (.int .i64 z15)),some (.d (.bool (z14 != z15)))] ?_
  refine ⟨[0,1,2,3,4,5,6,7,8],by kernel_rfl,?_,_,rfl,?_⟩
  ·
   refine .v rfl rfl rfl rfl (aa rfl) ?_
   refine .v rfl rfl rfl rfl (aa rfl) ?_
   refine .v rfl rfl rfl rfl (bX rfl rfl (dU (enc:=(D.int .i64)) hzz14 fQ vV (((fun _=>rfl) _).trans kV.symm))) ?_
   refine .v rfl rfl rfl rfl (bG rfl (dY nV rfl)) ?_
   refine .v rfl rfl rfl rfl (aa rfl) ?_
   refine .v rfl rfl rfl rfl (aa rfl) ?_
   refine .v rfl rfl rfl rfl (bX rfl rfl (dU (enc:=(D.int .i64)) hzz15 fQ vV (((fun _=>rfl) _).trans kV.symm))) ?_
   refine .v rfl rfl rfl rfl (bG rfl (dY nV rfl)) ?_
   refine .v rfl rfl rfl rfl (aH rfl rfl mZ) ?_
   exact .nil
  refine aD.cond rfl (fun hb16=>?_) (fun hb16=>?_)
  ·
   replace h:=dH hb16 h
   refine aD.seq ?_
   refine aD.region E.obj rfl ?_
   refine aj.val rfl (ak rfl) rfl ?_
   refine aj.nil ?_
   have hr:=Option.some.inj h
   subst hr
   exact aD.ret ⟨_,rfl,rfl,kR (aN.eq .nil)⟩
  replace h:=dI hb16 h
  refine aD.skip ?_
  refine aD.region E.obj rfl ?_
  refine aj.val rfl (aa rfl) rfl ?_
  refine aj.val rfl (aH rfl rfl dF) rfl ?_
  refine aj.val rfl (ak rfl) rfl ?_
  refine aj.nil ?_
  exact ⟨(IntKind.wrap .i64 (x11 + 1)),_,_,S9,.refl _ _,.refl _,(au.r rfl (au.r rfl (au.r rfl au.nil))),H10.sl [] rfl rfl,h⟩
 replace h:=dI hb13 h
 refine aD.exit ?_
 refine aD.seq ?_
 refine aD.region E.obj rfl ?_
 refine aj.val rfl (ak rfl) rfl ?_
 refine aj.nil ?_
 have hr:=Option.some.inj h
 subst hr
 exact aD.ret ⟨_,rfl,rfl,kR (aN.eq .nil)⟩
set_option maxRecDepth 20000 in
set_option maxHeartbeats 4000000 in
theorem wh (n:Nat) (a2:aB) (a6:Int) (a7:Int) (r:Bool) (h:kD n a2 a6 a7=some r) (b1:Nat) (v3:AV) (ws4:List (List AV)) (w5:AV):dz R cfg.P 60 [.ptr b1 0 0,.d (.int .i64 a6),.d (.int .i64 a7)] [.box b1 [v3,w5],aA ae ah.kids 7 5 v3 ws4 a2.l none,aG w5 a2.freed] (fun v l=>v=.d (.bool r)∧l=[.box b1 [v3,w5],aA ae ah.kids 7 5 v3 ws4 a2.l none,aG w5 a2.freed]):=by
 unfold kD at h
 refine dz.of_wp (C:=cfg) Try.func60 rfl NF rfl (fun B0 S0 H0=>?_)
 replace H0:Has B0 S0 [.box b1 [v3,w5],aA ae ah.kids 7 5 v3 ws4 a2.l none,aG w5 a2.freed]:=H0
 refine aD.seq ?_
 refine aD.region E.obj rfl ?_
 refine aj.val rfl (ak rfl) rfl ?_
 refine aj.nil ?_
 refine aD.seq ?_
 refine aD.block ?_
 refine qo.start (B:=B0) (α:=Int) (fun k a=>eB a2 a7 k a=some r) (fun a=>[(0,(.ptr b1 0 0)),(1,(.d (.int .i64 a))),(2,(.d (.int .i64 a7)))]) (fun a=>[.box b1 [v3,w5],aA ae ah.kids 7 5 v3 ws4 a2.l none,aG w5 a2.freed]) ?_ ?_ n ⟨a6,_,_,S0,.refl _ _,.refl _,(au.r rfl (au.r rfl (au.r rfl au.nil))),H0.sl [0,1,2] rfl rfl,h⟩
 ·
  intro a h; simp [eB] at h
 intro k16 x15 S13 H14 h
 replace h:eB a2 a7 (k16 + 1) x15=some r:=h
 replace H14:Has B0 S13 [.box b1 [v3,w5],aA ae ah.kids 7 5 v3 ws4 a2.l none,aG w5 a2.freed]:=H14
 unfold eB at h
 refine aD.seq ?_
 refine aD.seq ?_
 refine aD.region E.obj rfl ?_
 refine aj.val rfl (aa rfl) rfl ?_
 refine aj.val rfl (aH rfl rfl mZ) rfl ?_
 refine aj.val rfl (aa rfl) rfl ?_
 refine aj.jS 4 13 (.d (.bool ((x15 != 0) && (x15 != a7)))) ?_ ?_
 ·
  rcases Bool.eq_false_or_eq_true ((x15 != 0)) with hB17 | hB17
  ·
   refine aj.bool hB17 ?_
   refine aj.val rfl (aa rfl) rfl ?_
   refine aj.val rfl (aa rfl) rfl ?_
   refine aj.val rfl (aH rfl rfl mZ) rfl ?_
   refine aj.val rfl (aC (b:=true) rfl rfl) rfl ?_
   exact aj.nil ⟨_,rfl,(au.put (au.push rfl (au.push rfl (au.push rfl (au.put (.refl _) (Less.eq (by rw [hB17])))))) (Less.eq (by rw [hB17]; rw [Bool.true_and])))⟩
  refine aj.bool hB17 ?_
  refine aj.no rfl rfl ?_
  refine aj.no rfl rfl ?_
  refine aj.no rfl rfl ?_
  refine aj.val rfl (aC (b:=false) rfl rfl) rfl ?_
  exact aj.nil ⟨_,rfl,(au.put (au.push rfl (au.push rfl (au.push rfl (au.put (.refl _) (Less.eq (by rw [hB17])))))) (Less.eq (by rw [hB17]; rw [Bool.false_and])))⟩
 refine aj.nil ?_
 refine aD.cond rfl (fun hb18=>?_) (fun hb18=>?_)
 ·
  replace h:=dH hb18 h
  refine aD.skip ?_
  refine aD.block ?_
  refine aD.region E.obj rfl ?_
  refine aj.val rfl (aa rfl) rfl ?_
  refine aj.val rfl (bF rfl) rfl ?_
  refine aj.val rfl (aF rfl kU uy rfl) rfl ?_
  refine aj.val rfl (aJ H14 (i:=0) rfl rfl (aS vB rfl)) rfl ?_
  refine aj.val rfl (aa rfl) rfl ?_
  refine aj.val rfl (aH rfl rfl iB) rfl ?_
  obtain ⟨z19,hzz19,h⟩:=bind_some h
  refine aj.val rfl (ig H14 (i:=1) rfl hzz19 rfl rfl xX uU qx) rfl ?_
  refine aj.val rfl (bz H14 (i:=1) rfl hzz19 rfl rC Ko rfl) rfl ?_
  refine aj.ko H14 rfl (q:=1) rfl hzz19 rfl nV rfl rfl rfl ?_
  refine aj.val rfl (ak rfl) rfl ?_
  refine aj.nil ?_
  exact ⟨z19.parent,_,_,S13,.refl _ _,.refl _,(au.r rfl (au.r rfl (au.r rfl au.nil))),H14.sl [0,1,2] rfl rfl,h⟩
 replace h:=dI hb18 h
 refine aD.exit ?_
 refine aD.seq ?_
 refine aD.region E.obj rfl ?_
 refine aj.val rfl (aa rfl) rfl ?_
 refine aj.val rfl (aa rfl) rfl ?_
 refine aj.val rfl (aH rfl rfl bD) rfl ?_
 refine aj.val rfl (ak rfl) rfl ?_
 refine aj.nil ?_
 have hr:=Option.some.inj h
 subst hr
 exact aD.ret ⟨_,rfl,rfl,_,_,_,.refl _,(.refl _),⟨rfl,rfl⟩,H14.sl [0,1,2] rfl rfl⟩
set_option maxRecDepth 20000 in
set_option maxHeartbeats 4000000 in
theorem pK (n:Nat) (a1:(List Int)) (a2:Int) (r:Int) (h:gH n a1 a2=some r):fE R cfg.P 84 [(.sl ((a1).map (D.int .i64)) false),(.int .i64 a2)] (.d (.int .i64 r)):=by
 unfold gH at h
 refine fE.of_wp E.obj.toObjOk (C:=cfg) Try.func84 rfl Oi rfl ?_
 have H0:Has aL aL []:=Has.pure
 refine aD.seq ?_
 refine aD.region E.obj rfl ?_
 refine aj.val rfl (ak rfl) rfl ?_
 refine aj.nil ?_
 refine aD.seq ?_
 refine aD.seq ?_
 refine aD.region E.obj rfl ?_
 refine aj.val rfl (aa rfl) rfl ?_
 refine aj.val rfl (cz rfl nZ) rfl ?_
 refine aj.val rfl (aa rfl) rfl ?_
 refine aj.nil ?_
 refine aD.block ?_
 refine qo.start (B:=aL) (α:=Int) (fun k a=>bO a1 a2 k a=some r) (fun a=>[(0,(.d (.sl ((a1).map (D.int .i64)) false))),(1,(.d (.int .i64 a2))),(7,(.d (.int .i64 ((a1).length:Int)))),(8,(.d (.int .i64 a)))]) (fun a=>[]) ?_ ?_ n ⟨0,_,_,aL,.refl _ _,.refl _,(au.r rfl (au.r rfl (au.r rfl (au.r rfl au.nil)))),H0.sl [] rfl rfl,h⟩
 ·
  intro a h; simp [bO] at h
 intro k11 x10 S8 H9 h
 replace h:bO a1 a2 (k11 + 1) x10=some r:=h
 replace H9:Has aL S8 []:=H9
 unfold bO at h
 refine aD.seq ?_
 refine aD.region E.obj rfl ?_
 refine aj.val rfl (aH rfl rfl dR) rfl ?_
 refine aj.nil ?_
 refine aD.seq ?_
 refine aD.cond rfl (fun hb12=>?_) (fun hb12=>?_)
 ·
  replace h:=dH hb12 h
  refine aD.skip ?_
  refine aD.seq ?_
  refine aD.block ?_
  refine aD.seq ?_
  refine aD.region E.obj rfl ?_
  refine aj.val rfl (aa rfl) rfl ?_
  refine aj.val rfl (ak rfl) rfl ?_
  refine aj.nil ?_
  refine aD.seq ?_
  refine aD.region E.obj rfl ?_
  refine aj.val rfl (aa rfl) rfl ?_
  refine aj.val rfl (aa rfl) rfl ?_
  refine aj.val rfl (aa rfl) rfl ?_
  obtain ⟨z13,hzz13,h⟩:=bind_some h
  refine aj.val rfl (bX rfl rfl (dU (enc:=(D.int .i64)) hzz13 fQ vV (((fun _=>rfl) _).trans kV.symm))) rfl ?_
  refine aj.val rfl (bG rfl (dY nV rfl)) rfl ?_
  refine aj.val rfl (aH rfl rfl bD) rfl ?_
  refine aj.nil ?_
  refine aD.cond rfl (fun hb14=>?_) (fun hb14=>?_)
  ·
   replace h:=dH hb14 h
   refine aD.seq ?_
   refine aD.region E.obj rfl ?_
   refine aj.val rfl (aa rfl) rfl ?_
   refine aj.val rfl (ak rfl) rfl ?_
   refine aj.nil ?_
   have hr:=Option.some.inj h
   subst hr
   exact aD.ret ⟨_,rfl,rfl,kR (aN.eq .nil)⟩
  replace h:=dI hb14 h
  refine aD.skip ?_
  refine aD.region E.obj rfl ?_
  refine aj.val rfl (aH rfl rfl dF) rfl ?_
  refine aj.val rfl (aa rfl) rfl ?_
  refine aj.nil ?_
  exact ⟨(IntKind.wrap .i64 (x10 + 1)),_,_,S8,.refl _ _,.refl _,(au.r rfl (au.r rfl (au.r rfl (au.r rfl au.nil)))),H9.sl [] rfl rfl,h⟩
 replace h:=dI hb12 h
 refine aD.exit ?_
 refine aD.seq ?_
 refine aD.region E.obj rfl ?_
 refine aj.val rfl (ak rfl) rfl ?_
 refine aj.nil ?_
 have hr:=Option.some.inj h
 subst hr
 exact aD.ret ⟨_,rfl,rfl,kR (aN.eq .nil)⟩
set_option maxRecDepth 20000 in
set_option maxHeartbeats 4000000 in
theorem oZ (n:Nat) (a1:(List Int)) (a3:Int) (a4:Int) (r:(List Int)) (h:gy n a1 a3 a4=some r) (w2:AV):dz R cfg.P 85 [w2,.d (.int .i64 a3),.d (.int .i64 a4)] [aG w2 a1] (fun v l=>l=[aG v r]):=by
 unfold gy at h
 refine dz.of_wp (C:=cfg) Try.func85 rfl Ob rfl (fun B0 S0 H0=>?_)
 replace H0:Has B0 S0 [aG w2 a1]:=H0
 refine aD.seq ?_
 refine aD.region E.obj rfl ?_
 refine aj.val rfl (ak rfl) rfl ?_
 refine aj.nil ?_
 refine aD.seq ?_
 refine aD.region E.obj rfl ?_
 refine aj.val rfl (aa rfl) rfl ?_
 refine aj.val rfl (aa rfl) rfl ?_
 refine aj.val rfl (aa rfl) rfl ?_
 refine aj.val rfl (aa rfl) rfl ?_
 refine aj.val rfl (kP H0 (i:=0) rfl rfl nZ) rfl ?_
 obtain ⟨z5,hzz5,h⟩:=bind_some h
 refine aj.val rfl (FZ H0 (q:=0) rfl rfl rfl rfl rfl fQ Gc kV (EI hzz5)) rfl ?_
 refine aj.nil ?_
 refine aD.seq ?_
 refine aD.seq ?_
 refine aD.region E.obj rfl ?_
 refine aj.val rfl (aa rfl) rfl ?_
 refine aj.val rfl (aa rfl) rfl ?_
 refine aj.val rfl (aH rfl rfl bD) rfl ?_
 refine aj.nil ?_
 refine aD.cond rfl (fun hb6=>?_) (fun hb6=>?_)
 ·
  replace h:=dH hb6 h
  refine aD.seq ?_
  refine aD.region E.obj rfl ?_
  refine aj.val rfl (aa rfl) rfl ?_
  refine aj.val rfl (ak rfl) rfl ?_
  refine aj.nil ?_
  have hr:=Option.some.inj h
  subst hr
  exact aD.ret ⟨_,rfl,rfl,_,_,_,.refl _,(.refl _),rfl,H0.sl [0] rfl rfl⟩
 replace h:=dI hb6 h
 refine aD.skip ?_
 refine aD.seq ?_
 refine aD.region E.obj rfl ?_
 refine aj.val rfl (aa rfl) rfl ?_
 refine aj.val rfl (kP H0 (i:=0) rfl rfl nZ) rfl ?_
 refine aj.val rfl (ak rfl) rfl ?_
 refine aj.nil ?_
 refine aD.seq ?_
 refine aD.jf E.obj lQ OD [(0,some 7),(7,none)] (by kernel_rfl) [6] (by decide) [some w2,some (.d (.int .i64 a3)),some (ng w2 (Int.toNat a3)),some w2,some (.d (.int .i64 a4)),some (pQ w2 (Int.toNat a4)),none,none] ?_
 refine ⟨[0,1,2,3,4,5],by kernel_rfl,?_,_,_,rfl,rfl,.step ?_⟩
 ·
  refine .v rfl rfl rfl rfl (aa rfl) ?_
  refine .v rfl rfl rfl rfl (aa rfl) ?_
  refine .v rfl rfl rfl rfl (Ef H0 (q:=0) rfl rfl rfl fQ Gc kV (EI hzz5)) ?_
  refine .v rfl rfl rfl rfl (aa rfl) ?_
  refine .v rfl rfl rfl rfl (aa rfl) ?_
  refine .v rfl rfl rfl rfl (Cj H0 (q:=0) rfl rfl rfl fQ Gc kV (EI hzz5)) ?_
  exact .nil
 have H12:Has B0 S0 ([aG w2 a1] ++ []):=H0.sl [0] rfl rfl
 replace H12:Has B0 S0 [aG w2 a1]:=H12
 refine aj.KV H12 rfl rfl rfl J2 fQ kV hzz5 rfl (fun S13 H14 hroom15=>?_)
 have H16:Has B0 S13 [aG (ng w2 (z5).length) z5]:=H14.sl [0] rfl rfl
 refine aj.nil ⟨_,_,_,rfl,(fun _ ht=>by cases ht; rfl),_,(.q (.o (.o (.w (ng w2 (z5).length) (.w (ng w2 (z5).length) .nil))))),(fun _ ht=>by cases ht; exact ⟨_,rfl,.refl _⟩),?_⟩
 refine ⟨[7],by kernel_rfl,?_,_,rfl,?_⟩
 ·
  refine .v rfl rfl rfl rfl (ak rfl) ?_
  exact .nil
 refine aD.seq ?_
 refine aD.region E.obj rfl ?_
 refine aj.val rfl (aa rfl) rfl ?_
 refine aj.val rfl (aa rfl) rfl ?_
 refine aj.val rfl (kP H16 (i:=0) rfl rfl nZ) rfl ?_
 refine aj.val rfl (aa rfl) rfl ?_
 refine aj.val rfl (DL H16 (q:=0) rfl rfl rfl rfl fQ Gc kV (Int.natCast_nonneg _) hroom15) rfl ?_
 have H17:Has B0 S13 ([aG (ng w2 (z5).length) z5] ++ []):=H16.sl [0] rfl rfl
 replace H17:Has B0 S13 [aG (ng w2 (z5).length) z5]:=H17
 refine aj.Hq (jj:=_) H17 rfl rfl fQ wD rfl hroom15 (fun S18 H19=>?_)
 have H20:Has B0 S18 [aG (ng w2 (z5).length) z5]:=H19.sl [0] rfl rfl
 refine aj.nil ?_
 refine aD.seq ?_
 refine aD.region E.obj rfl ?_
 refine aj.val rfl (aa rfl) rfl ?_
 refine aj.val rfl (ak rfl) rfl ?_
 refine aj.nil ?_
 have hr:=Option.some.inj h
 subst hr
 exact aD.ret ⟨_,rfl,rfl,_,_,_,.refl _,(.refl _),rfl,H20.sl [0] rfl rfl⟩
set_option maxRecDepth 20000 in
set_option maxHeartbeats 4000000 in
theorem qD (n:Nat) (a2:aB) (a6:Int) (r:aB) (h:j6 n a2 a6=some r) (b1:Nat) (v3:AV) (ws4:List (List AV)) (w5:AV):dz R cfg.P 61 [.ptr b1 0 0,.d (.int .i64 a6)] [.box b1 [v3,w5],aA ae ah.kids 7 5 v3 ws4 a2.l none,aG w5 a2.freed] (fun v l=>v=.tup []∧∃ dws0 dw0,l=[.box b1 [v3,dw0],aA ae ah.kids 7 5 v3 dws0 r.l none,aG dw0 r.freed]):=by
 unfold j6 at h
 refine dz.of_wp (C:=cfg) Try.func61 rfl NQ rfl (fun B0 S0 H0=>?_)
 replace H0:Has B0 S0 [.box b1 [v3,w5],aA ae ah.kids 7 5 v3 ws4 a2.l none,aG w5 a2.freed]:=H0
 refine aD.seq ?_
 refine aD.region E.obj rfl ?_
 refine aj.val rfl (aa rfl) rfl ?_
 refine aj.val rfl (bF rfl) rfl ?_
 refine aj.val rfl (aF rfl kU uy rfl) rfl ?_
 refine aj.val rfl (aJ H0 (i:=0) rfl rfl (aS vB rfl)) rfl ?_
 refine aj.val rfl (aa rfl) rfl ?_
 refine aj.val rfl (aH rfl rfl iB) rfl ?_
 obtain ⟨z7,hzz7,h⟩:=bind_some h
 refine aj.val rfl (ig H0 (i:=1) rfl hzz7 rfl rfl xX uU qx) rfl ?_
 refine aj.val rfl (ak rfl) rfl ?_
 refine aj.nil ?_
 refine aD.seq ?_
 refine aD.seq ?_
 refine aD.region E.obj rfl ?_
 refine aj.val rfl (aa rfl) rfl ?_
 refine aj.val rfl (bL H0 (q:=1) rfl hzz7 rfl) rfl ?_
 refine aj.val rfl (bz H0 (i:=1) rfl hzz7 rfl rC Ko rfl) rfl ?_
 refine aj.ko H0 rfl (q:=1) rfl hzz7 rfl nV rfl rfl rfl ?_
 refine aj.val rfl (aH rfl rfl bD) rfl ?_
 refine aj.nil ?_
 refine aD.cond rfl (fun hb8=>?_) (fun hb8=>?_)
 ·
  replace h:=dH hb8 h
  have hr:=Option.some.inj h
  subst hr
  exact aD.ret ⟨_,rfl,rfl,_,_,_,.refl _,(.refl _),⟨rfl,ws4,w5,rfl⟩,H0.sl [0,1,2] rfl rfl⟩
 replace h:=dI hb8 h
 refine aD.skip ?_
 refine aD.seq ?_
 obtain ⟨z9,hzz9,h⟩:=bind_some h
 refine aD.jf E.obj lQ OO [(1,none),(4,none),(5,some 10)] (by kernel_rfl) [] (by decide) [some (.ptr b1 0 0),some (.ptr b1 0 0),some (.ptr b1 0 0),some v3,some (dh v3 (Int.toNat (IntKind.wrap .i64 (a6 - 1))) 0),some (dh v3 (Int.toNat (IntKind.wrap .i64 (a6 - 1))) 0),some (dh v3 (Int.toNat (IntKind.wrap .i64 (a6 - 1))) 6),some (.d (.int .i64 z7.parent)),some (.d (.int .i64 (IntKind.wrap .i64 (z7.parent - 1)))),some (dh v3 (Int.toNat (IntKind.wrap .i64 (z7.parent - 1))) 0),some (dh v3 (Int.toNat (IntKind.wrap .i64 (z7.parent - 1))) 0)] ?_
 refine ⟨[0,1,2,3,4,5,6,7,8,9,10],by kernel_rfl,?_,_,rfl,?_⟩
 ·
  refine .v rfl rfl rfl rfl (aa rfl) ?_
  refine .v rfl rfl rfl rfl (bF rfl) ?_
  refine .v rfl rfl rfl rfl (aF rfl kU uy rfl) ?_
  refine .v rfl rfl rfl rfl (aJ H0 (i:=0) rfl rfl (aS vB rfl)) ?_
  refine .v rfl rfl rfl rfl (aa rfl) ?_
  refine .v rfl rfl rfl rfl (bL H0 (q:=1) rfl hzz7 rfl) ?_
  refine .v rfl rfl rfl rfl (bz H0 (i:=1) rfl hzz7 rfl rC Ko rfl) ?_
  refine .cons rfl rfl rfl (.step ?_) ?_
  ·
   refine aj.ko H0 rfl (q:=1) rfl hzz7 rfl nV rfl rfl rfl ?_
   exact aj.nil ⟨_,_,rfl,fun _ ht=>by cases ht; exact ⟨rfl,.refl _⟩⟩
  refine .v rfl rfl rfl rfl (aH rfl rfl iB) ?_
  refine .v rfl rfl rfl rfl (ig H0 (i:=1) rfl hzz9 rfl rfl xX uU qx) ?_
  refine .v rfl rfl rfl rfl (ak rfl) ?_
  exact .nil
 refine aD.seq ?_
 refine aD.region E.obj rfl ?_
 refine aj.val rfl (aa rfl) rfl ?_
 obtain ⟨z10,hzz10,h⟩:=bind_some h
 refine aj.val rfl (bL H0 (q:=1) rfl hzz10 rfl) rfl ?_
 refine aj.val rfl (bz H0 (i:=1) rfl hzz10 rfl oU nR rfl) rfl ?_
 refine aj.val rfl (iw H0 (i:=1) rfl hzz10 rfl qg) rfl ?_
 refine aj.val rfl (aa rfl) rfl ?_
 obtain ⟨z11,hzz11,h⟩:=bind_some h
 have H12:Has B0 S0 ([aA ae ah.kids 7 5 v3 ws4 a2.l none] ++ [.box b1 [v3,w5],aG w5 a2.freed]):=H0.sl [1,0,2] rfl rfl
 replace H12:Has B0 S0 [aA ae ah.kids 7 5 v3 ws4 a2.l none,.box b1 [v3,w5],aG w5 a2.freed]:=H12
 have H13:=Has.take H12 (dN hzz10).2
 refine aj.N9 E.obj.toObjOk rfl (az rfl rfl) (pK E n _ _ _ hzz11) rfl (.cons (EJ.OP H13 (q:=0) rfl) (.cons (.less (.refl _)) .nil)) rfl ?_
 refine aj.val rfl (ak rfl) rfl ?_
 refine aj.nil ?_
 refine aD.seq ?_
 refine aD.region E.obj rfl ?_
 refine aj.val rfl (aa rfl) rfl ?_
 refine aj.val rfl (aa rfl) rfl ?_
 refine aj.val rfl (bL H0 (q:=1) rfl hzz10 rfl) rfl ?_
 refine aj.val rfl (bz H0 (i:=1) rfl hzz10 rfl oU nR rfl) rfl ?_
 refine aj.val rfl (iw H0 (i:=1) rfl hzz10 rfl qg) rfl ?_
 refine aj.val rfl (aa rfl) rfl ?_
 refine aj.val rfl (aa rfl) rfl ?_
 refine aj.val rfl (aH rfl rfl dF) rfl ?_
 obtain ⟨z14,hzz14,h⟩:=bind_some h
 have H15:Has B0 S0 ([aA ae ah.kids 7 5 v3 ws4 a2.l none] ++ [.box b1 [v3,w5],aG w5 a2.freed]):=H0.sl [1,0,2] rfl rfl
 replace H15:Has B0 S0 [aA ae ah.kids 7 5 v3 ws4 a2.l none,.box b1 [v3,w5],aG w5 a2.freed]:=H15
 have H16:=Has.take H15 (dN hzz10).2
 have H17:Has B0 S0 [aG (jW 5 ws4 (Int.toNat (IntKind.wrap .i64 (z7.parent - 1)))) z10.kids,.box b1 [v3,w5],aA ae ah.kids 7 5 v3 ws4 a2.l (some (Int.toNat (IntKind.wrap .i64 (z7.parent - 1)))),aG w5 a2.freed]:=H16.sl [0,2,1,3] rfl rfl
 refine aj.bR (ins:=[aG (jW 5 ws4 (Int.toNat (IntKind.wrap .i64 (z7.parent - 1)))) z10.kids]) (more:=[.box b1 [v3,w5],aA ae ah.kids 7 5 v3 ws4 a2.l (some (Int.toNat (IntKind.wrap .i64 (z7.parent - 1)))),aG w5 a2.freed]) (H17.sl [0,1,2,3] rfl rfl) rfl (az rfl rfl) (oZ E n _ _ _ _ hzz14 _) (.cons (.refl _) (.cons (.refl _) (.cons (.refl _) .nil))) rfl ?_
 rintro v18 S19 _ rfl H20
 have H21:Has B0 S19 [aG v18 z14,.box b1 [v3,w5],aA ae ah.kids 7 5 v3 ws4 a2.l (some (Int.toNat (IntKind.wrap .i64 (z7.parent - 1)))),aG w5 a2.freed]:=H20.sl [0,1,2,3] rfl rfl
 refine aj.val rfl (bL H21 (q:=2) rfl hzz10 rfl) rfl ?_
 refine aj.val rfl (bz H21 (i:=2) rfl hzz10 rfl oU nR rfl) rfl ?_
 have H25:Has B0 S19 ([aG v18 z14,aA ae ah.kids 7 5 v3 ws4 a2.l (some (Int.toNat (IntKind.wrap .i64 (z7.parent - 1))))] ++ [.box b1 [v3,w5],aG w5 a2.freed]):=H21.sl [0,2,1,3] rfl rfl
 replace H25:Has B0 S19 [aG v18 z14,aA ae ah.kids 7 5 v3 ws4 a2.l (some (Int.toNat (IntKind.wrap .i64 (z7.parent - 1)))),.box b1 [v3,w5],aG w5 a2.freed]:=H25
 refine aj.yQ (z':=(ah.mk z10.lives z10.tag z10.key z10.text z10.attrs z14 z10.parent)) (c:=.sl ((z14).map (D.int .i64)) false) H25 rfl hzz10 (.inr rfl) rfl rfl JA JR rfl rfl rfl (fun ws24 S22 H23=>?_)
 have H26:Has B0 S22 [.box b1 [v3,w5],aA ae ah.kids 7 5 v3 ws24 (jl a2.l (IntKind.wrap .i64 (z7.parent - 1)) (ah.mk z10.lives z10.tag z10.key z10.text z10.attrs z14 z10.parent)) none,aG w5 a2.freed]:=H23.sl [1,0,2] rfl rfl
 refine aj.nil ?_
 refine aD.region E.obj rfl ?_
 refine aj.val rfl (aa rfl) rfl ?_
 obtain ⟨z27,hzz27,h⟩:=bind_some h
 refine aj.val rfl (bL H26 (q:=1) rfl hzz27 rfl) rfl ?_
 refine aj.val rfl (bz H26 (i:=1) rfl hzz27 rfl rC Ko rfl) rfl ?_
 have H31:Has B0 S22 ([aA ae ah.kids 7 5 v3 ws24 (jl a2.l (IntKind.wrap .i64 (z7.parent - 1)) (ah.mk z10.lives z10.tag z10.key z10.text z10.attrs z14 z10.parent)) none] ++ [.box b1 [v3,w5],aG w5 a2.freed]):=H26.sl [1,0,2] rfl rfl
 replace H31:Has B0 S22 [aA ae ah.kids 7 5 v3 ws24 (jl a2.l (IntKind.wrap .i64 (z7.parent - 1)) (ah.mk z10.lives z10.tag z10.key z10.text z10.attrs z14 z10.parent)) none,.box b1 [v3,w5],aG w5 a2.freed]:=H31
 refine aj.qW (z':=(ah.mk z27.lives z27.tag z27.key z27.text z27.attrs z27.kids 0)) H31 rfl hzz27 rfl rfl rfl rfl (.refl _) kV vV rfl rfl rfl rfl rfl (fun ws30 S28 H29=>?_)
 have H32:Has B0 S28 [.box b1 [v3,w5],aA ae ah.kids 7 5 v3 ws30 (jl (jl a2.l (IntKind.wrap .i64 (z7.parent - 1)) (ah.mk z10.lives z10.tag z10.key z10.text z10.attrs z14 z10.parent)) (IntKind.wrap .i64 (a6 - 1)) (ah.mk z27.lives z27.tag z27.key z27.text z27.attrs z27.kids 0)) none,aG w5 a2.freed]:=H29.sl [1,0,2] rfl rfl
 refine aj.nil ?_
 have hr:=Option.some.inj h
 subst hr
 exact ⟨_,rfl,rfl,_,_,_,.refl _,(.refl _),⟨rfl,ws30,w5,rfl⟩,H32.sl [0,1,2] rfl rfl⟩
set_option maxRecDepth 20000 in
set_option maxHeartbeats 4000000 in
theorem jq (n:Nat) (a2:aB) (a6:Int) (a7:Int) (a8:Int) (r:(Bool × aB)) (h:gI n a2 a6 a7 a8=some r) (b1:Nat) (v3:AV) (ws4:List (List AV)) (w5:AV):dz R cfg.P 14 [.ptr b1 0 0,.d (.int .i64 a6),.d (.int .i64 a7),.d (.int .i64 a8)] [.box b1 [v3,w5],aA ae ah.kids 7 5 v3 ws4 a2.l none,aG w5 a2.freed] (fun v l=>v=.d (.bool r.1)∧∃ dws0 dw0,l=[.box b1 [v3,dw0],aA ae ah.kids 7 5 v3 dws0 r.2.l none,aG dw0 r.2.freed]):=by
 unfold gI at h
 refine dz.of_wp (C:=rM) Try.func14 rfl Ni rfl (fun B0 S0 H0=>?_)
 replace H0:Has B0 S0 [.box b1 [v3,w5],aA ae ah.kids 7 5 v3 ws4 a2.l none,aG w5 a2.freed]:=H0
 refine aD.seq ?_
 refine aD.region (eX E) rfl ?_
 refine aj.val rfl (ak rfl) rfl ?_
 refine aj.nil ?_
 refine aD.seq ?_
 refine aD.region (eX E) rfl ?_
 refine aj.val rfl (aa rfl) rfl ?_
 refine aj.val rfl (aa rfl) rfl ?_
 obtain ⟨z9,hzz9,h⟩:=bind_some h
 refine aj.bR (ins:=[.box b1 [v3,w5],aA ae ah.kids 7 5 v3 ws4 a2.l none,aG w5 a2.freed]) (more:=[]) (H0.sl [0,1,2] rfl rfl) rfl (az rfl rfl) (gz E n _ _ _ hzz9 b1 v3 ws4 w5) (.cons (.refl _) (.cons (.refl _) .nil)) rfl ?_
 rintro v10 S11 l12 hr13 H14
 rcases z9 with _ | _
 ·
  obtain ⟨rfl,rfl⟩:=hr13
  replace h:=dI rfl h
  replace H14:Has B0 S11 [.box b1 [v3,w5],aA ae ah.kids 7 5 v3 ws4 a2.l none,aG w5 a2.freed]:=H14
  have H15:Has B0 S11 [.box b1 [v3,w5],aA ae ah.kids 7 5 v3 ws4 a2.l none,aG w5 a2.freed]:=H14.sl [0,1,2] rfl rfl
  refine aj.val rfl (aa rfl) rfl ?_
  refine aj.val rfl (aa rfl) rfl ?_
  obtain ⟨z16,hzz16,h⟩:=bind_some h
  refine aj.bR (ins:=[.box b1 [v3,w5],aA ae ah.kids 7 5 v3 ws4 a2.l none,aG w5 a2.freed]) (more:=[]) (H15.sl [0,1,2] rfl rfl) rfl (az rfl rfl) (gz E n _ _ _ hzz16 b1 v3 ws4 w5) (.cons (.refl _) (.cons (.refl _) .nil)) rfl ?_
  rintro v17 S18 l19 hr20 H21
  rcases z16 with _ | _
  ·
   obtain ⟨rfl,rfl⟩:=hr20
   replace h:=dI rfl h
   replace H21:Has B0 S18 [.box b1 [v3,w5],aA ae ah.kids 7 5 v3 ws4 a2.l none,aG w5 a2.freed]:=H21
   have H22:Has B0 S18 [.box b1 [v3,w5],aA ae ah.kids 7 5 v3 ws4 a2.l none,aG w5 a2.freed]:=H21.sl [0,1,2] rfl rfl
   refine aj.val rfl (ak rfl) rfl ?_
   refine aj.val rfl (ak rfl) rfl ?_
   refine aj.nil ?_
   refine aD.seq ?_
   refine aD.seq ?_
   refine aD.region (eX E) rfl ?_
   refine aj.val rfl (aa rfl) rfl ?_
   refine aj.val rfl (aH rfl rfl (lq qB)) rfl ?_
   refine aj.val rfl (aa rfl) rfl ?_
   refine aj.no rfl rfl ?_
   refine aj.no rfl rfl ?_
   refine aj.val rfl (aC (b:=true) rfl rfl) rfl ?_
   refine aj.val rfl (aa rfl) rfl ?_
   refine aj.no rfl rfl ?_
   refine aj.no rfl rfl ?_
   refine aj.no rfl rfl ?_
   refine aj.no rfl rfl ?_
   refine aj.no rfl rfl ?_
   refine aj.val rfl (aC (b:=true) rfl rfl) rfl ?_
   refine aj.val rfl (aa rfl) rfl ?_
   refine aj.no rfl rfl ?_
   refine aj.no rfl rfl ?_
   refine aj.val rfl (aC (b:=true) rfl rfl) rfl ?_
   refine aj.val rfl (aa rfl) rfl ?_
   refine aj.no rfl rfl ?_
   refine aj.no rfl rfl ?_
   refine aj.no rfl rfl ?_
   refine aj.no rfl rfl ?_
   refine aj.val rfl (aC (b:=true) rfl rfl) rfl ?_
   refine aj.nil ?_
   refine aD.cond rfl (fun hb=>?_) (fun hb=>?_)
   ·
    refine aD.seq ?_
    refine aD.region (eX E) rfl ?_
    refine aj.val rfl (ak rfl) rfl ?_
    refine aj.nil ?_
    have hr:=Option.some.inj h
    subst hr
    exact aD.ret ⟨_,rfl,rfl,_,_,_,.refl _,(.refl _),⟨rfl,ws4,w5,rfl⟩,H22.sl [0,1,2] rfl rfl⟩
   cases hb
  obtain ⟨rfl,rfl⟩:=hr20
  replace h:=dH rfl h
  have H23:Has B0 S18 [.box b1 [v3,w5],aA ae ah.kids 7 5 v3 ws4 a2.l none,aG w5 a2.freed]:=H21.sl [0,1,2] rfl rfl
  refine aj.val rfl (ak rfl) rfl ?_
  refine aj.val rfl (ak rfl) rfl ?_
  refine aj.nil ?_
  refine aD.seq ?_
  refine aD.seq ?_
  refine aD.region (eX E) rfl ?_
  refine aj.val rfl (aa rfl) rfl ?_
  refine aj.val rfl (aH rfl rfl (lq qB)) rfl ?_
  refine aj.val rfl (aa rfl) rfl ?_
  refine aj.no rfl rfl ?_
  refine aj.no rfl rfl ?_
  refine aj.val rfl (aC (b:=true) rfl rfl) rfl ?_
  refine aj.val rfl (aa rfl) rfl ?_
  refine aj.no rfl rfl ?_
  refine aj.no rfl rfl ?_
  refine aj.no rfl rfl ?_
  refine aj.no rfl rfl ?_
  refine aj.no rfl rfl ?_
  refine aj.val rfl (aC (b:=true) rfl rfl) rfl ?_
  refine aj.val rfl (aa rfl) rfl ?_
  refine aj.no rfl rfl ?_
  refine aj.no rfl rfl ?_
  refine aj.val rfl (aC (b:=true) rfl rfl) rfl ?_
  refine aj.val rfl (aa rfl) rfl ?_
  refine aj.no rfl rfl ?_
  refine aj.no rfl rfl ?_
  refine aj.no rfl rfl ?_
  refine aj.no rfl rfl ?_
  refine aj.val rfl (aC (b:=true) rfl rfl) rfl ?_
  refine aj.nil ?_
  refine aD.cond rfl (fun hb=>?_) (fun hb=>?_)
  ·
   refine aD.seq ?_
   refine aD.region (eX E) rfl ?_
   refine aj.val rfl (ak rfl) rfl ?_
   refine aj.nil ?_
   have hr:=Option.some.inj h
   subst hr
   exact aD.ret ⟨_,rfl,rfl,_,_,_,.refl _,(.refl _),⟨rfl,ws4,w5,rfl⟩,H23.sl [0,1,2] rfl rfl⟩
  cases hb
 obtain ⟨rfl,rfl⟩:=hr13
 replace h:=dH rfl h
 have H24:Has B0 S11 [.box b1 [v3,w5],aA ae ah.kids 7 5 v3 ws4 a2.l none,aG w5 a2.freed]:=H14.sl [0,1,2] rfl rfl
 refine aj.val rfl (aa rfl) rfl ?_
 refine aj.val rfl (aa rfl) rfl ?_
 obtain ⟨z25,hzz25,h⟩:=bind_some h
 refine aj.bR (ins:=[.box b1 [v3,w5],aA ae ah.kids 7 5 v3 ws4 a2.l none,aG w5 a2.freed]) (more:=[]) (H24.sl [0,1,2] rfl rfl) rfl (az rfl rfl) (gz E n _ _ _ hzz25 b1 v3 ws4 w5) (.cons (.refl _) (.cons (.refl _) .nil)) rfl ?_
 rintro v26 S27 l28 hr29 H30
 rcases z25 with _ | _
 ·
  obtain ⟨rfl,rfl⟩:=hr29
  replace h:=dI rfl h
  replace H30:Has B0 S27 [.box b1 [v3,w5],aA ae ah.kids 7 5 v3 ws4 a2.l none,aG w5 a2.freed]:=H30
  have H31:Has B0 S27 [.box b1 [v3,w5],aA ae ah.kids 7 5 v3 ws4 a2.l none,aG w5 a2.freed]:=H30.sl [0,1,2] rfl rfl
  refine aj.val rfl (ak rfl) rfl ?_
  refine aj.val rfl (ak rfl) rfl ?_
  refine aj.nil ?_
  refine aD.seq ?_
  refine aD.seq ?_
  refine aD.region (eX E) rfl ?_
  refine aj.val rfl (aa rfl) rfl ?_
  obtain ⟨z32,hzz32,h⟩:=bind_some h
  refine aj.val rfl (kW H31 (q:=1) rfl hzz32 rfl rfl qB) rfl ?_
  refine aj.val rfl (aa rfl) rfl ?_
  refine aj.val rfl (aa rfl) rfl ?_
  refine aj.val rfl (aH rfl rfl (lq qB)) rfl ?_
  refine aj.val rfl (aC (b:=false) rfl rfl) rfl ?_
  refine aj.val rfl (aa rfl) rfl ?_
  refine aj.no rfl rfl ?_
  refine aj.no rfl rfl ?_
  refine aj.no rfl rfl ?_
  refine aj.no rfl rfl ?_
  refine aj.no rfl rfl ?_
  refine aj.val rfl (aC (b:=true) rfl rfl) rfl ?_
  refine aj.val rfl (aa rfl) rfl ?_
  refine aj.no rfl rfl ?_
  refine aj.no rfl rfl ?_
  refine aj.val rfl (aC (b:=true) rfl rfl) rfl ?_
  refine aj.val rfl (aa rfl) rfl ?_
  refine aj.no rfl rfl ?_
  refine aj.no rfl rfl ?_
  refine aj.no rfl rfl ?_
  refine aj.no rfl rfl ?_
  refine aj.val rfl (aC (b:=true) rfl rfl) rfl ?_
  refine aj.nil ?_
  refine aD.cond rfl (fun hb=>?_) (fun hb=>?_)
  ·
   refine aD.seq ?_
   refine aD.region (eX E) rfl ?_
   refine aj.val rfl (ak rfl) rfl ?_
   refine aj.nil ?_
   have hr:=Option.some.inj h
   subst hr
   exact aD.ret ⟨_,rfl,rfl,_,_,_,.refl _,(.refl _),⟨rfl,ws4,w5,rfl⟩,H31.sl [0,1,2] rfl rfl⟩
  cases hb
 obtain ⟨rfl,rfl⟩:=hr29
 replace h:=dH rfl h
 have H33:Has B0 S27 [.box b1 [v3,w5],aA ae ah.kids 7 5 v3 ws4 a2.l none,aG w5 a2.freed]:=H30.sl [0,1,2] rfl rfl
 refine aj.val rfl (ak rfl) rfl ?_
 refine aj.val rfl (ak rfl) rfl ?_
 refine aj.nil ?_
 refine aD.seq ?_
 refine aD.seq ?_
 refine aD.region (eX E) rfl ?_
 refine aj.val rfl (aa rfl) rfl ?_
 obtain ⟨z34,hzz34,h⟩:=bind_some h
 refine aj.val rfl (kW H33 (q:=1) rfl hzz34 rfl rfl qB) rfl ?_
 refine aj.val rfl (aa rfl) rfl ?_
 refine aj.val rfl (aa rfl) rfl ?_
 obtain ⟨z35,hzz35,h⟩:=bind_some h
 refine aj.val rfl (kW H33 (q:=1) rfl hzz35 rfl rfl qB) rfl ?_
 refine aj.val rfl (aC (b:=false) rfl rfl) rfl ?_
 refine aj.val rfl (aa rfl) rfl ?_
 refine aj.val rfl (aa rfl) rfl ?_
 refine aj.val rfl (bL H33 (q:=1) rfl hzz34 rfl) rfl ?_
 refine aj.val rfl (bz H33 (i:=1) rfl hzz34 rfl zn uK rfl) rfl ?_
 refine aj.ko H33 rfl (q:=1) rfl hzz34 rfl sW rfl rfl rfl ?_
 refine aj.val rfl (aH rfl rfl lL) rfl ?_
 refine aj.val rfl (aC (b:=false) rfl rfl) rfl ?_
 refine aj.val rfl (aa rfl) rfl ?_
 refine aj.jS 3 33 (.d (.bool ((z34.tag == []) || (a7 == 1)))) ?_ ?_
 ·
  rcases Bool.eq_false_or_eq_true ((z34.tag == [])) with hB36 | hB36
  ·
   refine aj.bool hB36 ?_
   refine aj.no rfl rfl ?_
   refine aj.no rfl rfl ?_
   refine aj.val rfl (aC (b:=true) rfl rfl) rfl ?_
   exact aj.nil ⟨_,rfl,(au.put (au.push rfl (au.push rfl (au.put (.refl _) (Less.eq (by rw [hB36]))))) (Less.eq (by rw [hB36]; rw [Bool.true_or])))⟩
  refine aj.bool hB36 ?_
  refine aj.val rfl (aa rfl) rfl ?_
  refine aj.val rfl (aH rfl rfl bD) rfl ?_
  refine aj.val rfl (aC (b:=false) rfl rfl) rfl ?_
  exact aj.nil ⟨_,rfl,(au.put (au.push rfl (au.push rfl (au.put (.refl _) (Less.eq (by rw [hB36]))))) (Less.eq (by rw [hB36]; rw [Bool.false_or])))⟩
 refine aj.val rfl (aa rfl) rfl ?_
 rcases Bool.eq_false_or_eq_true (((z34.tag == []) || (a7 == 1))) with hB37 | hB37
 ·
  replace h:=dH hB37 h
  refine aj.bool hB37 ?_
  refine aj.no rfl rfl ?_
  refine aj.no rfl rfl ?_
  refine aj.no rfl rfl ?_
  refine aj.no rfl rfl ?_
  refine aj.val rfl (aC (b:=true) rfl rfl) rfl ?_
  refine aj.nil ?_
  refine aD.cond rfl (fun hb=>?_) (fun hb=>?_)
  ·
   refine aD.seq ?_
   refine aD.region (eX E) rfl ?_
   refine aj.val rfl (ak rfl) rfl ?_
   refine aj.nil ?_
   have hr:=Option.some.inj h
   subst hr
   exact aD.ret ⟨_,rfl,rfl,_,_,_,.refl _,(.refl _),⟨rfl,ws4,w5,rfl⟩,H33.sl [0,1,2] rfl rfl⟩
  cases hb
 replace h:=dI hB37 h
 refine aj.bool hB37 ?_
 refine aj.val rfl (aa rfl) rfl ?_
 refine aj.val rfl (aa rfl) rfl ?_
 refine aj.val rfl (aa rfl) rfl ?_
 obtain ⟨z38,hzz38,h⟩:=bind_some h
 refine aj.bR (ins:=[.box b1 [v3,w5],aA ae ah.kids 7 5 v3 ws4 a2.l none,aG w5 a2.freed]) (more:=[]) (H33.sl [0,1,2] rfl rfl) rfl (az rfl rfl) (wh E n _ _ _ _ hzz38 b1 v3 ws4 w5) (.cons (.refl _) (.cons (.refl _) (.cons (.refl _) .nil))) rfl ?_
 rintro _ S39 _ ⟨rfl,rfl⟩ H40
 have H41:Has B0 S39 [.box b1 [v3,w5],aA ae ah.kids 7 5 v3 ws4 a2.l none,aG w5 a2.freed]:=H40.sl [0,1,2] rfl rfl
 refine aj.val rfl (aC (b:=false) rfl rfl) rfl ?_
 refine aj.nil ?_
 refine aD.cond rfl (fun hb42=>?_) (fun hb42=>?_)
 ·
  replace h:=dH hb42 h
  refine aD.seq ?_
  refine aD.region (eX E) rfl ?_
  refine aj.val rfl (ak rfl) rfl ?_
  refine aj.nil ?_
  have hr:=Option.some.inj h
  subst hr
  exact aD.ret ⟨_,rfl,rfl,_,_,_,.refl _,(.refl _),⟨rfl,ws4,w5,rfl⟩,H41.sl [0,1,2] rfl rfl⟩
 replace h:=dI hb42 h
 refine aD.skip ?_
 refine aD.seq ?_
 refine aD.region (eX E) rfl ?_
 refine aj.val rfl (aa rfl) rfl ?_
 refine aj.val rfl (aa rfl) rfl ?_
 obtain ⟨z43,hzz43,h⟩:=bind_some h
 refine aj.bR (ins:=[.box b1 [v3,w5],aA ae ah.kids 7 5 v3 ws4 a2.l none,aG w5 a2.freed]) (more:=[]) (H41.sl [0,1,2] rfl rfl) rfl (az rfl rfl) (qD E n _ _ _ hzz43 b1 v3 ws4 w5) (.cons (.refl _) (.cons (.refl _) .nil)) rfl ?_
 rintro _ S46 _ ⟨rfl,ws44,w45,rfl⟩ H47
 have H48:Has B0 S46 [.box b1 [v3,w45],aA ae ah.kids 7 5 v3 ws44 z43.l none,aG w45 z43.freed]:=H47.sl [0,1,2] rfl rfl
 refine aj.nil ?_
 refine aD.seq ?_
 obtain ⟨z49,hzz49,h⟩:=bind_some h
 obtain ⟨z56,hzz56,h⟩:=bind_some h
 refine aD.jf (eX E) lQ OM [(1,none),(10,none)] (by kernel_rfl) [14,15,18] (by decide) [some (dh v3 (Int.toNat (IntKind.wrap .i64 (a6 - 1))) 0),some (dh v3 (Int.toNat (IntKind.wrap .i64 (a6 - 1))) 0),some (dh v3 (Int.toNat (IntKind.wrap .i64 (a6 - 1))) 0),some (dh v3 (Int.toNat (IntKind.wrap .i64 (a6 - 1))) 5),some (jW 5 ws44 (Int.toNat (IntKind.wrap .i64 (a6 - 1)))),some (.d (.int .i64 a8)),some (dh v3 (Int.toNat (IntKind.wrap .i64 (a6 - 1))) 0),some (dh v3 (Int.toNat (IntKind.wrap .i64 (a6 - 1))) 0),some (dh v3 (Int.toNat (IntKind.wrap .i64 (a6 - 1))) 5),some (jW 5 ws44 (Int.toNat (IntKind.wrap .i64 (a6 - 1)))),some (.d (.int .i64 ((z49.kids).length:Int))),some (.d (.int .i64 (EZ a8 ((z49.kids).length:Int)))),some (.d (.int .i64 (zJ 0 (EZ a8 ((z49.kids).length:Int))))),some (.d (.int .i64 a7)),none,none,none,none,none] ?_
 refine ⟨[0,1,2,3,4,5,6,7,8,9,10,11,12,13],by kernel_rfl,?_,_,_,rfl,rfl,.step ?_⟩
 ·
  refine .v rfl rfl rfl rfl (aa rfl) ?_
  refine .v rfl rfl rfl rfl (aa rfl) ?_
  refine .v rfl rfl rfl rfl (bL H48 (q:=1) rfl hzz49 rfl) ?_
  refine .v rfl rfl rfl rfl (bz H48 (i:=1) rfl hzz49 rfl oU nR rfl) ?_
  refine .v rfl rfl rfl rfl (iw H48 (i:=1) rfl hzz49 rfl qg) ?_
  refine .v rfl rfl rfl rfl (aa rfl) ?_
  refine .v rfl rfl rfl rfl (aa rfl) ?_
  refine .v rfl rfl rfl rfl (bL H48 (q:=1) rfl hzz49 rfl) ?_
  refine .v rfl rfl rfl rfl (bz H48 (i:=1) rfl hzz49 rfl oU nR rfl) ?_
  refine .v rfl rfl rfl rfl (iw H48 (i:=1) rfl hzz49 rfl qg) ?_
  refine .cons rfl rfl rfl (.step ?_) ?_
  ·
   have H69:Has B0 S46 ([aA ae ah.kids 7 5 v3 ws44 z43.l none] ++ [.box b1 [v3,w45],aG w45 z43.freed]):=H48.sl [1,0,2] rfl rfl
   replace H69:Has B0 S46 [aA ae ah.kids 7 5 v3 ws44 z43.l none,.box b1 [v3,w45],aG w45 z43.freed]:=H69
   have H70:=Has.take H69 (dN hzz49).2
   refine aj.val rfl (kP H70 (i:=0) rfl rfl nZ) rfl ?_
   exact aj.nil ⟨_,_,rfl,fun _ ht=>by cases ht; exact ⟨rfl,.refl _⟩⟩
  refine .v rfl rfl rfl rfl (D6 rfl rfl) ?_
  refine .v rfl rfl rfl rfl (yS rfl rfl) ?_
  refine .v rfl rfl rfl rfl (aa rfl) ?_
  exact .nil
 refine aj.qG (vs:=[(.d (.int .i64 a7))]) (cs:=[[(.d (.int .i64 a7))]]) H48 rfl qm fQ vV wD kV rfl (by decide) (.cons rfl rfl .nil) rfl rfl rfl (fun v69 S70 H71=>?_)
 have H72:Has B0 S70 [ic 1 1 v69 [(.d (.int .i64 a7))],.box b1 [v3,w45],aA ae ah.kids 7 5 v3 ws44 z43.l none,aG w45 z43.freed]:=H71.sl [0,1,2,3] rfl rfl
 refine aj.nil ⟨_,_,_,rfl,(fun _ ht=>by cases ht; rfl),_,(.q (.q (.q (.o (.o (.w v69 (.m .nil))))))),(fun _ ht=>by cases ht; exact ⟨_,rfl,.refl _⟩),?_⟩
 refine ⟨[0,1,2,3,4,5,6,7,8,9,10,11,12],by kernel_rfl,?_,_,_,rfl,rfl,.step ?_⟩
 ·
  refine .v rfl rfl rfl rfl (aa rfl) ?_
  refine .v rfl rfl rfl rfl (aa rfl) ?_
  refine .v rfl rfl rfl rfl (bL H72 (q:=2) rfl hzz49 rfl) ?_
  refine .v rfl rfl rfl rfl (bz H72 (i:=2) rfl hzz49 rfl oU nR rfl) ?_
  refine .v rfl rfl rfl rfl (iw H72 (i:=2) rfl hzz49 rfl qg) ?_
  refine .v rfl rfl rfl rfl (aa rfl) ?_
  refine .v rfl rfl rfl rfl (aa rfl) ?_
  refine .v rfl rfl rfl rfl (bL H72 (q:=2) rfl hzz49 rfl) ?_
  refine .v rfl rfl rfl rfl (bz H72 (i:=2) rfl hzz49 rfl oU nR rfl) ?_
  refine .v rfl rfl rfl rfl (iw H72 (i:=2) rfl hzz49 rfl qg) ?_
  refine .cons rfl rfl rfl (.step ?_) ?_
  ·
   have H73:Has B0 S70 ([aA ae ah.kids 7 5 v3 ws44 z43.l none] ++ [ic 1 1 v69 [(.d (.int .i64 a7))],.box b1 [v3,w45],aG w45 z43.freed]):=H72.sl [2,0,1,3] rfl rfl
   replace H73:Has B0 S70 [aA ae ah.kids 7 5 v3 ws44 z43.l none,ic 1 1 v69 [(.d (.int .i64 a7))],.box b1 [v3,w45],aG w45 z43.freed]:=H73
   have H74:=Has.take H73 (dN hzz49).2
   refine aj.val rfl (kP H74 (i:=0) rfl rfl nZ) rfl ?_
   exact aj.nil ⟨_,_,rfl,fun _ ht=>by cases ht; exact ⟨rfl,.refl _⟩⟩
  refine .v rfl rfl rfl rfl (D6 rfl rfl) ?_
  refine .v rfl rfl rfl rfl (yS rfl rfl) ?_
  exact .nil
 have H73:Has B0 S70 ([aA ae ah.kids 7 5 v3 ws44 z43.l none] ++ [ic 1 1 v69 [(.d (.int .i64 a7))],.box b1 [v3,w45],aG w45 z43.freed]):=H72.sl [2,0,1,3] rfl rfl
 replace H73:Has B0 S70 [aA ae ah.kids 7 5 v3 ws44 z43.l none,ic 1 1 v69 [(.d (.int .i64 a7))],.box b1 [v3,w45],aG w45 z43.freed]:=H73
 have H74:=Has.take H73 (dN hzz49).2
 have H75:Has B0 S70 [aG (jW 5 ws44 (Int.toNat (IntKind.wrap .i64 (a6 - 1)))) z49.kids,ic 1 1 v69 [(.d (.int .i64 a7))],.box b1 [v3,w45],aA ae ah.kids 7 5 v3 ws44 z43.l (some (Int.toNat (IntKind.wrap .i64 (a6 - 1)))),aG w45 z43.freed]:=H74.sl [0,2,3,1,4] rfl rfl
 refine aj.bR (ins:=[ic 1 1 v69 [(.d (.int .i64 a7))],aG (jW 5 ws44 (Int.toNat (IntKind.wrap .i64 (a6 - 1)))) z49.kids]) (more:=[.box b1 [v3,w45],aA ae ah.kids 7 5 v3 ws44 z43.l (some (Int.toNat (IntKind.wrap .i64 (a6 - 1)))),aG w45 z43.freed]) (H75.sl [1,0,2,3,4] rfl rfl) rfl (az rfl rfl) (dz.ins E.insp hzz56) (.cons (.refl _) (.cons (.refl _) (.cons (.refl _) .nil))) rfl ?_
 rintro v76 S77 _ rfl H78
 have H79:Has B0 S77 [aG v76 z56,.box b1 [v3,w45],aA ae ah.kids 7 5 v3 ws44 z43.l (some (Int.toNat (IntKind.wrap .i64 (a6 - 1)))),aG w45 z43.freed]:=H78.sl [0,1,2,3] rfl rfl
 refine aj.nil ⟨_,_,_,rfl,(fun _ ht=>by cases ht; rfl),_,(.q (.q (.q (.o (.o (.o (.w v76 (.w (dh v3 (Int.toNat (IntKind.wrap .i64 (a6 - 1))) 0) (.w (dh v3 (Int.toNat (IntKind.wrap .i64 (a6 - 1))) 5) (.n .nil)))))))))),(fun _ ht=>by cases ht; exact ⟨_,rfl,.refl _⟩),?_⟩
 refine ⟨[0,16,17],by kernel_rfl,?_,_,_,rfl,rfl,.step ?_⟩
 ·
  refine .v rfl rfl rfl rfl (aa rfl) ?_
  refine .v rfl rfl rfl rfl (bL H79 (q:=2) rfl hzz49 rfl) ?_
  refine .v rfl rfl rfl rfl (bz H79 (i:=2) rfl hzz49 rfl oU nR rfl) ?_
  exact .nil
 have H83:Has B0 S77 ([aG v76 z56,aA ae ah.kids 7 5 v3 ws44 z43.l (some (Int.toNat (IntKind.wrap .i64 (a6 - 1))))] ++ [.box b1 [v3,w45],aG w45 z43.freed]):=H79.sl [0,2,1,3] rfl rfl
 replace H83:Has B0 S77 [aG v76 z56,aA ae ah.kids 7 5 v3 ws44 z43.l (some (Int.toNat (IntKind.wrap .i64 (a6 - 1)))),.box b1 [v3,w45],aG w45 z43.freed]:=H83
 refine aj.yQ (z':=(ah.mk z49.lives z49.tag z49.key z49.text z49.attrs z56 z49.parent)) (c:=.sl ((z56).map (D.int .i64)) false) H83 rfl hzz49 (.inr rfl) rfl rfl JA JR rfl rfl rfl (fun ws82 S80 H81=>?_)
 have H84:Has B0 S80 [.box b1 [v3,w45],aA ae ah.kids 7 5 v3 ws82 (jl z43.l (IntKind.wrap .i64 (a6 - 1)) (ah.mk z49.lives z49.tag z49.key z49.text z49.attrs z56 z49.parent)) none,aG w45 z43.freed]:=H81.sl [1,0,2] rfl rfl
 refine aj.nil ⟨_,.any,_,rfl,(fun _ ht=>by cases ht),_,(.q (.q (.q (.q (.o (.o (.w .any .nil))))))),(fun _ ht=>by cases ht),?_⟩
 refine ⟨[],by kernel_rfl,?_,_,rfl,?_⟩
 ·
  exact .nil
 refine aD.seq ?_
 refine aD.region (eX E) rfl ?_
 refine aj.val rfl (aa rfl) rfl ?_
 refine aj.val rfl (aa rfl) rfl ?_
 obtain ⟨z85,hzz85,h⟩:=bind_some h
 refine aj.val rfl (bL H84 (q:=1) rfl hzz85 rfl) rfl ?_
 refine aj.val rfl (bz H84 (i:=1) rfl hzz85 rfl rC Ko rfl) rfl ?_
 have H89:Has B0 S80 ([aA ae ah.kids 7 5 v3 ws82 (jl z43.l (IntKind.wrap .i64 (a6 - 1)) (ah.mk z49.lives z49.tag z49.key z49.text z49.attrs z56 z49.parent)) none] ++ [.box b1 [v3,w45],aG w45 z43.freed]):=H84.sl [1,0,2] rfl rfl
 replace H89:Has B0 S80 [aA ae ah.kids 7 5 v3 ws82 (jl z43.l (IntKind.wrap .i64 (a6 - 1)) (ah.mk z49.lives z49.tag z49.key z49.text z49.attrs z56 z49.parent)) none,.box b1 [v3,w45],aG w45 z43.freed]:=H89
 refine aj.qW (z':=(ah.mk z85.lives z85.tag z85.key z85.text z85.attrs z85.kids a6)) H89 rfl hzz85 rfl rfl rfl rfl (.refl _) kV vV rfl rfl rfl rfl rfl (fun ws88 S86 H87=>?_)
 have H90:Has B0 S86 [.box b1 [v3,w45],aA ae ah.kids 7 5 v3 ws88 (jl (jl z43.l (IntKind.wrap .i64 (a6 - 1)) (ah.mk z49.lives z49.tag z49.key z49.text z49.attrs z56 z49.parent)) (IntKind.wrap .i64 (a7 - 1)) (ah.mk z85.lives z85.tag z85.key z85.text z85.attrs z85.kids a6)) none,aG w45 z43.freed]:=H87.sl [1,0,2] rfl rfl
 refine aj.nil ?_
 refine aD.seq ?_
 refine aD.region (eX E) rfl ?_
 refine aj.val rfl (ak rfl) rfl ?_
 refine aj.nil ?_
 have hr:=Option.some.inj h
 subst hr
 exact aD.ret ⟨_,rfl,rfl,_,_,_,.refl _,(.refl _),⟨rfl,ws88,w45,rfl⟩,H90.sl [0,1,2] rfl rfl⟩
set_option maxRecDepth 20000 in
set_option maxHeartbeats 4000000 in
theorem qJ (n:Nat) (a2:aB) (a6:Int) (a7:(List Attr)) (r:(Bool × aB)) (h:j5 n a2 a6 a7=some r) (b1:Nat) (v3:AV) (ws4:List (List AV)) (w5:AV):dz R cfg.P 29 [.ptr b1 0 0,.d (.int .i64 a6),.d (.sl ((a7).map ay) false)] [.box b1 [v3,w5],aA ae ah.kids 7 5 v3 ws4 a2.l none,aG w5 a2.freed] (fun v l=>v=.d (.bool r.1)∧∃ dws0 dw0,l=[.box b1 [v3,dw0],aA ae ah.kids 7 5 v3 dws0 r.2.l none,aG dw0 r.2.freed]):=by
 unfold j5 at h
 refine dz.of_wp (C:=cfg) Try.func29 rfl Og rfl (fun B0 S0 H0=>?_)
 replace H0:Has B0 S0 [.box b1 [v3,w5],aA ae ah.kids 7 5 v3 ws4 a2.l none,aG w5 a2.freed]:=H0
 refine aD.seq ?_
 refine aD.region E.obj rfl ?_
 refine aj.val rfl (ak rfl) rfl ?_
 refine aj.nil ?_
 refine aD.seq ?_
 refine aD.region E.obj rfl ?_
 refine aj.val rfl (aa rfl) rfl ?_
 refine aj.val rfl (aa rfl) rfl ?_
 obtain ⟨z8,hzz8,h⟩:=bind_some h
 refine aj.bR (ins:=[.box b1 [v3,w5],aA ae ah.kids 7 5 v3 ws4 a2.l none,aG w5 a2.freed]) (more:=[]) (H0.sl [0,1,2] rfl rfl) rfl (az rfl rfl) (gz E n _ _ _ hzz8 b1 v3 ws4 w5) (.cons (.refl _) (.cons (.refl _) .nil)) rfl ?_
 rintro v9 S10 l11 hr12 H13
 rcases z8 with _ | _
 ·
  obtain ⟨rfl,rfl⟩:=hr12
  replace h:=dI rfl h
  replace H13:Has B0 S10 [.box b1 [v3,w5],aA ae ah.kids 7 5 v3 ws4 a2.l none,aG w5 a2.freed]:=H13
  have H14:Has B0 S10 [.box b1 [v3,w5],aA ae ah.kids 7 5 v3 ws4 a2.l none,aG w5 a2.freed]:=H13.sl [0,1,2] rfl rfl
  refine aj.val rfl (ak rfl) rfl ?_
  refine aj.nil ?_
  refine aD.seq ?_
  refine aD.seq ?_
  refine aD.region E.obj rfl ?_
  refine aj.val rfl (aa rfl) rfl ?_
  refine aj.val rfl (aH rfl rfl (lq qB)) rfl ?_
  refine aj.val rfl (aa rfl) rfl ?_
  refine aj.no rfl rfl ?_
  refine aj.no rfl rfl ?_
  refine aj.no rfl rfl ?_
  refine aj.no rfl rfl ?_
  refine aj.no rfl rfl ?_
  refine aj.val rfl (aC (b:=true) rfl rfl) rfl ?_
  refine aj.nil ?_
  refine aD.cond rfl (fun hb=>?_) (fun hb=>?_)
  ·
   refine aD.seq ?_
   refine aD.region E.obj rfl ?_
   refine aj.val rfl (ak rfl) rfl ?_
   refine aj.nil ?_
   have hr:=Option.some.inj h
   subst hr
   exact aD.ret ⟨_,rfl,rfl,_,_,_,.refl _,(.refl _),⟨rfl,ws4,w5,rfl⟩,H14.sl [0,1,2] rfl rfl⟩
  cases hb
 obtain ⟨rfl,rfl⟩:=hr12
 replace h:=dH rfl h
 have H15:Has B0 S10 [.box b1 [v3,w5],aA ae ah.kids 7 5 v3 ws4 a2.l none,aG w5 a2.freed]:=H13.sl [0,1,2] rfl rfl
 refine aj.val rfl (ak rfl) rfl ?_
 refine aj.nil ?_
 refine aD.seq ?_
 refine aD.seq ?_
 refine aD.region E.obj rfl ?_
 refine aj.val rfl (aa rfl) rfl ?_
 obtain ⟨z16,hzz16,h⟩:=bind_some h
 refine aj.val rfl (kW H15 (q:=1) rfl hzz16 rfl rfl qB) rfl ?_
 refine aj.val rfl (aa rfl) rfl ?_
 refine aj.val rfl (aa rfl) rfl ?_
 refine aj.val rfl (bL H15 (q:=1) rfl hzz16 rfl) rfl ?_
 refine aj.val rfl (bz H15 (i:=1) rfl hzz16 rfl zn uK rfl) rfl ?_
 refine aj.ko H15 rfl (q:=1) rfl hzz16 rfl sW rfl rfl rfl ?_
 refine aj.val rfl (aH rfl rfl lL) rfl ?_
 refine aj.val rfl (aC (b:=false) rfl rfl) rfl ?_
 refine aj.nil ?_
 refine aD.cond rfl (fun hb17=>?_) (fun hb17=>?_)
 ·
  replace h:=dH hb17 h
  refine aD.seq ?_
  refine aD.region E.obj rfl ?_
  refine aj.val rfl (ak rfl) rfl ?_
  refine aj.nil ?_
  have hr:=Option.some.inj h
  subst hr
  exact aD.ret ⟨_,rfl,rfl,_,_,_,.refl _,(.refl _),⟨rfl,ws4,w5,rfl⟩,H15.sl [0,1,2] rfl rfl⟩
 replace h:=dI hb17 h
 refine aD.skip ?_
 refine aD.seq ?_
 refine aD.region E.obj rfl ?_
 refine aj.val rfl (aa rfl) rfl ?_
 refine aj.val rfl (aa rfl) rfl ?_
 obtain ⟨z18,hzz18,h⟩:=bind_some h
 refine aj.ret rfl (az rfl rfl) (dV E _ _ _ hzz18 _ _ (aN.eq .nil)) rfl ?_
 refine aj.val rfl (bL H15 (q:=1) rfl hzz16 rfl) rfl ?_
 refine aj.val rfl (bz H15 (i:=1) rfl hzz16 rfl EK Ab rfl) rfl ?_
 have H22:Has B0 S10 ([aA ae ah.kids 7 5 v3 ws4 a2.l none] ++ [.box b1 [v3,w5],aG w5 a2.freed]):=H15.sl [1,0,2] rfl rfl
 replace H22:Has B0 S10 [aA ae ah.kids 7 5 v3 ws4 a2.l none,.box b1 [v3,w5],aG w5 a2.freed]:=H22
 refine aj.qW (z':=(ah.mk z16.lives z16.tag z16.key z16.text z18 z16.kids z16.parent)) H22 rfl hzz16 rfl rfl rfl rfl (.refl _) Lf LG rfl rfl rfl rfl rfl (fun ws21 S19 H20=>?_)
 have H23:Has B0 S19 [.box b1 [v3,w5],aA ae ah.kids 7 5 v3 ws21 (jl a2.l (IntKind.wrap .i64 (a6 - 1)) (ah.mk z16.lives z16.tag z16.key z16.text z18 z16.kids z16.parent)) none,aG w5 a2.freed]:=H20.sl [1,0,2] rfl rfl
 refine aj.nil ?_
 refine aD.seq ?_
 refine aD.region E.obj rfl ?_
 refine aj.val rfl (ak rfl) rfl ?_
 refine aj.nil ?_
 have hr:=Option.some.inj h
 subst hr
 exact aD.ret ⟨_,rfl,rfl,_,_,_,.refl _,(.refl _),⟨rfl,ws21,w5,rfl⟩,H23.sl [0,1,2] rfl rfl⟩
set_option maxRecDepth 20000 in
set_option maxHeartbeats 4000000 in
theorem jU:∀ (n:Nat) (a2:aB) (a6:Tree) (r:(Int × aB)),eO n a2 a6=some r→∀ (b1:Nat) (v3:AV) (ws4:List (List AV)) (w5:AV),dz R cfg.P 39 [.ptr b1 0 0,.d (ai a6)] [.box b1 [v3,w5],aA ae ah.kids 7 5 v3 ws4 a2.l none,aG w5 a2.freed] (fun v l=>v=.d (.int .i64 r.1)∧∃ dv0 dws0 dw0,l=[.box b1 [dv0,dw0],aA ae ah.kids 7 5 dv0 dws0 r.2.l none,aG dw0 r.2.freed])
 | 0,a2,a6,r,h,b1,v3,ws4,w5=>by simp [eO] at h
 | n + 1,a2,a6,r,h,b1,v3,ws4,w5=>by
  have ih:=jU n
  unfold eO at h
  refine dz.of_wp (C:=cfg) Try.func39 rfl Nw rfl (fun B0 S0 H0=>?_)
  replace H0:Has B0 S0 [.box b1 [v3,w5],aA ae ah.kids 7 5 v3 ws4 a2.l none,aG w5 a2.freed]:=H0
  refine aD.seq ?_
  refine aD.region E.obj rfl ?_
  refine aj.box H0 rfl rfl rfl (Tree.dx _) rfl (fun b7 S8 H9=>?_)
  refine aj.val rfl (ak rfl) rfl ?_
  refine aj.nil ?_
  refine aD.seq ?_
  refine aD.seq ?_
  refine aD.region E.obj rfl ?_
  refine aj.val rfl (aF rfl oQ uK rfl) rfl ?_
  refine aj.val rfl (aJ H9 (i:=0) rfl rfl (aS sW rfl)) rfl ?_
  refine aj.val rfl (aH rfl rfl lL) rfl ?_
  refine aj.nil ?_
  refine aD.cond rfl (fun hb10=>?_) (fun hb10=>?_)
  ·
   replace h:=dH hb10 h
   refine aD.seq ?_
   refine aD.region E.obj rfl ?_
   refine aj.val rfl (aa rfl) rfl ?_
   refine aj.val rfl (aF rfl BP uK rfl) rfl ?_
   refine aj.val rfl (aJ H9 (i:=0) rfl rfl (aS sW rfl)) rfl ?_
   obtain ⟨z11,hzz11,h⟩:=bind_some h
   refine aj.bR (ins:=[.box b1 [v3,w5],aA ae ah.kids 7 5 v3 ws4 a2.l none,aG w5 a2.freed]) (more:=[.box b7 [(.d (.str a6.Tag)),(.d (.str a6.Key)),(.d (.str a6.Text)),(.d (.sl ((a6.aI).map ay) false)),(.d (.sl ((a6.Kids).map ai) false))]]) (H9.sl [1,2,3,0] rfl rfl) rfl (az rfl rfl) (rH E n _ _ _ hzz11 b1 v3 ws4 w5) (.cons (.refl _) (.cons (.refl _) .nil)) rfl ?_
   rintro _ S15 _ ⟨rfl,v12,ws13,w14,rfl⟩ H16
   have H17:Has B0 S15 [.box b7 [(.d (.str a6.Tag)),(.d (.str a6.Key)),(.d (.str a6.Text)),(.d (.sl ((a6.aI).map ay) false)),(.d (.sl ((a6.Kids).map ai) false))],.box b1 [v12,w14],aA ae ah.kids 7 5 v12 ws13 z11.2.l none,aG w14 z11.2.freed]:=H16.sl [3,0,1,2] rfl rfl
   refine aj.val rfl (ak rfl) rfl ?_
   refine aj.nil ?_
   have hr:=Option.some.inj h
   subst hr
   exact aD.ret ⟨_,rfl,rfl,_,_,_,.refl _,(.refl _),⟨rfl,v12,ws13,w14,rfl⟩,H17.sl [1,2,3] rfl rfl⟩
  replace h:=dI hb10 h
  refine aD.skip ?_
  refine aD.seq ?_
  refine aD.region E.obj rfl ?_
  refine aj.val rfl (aa rfl) rfl ?_
  refine aj.val rfl (aF rfl oQ uK rfl) rfl ?_
  refine aj.val rfl (aJ H9 (i:=0) rfl rfl (aS sW rfl)) rfl ?_
  refine aj.val rfl (aF rfl uZ uK rfl) rfl ?_
  refine aj.val rfl (aJ H9 (i:=0) rfl rfl (aS sW rfl)) rfl ?_
  obtain ⟨z18,hzz18,h⟩:=bind_some h
  refine aj.bR (ins:=[.box b1 [v3,w5],aA ae ah.kids 7 5 v3 ws4 a2.l none,aG w5 a2.freed]) (more:=[.box b7 [(.d (.str a6.Tag)),(.d (.str a6.Key)),(.d (.str a6.Text)),(.d (.sl ((a6.aI).map ay) false)),(.d (.sl ((a6.Kids).map ai) false))]]) (H9.sl [1,2,3,0] rfl rfl) rfl (az rfl rfl) (pI E n _ _ _ _ hzz18 b1 v3 ws4 w5) (.cons (.refl _) (.cons (.refl _) (.cons (.refl _) .nil))) rfl ?_
  rintro _ S22 _ ⟨rfl,v19,ws20,w21,rfl⟩ H23
  have H24:Has B0 S22 [.box b7 [(.d (.str a6.Tag)),(.d (.str a6.Key)),(.d (.str a6.Text)),(.d (.sl ((a6.aI).map ay) false)),(.d (.sl ((a6.Kids).map ai) false))],.box b1 [v19,w21],aA ae ah.kids 7 5 v19 ws20 z18.2.l none,aG w21 z18.2.freed]:=H23.sl [3,0,1,2] rfl rfl
  refine aj.val rfl (ak rfl) rfl ?_
  refine aj.nil ?_
  refine aD.seq ?_
  refine aD.region E.obj rfl ?_
  refine aj.val rfl (aa rfl) rfl ?_
  refine aj.val rfl (aa rfl) rfl ?_
  refine aj.val rfl (aF rfl vk Ab rfl) rfl ?_
  refine aj.val rfl (aJ H24 (i:=0) rfl rfl (aS ER rfl)) rfl ?_
  obtain ⟨z25,hzz25,h⟩:=bind_some h
  refine aj.bR (ins:=[.box b1 [v19,w21],aA ae ah.kids 7 5 v19 ws20 z18.2.l none,aG w21 z18.2.freed]) (more:=[.box b7 [(.d (.str a6.Tag)),(.d (.str a6.Key)),(.d (.str a6.Text)),(.d (.sl ((a6.aI).map ay) false)),(.d (.sl ((a6.Kids).map ai) false))]]) (H24.sl [1,2,3,0] rfl rfl) rfl (az rfl rfl) (qJ E n _ _ _ _ hzz25 b1 v19 ws20 w21) (.cons (.refl _) (.cons (.refl _) (.cons (.refl _) .nil))) rfl ?_
  rintro _ S28 _ ⟨rfl,ws26,w27,rfl⟩ H29
  have H30:Has B0 S28 [.box b7 [(.d (.str a6.Tag)),(.d (.str a6.Key)),(.d (.str a6.Text)),(.d (.sl ((a6.aI).map ay) false)),(.d (.sl ((a6.Kids).map ai) false))],.box b1 [v19,w27],aA ae ah.kids 7 5 v19 ws26 z25.2.l none,aG w27 z25.2.freed]:=H29.sl [3,0,1,2] rfl rfl
  refine aj.nil ?_
  refine aD.seq ?_
  refine aD.seq ?_
  refine aD.region E.obj rfl ?_
  refine aj.val rfl (aF rfl ja oL rfl) rfl ?_
  refine aj.val rfl (aJ H30 (i:=0) rfl rfl (aS rU rfl)) rfl ?_
  refine aj.val rfl (cz rfl wE) rfl ?_
  refine aj.val rfl (aa rfl) rfl ?_
  refine aj.nil ?_
  refine aD.block ?_
  refine qo.start (B:=B0) (α:=aB × AV × (List (List AV)) × AV × Int) (fun k a=>fK n (eO n) a6 z18 k a.1 a.2.2.2.2=some r) (fun a=>[(0,(.ptr b1 0 0)),(5,(.d (.int .i64 z18.1))),(27,(.d (.sl ((a6.Kids).map ai) false))),(28,(.d (.int .i64 ((a6.Kids).length:Int)))),(29,(.d (.int .i64 a.2.2.2.2)))]) (fun a=>[.box b1 [a.2.1,a.2.2.2.1],aA ae ah.kids 7 5 a.2.1 a.2.2.1 a.1.l none,aG a.2.2.2.1 a.1.freed]) ?_ ?_ n ⟨⟨z25.2,v19,ws26,w27,0⟩,_,_,S28,.refl _ _,.refl _,(au.r rfl (au.r rfl (au.r rfl (au.r rfl (au.r rfl au.nil))))),H30.sl [1,2,3] rfl rfl,h⟩
  ·
   intro a h; simp [fK] at h
  intro k47 a S40 H41 h
  obtain ⟨x42,v45,ws43,w44,x46⟩:=a
  replace h:fK n (eO n) a6 z18 (k47 + 1) x42 x46=some r:=h
  replace H41:Has B0 S40 [.box b1 [v45,w44],aA ae ah.kids 7 5 v45 ws43 x42.l none,aG w44 x42.freed]:=H41
  unfold fK at h
  refine aD.seq ?_
  refine aD.region E.obj rfl ?_
  refine aj.val rfl (aH rfl rfl dR) rfl ?_
  refine aj.nil ?_
  refine aD.seq ?_
  refine aD.cond rfl (fun hb48=>?_) (fun hb48=>?_)
  ·
   replace h:=dH hb48 h
   refine aD.skip ?_
   refine aD.seq ?_
   refine aD.block ?_
   refine aD.seq ?_
   refine aD.region E.obj rfl ?_
   refine aj.val rfl (aa rfl) rfl ?_
   obtain ⟨z49,hzz49,h⟩:=bind_some h
   refine aj.val rfl (bX rfl rfl (dU (enc:=ai) hzz49 kJ jc ((Tree.len _).trans bE.symm))) rfl ?_
   refine aj.val rfl (bG rfl (Tree.pR dX bE)) rfl ?_
   refine aj.alloc H41 rfl rV fO rfl rfl (fun b50 S51 H52=>?_)
   refine aj.val rfl (ak rfl) rfl ?_
   refine aj.store H52 (i:=0) rfl rfl rfl rfl (Tree.dx _) rfl bE rfl jc rfl rfl rfl (fun S53 H54=>?_)
   refine aj.nil ?_
   refine aD.region E.obj rfl ?_
   refine aj.val rfl (aa rfl) rfl ?_
   refine aj.val rfl (aa rfl) rfl ?_
   refine aj.val rfl (aa rfl) rfl ?_
   refine aj.val rfl (aJ H54 (i:=0) rfl rfl (aW dX bE rfl)) rfl ?_
   refine aj.less (Less.agg' (d:=ai z49) (ax.eq rfl (ax.eq rfl (ax.eq rfl (ax.eq rfl (ax.eq rfl .nil))))) ((Tree.eq _).trans rfl)) ?_
   obtain ⟨z55,hzz55,h⟩:=bind_some h
   refine aj.bR (ins:=[.box b1 [v45,w44],aA ae ah.kids 7 5 v45 ws43 x42.l none,aG w44 x42.freed]) (more:=[.box b50 [(.d (.str z49.Tag)),(.d (.str z49.Key)),(.d (.str z49.Text)),(.d (.sl ((z49.aI).map ay) false)),(.d (.sl ((z49.Kids).map ai) false))]]) (H54.sl [1,2,3,0] rfl rfl) rfl (az rfl rfl) (ih _ _ _ hzz55 b1 v45 ws43 w44) (.cons (.refl _) (.cons (.refl _) .nil)) rfl ?_
   rintro _ S59 _ ⟨rfl,v56,ws57,w58,rfl⟩ H60
   have H61:Has B0 S59 [.box b50 [(.d (.str z49.Tag)),(.d (.str z49.Key)),(.d (.str z49.Text)),(.d (.sl ((z49.aI).map ay) false)),(.d (.sl ((z49.Kids).map ai) false))],.box b1 [v56,w58],aA ae ah.kids 7 5 v56 ws57 z55.2.l none,aG w58 z55.2.freed]:=H60.sl [3,0,1,2] rfl rfl
   refine aj.val rfl (aa rfl) rfl ?_
   obtain ⟨z62,hzz62,h⟩:=bind_some h
   refine aj.bR (ins:=[.box b1 [v56,w58],aA ae ah.kids 7 5 v56 ws57 z55.2.l none,aG w58 z55.2.freed]) (more:=[.box b50 [(.d (.str z49.Tag)),(.d (.str z49.Key)),(.d (.str z49.Text)),(.d (.sl ((z49.aI).map ay) false)),(.d (.sl ((z49.Kids).map ai) false))]]) (H61.sl [1,2,3,0] rfl rfl) rfl (az rfl rfl) (jq E n _ _ _ _ _ hzz62 b1 v56 ws57 w58) (.cons (.refl _) (.cons (.refl _) (.cons (.refl _) (.cons (.refl _) .nil)))) rfl ?_
   rintro _ S65 _ ⟨rfl,ws63,mE,rfl⟩ H66
   have H67:Has B0 S65 [.box b50 [(.d (.str z49.Tag)),(.d (.str z49.Key)),(.d (.str z49.Text)),(.d (.sl ((z49.aI).map ay) false)),(.d (.sl ((z49.Kids).map ai) false))],.box b1 [v56,mE],aA ae ah.kids 7 5 v56 ws63 z62.2.l none,aG mE z62.2.freed]:=H66.sl [3,0,1,2] rfl rfl
   refine aj.nil ?_
   refine aD.region E.obj rfl ?_
   refine aj.val rfl (aH rfl rfl dF) rfl ?_
   refine aj.val rfl (aa rfl) rfl ?_
   refine aj.nil ?_
   exact ⟨⟨z62.2,v56,ws63,mE,(IntKind.wrap .i64 (x46 + 1))⟩,_,_,S65,.refl _ _,.refl _,(au.r rfl (au.r rfl (au.r rfl (au.r rfl (au.r rfl au.nil))))),H67.sl [1,2,3] rfl rfl,h⟩
  replace h:=dI hb48 h
  refine aD.exit ?_
  refine aD.seq ?_
  refine aD.region E.obj rfl ?_
  refine aj.val rfl (aa rfl) rfl ?_
  refine aj.val rfl (ak rfl) rfl ?_
  refine aj.nil ?_
  have hr:=Option.some.inj h
  subst hr
  exact aD.ret ⟨_,rfl,rfl,_,_,_,.refl _,(.refl _),⟨rfl,v45,ws43,w44,rfl⟩,H41.sl [0,1,2] rfl rfl⟩
set_option maxRecDepth 20000 in
set_option maxHeartbeats 4000000 in
theorem nO (n:Nat) (a1:(List Attr)) (a2:(List Attr)) (r:Bool) (h:fD n a1 a2=some r):fE R cfg.P 75 [(.sl ((a1).map ay) false),(.sl ((a2).map ay) false)] (.d (.bool r)):=by
 unfold fD at h
 refine fE.of_wp E.obj.toObjOk (C:=cfg) Try.func75 rfl Nu rfl ?_
 have H0:Has aL aL []:=Has.pure
 refine aD.seq ?_
 refine aD.region E.obj rfl ?_
 refine aj.val rfl (ak rfl) rfl ?_
 refine aj.nil ?_
 refine aD.seq ?_
 refine aD.seq ?_
 refine aD.region E.obj rfl ?_
 refine aj.val rfl (aa rfl) rfl ?_
 refine aj.val rfl (cz rfl KQ) rfl ?_
 refine aj.val rfl (aa rfl) rfl ?_
 refine aj.val rfl (cz rfl KQ) rfl ?_
 refine aj.val rfl (aH rfl rfl mZ) rfl ?_
 refine aj.nil ?_
 refine aD.cond rfl (fun hb3=>?_) (fun hb3=>?_)
 ·
  replace h:=dH hb3 h
  refine aD.seq ?_
  refine aD.region E.obj rfl ?_
  refine aj.val rfl (ak rfl) rfl ?_
  refine aj.nil ?_
  have hr:=Option.some.inj h
  subst hr
  exact aD.ret ⟨_,rfl,rfl,kR (aN.eq .nil)⟩
 replace h:=dI hb3 h
 refine aD.skip ?_
 refine aD.seq ?_
 refine aD.seq ?_
 refine aD.region E.obj rfl ?_
 refine aj.val rfl (ak rfl) rfl ?_
 refine aj.nil ?_
 refine aD.block ?_
 refine qo.start (B:=aL) (α:=Int) (fun k a=>bI a1 a2 k a=some r) (fun a=>[(0,(.d (.sl ((a1).map ay) false))),(1,(.d (.sl ((a2).map ay) false))),(5,(.d (.int .i64 a)))]) (fun a=>[]) ?_ ?_ n ⟨0,_,_,aL,.refl _ _,.refl _,(au.r rfl (au.r rfl (au.r rfl au.nil))),H0.sl [] rfl rfl,h⟩
 ·
  intro a h; simp [bI] at h
 intro k12 x11 S9 H10 h
 replace h:bI a1 a2 (k12 + 1) x11=some r:=h
 replace H10:Has aL S9 []:=H10
 unfold bI at h
 refine aD.seq ?_
 refine aD.seq ?_
 refine aD.region E.obj rfl ?_
 refine aj.val rfl (aa rfl) rfl ?_
 refine aj.val rfl (aa rfl) rfl ?_
 refine aj.val rfl (cz rfl KQ) rfl ?_
 refine aj.val rfl (aH rfl rfl dR) rfl ?_
 refine aj.nil ?_
 refine aD.cond rfl (fun hb13=>?_) (fun hb13=>?_)
 ·
  replace h:=dH hb13 h
  refine aD.skip ?_
  refine aD.seq ?_
  refine aD.block ?_
  refine aD.seq ?_
  obtain ⟨z14,hzz14,h⟩:=bind_some h
  obtain ⟨z15,hzz15,h⟩:=bind_some h
  refine aD.jf E.obj lQ Ot [(0,none),(1,none),(5,none),(25,some 8)] (by kernel_rfl) [] (by decide) [some (.d (.sl ((a1).map ay) false)),some (.d (.int .i64 x11)),some (.eptr (ay z14) 0),some (.d (ay z14)),some (.d (.sl ((a2).map ay) false)),some (.d (.int .i64 x11)),some (.eptr (ay z15) 0),some (.d (ay z15)),some (.d (.bool (!(Attr.beq z14 z15))))] ?_
  refine ⟨[0,1,2,3,4,5,6,7,8],by kernel_rfl,?_,_,rfl,?_⟩
  ·
   refine .v rfl rfl rfl rfl (aa rfl) ?_
   refine .v rfl rfl rfl rfl (aa rfl) ?_
   refine .v rfl rfl rfl rfl (bX rfl rfl (dU (enc:=ay) hzz14 Ik Mt ((Attr.len _).trans EF.symm))) ?_
   refine .v rfl rfl rfl rfl (bG rfl (Attr.pR Jw EF)) ?_
   refine .v rfl rfl rfl rfl (aa rfl) ?_
   refine .v rfl rfl rfl rfl (aa rfl) ?_
   refine .v rfl rfl rfl rfl (bX rfl rfl (dU (enc:=ay) hzz15 Ik Mt ((Attr.len _).trans EF.symm))) ?_
   refine .v rfl rfl rfl rfl (bG rfl (Attr.pR Jw EF)) ?_
   refine .v rfl rfl rfl rfl (aH rfl rfl (Ex (Attr.eq _) (Attr.eq _) (Mg _ _))) ?_
   exact .nil
  refine aD.cond rfl (fun hb16=>?_) (fun hb16=>?_)
  ·
   replace h:=dH hb16 h
   refine aD.seq ?_
   refine aD.region E.obj rfl ?_
   refine aj.val rfl (ak rfl) rfl ?_
   refine aj.nil ?_
   have hr:=Option.some.inj h
   subst hr
   exact aD.ret ⟨_,rfl,rfl,kR (aN.eq .nil)⟩
  replace h:=dI hb16 h
  refine aD.skip ?_
  refine aD.region E.obj rfl ?_
  refine aj.val rfl (aa rfl) rfl ?_
  refine aj.val rfl (aH rfl rfl dF) rfl ?_
  refine aj.val rfl (ak rfl) rfl ?_
  refine aj.nil ?_
  exact ⟨(IntKind.wrap .i64 (x11 + 1)),_,_,S9,.refl _ _,.refl _,(au.r rfl (au.r rfl (au.r rfl au.nil))),H10.sl [] rfl rfl,h⟩
 replace h:=dI hb13 h
 refine aD.exit ?_
 refine aD.seq ?_
 refine aD.region E.obj rfl ?_
 refine aj.val rfl (ak rfl) rfl ?_
 refine aj.nil ?_
 have hr:=Option.some.inj h
 subst hr
 exact aD.ret ⟨_,rfl,rfl,kR (aN.eq .nil)⟩
set_option maxRecDepth 20000 in
set_option maxHeartbeats 4000000 in
theorem bH:∀ (n:Nat) (a1:Tree) (a2:Tree) (r:Bool),cZ n a1 a2=some r→fE R cfg.P 41 [(ai a1),(ai a2)] (.d (.bool r))
 | 0,a1,a2,r,h=>by simp [cZ] at h
 | n + 1,a1,a2,r,h=>by
  have ih:=bH n
  unfold cZ at h
  refine fE.of_wp E.obj.toObjOk (C:=cfg) Try.func41 rfl MP rfl ?_
  have H0:Has aL aL []:=Has.pure
  refine aD.seq ?_
  refine aD.region E.obj rfl ?_
  refine aj.box H0 rfl rfl rfl (Tree.dx _) rfl (fun b3 S4 H5=>?_)
  refine aj.box H5 rfl rfl rfl (Tree.dx _) rfl (fun b6 S7 H8=>?_)
  refine aj.val rfl (ak rfl) rfl ?_
  refine aj.nil ?_
  refine aD.seq ?_
  refine aD.seq ?_
  refine aD.region E.obj rfl ?_
  refine aj.val rfl (aF rfl oQ uK rfl) rfl ?_
  refine aj.val rfl (aJ H8 (i:=1) rfl rfl (aS sW rfl)) rfl ?_
  refine aj.val rfl (aF rfl oQ uK rfl) rfl ?_
  refine aj.val rfl (aJ H8 (i:=0) rfl rfl (aS sW rfl)) rfl ?_
  refine aj.val rfl (aH rfl rfl ou) rfl ?_
  refine aj.val rfl (aa rfl) rfl ?_
  refine aj.jS 6 17 (.d (.bool ((!(a1.Tag == a2.Tag)) || (!(a1.Key == a2.Key))))) ?_ ?_
  ·
   rcases Bool.eq_false_or_eq_true ((!(a1.Tag == a2.Tag))) with hB9 | hB9
   ·
    refine aj.bool hB9 ?_
    refine aj.no rfl rfl ?_
    refine aj.no rfl rfl ?_
    refine aj.no rfl rfl ?_
    refine aj.no rfl rfl ?_
    refine aj.no rfl rfl ?_
    refine aj.val rfl (aC (b:=true) rfl rfl) rfl ?_
    exact aj.nil ⟨_,rfl,(au.put (au.push rfl (au.push rfl (au.push rfl (au.push rfl (au.push rfl (au.put (.refl _) (Less.eq (by rw [hB9])))))))) (Less.eq (by rw [hB9]; rw [Bool.true_or])))⟩
   refine aj.bool hB9 ?_
   refine aj.val rfl (aF rfl uZ uK rfl) rfl ?_
   refine aj.val rfl (aJ H8 (i:=1) rfl rfl (aS sW rfl)) rfl ?_
   refine aj.val rfl (aF rfl uZ uK rfl) rfl ?_
   refine aj.val rfl (aJ H8 (i:=0) rfl rfl (aS sW rfl)) rfl ?_
   refine aj.val rfl (aH rfl rfl ou) rfl ?_
   refine aj.val rfl (aC (b:=false) rfl rfl) rfl ?_
   exact aj.nil ⟨_,rfl,(au.put (au.push rfl (au.push rfl (au.push rfl (au.push rfl (au.push rfl (au.put (.refl _) (Less.eq (by rw [hB9])))))))) (Less.eq (by rw [hB9]; rw [Bool.false_or])))⟩
  refine aj.val rfl (aa rfl) rfl ?_
  refine aj.jS 6 24 (.d (.bool (((!(a1.Tag == a2.Tag)) || (!(a1.Key == a2.Key))) || (!(a1.Text == a2.Text))))) ?_ ?_
  ·
   rcases Bool.eq_false_or_eq_true (((!(a1.Tag == a2.Tag)) || (!(a1.Key == a2.Key)))) with hB10 | hB10
   ·
    refine aj.bool hB10 ?_
    refine aj.no rfl rfl ?_
    refine aj.no rfl rfl ?_
    refine aj.no rfl rfl ?_
    refine aj.no rfl rfl ?_
    refine aj.no rfl rfl ?_
    refine aj.val rfl (aC (b:=true) rfl rfl) rfl ?_
    exact aj.nil ⟨_,rfl,(au.put (au.push rfl (au.push rfl (au.push rfl (au.push rfl (au.push rfl (au.put (.refl _) (Less.eq (by rw [hB10])))))))) (Less.eq (by rw [hB10]; rw [Bool.true_or])))⟩
   refine aj.bool hB10 ?_
   refine aj.val rfl (aF rfl BP uK rfl) rfl ?_
   refine aj.val rfl (aJ H8 (i:=1) rfl rfl (aS sW rfl)) rfl ?_
   refine aj.val rfl (aF rfl BP uK rfl) rfl ?_
   refine aj.val rfl (aJ H8 (i:=0) rfl rfl (aS sW rfl)) rfl ?_
   refine aj.val rfl (aH rfl rfl ou) rfl ?_
   refine aj.val rfl (aC (b:=false) rfl rfl) rfl ?_
   exact aj.nil ⟨_,rfl,(au.put (au.push rfl (au.push rfl (au.push rfl (au.push rfl (au.push rfl (au.put (.refl _) (Less.eq (by rw [hB10])))))))) (Less.eq (by rw [hB10]; rw [Bool.false_or])))⟩
  refine aj.val rfl (aa rfl) rfl ?_
  obtain ⟨z12,hzz12,h⟩:=bind_some h
  refine aj.jS 7 32 (.d (.bool z12)) ?_ ?_
  ·
   rcases Bool.eq_false_or_eq_true ((((!(a1.Tag == a2.Tag)) || (!(a1.Key == a2.Key))) || (!(a1.Text == a2.Text)))) with hB11 | hB11
   ·
    refine aj.bool hB11 ?_
    refine aj.no rfl rfl ?_
    refine aj.no rfl rfl ?_
    refine aj.no rfl rfl ?_
    refine aj.no rfl rfl ?_
    refine aj.no rfl rfl ?_
    refine aj.no rfl rfl ?_
    refine aj.val rfl (aC (b:=true) rfl rfl) rfl ?_
    replace hzz12:=dH hB11 hzz12
    cases hzz12
    exact aj.nil ⟨_,rfl,(au.put (au.push rfl (au.push rfl (au.push rfl (au.push rfl (au.push rfl (au.push rfl (au.put (.refl _) (Less.eq (by rw [hB11]))))))))) (.refl _))⟩
   refine aj.bool hB11 ?_
   replace hzz12:=dI hB11 hzz12
   refine aj.val rfl (aF rfl vk Ab rfl) rfl ?_
   refine aj.val rfl (aJ H8 (i:=1) rfl rfl (aS ER rfl)) rfl ?_
   refine aj.val rfl (aF rfl vk Ab rfl) rfl ?_
   refine aj.val rfl (aJ H8 (i:=0) rfl rfl (aS ER rfl)) rfl ?_
   obtain ⟨z13,hzz13,hzz12⟩:=bind_some hzz12
   refine aj.ret rfl (az rfl rfl) (nO E _ _ _ _ hzz13 _ _ (aN.eq (aN.eq .nil))) rfl ?_
   refine aj.val rfl (gW rfl) rfl ?_
   refine aj.val rfl (aC (b:=false) rfl rfl) rfl ?_
   cases hzz12
   exact aj.nil ⟨_,rfl,(au.put (au.push rfl (au.push rfl (au.push rfl (au.push rfl (au.push rfl (au.push rfl (au.put (.refl _) (Less.eq (by rw [hB11]))))))))) (.refl _))⟩
  refine aj.val rfl (aa rfl) rfl ?_
  refine aj.jS 8 41 (.d (.bool (z12 || (((a1.Kids).length:Int) != ((a2.Kids).length:Int))))) ?_ ?_
  ·
   rcases Bool.eq_false_or_eq_true (z12) with hB14 | hB14
   ·
    refine aj.bool hB14 ?_
    refine aj.no rfl rfl ?_
    refine aj.no rfl rfl ?_
    refine aj.no rfl rfl ?_
    refine aj.no rfl rfl ?_
    refine aj.no rfl rfl ?_
    refine aj.no rfl rfl ?_
    refine aj.no rfl rfl ?_
    refine aj.val rfl (aC (b:=true) rfl rfl) rfl ?_
    exact aj.nil ⟨_,rfl,(au.put (au.push rfl (au.push rfl (au.push rfl (au.push rfl (au.push rfl (au.push rfl (au.push rfl (au.put (.refl _) (Less.eq (by rw [hB14])))))))))) (Less.eq (by rw [hB14]; rw [Bool.true_or])))⟩
   refine aj.bool hB14 ?_
   refine aj.val rfl (aF rfl ja oL rfl) rfl ?_
   refine aj.val rfl (aJ H8 (i:=1) rfl rfl (aS rU rfl)) rfl ?_
   refine aj.val rfl (cz rfl wE) rfl ?_
   refine aj.val rfl (aF rfl ja oL rfl) rfl ?_
   refine aj.val rfl (aJ H8 (i:=0) rfl rfl (aS rU rfl)) rfl ?_
   refine aj.val rfl (cz rfl wE) rfl ?_
   refine aj.val rfl (aH rfl rfl mZ) rfl ?_
   refine aj.val rfl (aC (b:=false) rfl rfl) rfl ?_
   exact aj.nil ⟨_,rfl,(au.put (au.push rfl (au.push rfl (au.push rfl (au.push rfl (au.push rfl (au.push rfl (au.push rfl (au.put (.refl _) (Less.eq (by rw [hB14])))))))))) (Less.eq (by rw [hB14]; rw [Bool.false_or])))⟩
  refine aj.nil ?_
  refine aD.cond rfl (fun hb15=>?_) (fun hb15=>?_)
  ·
   replace h:=dH hb15 h
   refine aD.seq ?_
   refine aD.region E.obj rfl ?_
   refine aj.val rfl (ak rfl) rfl ?_
   refine aj.nil ?_
   have hr:=Option.some.inj h
   subst hr
   exact aD.ret ⟨_,rfl,rfl,kR (aN.eq .nil)⟩
  replace h:=dI hb15 h
  refine aD.skip ?_
  refine aD.seq ?_
  refine aD.seq ?_
  refine aD.region E.obj rfl ?_
  refine aj.val rfl (aF rfl ja oL rfl) rfl ?_
  refine aj.val rfl (aJ H8 (i:=1) rfl rfl (aS rU rfl)) rfl ?_
  refine aj.val rfl (cz rfl wE) rfl ?_
  refine aj.val rfl (aa rfl) rfl ?_
  refine aj.nil ?_
  refine aD.block ?_
  refine qo.start (B:=aL) (α:=Int) (fun k a=>dG (cZ n) a1 a2 k a=some r) (fun a=>[(2,(.ptr b3 0 0)),(3,(.ptr b6 0 0)),(44,(.d (.int .i64 ((a1.Kids).length:Int)))),(45,(.d (.int .i64 a)))]) (fun a=>[.box b6 [(.d (.str a2.Tag)),(.d (.str a2.Key)),(.d (.str a2.Text)),(.d (.sl ((a2.aI).map ay) false)),(.d (.sl ((a2.Kids).map ai) false))],.box b3 [(.d (.str a1.Tag)),(.d (.str a1.Key)),(.d (.str a1.Text)),(.d (.sl ((a1.aI).map ay) false)),(.d (.sl ((a1.Kids).map ai) false))]]) ?_ ?_ n ⟨0,_,_,S7,.refl _ _,.refl _,(au.r rfl (au.r rfl (au.r rfl (au.r rfl au.nil)))),H8.sl [0,1] rfl rfl,h⟩
  ·
   intro a h; simp [dG] at h
  intro k24 x23 S21 H22 h
  replace h:dG (cZ n) a1 a2 (k24 + 1) x23=some r:=h
  replace H22:Has aL S21 [.box b6 [(.d (.str a2.Tag)),(.d (.str a2.Key)),(.d (.str a2.Text)),(.d (.sl ((a2.aI).map ay) false)),(.d (.sl ((a2.Kids).map ai) false))],.box b3 [(.d (.str a1.Tag)),(.d (.str a1.Key)),(.d (.str a1.Text)),(.d (.sl ((a1.aI).map ay) false)),(.d (.sl ((a1.Kids).map ai) false))]]:=H22
  unfold dG at h
  refine aD.seq ?_
  refine aD.region E.obj rfl ?_
  refine aj.val rfl (aH rfl rfl dR) rfl ?_
  refine aj.nil ?_
  refine aD.seq ?_
  refine aD.cond rfl (fun hb25=>?_) (fun hb25=>?_)
  ·
   replace h:=dH hb25 h
   refine aD.skip ?_
   refine aD.seq ?_
   refine aD.block ?_
   refine aD.seq ?_
   refine aD.region E.obj rfl ?_
   refine aj.val rfl (aa rfl) rfl ?_
   refine aj.val rfl (ak rfl) rfl ?_
   refine aj.nil ?_
   refine aD.seq ?_
   obtain ⟨z26,hzz26,h⟩:=bind_some h
   obtain ⟨z27,hzz27,h⟩:=bind_some h
   obtain ⟨z28,hzz28,h⟩:=bind_some h
   refine aD.jf E.obj lQ Oy [(2,none),(3,none),(44,none),(45,none),(59,some 11)] (by kernel_rfl) [] (by decide) [some (.ptr b3 0 4),some (.d (.sl ((a1.Kids).map ai) false)),some (.d (.int .i64 x23)),some (.eptr (ai z26) 0),some (.d (ai z26)),some (.ptr b6 0 4),some (.d (.sl ((a2.Kids).map ai) false)),some (.d (.int .i64 x23)),some (.eptr (ai z27) 0),some (.d (ai z27)),some (.d (.bool z28)),some (.d (.bool (!z28)))] ?_
   refine ⟨[0,1,2,3,4,5,6,7,8,9,10,11],by kernel_rfl,?_,_,rfl,?_⟩
   ·
    refine .v rfl rfl rfl rfl (aF rfl ja oL rfl) ?_
    refine .v rfl rfl rfl rfl (aJ H22 (i:=1) rfl rfl (aS rU rfl)) ?_
    refine .v rfl rfl rfl rfl (aa rfl) ?_
    refine .v rfl rfl rfl rfl (bX rfl rfl (dU (enc:=ai) hzz26 kJ jc ((Tree.len _).trans bE.symm))) ?_
    refine .v rfl rfl rfl rfl (bG rfl (Tree.pR dX bE)) ?_
    refine .v rfl rfl rfl rfl (aF rfl ja oL rfl) ?_
    refine .v rfl rfl rfl rfl (aJ H22 (i:=0) rfl rfl (aS rU rfl)) ?_
    refine .v rfl rfl rfl rfl (aa rfl) ?_
    refine .v rfl rfl rfl rfl (bX rfl rfl (dU (enc:=ai) hzz27 kJ jc ((Tree.len _).trans bE.symm))) ?_
    refine .v rfl rfl rfl rfl (bG rfl (Tree.pR dX bE)) ?_
    refine .cons rfl rfl rfl (.step ?_) ?_
    ·
     refine aj.ret rfl (az rfl rfl) (ih _ _ _ hzz28 _ _ (aN.eq (aN.eq .nil))) rfl ?_
     exact aj.nil ⟨_,_,rfl,fun _ ht=>by cases ht; exact ⟨rfl,.refl _⟩⟩
    refine .v rfl rfl rfl rfl (gW rfl) ?_
    exact .nil
   refine aD.cond rfl (fun hb29=>?_) (fun hb29=>?_)
   ·
    replace h:=dH hb29 h
    refine aD.seq ?_
    refine aD.region E.obj rfl ?_
    refine aj.val rfl (ak rfl) rfl ?_
    refine aj.nil ?_
    have hr:=Option.some.inj h
    subst hr
    exact aD.ret ⟨_,rfl,rfl,kR (aN.eq .nil)⟩
   replace h:=dI hb29 h
   refine aD.skip ?_
   refine aD.region E.obj rfl ?_
   refine aj.val rfl (aH rfl rfl dF) rfl ?_
   refine aj.val rfl (aa rfl) rfl ?_
   refine aj.nil ?_
   exact ⟨(IntKind.wrap .i64 (x23 + 1)),_,_,S21,.refl _ _,.refl _,(au.r rfl (au.r rfl (au.r rfl (au.r rfl au.nil)))),H22.sl [0,1] rfl rfl,h⟩
  replace h:=dI hb25 h
  refine aD.exit ?_
  refine aD.seq ?_
  refine aD.region E.obj rfl ?_
  refine aj.val rfl (ak rfl) rfl ?_
  refine aj.nil ?_
  have hr:=Option.some.inj h
  subst hr
  exact aD.ret ⟨_,rfl,rfl,kR (aN.eq .nil)⟩
set_option maxRecDepth 20000 in
set_option maxHeartbeats 4000000 in
theorem sN (n:Nat)  (r:(List Str)) (h:kr n  = some r):fE R cfg.P 76 [] (.d (.sl ((r).map D.str) false)):=by
 unfold kr at h
 refine fE.of_wp E.obj.toObjOk (C:=cfg) Try.func76 rfl ND rfl ?_
 have H0:Has aL aL []:=Has.pure
 refine aD.seq ?_
 refine aD.region E.obj rfl ?_
 refine aj.val rfl (ak rfl) rfl ?_
 refine aj.nil ?_
 refine aD.seq ?_
 refine aD.region E.obj rfl ?_
 refine aj.val rfl (aR (vs:=[(.d (.str [97])),(.d (.str [98])),(.d (.str [105,116,101,109])),(.d (.str [120,32,121])),(.d (.str [37])),(.d (.str [97,47,98])),(.d (.str [46,46])),(.d (.str [122])),(.d (.str [49])),(.d (.str [108,105,115,116])),(.d (.str [255])),(.d (.str [63,61,38]))]) (ds:=[(.str [97]),(.str [98]),(.str [105,116,101,109]),(.str [120,32,121]),(.str [37]),(.str [97,47,98]),(.str [46,46]),(.str [122]),(.str [49]),(.str [108,105,115,116]),(.str [255]),(.str [63,61,38])]) Mh He sW Om K6 rfl (by decide) (.cons rfl rfl (.cons rfl rfl (.cons rfl rfl (.cons rfl rfl (.cons rfl rfl (.cons rfl rfl (.cons rfl rfl (.cons rfl rfl (.cons rfl rfl (.cons rfl rfl (.cons rfl rfl (.cons rfl rfl .nil)))))))))))) rfl (by intro d hd; simp only [List.mem_cons,List.not_mem_nil,or_false] at hd; rcases hd with rfl | rfl | rfl | rfl | rfl | rfl | rfl | rfl | rfl | rfl | rfl | rfl <;> rfl) rfl) rfl ?_
 refine aj.val rfl (ak rfl) rfl ?_
 refine aj.nil ?_
 have hr:=Option.some.inj h
 subst hr
 exact aD.ret ⟨_,rfl,rfl,kR (aN.dE rfl (.iL _ _) .nil)⟩
set_option maxRecDepth 20000 in
set_option maxHeartbeats 4000000 in
theorem iI (n:Nat) (a1:(List Int)) (a2:Int) (r:Int) (h:fe n a1 a2=some r):fE R cfg.P 77 [(.sl ((a1).map (D.int .i64)) false),(.int .i64 a2)] (.d (.int .i64 r)):=by
 unfold fe at h
 refine fE.of_wp E.obj.toObjOk (C:=cfg) Try.func77 rfl NM rfl ?_
 have H0:Has aL aL []:=Has.pure
 refine aD.seq ?_
 refine aD.region E.obj rfl ?_
 refine aj.val rfl (ak rfl) rfl ?_
 refine aj.nil ?_
 refine aD.seq ?_
 refine aD.seq ?_
 refine aD.region E.obj rfl ?_
 refine aj.val rfl (aa rfl) rfl ?_
 refine aj.val rfl (cz rfl nZ) rfl ?_
 refine aj.val rfl (aH rfl rfl bD) rfl ?_
 refine aj.nil ?_
 refine aD.cond rfl (fun hb3=>?_) (fun hb3=>?_)
 ·
  replace h:=dH hb3 h
  refine aD.seq ?_
  refine aD.region E.obj rfl ?_
  refine aj.val rfl (ak rfl) rfl ?_
  refine aj.nil ?_
  have hr:=Option.some.inj h
  subst hr
  exact aD.ret ⟨_,rfl,rfl,kR (aN.eq .nil)⟩
 replace h:=dI hb3 h
 refine aD.skip ?_
 refine aD.seq ?_
 refine aD.region E.obj rfl ?_
 refine aj.val rfl (aa rfl) rfl ?_
 refine aj.val rfl (aa rfl) rfl ?_
 refine aj.val rfl (aa rfl) rfl ?_
 refine aj.val rfl (cz rfl nZ) rfl ?_
 obtain ⟨z4,hzz4,h⟩:=bind_some h
 refine aj.val rfl (aH rfl rfl (Bn hzz4)) rfl ?_
 obtain ⟨z5,hzz5,h⟩:=bind_some h
 refine aj.val rfl (bX rfl rfl (dU (enc:=(D.int .i64)) hzz5 fQ vV (((fun _=>rfl) _).trans kV.symm))) rfl ?_
 refine aj.val rfl (bG rfl (dY nV rfl)) rfl ?_
 refine aj.val rfl (ak rfl) rfl ?_
 refine aj.nil ?_
 have hr:=Option.some.inj h
 subst hr
 exact aD.ret ⟨_,rfl,rfl,kR (aN.eq .nil)⟩
set_option maxRecDepth 20000 in
set_option maxHeartbeats 4000000 in
theorem uw (n:Nat) (a1:(List Int)) (a2:Int) (r:Int) (h:jI n a1 a2=some r):fE R cfg.P 78 [(.sl ((a1).map (D.int .i64)) false),(.int .i64 a2)] (.d (.int .i64 r)):=by
 unfold jI at h
 refine fE.of_wp E.obj.toObjOk (C:=cfg) Try.func78 rfl Oj rfl ?_
 have H0:Has aL aL []:=Has.pure
 refine aD.seq ?_
 refine aD.region E.obj rfl ?_
 refine aj.val rfl (ak rfl) rfl ?_
 refine aj.nil ?_
 refine aD.seq ?_
 refine aD.region E.obj rfl ?_
 refine aj.val rfl (ak rfl) rfl ?_
 refine aj.nil ?_
 refine aD.seq ?_
 refine aD.block ?_
 refine qo.start (B:=aL) (α:=Int × Int) (fun k a=>dB a1 k a.1 a.2=some r) (fun a=>[(0,(.d (.sl ((a1).map (D.int .i64)) false))),(1,(.d (.int .i64 a.1))),(5,(.d (.int .i64 a.2)))]) (fun a=>[]) ?_ ?_ n ⟨⟨a2,0⟩,_,_,aL,.refl _ _,.refl _,(au.r rfl (au.r rfl (au.r rfl au.nil))),H0.sl [] rfl rfl,h⟩
 ·
  intro a h; simp [dB] at h
 intro k13 a S9 H10 h
 obtain ⟨x11,x12⟩:=a
 replace h:dB a1 (k13 + 1) x11 x12=some r:=h
 replace H10:Has aL S9 []:=H10
 unfold dB at h
 refine aD.seq ?_
 refine aD.seq ?_
 refine aD.region E.obj rfl ?_
 refine aj.val rfl (aa rfl) rfl ?_
 refine aj.val rfl (aH rfl rfl Ii) rfl ?_
 refine aj.val rfl (aa rfl) rfl ?_
 refine aj.jS 3 11 (.d (.bool ((decide (0 ≤ x11)) && (decide (x12 < 99))))) ?_ ?_
 ·
  rcases Bool.eq_false_or_eq_true ((decide (0 ≤ x11))) with hB14 | hB14
  ·
   refine aj.bool hB14 ?_
   refine aj.val rfl (aa rfl) rfl ?_
   refine aj.val rfl (aH rfl rfl dR) rfl ?_
   refine aj.val rfl (aC (b:=true) rfl rfl) rfl ?_
   exact aj.nil ⟨_,rfl,(au.put (au.push rfl (au.push rfl (au.put (.refl _) (Less.eq (by rw [hB14]))))) (Less.eq (by rw [hB14]; rw [Bool.true_and])))⟩
  refine aj.bool hB14 ?_
  refine aj.no rfl rfl ?_
  refine aj.no rfl rfl ?_
  refine aj.val rfl (aC (b:=false) rfl rfl) rfl ?_
  exact aj.nil ⟨_,rfl,(au.put (au.push rfl (au.push rfl (au.put (.refl _) (Less.eq (by rw [hB14]))))) (Less.eq (by rw [hB14]; rw [Bool.false_and])))⟩
 refine aj.nil ?_
 refine aD.cond rfl (fun hb15=>?_) (fun hb15=>?_)
 ·
  replace h:=dH hb15 h
  refine aD.skip ?_
  refine aD.block ?_
  obtain ⟨z16,hzz16,h⟩:=bind_some h
  refine aD.jf E.obj lQ Ox [(0,none),(1,some 7),(5,some 6)] (by kernel_rfl) [] (by decide) [some (.d (.int .i64 x12)),some (.d (.int .i64 (IntKind.wrap .i64 (x12 + 1)))),some (.d (.sl ((a1).map (D.int .i64)) false)),some (.d (.int .i64 x11)),some (.eptr (.int .i64 z16) 0),some (.d (.int .i64 z16)),some (.d (.int .i64 (IntKind.wrap .i64 (x12 + 1)))),some (.d (.int .i64 z16))] ?_
  refine ⟨[0,1,2,3,4,5,6,7],by kernel_rfl,?_,_,rfl,?_⟩
  ·
   refine .v rfl rfl rfl rfl (aa rfl) ?_
   refine .v rfl rfl rfl rfl (aH rfl rfl dF) ?_
   refine .v rfl rfl rfl rfl (aa rfl) ?_
   refine .v rfl rfl rfl rfl (aa rfl) ?_
   refine .v rfl rfl rfl rfl (bX rfl rfl (dU (enc:=(D.int .i64)) hzz16 fQ vV (((fun _=>rfl) _).trans kV.symm))) ?_
   refine .v rfl rfl rfl rfl (bG rfl (dY nV rfl)) ?_
   refine .v rfl rfl rfl rfl (ak rfl) ?_
   refine .v rfl rfl rfl rfl (ak rfl) ?_
   exact .nil
  exact ⟨⟨z16,(IntKind.wrap .i64 (x12 + 1))⟩,_,_,S9,.refl _ _,.refl _,(au.r rfl (au.r rfl (au.r rfl au.nil))),H10.sl [] rfl rfl,h⟩
 replace h:=dI hb15 h
 refine aD.exit ?_
 refine aD.seq ?_
 refine aD.region E.obj rfl ?_
 refine aj.val rfl (aa rfl) rfl ?_
 refine aj.val rfl (ak rfl) rfl ?_
 refine aj.nil ?_
 have hr:=Option.some.inj h
 subst hr
 exact aD.ret ⟨_,rfl,rfl,kR (aN.eq .nil)⟩
set_option maxRecDepth 20000 in
set_option maxHeartbeats 4000000 in
theorem nX:∀ (n:Nat) (a1:(List bf)) (a2:(List Int)) (a3:Int) (r:Tree),bY n a1 a2 a3=some r→fE R cfg.P 79 [(.sl ((a1).map bS) false),(.sl ((a2).map (D.int .i64)) false),(.int .i64 a3)] (.d (ai r))
 | 0,a1,a2,a3,r,h=>by simp [bY] at h
 | n + 1,a1,a2,a3,r,h=>by
  have ih:=nX n
  unfold bY at h
  refine fE.of_wp E.obj.toObjOk (C:=cfg) Try.func79 rfl NP rfl ?_
  have H0:Has aL aL []:=Has.pure
  refine aD.seq ?_
  refine aD.region E.obj rfl ?_
  refine aj.alloc H0 rfl rV fO rfl rfl (fun b4 S5 H6=>?_)
  refine aj.nil ?_
  refine aD.seq ?_
  refine aD.region E.obj rfl ?_
  refine aj.val rfl (aa rfl) rfl ?_
  refine aj.val rfl (aa rfl) rfl ?_
  obtain ⟨z7,hzz7,h⟩:=bind_some h
  refine aj.val rfl (bX rfl rfl (dU (enc:=bS) hzz7 kJ jc ((bf.len _).trans bE.symm))) rfl ?_
  refine aj.val rfl (bG rfl (bf.pR dX bE)) rfl ?_
  refine aj.alloc H6 rfl rV fO rfl rfl (fun b8 S9 H10=>?_)
  refine aj.store H10 (i:=0) rfl rfl rfl rfl (bf.dx _) rfl bE rfl jc rfl rfl rfl (fun S11 H12=>?_)
  refine aj.nil ?_
  refine aD.seq ?_
  refine aD.seq ?_
  refine aD.region E.obj rfl ?_
  refine aj.val rfl (aa rfl) rfl ?_
  refine aj.val rfl (cz rfl wE) rfl ?_
  refine aj.val rfl (aa rfl) rfl ?_
  refine aj.nil ?_
  refine aD.block ?_
  have H48:=H12.Jc
  refine qo.start (B:=aL) (α:=(List Tree) × AV × Int) (fun k a=>bV (bY n) a1 a2 a3 z7 k a.1 a.2.2=some r) (fun a=>[(0,(.d (.sl ((a1).map bS) false))),(1,(.d (.sl ((a2).map (D.int .i64)) false))),(2,(.d (.int .i64 a3))),(6,(.ptr b4 0 0)),(7,(.ptr b8 0 0)),(14,(.d (.int .i64 ((a1).length:Int)))),(15,(.d (.int .i64 a.2.2)))]) (fun a=>[.box b8 [(.d (.str z7.Tag)),(.d (.str z7.Key)),(.d (.str z7.Text)),(.d (.sl ((z7.aI).map ay) false)),a.2.1],.box b4 [(.d (.str [])),(.d (.str [])),(.d (.str [])),(.d .aO),(.d .aO)],.grow a.2.1 ((a.1).map ai)]) ?_ ?_ n ⟨⟨[],(.d .aO),0⟩,_,_,S11,.refl _ _,.refl _,(au.r rfl (au.r rfl (au.r rfl (au.r rfl (au.r rfl (au.r rfl (au.r rfl au.nil))))))),H48.sl [1,2,0] rfl rfl,h⟩
  ·
   intro a h; simp [bV] at h
  intro k25 a S20 H21 h
  obtain ⟨x22,v23,x24⟩:=a
  replace h:bV (bY n) a1 a2 a3 z7 (k25 + 1) x22 x24=some r:=h
  replace H21:Has aL S20 [.box b8 [(.d (.str z7.Tag)),(.d (.str z7.Key)),(.d (.str z7.Text)),(.d (.sl ((z7.aI).map ay) false)),v23],.box b4 [(.d (.str [])),(.d (.str [])),(.d (.str [])),(.d .aO),(.d .aO)],.grow v23 ((x22).map ai)]:=H21
  unfold bV at h
  refine aD.seq ?_
  refine aD.region E.obj rfl ?_
  refine aj.val rfl (aH rfl rfl dR) rfl ?_
  refine aj.nil ?_
  refine aD.seq ?_
  refine aD.cond rfl (fun hb26=>?_) (fun hb26=>?_)
  ·
   replace h:=dH hb26 h
   refine aD.skip ?_
   refine aD.join (B:=aL) (α:=(List Tree) × AV) (fun a=>eY x24 (bV (bY n) a1 a2 a3 z7 k25) a.1=some r) (fun a=>[(0,(.d (.sl ((a1).map bS) false))),(1,(.d (.sl ((a2).map (D.int .i64)) false))),(2,(.d (.int .i64 a3))),(6,(.ptr b4 0 0)),(7,(.ptr b8 0 0)),(14,(.d (.int .i64 ((a1).length:Int)))),(15,(.d (.int .i64 x24)))]) (fun a=>[.box b8 [(.d (.str z7.Tag)),(.d (.str z7.Key)),(.d (.str z7.Text)),(.d (.sl ((z7.aI).map ay) false)),a.2],.box b4 [(.d (.str [])),(.d (.str [])),(.d (.str [])),(.d .aO),(.d .aO)],.grow a.2 ((a.1).map ai)]) ?_ ?_
   ·
    intro a S27 H28 h
    obtain ⟨x29,v30⟩:=a
    replace h:eY x24 (bV (bY n) a1 a2 a3 z7 k25) x29=some r:=h
    replace H28:Has aL S27 [.box b8 [(.d (.str z7.Tag)),(.d (.str z7.Key)),(.d (.str z7.Text)),(.d (.sl ((z7.aI).map ay) false)),v30],.box b4 [(.d (.str [])),(.d (.str [])),(.d (.str [])),(.d .aO),(.d .aO)],.grow v30 ((x29).map ai)]:=H28
    unfold eY at h
    refine aD.region E.obj rfl ?_
    refine aj.val rfl (aH rfl rfl dF) rfl ?_
    refine aj.val rfl (aa rfl) rfl ?_
    refine aj.nil ?_
    exact ⟨⟨x29,v30,(IntKind.wrap .i64 (x24 + 1))⟩,_,_,S27,.refl _ _,.refl _,(au.r rfl (au.r rfl (au.r rfl (au.r rfl (au.r rfl (au.r rfl (au.r rfl au.nil))))))),H28.sl [0,1,2] rfl rfl,h⟩
   refine aD.block ?_
   refine aD.seq ?_
   refine aD.region E.obj rfl ?_
   refine aj.val rfl (aa rfl) rfl ?_
   refine aj.val rfl (ak rfl) rfl ?_
   refine aj.nil ?_
   refine aD.seq ?_
   refine aD.region E.obj rfl ?_
   refine aj.val rfl (aa rfl) rfl ?_
   refine aj.val rfl (aa rfl) rfl ?_
   obtain ⟨z32,hzz32,h⟩:=bind_some h
   refine aj.val rfl (bX rfl rfl (dU (enc:=(D.int .i64)) hzz32 fQ vV (((fun _=>rfl) _).trans kV.symm))) rfl ?_
   refine aj.val rfl (bG rfl (dY nV rfl)) rfl ?_
   refine aj.val rfl (aa rfl) rfl ?_
   refine aj.val rfl (aH rfl rfl bD) rfl ?_
   refine aj.nil ?_
   refine aD.cond rfl (fun hb33=>?_) (fun hb33=>?_)
   ·
    replace h:=dH hb33 h
    obtain ⟨z34,hzz34,h⟩:=bind_some h
    obtain ⟨z35,hzz35,h⟩:=bind_some h
    refine aD.jf E.obj lQ M7 [(0,none),(1,none),(2,none),(6,none),(7,none),(14,none),(15,none)] (by kernel_rfl) [7,9] (by decide) [some (.ptr b8 0 4),some v23,some (.d (.sl ((a1).map bS) false)),some (.d (.sl ((a2).map (D.int .i64)) false)),some (.d (.int .i64 x24)),some (.d (ai z34)),some (.d (.sl (([z34]).map ai) true)),none,none,none] ?_
    refine ⟨[0,1,2,3,4,5,6],by kernel_rfl,?_,_,_,rfl,rfl,.step ?_⟩
    ·
     refine .v rfl rfl rfl rfl (aF rfl ja oL rfl) ?_
     refine .v rfl rfl rfl rfl (aJ H21 (i:=0) rfl rfl (aS rU rfl)) ?_
     refine .v rfl rfl rfl rfl (aa rfl) ?_
     refine .v rfl rfl rfl rfl (aa rfl) ?_
     refine .v rfl rfl rfl rfl (aa rfl) ?_
     refine .cons rfl rfl rfl (.step ?_) ?_
     ·
      refine aj.ret rfl (az rfl rfl) (ih _ _ _ _ hzz34 _ _ (aN.eq (aN.eq (aN.eq .nil)))) rfl ?_
      exact aj.nil ⟨_,_,rfl,fun _ ht=>by cases ht; exact ⟨rfl,.refl _⟩⟩
     refine .v rfl rfl rfl rfl (aR (vs:=[(.d (ai z34))]) (ds:=[(ai z34)]) tu kJ dX fO bE rfl (by decide) (.cons rfl (Tree.len _) .nil) rfl (by intro d hd; simp only [List.mem_cons,List.not_mem_nil,or_false] at hd; rcases hd with rfl <;> exact Tree.agg _) rfl) ?_
     exact .nil
    refine aj.append (xs:=(x22).map ai) (ys:=([z34]).map ai) (zs:=(z35).map ai) H21 rfl rfl rfl (i:=2) rfl rfl tu JO kJ (kK hzz35) II rfl (fJ (enc:=ai) (fun z=>(Tree.len z).trans bE.symm) _) (fJ (enc:=ai) (fun z=>(Tree.len z).trans bE.symm) _) JM rfl (qZ hzz35) (fun v41 S42 H43=>?_)
    refine aj.nil ⟨_,_,_,rfl,(fun _ ht=>by cases ht; rfl),_,(.q (.o (.o (.o (.w v41 (.w (.ptr b8 0 4) (.n .nil))))))),(fun _ ht=>by cases ht; exact ⟨_,rfl,.refl _⟩),?_⟩
    refine ⟨[8],by kernel_rfl,?_,_,_,rfl,rfl,.step ?_⟩
    ·
     refine .v rfl rfl rfl rfl (aF rfl ja oL rfl) ?_
     exact .nil
    refine aj.store H43 (i:=0) rfl rfl rfl rfl (vU (H43.at (i:=2) rfl)).2.2.2.2 rfl IV (vU (H43.at (i:=2) rfl)).2.2.2.1 Jk rfl rfl rfl (fun S44 H45=>?_)
    refine aj.nil ⟨_,.any,_,rfl,(fun _ ht=>by cases ht),_,(.q (.q (.o (.w .any .nil)))),(fun _ ht=>by cases ht),?_⟩
    refine ⟨[],by kernel_rfl,?_,_,rfl,?_⟩
    ·
     exact .nil
    exact ⟨⟨z35,v41⟩,_,_,S44,.refl _ _,.refl _,(au.r rfl (au.r rfl (au.r rfl (au.r rfl (au.r rfl (au.r rfl (au.r rfl au.nil))))))),H45.sl [0,1,2] rfl rfl,h⟩
   replace h:=dI hb33 h
   refine aD.skip ?_
   exact ⟨⟨x22,v23⟩,_,_,S20,.refl _ _,.refl _,(au.r rfl (au.r rfl (au.r rfl (au.r rfl (au.r rfl (au.r rfl (au.r rfl au.nil))))))),H21.sl [0,1,2] rfl rfl,h⟩
  replace h:=dI hb26 h
  refine aD.exit ?_
  refine aD.seq ?_
  refine aD.region E.obj rfl ?_
  refine aj.val rfl (aJ H21 (i:=0) rfl rfl (aW dX bE rfl)) rfl ?_
  refine aj.less (Less.agg' (d:=ai (Tree.mk z7.Tag z7.Key z7.Text z7.aI x22)) (ax.eq rfl (ax.eq rfl (ax.eq rfl (ax.eq rfl (ax.grow H21 (i:=2) rfl .nil))))) ((Tree.eq _).trans rfl)) ?_
  refine aj.store H21 (i:=1) rfl rfl rfl rfl (Tree.dx _) rfl bE rfl jc rfl rfl rfl (fun S46 H47=>?_)
  refine aj.nil ?_
  have hr:=Option.some.inj h
  subst hr
  exact aD.ret ⟨_,jw H47 (i:=1) rfl rfl rfl (aW dX bE rfl),rfl,kR (aN.lZ (d:=ai (Tree.mk z7.Tag z7.Key z7.Text z7.aI x22)) (ax.eq rfl (ax.eq rfl (ax.eq rfl (ax.eq rfl (ax.eq rfl .nil))))) ((Tree.eq _).trans rfl))⟩
set_option maxRecDepth 20000 in
set_option maxHeartbeats 4000000 in
theorem bK (n:Nat) (a1:fA) (r:Tree) (h:fH n a1=some r):fE R cfg.P 43 [(dL a1)] (.d (ai r)):=by
 unfold fH at h
 refine fE.of_wp E.obj.toObjOk (C:=cfg) Try.func43 rfl NZ rfl ?_
 have H0:Has aL aL []:=Has.pure
 refine aD.seq ?_
 refine aD.region E.obj rfl ?_
 refine aj.box H0 rfl rfl rfl (fA.dx _) rfl (fun b2 S3 H4=>?_)
 refine aj.alloc H4 rfl rV fO rfl rfl (fun b5 S6 H7=>?_)
 refine aj.nil ?_
 refine aD.seq ?_
 refine aD.region E.obj rfl ?_
 refine aj.val rfl (aR (vs:=[(.d (.str [97])),(.d (.str [98])),(.d (.str [108,105])),(.d (.str [111,117,116,108,101,116]))]) (ds:=[(.str [97]),(.str [98]),(.str [108,105]),(.str [111,117,116,108,101,116])]) Mh He sW Om K6 rfl (by decide) (.cons rfl rfl (.cons rfl rfl (.cons rfl rfl (.cons rfl rfl .nil)))) rfl (by intro d hd; simp only [List.mem_cons,List.not_mem_nil,or_false] at hd; rcases hd with rfl | rfl | rfl | rfl <;> rfl) rfl) rfl ?_
 refine aj.val rfl (ak rfl) rfl ?_
 refine aj.nil ?_
 refine aD.seq ?_
 refine aD.region E.obj rfl ?_
 obtain ⟨z8,hzz8,h⟩:=bind_some h
 refine aj.ret rfl (az rfl rfl) (sN E _  _ hzz8 _ _ .nil) rfl ?_
 refine aj.val rfl (ak rfl) rfl ?_
 refine aj.nil ?_
 refine aD.seq ?_
 refine aD.region E.obj rfl ?_
 refine aj.val rfl (bM (cs:=[(.d (.str [100,105,118])),(.d (.str [])),(.d (.str [])),(.d .aO),(.d .aO)]) fO rfl (bq) (fV rfl rfl rfl rfl rfl)) rfl ?_
 refine aj.less (Less.agg' (d:=bS (bf.mk [100,105,118] [] [] [])) (ax.eq rfl (ax.eq rfl (ax.eq rfl (ax.dE rfl (.aO false) rfl rfl (ax.eq rfl .nil))))) ((bf.eq _).trans rfl)) ?_
 refine aj.val rfl (aR (vs:=[(.d (bS (bf.mk [100,105,118] [] [] [])))]) (ds:=[(bS (bf.mk [100,105,118] [] [] []))]) tu kJ dX fO bE rfl (by decide) (.cons rfl (bf.len _) .nil) rfl (by intro d hd; simp only [List.mem_cons,List.not_mem_nil,or_false] at hd; rcases hd with rfl <;> exact bf.agg _) rfl) rfl ?_
 refine aj.val rfl (ak rfl) rfl ?_
 refine aj.nil ?_
 refine aD.seq ?_
 refine aD.region E.obj rfl ?_
 refine aj.val rfl (aR (vs:=[(.d (.int .i64 (-1)))]) (ds:=[(.int .i64 (-1))]) o7 fQ nV wD kV rfl (by decide) (.cons rfl rfl .nil) rfl (by intro d hd; simp only [List.mem_cons,List.not_mem_nil,or_false] at hd; rcases hd with rfl <;> rfl) rfl) rfl ?_
 refine aj.val rfl (ak rfl) rfl ?_
 refine aj.nil ?_
 refine aD.seq ?_
 refine aD.seq ?_
 refine aD.region E.obj rfl ?_
 refine aj.val rfl (ak rfl) rfl ?_
 refine aj.nil ?_
 refine aD.block ?_
 have H93:=H7.ET (([(bf.mk [100,105,118] [] [] [])]).map bS)
 have H94:=H93.ET (([(-1)]).map (D.int .i64))
 refine qo.start (B:=aL) (α:=(List bf) × AV × (List Int) × AV × Int) (fun k a=>aV n a1 z8 k a.1 a.2.2.1 a.2.2.2.2=some r) (fun a=>[(1,(.ptr b2 0 0)),(2,(.ptr b5 0 0)),(3,(.d (.sl (([[97],[98],[108,105],[111,117,116,108,101,116]]).map D.str) true))),(4,(.d (.sl ((z8).map D.str) false))),(5,a.2.1),(6,a.2.2.2.1),(7,(.d (.int .i64 a.2.2.2.2)))]) (fun a=>[.box b5 [(.d (.str [])),(.d (.str [])),(.d (.str [])),(.d .aO),(.d .aO)],.box b2 [(.d (.sl ((a1.Under).map (D.int .i64)) false)),(.d (.sl ((a1.Kinds).map (D.int .i64)) false)),(.d (.sl ((a1.Keys).map (D.int .i64)) false)),(.d (.sl ((a1.Texts).map (D.int .i64)) false))],.grow a.2.1 ((a.1).map bS),.grow a.2.2.2.1 ((a.2.2.1).map (D.int .i64))]) ?_ ?_ n ⟨⟨[(bf.mk [100,105,118] [] [] [])],(.d (.sl (([(bf.mk [100,105,118] [] [] [])]).map bS) true)),[(-1)],(.d (.sl (([(-1)]).map (D.int .i64)) true)),0⟩,_,_,S6,.refl _ _,.refl _,(au.r rfl (au.r rfl (au.r rfl (au.r rfl (au.r rfl (au.r rfl (au.r rfl au.nil))))))),H94.sl [2,3,1,0] rfl rfl,h⟩
 ·
  intro a h; simp [aV] at h
 intro k25 a S18 H19 h
 obtain ⟨x20,v21,x22,v23,x24⟩:=a
 replace h:aV n a1 z8 (k25 + 1) x20 x22 x24=some r:=h
 replace H19:Has aL S18 [.box b5 [(.d (.str [])),(.d (.str [])),(.d (.str [])),(.d .aO),(.d .aO)],.box b2 [(.d (.sl ((a1.Under).map (D.int .i64)) false)),(.d (.sl ((a1.Kinds).map (D.int .i64)) false)),(.d (.sl ((a1.Keys).map (D.int .i64)) false)),(.d (.sl ((a1.Texts).map (D.int .i64)) false))],.grow v21 ((x20).map bS),.grow v23 ((x22).map (D.int .i64))]:=H19
 unfold aV at h
 refine aD.seq ?_
 refine aD.seq ?_
 refine aD.region E.obj rfl ?_
 refine aj.val rfl (aa rfl) rfl ?_
 refine aj.val rfl (aF rfl IK nR rfl) rfl ?_
 refine aj.val rfl (aJ H19 (i:=1) rfl rfl (aS qg rfl)) rfl ?_
 refine aj.val rfl (cz rfl nZ) rfl ?_
 refine aj.val rfl (aH rfl rfl dR) rfl ?_
 refine aj.val rfl (aa rfl) rfl ?_
 refine aj.jS 3 25 (.d (.bool ((decide (x24 < ((a1.Under).length:Int))) && (decide (x24 < 12))))) ?_ ?_
 ·
  rcases Bool.eq_false_or_eq_true ((decide (x24 < ((a1.Under).length:Int)))) with hB26 | hB26
  ·
   refine aj.bool hB26 ?_
   refine aj.val rfl (aa rfl) rfl ?_
   refine aj.val rfl (aH rfl rfl dR) rfl ?_
   refine aj.val rfl (aC (b:=true) rfl rfl) rfl ?_
   exact aj.nil ⟨_,rfl,(au.put (au.push rfl (au.push rfl (au.put (.refl _) (Less.eq (by rw [hB26]))))) (Less.eq (by rw [hB26]; rw [Bool.true_and])))⟩
  refine aj.bool hB26 ?_
  refine aj.no rfl rfl ?_
  refine aj.no rfl rfl ?_
  refine aj.val rfl (aC (b:=false) rfl rfl) rfl ?_
  exact aj.nil ⟨_,rfl,(au.put (au.push rfl (au.push rfl (au.put (.refl _) (Less.eq (by rw [hB26]))))) (Less.eq (by rw [hB26]; rw [Bool.false_and])))⟩
 refine aj.nil ?_
 refine aD.cond rfl (fun hb27=>?_) (fun hb27=>?_)
 ·
  replace h:=dH hb27 h
  refine aD.skip ?_
  refine aD.seq ?_
  refine aD.block ?_
  refine aD.seq ?_
  refine aD.region E.obj rfl ?_
  refine aj.val rfl (aF rfl IK nR rfl) rfl ?_
  refine aj.val rfl (aJ H19 (i:=1) rfl rfl (aS qg rfl)) rfl ?_
  refine aj.val rfl (aa rfl) rfl ?_
  obtain ⟨z28,hzz28,h⟩:=bind_some h
  refine aj.val rfl (bX rfl rfl (dU (enc:=(D.int .i64)) hzz28 fQ vV (((fun _=>rfl) _).trans kV.symm))) rfl ?_
  refine aj.val rfl (bG rfl (dY nV rfl)) rfl ?_
  refine aj.val rfl (aa rfl) rfl ?_
  refine aj.val rfl (Gd H19 (i:=2) rfl rfl wE) rfl ?_
  refine aj.val rfl (aH rfl rfl iB) rfl ?_
  obtain ⟨z29,hzz29,h⟩:=bind_some h
  refine aj.ret rfl (az rfl rfl) (fI E _ _ _ _ _ hzz29 _ _ (aN.eq (aN.eq (aN.eq .nil)))) rfl ?_
  refine aj.val rfl (ak rfl) rfl ?_
  refine aj.nil ?_
  refine aD.join (B:=aL) (α:=Int) (fun a=>di n a1 z8 x20 x22 x24 (aV n a1 z8 k25) a=some r) (fun a=>[(1,(.ptr b2 0 0)),(2,(.ptr b5 0 0)),(3,(.d (.sl (([[97],[98],[108,105],[111,117,116,108,101,116]]).map D.str) true))),(4,(.d (.sl ((z8).map D.str) false))),(5,v21),(6,v23),(7,(.d (.int .i64 x24))),(8,(.d (.int .i64 a)))]) (fun a=>[.box b5 [(.d (.str [])),(.d (.str [])),(.d (.str [])),(.d .aO),(.d .aO)],.box b2 [(.d (.sl ((a1.Under).map (D.int .i64)) false)),(.d (.sl ((a1.Kinds).map (D.int .i64)) false)),(.d (.sl ((a1.Keys).map (D.int .i64)) false)),(.d (.sl ((a1.Texts).map (D.int .i64)) false))],.grow v21 ((x20).map bS),.grow v23 ((x22).map (D.int .i64))]) ?_ ?_
  ·
   intro x32 S30 H31 h
   replace h:di n a1 z8 x20 x22 x24 (aV n a1 z8 k25) x32=some r:=h
   replace H31:Has aL S30 [.box b5 [(.d (.str [])),(.d (.str [])),(.d (.str [])),(.d .aO),(.d .aO)],.box b2 [(.d (.sl ((a1.Under).map (D.int .i64)) false)),(.d (.sl ((a1.Kinds).map (D.int .i64)) false)),(.d (.sl ((a1.Keys).map (D.int .i64)) false)),(.d (.sl ((a1.Texts).map (D.int .i64)) false))],.grow v21 ((x20).map bS),.grow v23 ((x22).map (D.int .i64))]:=H31
   unfold di at h
   refine aD.seq ?_
   refine aD.region E.obj rfl ?_
   refine aj.val rfl (aa rfl) rfl ?_
   refine aj.val rfl (aF rfl ES nR rfl) rfl ?_
   refine aj.val rfl (aJ H31 (i:=1) rfl rfl (aS qg rfl)) rfl ?_
   refine aj.val rfl (aa rfl) rfl ?_
   obtain ⟨z34,hzz34,h⟩:=bind_some h
   refine aj.ret rfl (az rfl rfl) (iI E _ _ _ _ hzz34 _ _ (aN.eq (aN.eq .nil))) rfl ?_
   refine aj.val rfl (aa rfl) rfl ?_
   refine aj.val rfl (cz rfl LW) rfl ?_
   refine aj.val rfl (aH rfl rfl iB) rfl ?_
   obtain ⟨z35,hzz35,h⟩:=bind_some h
   refine aj.ret rfl (az rfl rfl) (fI E _ _ _ _ _ hzz35 _ _ (aN.eq (aN.eq (aN.eq .nil)))) rfl ?_
   obtain ⟨z36,hzz36,h⟩:=bind_some h
   refine aj.val rfl (bX rfl rfl (dU (enc:=D.str) hzz36 He Mr (((fun _=>rfl) _).trans K6.symm))) rfl ?_
   refine aj.val rfl (bG rfl (dY sW rfl)) rfl ?_
   refine aj.val rfl (bM (cs:=[(.d (.str [])),(.d (.str [])),(.d (.str z36)),(.d .aO),(.d .aO)]) fO rfl (bq) (fV rfl rfl rfl rfl rfl)) rfl ?_
   refine aj.less (Less.agg' (d:=bS (bf.mk [] [] z36 [])) (ax.eq rfl (ax.eq rfl (ax.eq rfl (ax.dE rfl (.aO false) rfl rfl (ax.eq rfl .nil))))) ((bf.eq _).trans rfl)) ?_
   refine aj.alloc H31 rfl rV fO rfl rfl (fun b37 S38 H39=>?_)
   refine aj.store H39 (i:=0) rfl rfl rfl rfl (bf.dx _) rfl bE rfl jc rfl rfl rfl (fun S40 H41=>?_)
   refine aj.nil ?_
   refine aD.join (B:=aL) (α:=Str × Str × Str × (List Attr)) (fun a=>dn n x20 x22 x24 (aV n a1 z8 k25) x32 a.1 a.2.1 a.2.2.1 a.2.2.2=some r) (fun a=>[(1,(.ptr b2 0 0)),(2,(.ptr b5 0 0)),(3,(.d (.sl (([[97],[98],[108,105],[111,117,116,108,101,116]]).map D.str) true))),(4,(.d (.sl ((z8).map D.str) false))),(5,v21),(6,v23),(7,(.d (.int .i64 x24))),(8,(.d (.int .i64 x32))),(9,(.ptr b37 0 0))]) (fun a=>[.box b37 [(.d (.str a.1)),(.d (.str a.2.1)),(.d (.str a.2.2.1)),(.d (.sl ((a.2.2.2).map ay) false)),(.d .aO)],.box b5 [(.d (.str [])),(.d (.str [])),(.d (.str [])),(.d .aO),(.d .aO)],.box b2 [(.d (.sl ((a1.Under).map (D.int .i64)) false)),(.d (.sl ((a1.Kinds).map (D.int .i64)) false)),(.d (.sl ((a1.Keys).map (D.int .i64)) false)),(.d (.sl ((a1.Texts).map (D.int .i64)) false))],.grow v21 ((x20).map bS),.grow v23 ((x22).map (D.int .i64))]) ?_ ?_
   ·
    intro a S42 H43 h
    obtain ⟨x44,x45,x46,x47⟩:=a
    replace h:dn n x20 x22 x24 (aV n a1 z8 k25) x32 x44 x45 x46 x47=some r:=h
    replace H43:Has aL S42 [.box b37 [(.d (.str x44)),(.d (.str x45)),(.d (.str x46)),(.d (.sl ((x47).map ay) false)),(.d .aO)],.box b5 [(.d (.str [])),(.d (.str [])),(.d (.str [])),(.d .aO),(.d .aO)],.box b2 [(.d (.sl ((a1.Under).map (D.int .i64)) false)),(.d (.sl ((a1.Kinds).map (D.int .i64)) false)),(.d (.sl ((a1.Keys).map (D.int .i64)) false)),(.d (.sl ((a1.Texts).map (D.int .i64)) false))],.grow v21 ((x20).map bS),.grow v23 ((x22).map (D.int .i64))]:=H43
    unfold dn at h
    refine aD.join (B:=aL) (α:=Int) (fun a=>dO x20 x22 x24 (aV n a1 z8 k25) x44 x45 x46 x47 a=some r) (fun a=>[(1,(.ptr b2 0 0)),(2,(.ptr b5 0 0)),(3,(.d (.sl (([[97],[98],[108,105],[111,117,116,108,101,116]]).map D.str) true))),(4,(.d (.sl ((z8).map D.str) false))),(5,v21),(6,v23),(7,(.d (.int .i64 x24))),(8,(.d (.int .i64 a))),(9,(.ptr b37 0 0))]) (fun a=>[.box b37 [(.d (.str x44)),(.d (.str x45)),(.d (.str x46)),(.d (.sl ((x47).map ay) false)),(.d .aO)],.box b5 [(.d (.str [])),(.d (.str [])),(.d (.str [])),(.d .aO),(.d .aO)],.box b2 [(.d (.sl ((a1.Under).map (D.int .i64)) false)),(.d (.sl ((a1.Kinds).map (D.int .i64)) false)),(.d (.sl ((a1.Keys).map (D.int .i64)) false)),(.d (.sl ((a1.Texts).map (D.int .i64)) false))],.grow v21 ((x20).map bS),.grow v23 ((x22).map (D.int .i64))]) ?_ ?_
    ·
     intro x51 S49 H50 h
     replace h:dO x20 x22 x24 (aV n a1 z8 k25) x44 x45 x46 x47 x51=some r:=h
     replace H50:Has aL S49 [.box b37 [(.d (.str x44)),(.d (.str x45)),(.d (.str x46)),(.d (.sl ((x47).map ay) false)),(.d .aO)],.box b5 [(.d (.str [])),(.d (.str [])),(.d (.str [])),(.d .aO),(.d .aO)],.box b2 [(.d (.sl ((a1.Under).map (D.int .i64)) false)),(.d (.sl ((a1.Kinds).map (D.int .i64)) false)),(.d (.sl ((a1.Keys).map (D.int .i64)) false)),(.d (.sl ((a1.Texts).map (D.int .i64)) false))],.grow v21 ((x20).map bS),.grow v23 ((x22).map (D.int .i64))]:=H50
     unfold dO at h
     refine aD.region E.obj rfl ?_
     refine aj.val rfl (aa rfl) rfl ?_
     refine aj.val rfl (aJ H50 (i:=0) rfl rfl (aW dX bE rfl)) rfl ?_
     refine aj.less (Less.agg' (d:=bS (bf.mk x44 x45 x46 x47)) (ax.eq rfl (ax.eq rfl (ax.eq rfl (ax.eq rfl (ax.eq rfl .nil))))) ((bf.eq _).trans rfl)) ?_
     refine aj.val rfl (aR (vs:=[(.d (bS (bf.mk x44 x45 x46 x47)))]) (ds:=[(bS (bf.mk x44 x45 x46 x47))]) tu kJ dX fO bE rfl (by decide) (.cons rfl (bf.len _) .nil) rfl (by intro d hd; simp only [List.mem_cons,List.not_mem_nil,or_false] at hd; rcases hd with rfl <;> exact bf.agg _) rfl) rfl ?_
     obtain ⟨z53,hzz53,h⟩:=bind_some h
     refine aj.append (xs:=(x20).map bS) (ys:=([(bf.mk x44 x45 x46 x47)]).map bS) (zs:=(z53).map bS) H50 rfl rfl rfl (i:=3) rfl rfl tu JO kJ (kK hzz53) II rfl (fJ (enc:=bS) (fun z=>(bf.len z).trans bE.symm) _) (fJ (enc:=bS) (fun z=>(bf.len z).trans bE.symm) _) JM rfl (qZ hzz53) (fun v54 S55 H56=>?_)
     refine aj.val rfl (aa rfl) rfl ?_
     refine aj.val rfl (aa rfl) rfl ?_
     refine aj.val rfl (aR (vs:=[(.d (.int .i64 x51))]) (ds:=[(.int .i64 x51)]) o7 fQ nV wD kV rfl (by decide) (.cons rfl rfl .nil) rfl (by intro d hd; simp only [List.mem_cons,List.not_mem_nil,or_false] at hd; rcases hd with rfl <;> rfl) rfl) rfl ?_
     obtain ⟨z57,hzz57,h⟩:=bind_some h
     refine aj.append (xs:=(x22).map (D.int .i64)) (ys:=([x51]).map (D.int .i64)) (zs:=(z57).map (D.int .i64)) H56 rfl rfl rfl (i:=4) rfl rfl o7 J2 fQ (kK hzz57) KC rfl (fJ (enc:=(D.int .i64)) (fun _=>kV.symm) _) (fJ (enc:=(D.int .i64)) (fun _=>kV.symm) _) Nb rfl (qZ hzz57) (fun v58 S59 H60=>?_)
     refine aj.val rfl (ak rfl) rfl ?_
     refine aj.val rfl (ak rfl) rfl ?_
     refine aj.nil ?_
     refine aD.region E.obj rfl ?_
     refine aj.val rfl (aa rfl) rfl ?_
     refine aj.val rfl (aH rfl rfl dF) rfl ?_
     refine aj.val rfl (ak rfl) rfl ?_
     refine aj.nil ?_
     exact ⟨⟨z53,v54,z57,v58,(IntKind.wrap .i64 (x24 + 1))⟩,_,_,S59,.refl _ _,.refl _,(au.r rfl (au.r rfl (au.r rfl (au.r rfl (au.r rfl (au.r rfl (au.r rfl au.nil))))))),H60.sl [1,2,3,4] rfl rfl,h⟩
    refine aD.seq ?_
    refine aD.region E.obj rfl ?_
    refine aj.val rfl (aa rfl) rfl ?_
    refine aj.val rfl (aa rfl) rfl ?_
    obtain ⟨z61,hzz61,h⟩:=bind_some h
    refine aj.ret rfl (az rfl rfl) (uw E _ _ _ _ hzz61 _ _ (aN.grow H43 (i:=4) rfl (aN.eq .nil))) rfl ?_
    refine aj.val rfl (aH rfl rfl sP) rfl ?_
    refine aj.nil ?_
    refine aD.cond rfl (fun hb62=>?_) (fun hb62=>?_)
    ·
     replace h:=dH hb62 h
     refine aD.region E.obj rfl ?_
     refine aj.val rfl (ak rfl) rfl ?_
     refine aj.nil ?_
     exact ⟨0,_,_,S42,.refl _ _,.refl _,(au.r rfl (au.r rfl (au.r rfl (au.r rfl (au.r rfl (au.r rfl (au.r rfl (au.r rfl (au.r rfl au.nil))))))))),H43.sl [0,1,2,3,4] rfl rfl,h⟩
    replace h:=dI hb62 h
    refine aD.skip ?_
    exact ⟨x32,_,_,S42,.refl _ _,.refl _,(au.r rfl (au.r rfl (au.r rfl (au.r rfl (au.r rfl (au.r rfl (au.r rfl (au.r rfl (au.r rfl au.nil))))))))),H43.sl [0,1,2,3,4] rfl rfl,h⟩
   refine aD.seq ?_
   refine aD.region E.obj rfl ?_
   refine aj.val rfl (aF rfl K9 nR rfl) rfl ?_
   refine aj.val rfl (aJ H41 (i:=2) rfl rfl (aS qg rfl)) rfl ?_
   refine aj.val rfl (aa rfl) rfl ?_
   obtain ⟨z63,hzz63,h⟩:=bind_some h
   refine aj.ret rfl (az rfl rfl) (iI E _ _ _ _ hzz63 _ _ (aN.eq (aN.eq .nil))) rfl ?_
   obtain ⟨z64,hzz64,h⟩:=bind_some h
   refine aj.ret rfl (az rfl rfl) (fI E _ _ _ _ _ hzz64 _ _ (aN.eq (aN.eq (aN.eq .nil)))) rfl ?_
   refine aj.val rfl (ak rfl) rfl ?_
   refine aj.nil ?_
   refine aD.seq ?_
   refine aD.region E.obj rfl ?_
   refine aj.val rfl (aa rfl) rfl ?_
   refine aj.val rfl (aH rfl rfl dR) rfl ?_
   refine aj.nil ?_
   refine aD.cond rfl (fun hb65=>?_) (fun hb65=>?_)
   ·
    replace h:=dH hb65 h
    refine aD.seq ?_
    refine aD.region E.obj rfl ?_
    refine aj.val rfl (aa rfl) rfl ?_
    refine aj.val rfl (aa rfl) rfl ?_
    obtain ⟨z66,hzz66,h⟩:=bind_some h
    refine aj.val rfl (bX rfl rfl (dU (enc:=D.str) hzz66 He Mr (((fun _=>rfl) _).trans K6.symm))) rfl ?_
    refine aj.val rfl (bG rfl (dY sW rfl)) rfl ?_
    refine aj.val rfl (bM (cs:=[(.d (.str z66)),(.d (.str [])),(.d (.str [])),(.d .aO),(.d .aO)]) fO rfl (bq) (fV rfl rfl rfl rfl rfl)) rfl ?_
    refine aj.less (Less.agg' (d:=bS (bf.mk z66 [] [] [])) (ax.eq rfl (ax.eq rfl (ax.eq rfl (ax.dE rfl (.aO false) rfl rfl (ax.eq rfl .nil))))) ((bf.eq _).trans rfl)) ?_
    refine aj.store H41 (i:=0) rfl rfl rfl rfl (bf.dx _) rfl bE rfl jc rfl rfl rfl (fun S67 H68=>?_)
    refine aj.nil ?_
    refine aD.join (B:=aL) (α:=Str) (fun a=>dP n a1 z8 x20 x22 x24 (aV n a1 z8 k25) x32 z66 a=some r) (fun a=>[(1,(.ptr b2 0 0)),(2,(.ptr b5 0 0)),(3,(.d (.sl (([[97],[98],[108,105],[111,117,116,108,101,116]]).map D.str) true))),(4,(.d (.sl ((z8).map D.str) false))),(5,v21),(6,v23),(7,(.d (.int .i64 x24))),(8,(.d (.int .i64 x32))),(9,(.ptr b37 0 0))]) (fun a=>[.box b37 [(.d (.str (bf.mk z66 [] [] []).Tag)),(.d (.str a)),(.d (.str (bf.mk z66 [] [] []).Text)),(.d (.sl (((bf.mk z66 [] [] []).aI).map ay) false)),(.d .aO)],.box b5 [(.d (.str [])),(.d (.str [])),(.d (.str [])),(.d .aO),(.d .aO)],.box b2 [(.d (.sl ((a1.Under).map (D.int .i64)) false)),(.d (.sl ((a1.Kinds).map (D.int .i64)) false)),(.d (.sl ((a1.Keys).map (D.int .i64)) false)),(.d (.sl ((a1.Texts).map (D.int .i64)) false))],.grow v21 ((x20).map bS),.grow v23 ((x22).map (D.int .i64))]) ?_ ?_
    ·
     intro x71 S69 H70 h
     replace h:dP n a1 z8 x20 x22 x24 (aV n a1 z8 k25) x32 z66 x71=some r:=h
     replace H70:Has aL S69 [.box b37 [(.d (.str (bf.mk z66 [] [] []).Tag)),(.d (.str x71)),(.d (.str (bf.mk z66 [] [] []).Text)),(.d (.sl (((bf.mk z66 [] [] []).aI).map ay) false)),(.d .aO)],.box b5 [(.d (.str [])),(.d (.str [])),(.d (.str [])),(.d .aO),(.d .aO)],.box b2 [(.d (.sl ((a1.Under).map (D.int .i64)) false)),(.d (.sl ((a1.Kinds).map (D.int .i64)) false)),(.d (.sl ((a1.Keys).map (D.int .i64)) false)),(.d (.sl ((a1.Texts).map (D.int .i64)) false))],.grow v21 ((x20).map bS),.grow v23 ((x22).map (D.int .i64))]:=H70
     unfold dP at h
     refine aD.seq ?_
     refine aD.region E.obj rfl ?_
     refine aj.val rfl (aF rfl ES nR rfl) rfl ?_
     refine aj.val rfl (aJ H70 (i:=2) rfl rfl (aS qg rfl)) rfl ?_
     refine aj.val rfl (aa rfl) rfl ?_
     obtain ⟨z73,hzz73,h⟩:=bind_some h
     refine aj.ret rfl (az rfl rfl) (iI E _ _ _ _ hzz73 _ _ (aN.eq (aN.eq .nil))) rfl ?_
     refine aj.val rfl (aH rfl rfl Ir) rfl ?_
     refine aj.val rfl (aH rfl rfl bD) rfl ?_
     refine aj.nil ?_
     refine aD.cond rfl (fun hb74=>?_) (fun hb74=>?_)
     ·
      replace h:=dH hb74 h
      refine aD.region E.obj rfl ?_
      refine aj.val rfl (aa rfl) rfl ?_
      refine aj.val rfl (aF rfl ES nR rfl) rfl ?_
      refine aj.val rfl (aJ H70 (i:=2) rfl rfl (aS qg rfl)) rfl ?_
      refine aj.val rfl (aa rfl) rfl ?_
      refine aj.val rfl (aH rfl rfl dF) rfl ?_
      obtain ⟨z75,hzz75,h⟩:=bind_some h
      refine aj.ret rfl (az rfl rfl) (iI E _ _ _ _ hzz75 _ _ (aN.eq (aN.eq .nil))) rfl ?_
      refine aj.val rfl (aa rfl) rfl ?_
      refine aj.val rfl (cz rfl LW) rfl ?_
      refine aj.val rfl (aH rfl rfl iB) rfl ?_
      obtain ⟨z76,hzz76,h⟩:=bind_some h
      refine aj.ret rfl (az rfl rfl) (fI E _ _ _ _ _ hzz76 _ _ (aN.eq (aN.eq (aN.eq .nil)))) rfl ?_
      obtain ⟨z77,hzz77,h⟩:=bind_some h
      refine aj.val rfl (bX rfl rfl (dU (enc:=D.str) hzz77 He Mr (((fun _=>rfl) _).trans K6.symm))) rfl ?_
      refine aj.val rfl (bG rfl (dY sW rfl)) rfl ?_
      refine aj.val rfl (bM (cs:=[(.d (.str [120])),(.d (.str z77))]) LM rfl (yZ) (fV rfl rfl rfl rfl (fV rfl rfl rfl rfl rfl))) rfl ?_
      refine aj.less (Less.agg' (d:=ay (Attr.mk [120] z77)) (ax.eq rfl (ax.eq rfl .nil)) ((Attr.eq _).trans rfl)) ?_
      refine aj.val rfl (aR (vs:=[(.d (ay (Attr.mk [120] z77)))]) (ds:=[(ay (Attr.mk [120] z77))]) Lp Ik Jw LM EF rfl (by decide) (.cons rfl (Attr.len _) .nil) rfl (by intro d hd; simp only [List.mem_cons,List.not_mem_nil,or_false] at hd; rcases hd with rfl <;> exact Attr.agg _) rfl) rfl ?_
      refine aj.val rfl (aF rfl vk Ab rfl) rfl ?_
      refine aj.store H70 (i:=0) rfl rfl rfl rfl rfl rfl Lf rfl LG rfl rfl rfl (fun S78 H79=>?_)
      refine aj.nil ?_
      obtain ⟨S80,hw81,H82⟩:=H79.Kg (i:=0) (cs':=[(.d (.str (bf.mk z66 [] [] []).Tag)),(.d (.str x71)),(.d (.str (bf.mk z66 [] [] []).Text)),(.d (.sl (([(Attr.mk [120] z77)]).map ay) false)),(.d .aO)]) rfl (.cons (.refl _) (.cons (.refl _) (.cons (.refl _) (.cons LP (.cons (.refl _) .nil)))))
      exact ⟨⟨(bf.mk z66 [] [] []).Tag,x71,(bf.mk z66 [] [] []).Text,[(Attr.mk [120] z77)]⟩,_,_,S80,.refl _ _,hw81,(au.r rfl (au.r rfl (au.r rfl (au.r rfl (au.r rfl (au.r rfl (au.r rfl (au.r rfl (au.r rfl au.nil))))))))),H82.sl [0,1,2,3,4] rfl rfl,h⟩
     replace h:=dI hb74 h
     refine aD.skip ?_
     exact ⟨⟨(bf.mk z66 [] [] []).Tag,x71,(bf.mk z66 [] [] []).Text,(bf.mk z66 [] [] []).aI⟩,_,_,S69,.refl _ _,.refl _,(au.r rfl (au.r rfl (au.r rfl (au.r rfl (au.r rfl (au.r rfl (au.r rfl (au.r rfl (au.r rfl au.nil))))))))),H70.sl [0,1,2,3,4] rfl rfl,h⟩
    refine aD.seq ?_
    refine aD.region E.obj rfl ?_
    refine aj.val rfl (aF rfl Lt nR rfl) rfl ?_
    refine aj.val rfl (aJ H68 (i:=2) rfl rfl (aS qg rfl)) rfl ?_
    refine aj.val rfl (aa rfl) rfl ?_
    obtain ⟨z83,hzz83,h⟩:=bind_some h
    refine aj.ret rfl (az rfl rfl) (iI E _ _ _ _ hzz83 _ _ (aN.eq (aN.eq .nil))) rfl ?_
    obtain ⟨z84,hzz84,h⟩:=bind_some h
    refine aj.ret rfl (az rfl rfl) (fI E _ _ _ _ _ hzz84 _ _ (aN.eq (aN.eq (aN.eq .nil)))) rfl ?_
    refine aj.val rfl (ak rfl) rfl ?_
    refine aj.nil ?_
    refine aD.seq ?_
    refine aD.region E.obj rfl ?_
    refine aj.val rfl (aa rfl) rfl ?_
    refine aj.val rfl (aH rfl rfl dR) rfl ?_
    refine aj.nil ?_
    refine aD.cond rfl (fun hb85=>?_) (fun hb85=>?_)
    ·
     replace h:=dH hb85 h
     refine aD.region E.obj rfl ?_
     refine aj.val rfl (aa rfl) rfl ?_
     refine aj.val rfl (aH rfl rfl dF) rfl ?_
     refine aj.val rfl (Al rfl Ov OT) rfl ?_
     refine aj.val rfl (aR (vs:=[(.d (.int .u8 (IntKind.wrap .u8 (IntKind.wrap .i64 (48 + z84)))))]) (ds:=[(.int .u8 (IntKind.wrap .u8 (IntKind.wrap .i64 (48 + z84))))]) MW MR OA OE Oz rfl (by decide) (.cons rfl rfl .nil) rfl (by intro d hd; simp only [List.mem_cons,List.not_mem_nil,or_false] at hd; rcases hd with rfl <;> rfl) rfl) rfl ?_
     refine aj.val rfl (x9 (l:=[(IntKind.wrap .u8 (IntKind.wrap .i64 (48 + z84)))]) rfl OQ N7) rfl ?_
     refine aj.val rfl (aF rfl uZ uK rfl) rfl ?_
     refine aj.store H68 (i:=0) rfl rfl rfl rfl rfl rfl K6 rfl Mr rfl rfl rfl (fun S86 H87=>?_)
     refine aj.nil ?_
     exact ⟨(([(IntKind.wrap .u8 (IntKind.wrap .i64 (48 + z84)))]).map fun (n:Int)=>UInt8.ofNat n.toNat),_,_,S86,.refl _ _,.refl _,(au.r rfl (au.r rfl (au.r rfl (au.r rfl (au.r rfl (au.r rfl (au.r rfl (au.r rfl (au.r rfl au.nil))))))))),H87.sl [0,1,2,3,4] rfl rfl,h⟩
    replace h:=dI hb85 h
    refine aD.skip ?_
    exact ⟨(bf.mk z66 [] [] []).Key,_,_,S67,.refl _ _,.refl _,(au.r rfl (au.r rfl (au.r rfl (au.r rfl (au.r rfl (au.r rfl (au.r rfl (au.r rfl (au.r rfl au.nil))))))))),H68.sl [0,1,2,3,4] rfl rfl,h⟩
   replace h:=dI hb65 h
   refine aD.skip ?_
   exact ⟨⟨(bf.mk [] [] z36 []).Tag,(bf.mk [] [] z36 []).Key,(bf.mk [] [] z36 []).Text,(bf.mk [] [] z36 []).aI⟩,_,_,S40,.refl _ _,.refl _,(au.r rfl (au.r rfl (au.r rfl (au.r rfl (au.r rfl (au.r rfl (au.r rfl (au.r rfl (au.r rfl au.nil))))))))),H41.sl [0,1,2,3,4] rfl rfl,h⟩
  refine aD.seq ?_
  refine aD.region E.obj rfl ?_
  refine aj.val rfl (aa rfl) rfl ?_
  refine aj.val rfl (aa rfl) rfl ?_
  obtain ⟨z88,hzz88,h⟩:=bind_some h
  refine aj.val rfl (bX rfl rfl (Ci (enc:=bS) H19 (i:=2) rfl hzz88 kJ jc ((bf.len _).trans bE.symm))) rfl ?_
  refine aj.val rfl (xY rfl oQ uK rfl) rfl ?_
  refine aj.val rfl (bG rfl (by rw [bf.cells]; exact dY sW rfl)) rfl ?_
  refine aj.val rfl (aH rfl rfl lL) rfl ?_
  refine aj.nil ?_
  refine aD.cond rfl (fun hb89=>?_) (fun hb89=>?_)
  ·
   replace h:=dH hb89 h
   refine aD.region E.obj rfl ?_
   refine aj.val rfl (ak rfl) rfl ?_
   refine aj.nil ?_
   exact ⟨0,_,_,S18,.refl _ _,.refl _,(au.r rfl (au.r rfl (au.r rfl (au.r rfl (au.r rfl (au.r rfl (au.r rfl (au.r rfl au.nil)))))))),H19.sl [0,1,2,3] rfl rfl,h⟩
  replace h:=dI hb89 h
  refine aD.skip ?_
  exact ⟨z29,_,_,S18,.refl _ _,.refl _,(au.r rfl (au.r rfl (au.r rfl (au.r rfl (au.r rfl (au.r rfl (au.r rfl (au.r rfl au.nil)))))))),H19.sl [0,1,2,3] rfl rfl,h⟩
 replace h:=dI hb27 h
 refine aD.exit ?_
 refine aD.seq ?_
 refine aD.region E.obj rfl ?_
 refine aj.val rfl (aa rfl) rfl ?_
 refine aj.val rfl (aa rfl) rfl ?_
 obtain ⟨z90,hzz90,h⟩:=bind_some h
 refine aj.ret rfl (az rfl rfl) (nX E _ _ _ _ _ hzz90 _ _ (aN.grow H19 (i:=2) rfl (aN.grow H19 (i:=3) rfl (aN.eq .nil)))) rfl ?_
 refine aj.store H19 (i:=0) rfl rfl rfl rfl (Tree.dx _) rfl bE rfl jc rfl rfl rfl (fun S91 H92=>?_)
 refine aj.nil ?_
 have hr:=Option.some.inj h
 subst hr
 exact aD.ret ⟨_,jw H92 (i:=0) rfl rfl rfl (aW dX bE rfl),rfl,kR (aN.lZ (d:=ai z90) (ax.eq rfl (ax.eq rfl (ax.eq rfl (ax.eq rfl (ax.eq rfl .nil))))) ((Tree.eq _).trans rfl))⟩
theorem pG (n:Nat) (a1:List Int) (r:List Int) (h:iO n a1=some r) (w:AV):dz R cfg.P 64 [w] [aG w a1] (fun v l=>l=[.row 1 v ((r).map (D.int .i64)),aG w a1]):=by
 unfold iO at h
 refine dz.of_wp (C:=rM) Try.func64 rfl MM rfl (fun B0 S0 H0=>?_)
 refine aD.seq ?_
 refine aD.region (eX E) rfl ?_
 refine aj.val rfl (ak rfl) rfl ?_
 refine aj.nil ?_
 refine aD.seq ?_
 refine aD.seq ?_
 refine aD.region (eX E) rfl ?_
 refine aj.val rfl (aa rfl) rfl ?_
 refine aj.Hz H0 rfl rfl rfl Md rfl (fun bb hbb hbn=>?_)
 refine aj.nil ?_
 refine aD.cond rfl (fun hb=>?_) (fun hb=>?_)
 ·
  have e:=hbb hb
  subst e
  have hr:=(mq h).2
  subst hr
  refine aD.seq ?_
  refine aD.region (eX E) rfl ?_
  refine aj.val rfl (ak rfl) rfl ?_
  refine aj.nil ?_
  exact aD.ret ⟨_,rfl,rfl,_,_,_,.refl _,.refl _,rfl,H0.KZ 1⟩
 ·
  refine aD.skip ?_
  refine aD.seq ?_
  refine aD.region (eX E) rfl ?_
  refine aj.val rfl (qa JX fQ nV) rfl ?_
  refine aj.val rfl (aa rfl) rfl ?_
  refine aj.Jm H0 rfl (hbn hb) rfl rfl qm zM fQ kV h KC rfl DK rfl (fun v2 S2 H2=>?_)
  refine aj.val rfl (ak rfl) rfl ?_
  refine aj.nil ?_
  exact aD.ret ⟨_,rfl,rfl,_,_,_,.refl _,.refl _,rfl,H2⟩
set_option maxRecDepth 20000 in
set_option maxHeartbeats 4000000 in
theorem kZ (n:Nat) (a2:aB) (a6:Int) (r:(List Int)) (h:iN n a2 a6=some r) (b1:Nat) (v3:AV) (ws4:List (List AV)) (w5:AV):dz R cfg.P 19 [.ptr b1 0 0,.d (.int .i64 a6)] [.box b1 [v3,w5],aA ae ah.kids 7 5 v3 ws4 a2.l none,aG w5 a2.freed] (fun v l=>v=.d (.sl ((r).map (D.int .i64)) false)∧l=[.box b1 [v3,w5],aA ae ah.kids 7 5 v3 ws4 a2.l none,aG w5 a2.freed]):=by
 unfold iN at h
 refine dz.of_wp (C:=cfg) Try.func19 rfl Nc rfl (fun B0 S0 H0=>?_)
 replace H0:Has B0 S0 [.box b1 [v3,w5],aA ae ah.kids 7 5 v3 ws4 a2.l none,aG w5 a2.freed]:=H0
 refine aD.seq ?_
 refine aD.region E.obj rfl ?_
 refine aj.val rfl (ak rfl) rfl ?_
 refine aj.nil ?_
 refine aD.seq ?_
 refine aD.region E.obj rfl ?_
 refine aj.val rfl (aa rfl) rfl ?_
 refine aj.val rfl (aa rfl) rfl ?_
 obtain ⟨z7,hzz7,h⟩:=bind_some h
 refine aj.bR (ins:=[.box b1 [v3,w5],aA ae ah.kids 7 5 v3 ws4 a2.l none,aG w5 a2.freed]) (more:=[]) (H0.sl [0,1,2] rfl rfl) rfl (az rfl rfl) (gz E n _ _ _ hzz7 b1 v3 ws4 w5) (.cons (.refl _) (.cons (.refl _) .nil)) rfl ?_
 rintro v8 S9 l10 hr11 H12
 rcases z7 with _ | _
 ·
  obtain ⟨rfl,rfl⟩:=hr11
  replace h:=dI rfl h
  replace H12:Has B0 S9 [.box b1 [v3,w5],aA ae ah.kids 7 5 v3 ws4 a2.l none,aG w5 a2.freed]:=H12
  have H13:Has B0 S9 [.box b1 [v3,w5],aA ae ah.kids 7 5 v3 ws4 a2.l none,aG w5 a2.freed]:=H12.sl [0,1,2] rfl rfl
  refine aj.val rfl (ak rfl) rfl ?_
  refine aj.nil ?_
  refine aD.seq ?_
  refine aD.seq ?_
  refine aD.region E.obj rfl ?_
  refine aj.val rfl (aa rfl) rfl ?_
  refine aj.val rfl (aH rfl rfl (lq qB)) rfl ?_
  refine aj.nil ?_
  refine aD.cond rfl (fun hb=>?_) (fun hb=>?_)
  ·
   refine aD.seq ?_
   refine aD.region E.obj rfl ?_
   refine aj.val rfl (ak rfl) rfl ?_
   refine aj.nil ?_
   have hr:=Option.some.inj h
   subst hr
   exact aD.ret ⟨_,rfl,rfl,_,_,_,.refl _,K4,⟨rfl,rfl⟩,H13.sl [0,1,2] rfl rfl⟩
  cases hb
 obtain ⟨rfl,rfl⟩:=hr11
 replace h:=dH rfl h
 have H14:Has B0 S9 [.box b1 [v3,w5],aA ae ah.kids 7 5 v3 ws4 a2.l none,aG w5 a2.freed]:=H12.sl [0,1,2] rfl rfl
 refine aj.val rfl (ak rfl) rfl ?_
 refine aj.nil ?_
 refine aD.seq ?_
 refine aD.seq ?_
 refine aD.region E.obj rfl ?_
 refine aj.val rfl (aa rfl) rfl ?_
 obtain ⟨z15,hzz15,h⟩:=bind_some h
 refine aj.val rfl (kW H14 (q:=1) rfl hzz15 rfl rfl qB) rfl ?_
 refine aj.nil ?_
 refine aD.cond rfl (fun hb=>?_) (fun hb=>?_)
 ·
  cases hb
 refine aD.skip ?_
 refine aD.seq ?_
 refine aD.region E.obj rfl ?_
 refine aj.val rfl (aa rfl) rfl ?_
 refine aj.val rfl (bL H14 (q:=1) rfl hzz15 rfl) rfl ?_
 refine aj.val rfl (bz H14 (i:=1) rfl hzz15 rfl oU nR rfl) rfl ?_
 refine aj.val rfl (iw H14 (i:=1) rfl hzz15 rfl qg) rfl ?_
 obtain ⟨z16,hzz16,h⟩:=bind_some h
 have H17:Has B0 S9 ([aA ae ah.kids 7 5 v3 ws4 a2.l none] ++ [.box b1 [v3,w5],aG w5 a2.freed]):=H14.sl [1,0,2] rfl rfl
 replace H17:Has B0 S9 [aA ae ah.kids 7 5 v3 ws4 a2.l none,.box b1 [v3,w5],aG w5 a2.freed]:=H17
 have H18:=Has.take H17 (dN hzz15).2
 have H19:Has B0 S9 [aG (jW 5 ws4 (Int.toNat (IntKind.wrap .i64 (a6 - 1)))) z15.kids,.box b1 [v3,w5],aA ae ah.kids 7 5 v3 ws4 a2.l (some (Int.toNat (IntKind.wrap .i64 (a6 - 1)))),aG w5 a2.freed]:=H18.sl [0,2,1,3] rfl rfl
 refine aj.bR (ins:=[aG (jW 5 ws4 (Int.toNat (IntKind.wrap .i64 (a6 - 1)))) z15.kids]) (more:=[.box b1 [v3,w5],aA ae ah.kids 7 5 v3 ws4 a2.l (some (Int.toNat (IntKind.wrap .i64 (a6 - 1)))),aG w5 a2.freed]) (H19.sl [0,1,2,3] rfl rfl) rfl (az rfl rfl) (pG E n _ _ hzz16 _) (.cons (.refl _) .nil) rfl ?_
 rintro v20 S21 _ rfl H22
 have H23:Has B0 S21 [.row 1 v20 ((z16).map (D.int .i64)),aG (jW 5 ws4 (Int.toNat (IntKind.wrap .i64 (a6 - 1)))) z15.kids,.box b1 [v3,w5],aA ae ah.kids 7 5 v3 ws4 a2.l (some (Int.toNat (IntKind.wrap .i64 (a6 - 1)))),aG w5 a2.freed]:=H22.sl [0,1,2,3,4] rfl rfl
 have H24:Has B0 S21 ([aG (jW 5 ws4 (Int.toNat (IntKind.wrap .i64 (a6 - 1)))) z15.kids,aA ae ah.kids 7 5 v3 ws4 a2.l (some (Int.toNat (IntKind.wrap .i64 (a6 - 1))))] ++ [.row 1 v20 ((z16).map (D.int .i64)),.box b1 [v3,w5],aG w5 a2.freed]):=H23.sl [1,3,0,2,4] rfl rfl
 replace H24:Has B0 S21 [aG (jW 5 ws4 (Int.toNat (IntKind.wrap .i64 (a6 - 1)))) z15.kids,aA ae ah.kids 7 5 v3 ws4 a2.l (some (Int.toNat (IntKind.wrap .i64 (a6 - 1)))),.row 1 v20 ((z16).map (D.int .i64)),.box b1 [v3,w5],aG w5 a2.freed]:=H24
 have H25:=Has.Ls H24 (dN hzz15).2
 have H26:Has B0 S21 [.row 1 v20 ((z16).map (D.int .i64)),.box b1 [v3,w5],aA ae ah.kids 7 5 v3 ws4 a2.l none,aG w5 a2.freed]:=H25.sl [1,2,0,3] rfl rfl
 refine aj.val rfl (ak rfl) rfl ?_
 refine aj.nil ?_
 obtain ⟨SF1,HF1,hgF1⟩:=H26.freeze E.obj.toObjOk (i:=0) (l':=[.box b1 [v3,w5],aA ae ah.kids 7 5 v3 ws4 a2.l none,aG w5 a2.freed]) rfl (.same (.same (.same .nil)))
 refine aD.ghost (hgF1 _ _ [(0,(.ptr b1 0 0)),(1,(.d (.int .i64 a6))),(4,(.d (.sl ((z16).map (D.int .i64)) false))),(5,(dh v3 (Int.toNat (IntKind.wrap .i64 (a6 - 1))) 0)),(6,(.ptr b1 0 0)),(7,(.d (.int .i64 a6))),(8,(dh v3 (Int.toNat (IntKind.wrap .i64 (a6 - 1))) 0)),(9,(dh v3 (Int.toNat (IntKind.wrap .i64 (a6 - 1))) 0)),(10,(.d (.bool false))),(11,(dh v3 (Int.toNat (IntKind.wrap .i64 (a6 - 1))) 0)),(12,(dh v3 (Int.toNat (IntKind.wrap .i64 (a6 - 1))) 0)),(13,(dh v3 (Int.toNat (IntKind.wrap .i64 (a6 - 1))) 5)),(14,(jW 5 ws4 (Int.toNat (IntKind.wrap .i64 (a6 - 1))))),(15,(.d (.sl ((z16).map (D.int .i64)) false)))] (.cons rfl (.refl _) (.cons rfl (.refl _) (.it rfl (.cons rfl (.refl _) (.cons rfl (.refl _) (.cons rfl (.refl _) (.cons rfl (.refl _) (.cons rfl (.refl _) (.cons rfl (.refl _) (.cons rfl (.refl _) (.cons rfl (.refl _) (.cons rfl (.refl _) (.cons rfl (.refl _) (.it rfl .nil))))))))))))))) ?_
 have hr:=Option.some.inj h
 subst hr
 exact aD.ret ⟨_,rfl,rfl,_,_,_,.refl _,(.refl _),⟨rfl,rfl⟩,HF1.sl [0,1,2] rfl rfl⟩
set_option maxRecDepth 20000 in
set_option maxHeartbeats 4000000 in
theorem rQ (n:Nat) (a2:aB) (r:Int) (h:jm n a2=some r) (b1:Nat) (v3:AV) (ws4:List (List AV)) (w5:AV):dz R cfg.P 17 [.ptr b1 0 0] [.box b1 [v3,w5],aA ae ah.kids 7 5 v3 ws4 a2.l none,aG w5 a2.freed] (fun v l=>v=.d (.int .i64 r)∧l=[.box b1 [v3,w5],aA ae ah.kids 7 5 v3 ws4 a2.l none,aG w5 a2.freed]):=by
 unfold jm at h
 refine dz.of_wp (C:=cfg) Try.func17 rfl Na rfl (fun B0 S0 H0=>?_)
 replace H0:Has B0 S0 [.box b1 [v3,w5],aA ae ah.kids 7 5 v3 ws4 a2.l none,aG w5 a2.freed]:=H0
 refine aD.seq ?_
 refine aD.region E.obj rfl ?_
 refine aj.val rfl (ak rfl) rfl ?_
 refine aj.nil ?_
 refine aD.seq ?_
 refine aD.region E.obj rfl ?_
 refine aj.val rfl (ak rfl) rfl ?_
 refine aj.nil ?_
 have hr:=Option.some.inj h
 subst hr
 exact aD.ret ⟨_,rfl,rfl,_,_,_,.refl _,(.refl _),⟨rfl,rfl⟩,H0.sl [0,1,2] rfl rfl⟩
set_option maxRecDepth 20000 in
set_option maxHeartbeats 4000000 in
theorem cK:∀ (n:Nat) (a2:aB) (a6:Int) (r:Int),bN n a2 a6=some r→∀ (b1:Nat) (v3:AV) (ws4:List (List AV)) (w5:AV),dz R cfg.P 53 [.ptr b1 0 0,.d (.int .i64 a6)] [.box b1 [v3,w5],aA ae ah.kids 7 5 v3 ws4 a2.l none,aG w5 a2.freed] (fun v l=>v=.d (.int .i64 r)∧l=[.box b1 [v3,w5],aA ae ah.kids 7 5 v3 ws4 a2.l none,aG w5 a2.freed])
 | 0,a2,a6,r,h,b1,v3,ws4,w5=>by simp [bN] at h
 | n + 1,a2,a6,r,h,b1,v3,ws4,w5=>by
  have ih:=cK n
  unfold bN at h
  refine dz.of_wp (C:=cfg) Try.func53 rfl NK rfl (fun B0 S0 H0=>?_)
  replace H0:Has B0 S0 [.box b1 [v3,w5],aA ae ah.kids 7 5 v3 ws4 a2.l none,aG w5 a2.freed]:=H0
  refine aD.seq ?_
  refine aD.region E.obj rfl ?_
  refine aj.val rfl (ak rfl) rfl ?_
  refine aj.nil ?_
  refine aD.seq ?_
  refine aD.region E.obj rfl ?_
  refine aj.val rfl (aa rfl) rfl ?_
  refine aj.val rfl (aa rfl) rfl ?_
  obtain ⟨z7,hzz7,h⟩:=bind_some h
  refine aj.bR (ins:=[.box b1 [v3,w5],aA ae ah.kids 7 5 v3 ws4 a2.l none,aG w5 a2.freed]) (more:=[]) (H0.sl [0,1,2] rfl rfl) rfl (az rfl rfl) (jY E n _ _ _ hzz7 b1 v3 ws4 w5) (.cons (.refl _) (.cons (.refl _) .nil)) rfl ?_
  rintro _ S8 _ ⟨rfl,rfl⟩ H9
  have H10:Has B0 S8 [.box b1 [v3,w5],aA ae ah.kids 7 5 v3 ws4 a2.l none,aG w5 a2.freed]:=H9.sl [0,1,2] rfl rfl
  refine aj.val rfl (aa rfl) rfl ?_
  refine aj.val rfl (eu rfl rfl) rfl ?_
  refine aj.val rfl (eu rfl rfl) rfl ?_
  refine aj.alloc H10 rfl rV fO rfl rfl (fun b11 S12 H13=>?_)
  refine aj.store H13 (i:=0) rfl rfl rfl rfl (Tree.dx _) rfl bE rfl jc rfl rfl rfl (fun S14 H15=>?_)
  refine aj.val rfl (ak rfl) rfl ?_
  refine aj.nil ?_
  refine aD.seq ?_
  refine aD.block ?_
  refine aD.seq ?_
  refine aD.region E.obj rfl ?_
  refine aj.val rfl (aa rfl) rfl ?_
  refine aj.val rfl (gW rfl) rfl ?_
  refine aj.val rfl (ak rfl) rfl ?_
  refine aj.nil ?_
  refine aD.cond rfl (fun hb16=>?_) (fun hb16=>?_)
  ·
   replace h:=dH hb16 h
   refine aD.seq ?_
   refine aD.region E.obj rfl ?_
   refine aj.val rfl (ak rfl) rfl ?_
   refine aj.nil ?_
   have hr:=Option.some.inj h
   subst hr
   exact aD.ret ⟨_,rfl,rfl,_,_,_,.refl _,(.refl _),⟨rfl,rfl⟩,H15.sl [1,2,3] rfl rfl⟩
  replace h:=dI hb16 h
  refine aD.seq ?_
  refine aD.region E.obj rfl ?_
  refine aj.val rfl (aa rfl) rfl ?_
  refine aj.val rfl (aa rfl) rfl ?_
  obtain ⟨z17,hzz17,h⟩:=bind_some h
  refine aj.bR (ins:=[.box b1 [v3,w5],aA ae ah.kids 7 5 v3 ws4 a2.l none,aG w5 a2.freed]) (more:=[.box b11 [(.d (.str z7.1.Tag)),(.d (.str z7.1.Key)),(.d (.str z7.1.Text)),(.d (.sl ((z7.1.aI).map ay) false)),(.d (.sl ((z7.1.Kids).map ai) false))]]) (H15.sl [1,2,3,0] rfl rfl) rfl (az rfl rfl) (rQ E n _ _ hzz17 b1 v3 ws4 w5) (.cons (.refl _) .nil) rfl ?_
  rintro _ S18 _ ⟨rfl,rfl⟩ H19
  have H20:Has B0 S18 [.box b11 [(.d (.str z7.1.Tag)),(.d (.str z7.1.Key)),(.d (.str z7.1.Text)),(.d (.sl ((z7.1.aI).map ay) false)),(.d (.sl ((z7.1.Kids).map ai) false))],.box b1 [v3,w5],aA ae ah.kids 7 5 v3 ws4 a2.l none,aG w5 a2.freed]:=H19.sl [3,0,1,2] rfl rfl
  refine aj.val rfl (aH rfl rfl bD) rfl ?_
  refine aj.val rfl (aa rfl) rfl ?_
  refine aj.jS 4 28 (.d (.bool ((a6 == z17) || (z7.1.Tag == [111,117,116,108,101,116])))) ?_ ?_
  ·
   rcases Bool.eq_false_or_eq_true ((a6 == z17)) with hB21 | hB21
   ·
    refine aj.bool hB21 ?_
    refine aj.no rfl rfl ?_
    refine aj.no rfl rfl ?_
    refine aj.no rfl rfl ?_
    refine aj.val rfl (aC (b:=true) rfl rfl) rfl ?_
    exact aj.nil ⟨_,rfl,(au.put (au.push rfl (au.push rfl (au.push rfl (au.put (.refl _) (Less.eq (by rw [hB21])))))) (Less.eq (by rw [hB21]; rw [Bool.true_or])))⟩
   refine aj.bool hB21 ?_
   refine aj.val rfl (aF rfl oQ uK rfl) rfl ?_
   refine aj.val rfl (aJ H20 (i:=0) rfl rfl (aS sW rfl)) rfl ?_
   refine aj.val rfl (aH rfl rfl lL) rfl ?_
   refine aj.val rfl (aC (b:=false) rfl rfl) rfl ?_
   exact aj.nil ⟨_,rfl,(au.put (au.push rfl (au.push rfl (au.push rfl (au.put (.refl _) (Less.eq (by rw [hB21])))))) (Less.eq (by rw [hB21]; rw [Bool.false_or])))⟩
  refine aj.val rfl (ak rfl) rfl ?_
  refine aj.nil ?_
  refine aD.cond rfl (fun hb22=>?_) (fun hb22=>?_)
  ·
   replace h:=dH hb22 h
   refine aD.seq ?_
   refine aD.region E.obj rfl ?_
   refine aj.val rfl (aa rfl) rfl ?_
   refine aj.val rfl (ak rfl) rfl ?_
   refine aj.nil ?_
   have hr:=Option.some.inj h
   subst hr
   exact aD.ret ⟨_,rfl,rfl,_,_,_,.refl _,(.refl _),⟨rfl,rfl⟩,H20.sl [1,2,3] rfl rfl⟩
  replace h:=dI hb22 h
  refine aD.skip ?_
  refine aD.seq ?_
  refine aD.seq ?_
  refine aD.region E.obj rfl ?_
  refine aj.val rfl (aa rfl) rfl ?_
  refine aj.val rfl (aa rfl) rfl ?_
  obtain ⟨z23,hzz23,h⟩:=bind_some h
  refine aj.bR (ins:=[.box b1 [v3,w5],aA ae ah.kids 7 5 v3 ws4 a2.l none,aG w5 a2.freed]) (more:=[.box b11 [(.d (.str z7.1.Tag)),(.d (.str z7.1.Key)),(.d (.str z7.1.Text)),(.d (.sl ((z7.1.aI).map ay) false)),(.d (.sl ((z7.1.Kids).map ai) false))]]) (H20.sl [1,2,3,0] rfl rfl) rfl (az rfl rfl) (kZ E n _ _ _ hzz23 b1 v3 ws4 w5) (.cons (.refl _) (.cons (.refl _) .nil)) rfl ?_
  rintro _ S24 _ ⟨rfl,rfl⟩ H25
  have H26:Has B0 S24 [.box b11 [(.d (.str z7.1.Tag)),(.d (.str z7.1.Key)),(.d (.str z7.1.Text)),(.d (.sl ((z7.1.aI).map ay) false)),(.d (.sl ((z7.1.Kids).map ai) false))],.box b1 [v3,w5],aA ae ah.kids 7 5 v3 ws4 a2.l none,aG w5 a2.freed]:=H25.sl [3,0,1,2] rfl rfl
  refine aj.val rfl (cz rfl nZ) rfl ?_
  refine aj.val rfl (aa rfl) rfl ?_
  refine aj.nil ?_
  refine aD.block ?_
  refine qo.start (B:=B0) (α:=Int) (fun k a=>fT (bN n) a2 z23 k a=some r) (fun a=>[(0,(.ptr b1 0 0)),(32,(.d (.sl ((z23).map (D.int .i64)) false))),(33,(.d (.int .i64 ((z23).length:Int)))),(34,(.d (.int .i64 a)))]) (fun a=>[.box b1 [v3,w5],aA ae ah.kids 7 5 v3 ws4 a2.l none,aG w5 a2.freed]) ?_ ?_ n ⟨0,_,_,S24,.refl _ _,.refl _,(au.r rfl (au.r rfl (au.r rfl (au.r rfl au.nil)))),H26.sl [1,2,3] rfl rfl,h⟩
  ·
   intro a h; simp [fT] at h
  intro k35 x34 S32 H33 h
  replace h:fT (bN n) a2 z23 (k35 + 1) x34=some r:=h
  replace H33:Has B0 S32 [.box b1 [v3,w5],aA ae ah.kids 7 5 v3 ws4 a2.l none,aG w5 a2.freed]:=H33
  unfold fT at h
  refine aD.seq ?_
  refine aD.region E.obj rfl ?_
  refine aj.val rfl (aH rfl rfl dR) rfl ?_
  refine aj.nil ?_
  refine aD.seq ?_
  refine aD.cond rfl (fun hb36=>?_) (fun hb36=>?_)
  ·
   replace h:=dH hb36 h
   refine aD.skip ?_
   refine aD.seq ?_
   refine aD.block ?_
   refine aD.seq ?_
   refine aD.region E.obj rfl ?_
   obtain ⟨z37,hzz37,h⟩:=bind_some h
   refine aj.val rfl (bX rfl rfl (dU (enc:=(D.int .i64)) hzz37 fQ vV (((fun _=>rfl) _).trans kV.symm))) rfl ?_
   refine aj.val rfl (bG rfl (dY nV rfl)) rfl ?_
   refine aj.val rfl (ak rfl) rfl ?_
   refine aj.nil ?_
   refine aD.seq ?_
   refine aD.region E.obj rfl ?_
   refine aj.val rfl (aa rfl) rfl ?_
   refine aj.val rfl (aa rfl) rfl ?_
   obtain ⟨z38,hzz38,h⟩:=bind_some h
   refine aj.bR (ins:=[.box b1 [v3,w5],aA ae ah.kids 7 5 v3 ws4 a2.l none,aG w5 a2.freed]) (more:=[]) (H33.sl [0,1,2] rfl rfl) rfl (az rfl rfl) (ih _ _ _ hzz38 b1 v3 ws4 w5) (.cons (.refl _) (.cons (.refl _) .nil)) rfl ?_
   rintro _ S39 _ ⟨rfl,rfl⟩ H40
   have H41:Has B0 S39 [.box b1 [v3,w5],aA ae ah.kids 7 5 v3 ws4 a2.l none,aG w5 a2.freed]:=H40.sl [0,1,2] rfl rfl
   refine aj.val rfl (ak rfl) rfl ?_
   refine aj.nil ?_
   refine aD.seq ?_
   refine aD.region E.obj rfl ?_
   refine aj.val rfl (aa rfl) rfl ?_
   refine aj.val rfl (aH rfl rfl sP) rfl ?_
   refine aj.nil ?_
   refine aD.cond rfl (fun hb42=>?_) (fun hb42=>?_)
   ·
    replace h:=dH hb42 h
    refine aD.seq ?_
    refine aD.region E.obj rfl ?_
    refine aj.val rfl (aa rfl) rfl ?_
    refine aj.val rfl (ak rfl) rfl ?_
    refine aj.nil ?_
    have hr:=Option.some.inj h
    subst hr
    exact aD.ret ⟨_,rfl,rfl,_,_,_,.refl _,(.refl _),⟨rfl,rfl⟩,H41.sl [0,1,2] rfl rfl⟩
   replace h:=dI hb42 h
   refine aD.skip ?_
   refine aD.region E.obj rfl ?_
   refine aj.val rfl (aH rfl rfl dF) rfl ?_
   refine aj.val rfl (aa rfl) rfl ?_
   refine aj.nil ?_
   exact ⟨(IntKind.wrap .i64 (x34 + 1)),_,_,S39,.refl _ _,.refl _,(au.r rfl (au.r rfl (au.r rfl (au.r rfl au.nil)))),H41.sl [0,1,2] rfl rfl,h⟩
  replace h:=dI hb36 h
  refine aD.exit ?_
  refine aD.seq ?_
  refine aD.region E.obj rfl ?_
  refine aj.val rfl (ak rfl) rfl ?_
  refine aj.nil ?_
  have hr:=Option.some.inj h
  subst hr
  exact aD.ret ⟨_,rfl,rfl,_,_,_,.refl _,(.refl _),⟨rfl,rfl⟩,H33.sl [0,1,2] rfl rfl⟩
set_option maxRecDepth 20000 in
set_option maxHeartbeats 4000000 in
theorem gT (n:Nat) (a2:aB) (a6:Int) (a7:Int) (r:(Bool × aB)) (h:gU n a2 a6 a7=some r) (b1:Nat) (v3:AV) (ws4:List (List AV)) (w5:AV):dz R cfg.P 52 [.ptr b1 0 0,.d (.int .i64 a6),.d (.int .i64 a7)] [.box b1 [v3,w5],aA ae ah.kids 7 5 v3 ws4 a2.l none,aG w5 a2.freed] (fun v l=>v=.d (.bool r.1)∧∃ dws0 dw0,l=[.box b1 [v3,dw0],aA ae ah.kids 7 5 v3 dws0 r.2.l none,aG dw0 r.2.freed]):=by
 unfold gU at h
 refine dz.of_wp (C:=cfg) Try.func52 rfl Oa rfl (fun B0 S0 H0=>?_)
 replace H0:Has B0 S0 [.box b1 [v3,w5],aA ae ah.kids 7 5 v3 ws4 a2.l none,aG w5 a2.freed]:=H0
 refine aD.seq ?_
 refine aD.region E.obj rfl ?_
 refine aj.val rfl (ak rfl) rfl ?_
 refine aj.nil ?_
 refine aD.seq ?_
 refine aD.region E.obj rfl ?_
 refine aj.val rfl (aa rfl) rfl ?_
 refine aj.val rfl (aa rfl) rfl ?_
 obtain ⟨z8,hzz8,h⟩:=bind_some h
 refine aj.bR (ins:=[.box b1 [v3,w5],aA ae ah.kids 7 5 v3 ws4 a2.l none,aG w5 a2.freed]) (more:=[]) (H0.sl [0,1,2] rfl rfl) rfl (az rfl rfl) (cK E n _ _ _ hzz8 b1 v3 ws4 w5) (.cons (.refl _) (.cons (.refl _) .nil)) rfl ?_
 rintro _ S9 _ ⟨rfl,rfl⟩ H10
 have H11:Has B0 S9 [.box b1 [v3,w5],aA ae ah.kids 7 5 v3 ws4 a2.l none,aG w5 a2.freed]:=H10.sl [0,1,2] rfl rfl
 refine aj.val rfl (ak rfl) rfl ?_
 refine aj.nil ?_
 refine aD.seq ?_
 refine aD.region E.obj rfl ?_
 refine aj.val rfl (aa rfl) rfl ?_
 refine aj.val rfl (aH rfl rfl sP) rfl ?_
 refine aj.val rfl (aa rfl) rfl ?_
 rcases Bool.eq_false_or_eq_true ((decide (0 < z8))) with hB12 | hB12
 ·
  replace h:=dH hB12 h
  refine aj.bool hB12 ?_
  refine aj.val rfl (aa rfl) rfl ?_
  refine aj.val rfl (aa rfl) rfl ?_
  obtain ⟨z13,hzz13,h⟩:=bind_some h
  refine aj.bR (ins:=[.box b1 [v3,w5],aA ae ah.kids 7 5 v3 ws4 a2.l none,aG w5 a2.freed]) (more:=[]) (H11.sl [0,1,2] rfl rfl) rfl (az rfl rfl) (kZ E n _ _ _ hzz13 b1 v3 ws4 w5) (.cons (.refl _) (.cons (.refl _) .nil)) rfl ?_
  rintro _ S14 _ ⟨rfl,rfl⟩ H15
  have H16:Has B0 S14 [.box b1 [v3,w5],aA ae ah.kids 7 5 v3 ws4 a2.l none,aG w5 a2.freed]:=H15.sl [0,1,2] rfl rfl
  refine aj.val rfl (cz rfl nZ) rfl ?_
  refine aj.val rfl (aH rfl rfl bD) rfl ?_
  refine aj.val rfl (aC (b:=true) rfl rfl) rfl ?_
  refine aj.val rfl (aa rfl) rfl ?_
  rcases Bool.eq_false_or_eq_true ((((z13).length:Int) == 0)) with hB17 | hB17
  ·
   replace h:=dH hB17 h
   refine aj.bool hB17 ?_
   refine aj.val rfl (aa rfl) rfl ?_
   refine aj.val rfl (aa rfl) rfl ?_
   refine aj.val rfl (aa rfl) rfl ?_
   obtain ⟨z18,hzz18,h⟩:=bind_some h
   refine aj.bR (ins:=[.box b1 [v3,w5],aA ae ah.kids 7 5 v3 ws4 a2.l none,aG w5 a2.freed]) (more:=[]) (H16.sl [0,1,2] rfl rfl) rfl (az rfl rfl) (jq E n _ _ _ _ _ hzz18 b1 v3 ws4 w5) (.cons (.refl _) (.cons (.refl _) (.cons (.refl _) (.cons (.refl _) .nil)))) rfl ?_
   rintro _ S21 _ ⟨rfl,ws19,w20,rfl⟩ H22
   have H23:Has B0 S21 [.box b1 [v3,w20],aA ae ah.kids 7 5 v3 ws19 z18.2.l none,aG w20 z18.2.freed]:=H22.sl [0,1,2] rfl rfl
   refine aj.val rfl (aC (b:=true) rfl rfl) rfl ?_
   refine aj.val rfl (ak rfl) rfl ?_
   refine aj.nil ?_
   have hr:=Option.some.inj h
   subst hr
   exact aD.ret ⟨_,rfl,rfl,_,_,_,.refl _,(.refl _),⟨rfl,ws19,w20,rfl⟩,H23.sl [0,1,2] rfl rfl⟩
  replace h:=dI hB17 h
  refine aj.bool hB17 ?_
  refine aj.no rfl rfl ?_
  refine aj.no rfl rfl ?_
  refine aj.no rfl rfl ?_
  refine aj.no rfl rfl ?_
  refine aj.val rfl (aC (b:=false) rfl rfl) rfl ?_
  refine aj.val rfl (ak rfl) rfl ?_
  refine aj.nil ?_
  have hr:=Option.some.inj h
  subst hr
  exact aD.ret ⟨_,rfl,rfl,_,_,_,.refl _,(.refl _),⟨rfl,ws4,w5,rfl⟩,H16.sl [0,1,2] rfl rfl⟩
 replace h:=dI hB12 h
 refine aj.bool hB12 ?_
 refine aj.no rfl rfl ?_
 refine aj.no rfl rfl ?_
 refine aj.no rfl rfl ?_
 refine aj.no rfl rfl ?_
 refine aj.no rfl rfl ?_
 refine aj.val rfl (aC (b:=false) rfl rfl) rfl ?_
 refine aj.val rfl (aa rfl) rfl ?_
 refine aj.no rfl rfl ?_
 refine aj.no rfl rfl ?_
 refine aj.no rfl rfl ?_
 refine aj.no rfl rfl ?_
 refine aj.val rfl (aC (b:=false) rfl rfl) rfl ?_
 refine aj.val rfl (ak rfl) rfl ?_
 refine aj.nil ?_
 have hr:=Option.some.inj h
 subst hr
 exact aD.ret ⟨_,rfl,rfl,_,_,_,.refl _,(.refl _),⟨rfl,ws4,w5,rfl⟩,H11.sl [0,1,2] rfl rfl⟩
set_option maxRecDepth 20000 in
set_option maxHeartbeats 4000000 in
theorem jF (n:Nat) (a2:aB) (a6:Int) (r:Int) (h:jv n a2 a6=some r) (b1:Nat) (v3:AV) (ws4:List (List AV)) (w5:AV):dz R cfg.P 54 [.ptr b1 0 0,.d (.int .i64 a6)] [.box b1 [v3,w5],aA ae ah.kids 7 5 v3 ws4 a2.l none,aG w5 a2.freed] (fun v l=>v=.d (.int .i64 r)∧l=[.box b1 [v3,w5],aA ae ah.kids 7 5 v3 ws4 a2.l none,aG w5 a2.freed]):=by
 unfold jv at h
 refine dz.of_wp (C:=cfg) Try.func54 rfl NG rfl (fun B0 S0 H0=>?_)
 replace H0:Has B0 S0 [.box b1 [v3,w5],aA ae ah.kids 7 5 v3 ws4 a2.l none,aG w5 a2.freed]:=H0
 refine aD.seq ?_
 refine aD.region E.obj rfl ?_
 refine aj.val rfl (ak rfl) rfl ?_
 refine aj.nil ?_
 refine aD.seq ?_
 refine aD.region E.obj rfl ?_
 refine aj.val rfl (aa rfl) rfl ?_
 refine aj.val rfl (aa rfl) rfl ?_
 refine aj.val rfl (aa rfl) rfl ?_
 obtain ⟨z7,hzz7,h⟩:=bind_some h
 refine aj.bR (ins:=[.box b1 [v3,w5],aA ae ah.kids 7 5 v3 ws4 a2.l none,aG w5 a2.freed]) (more:=[]) (H0.sl [0,1,2] rfl rfl) rfl (az rfl rfl) (cK E n _ _ _ hzz7 b1 v3 ws4 w5) (.cons (.refl _) (.cons (.refl _) .nil)) rfl ?_
 rintro _ S8 _ ⟨rfl,rfl⟩ H9
 have H10:Has B0 S8 [.box b1 [v3,w5],aA ae ah.kids 7 5 v3 ws4 a2.l none,aG w5 a2.freed]:=H9.sl [0,1,2] rfl rfl
 obtain ⟨z11,hzz11,h⟩:=bind_some h
 refine aj.bR (ins:=[.box b1 [v3,w5],aA ae ah.kids 7 5 v3 ws4 a2.l none,aG w5 a2.freed]) (more:=[]) (H10.sl [0,1,2] rfl rfl) rfl (az rfl rfl) (kZ E n _ _ _ hzz11 b1 v3 ws4 w5) (.cons (.refl _) (.cons (.refl _) .nil)) rfl ?_
 rintro _ S12 _ ⟨rfl,rfl⟩ H13
 have H14:Has B0 S12 [.box b1 [v3,w5],aA ae ah.kids 7 5 v3 ws4 a2.l none,aG w5 a2.freed]:=H13.sl [0,1,2] rfl rfl
 refine aj.val rfl (ak rfl) rfl ?_
 refine aj.nil ?_
 refine aD.seq ?_
 refine aD.seq ?_
 refine aD.region E.obj rfl ?_
 refine aj.val rfl (aa rfl) rfl ?_
 refine aj.val rfl (cz rfl nZ) rfl ?_
 refine aj.val rfl (aH rfl rfl bD) rfl ?_
 refine aj.nil ?_
 refine aD.cond rfl (fun hb15=>?_) (fun hb15=>?_)
 ·
  replace h:=dH hb15 h
  refine aD.seq ?_
  refine aD.region E.obj rfl ?_
  refine aj.val rfl (ak rfl) rfl ?_
  refine aj.nil ?_
  have hr:=Option.some.inj h
  subst hr
  exact aD.ret ⟨_,rfl,rfl,_,_,_,.refl _,(.refl _),⟨rfl,rfl⟩,H14.sl [0,1,2] rfl rfl⟩
 replace h:=dI hb15 h
 refine aD.skip ?_
 refine aD.seq ?_
 refine aD.region E.obj rfl ?_
 refine aj.val rfl (aa rfl) rfl ?_
 obtain ⟨z16,hzz16,h⟩:=bind_some h
 refine aj.val rfl (bX rfl rfl (dU (enc:=(D.int .i64)) hzz16 fQ vV (((fun _=>rfl) _).trans kV.symm))) rfl ?_
 refine aj.val rfl (bG rfl (dY nV rfl)) rfl ?_
 refine aj.val rfl (ak rfl) rfl ?_
 refine aj.nil ?_
 have hr:=Option.some.inj h
 subst hr
 exact aD.ret ⟨_,rfl,rfl,_,_,_,.refl _,(.refl _),⟨rfl,rfl⟩,H14.sl [0,1,2] rfl rfl⟩
set_option maxRecDepth 20000 in
set_option maxHeartbeats 4000000 in
theorem qc (n:Nat) (a2:aB) (a6:Int) (r:(Bool × aB)) (h:jJ n a2 a6=some r) (b1:Nat) (v3:AV) (ws4:List (List AV)) (w5:AV):dz R cfg.P 15 [.ptr b1 0 0,.d (.int .i64 a6)] [.box b1 [v3,w5],aA ae ah.kids 7 5 v3 ws4 a2.l none,aG w5 a2.freed] (fun v l=>v=.d (.bool r.1)∧∃ dws0 dw0,l=[.box b1 [v3,dw0],aA ae ah.kids 7 5 v3 dws0 r.2.l none,aG dw0 r.2.freed]):=by
 unfold jJ at h
 refine dz.of_wp (C:=cfg) Try.func15 rfl Nl rfl (fun B0 S0 H0=>?_)
 replace H0:Has B0 S0 [.box b1 [v3,w5],aA ae ah.kids 7 5 v3 ws4 a2.l none,aG w5 a2.freed]:=H0
 refine aD.seq ?_
 refine aD.region E.obj rfl ?_
 refine aj.val rfl (ak rfl) rfl ?_
 refine aj.nil ?_
 refine aD.seq ?_
 refine aD.region E.obj rfl ?_
 refine aj.val rfl (aa rfl) rfl ?_
 refine aj.val rfl (aa rfl) rfl ?_
 obtain ⟨z7,hzz7,h⟩:=bind_some h
 refine aj.bR (ins:=[.box b1 [v3,w5],aA ae ah.kids 7 5 v3 ws4 a2.l none,aG w5 a2.freed]) (more:=[]) (H0.sl [0,1,2] rfl rfl) rfl (az rfl rfl) (gz E n _ _ _ hzz7 b1 v3 ws4 w5) (.cons (.refl _) (.cons (.refl _) .nil)) rfl ?_
 rintro v8 S9 l10 hr11 H12
 rcases z7 with _ | _
 ·
  obtain ⟨rfl,rfl⟩:=hr11
  replace h:=dI rfl h
  replace H12:Has B0 S9 [.box b1 [v3,w5],aA ae ah.kids 7 5 v3 ws4 a2.l none,aG w5 a2.freed]:=H12
  have H13:Has B0 S9 [.box b1 [v3,w5],aA ae ah.kids 7 5 v3 ws4 a2.l none,aG w5 a2.freed]:=H12.sl [0,1,2] rfl rfl
  refine aj.val rfl (ak rfl) rfl ?_
  refine aj.nil ?_
  refine aD.seq ?_
  refine aD.seq ?_
  refine aD.region E.obj rfl ?_
  refine aj.val rfl (aa rfl) rfl ?_
  refine aj.val rfl (aH rfl rfl (lq qB)) rfl ?_
  refine aj.val rfl (aa rfl) rfl ?_
  refine aj.no rfl rfl ?_
  refine aj.no rfl rfl ?_
  refine aj.no rfl rfl ?_
  refine aj.no rfl rfl ?_
  refine aj.no rfl rfl ?_
  refine aj.val rfl (aC (b:=true) rfl rfl) rfl ?_
  refine aj.nil ?_
  refine aD.cond rfl (fun hb=>?_) (fun hb=>?_)
  ·
   refine aD.seq ?_
   refine aD.region E.obj rfl ?_
   refine aj.val rfl (ak rfl) rfl ?_
   refine aj.nil ?_
   have hr:=Option.some.inj h
   subst hr
   exact aD.ret ⟨_,rfl,rfl,_,_,_,.refl _,(.refl _),⟨rfl,ws4,w5,rfl⟩,H13.sl [0,1,2] rfl rfl⟩
  cases hb
 obtain ⟨rfl,rfl⟩:=hr11
 replace h:=dH rfl h
 have H14:Has B0 S9 [.box b1 [v3,w5],aA ae ah.kids 7 5 v3 ws4 a2.l none,aG w5 a2.freed]:=H12.sl [0,1,2] rfl rfl
 refine aj.val rfl (ak rfl) rfl ?_
 refine aj.nil ?_
 refine aD.seq ?_
 refine aD.seq ?_
 refine aD.region E.obj rfl ?_
 refine aj.val rfl (aa rfl) rfl ?_
 obtain ⟨z15,hzz15,h⟩:=bind_some h
 refine aj.val rfl (kW H14 (q:=1) rfl hzz15 rfl rfl qB) rfl ?_
 refine aj.val rfl (aa rfl) rfl ?_
 refine aj.val rfl (aa rfl) rfl ?_
 refine aj.val rfl (bL H14 (q:=1) rfl hzz15 rfl) rfl ?_
 refine aj.val rfl (bz H14 (i:=1) rfl hzz15 rfl rC Ko rfl) rfl ?_
 refine aj.ko H14 rfl (q:=1) rfl hzz15 rfl nV rfl rfl rfl ?_
 refine aj.val rfl (aH rfl rfl bD) rfl ?_
 refine aj.val rfl (aC (b:=false) rfl rfl) rfl ?_
 refine aj.nil ?_
 refine aD.cond rfl (fun hb16=>?_) (fun hb16=>?_)
 ·
  replace h:=dH hb16 h
  refine aD.seq ?_
  refine aD.region E.obj rfl ?_
  refine aj.val rfl (ak rfl) rfl ?_
  refine aj.nil ?_
  have hr:=Option.some.inj h
  subst hr
  exact aD.ret ⟨_,rfl,rfl,_,_,_,.refl _,(.refl _),⟨rfl,ws4,w5,rfl⟩,H14.sl [0,1,2] rfl rfl⟩
 replace h:=dI hb16 h
 refine aD.skip ?_
 refine aD.seq ?_
 refine aD.region E.obj rfl ?_
 refine aj.val rfl (aa rfl) rfl ?_
 refine aj.val rfl (aa rfl) rfl ?_
 obtain ⟨z17,hzz17,h⟩:=bind_some h
 refine aj.bR (ins:=[.box b1 [v3,w5],aA ae ah.kids 7 5 v3 ws4 a2.l none,aG w5 a2.freed]) (more:=[]) (H14.sl [0,1,2] rfl rfl) rfl (az rfl rfl) (qD E n _ _ _ hzz17 b1 v3 ws4 w5) (.cons (.refl _) (.cons (.refl _) .nil)) rfl ?_
 rintro _ S20 _ ⟨rfl,ws18,w19,rfl⟩ H21
 have H22:Has B0 S20 [.box b1 [v3,w19],aA ae ah.kids 7 5 v3 ws18 z17.l none,aG w19 z17.freed]:=H21.sl [0,1,2] rfl rfl
 refine aj.nil ?_
 refine aD.seq ?_
 refine aD.region E.obj rfl ?_
 refine aj.val rfl (ak rfl) rfl ?_
 refine aj.nil ?_
 have hr:=Option.some.inj h
 subst hr
 exact aD.ret ⟨_,rfl,rfl,_,_,_,.refl _,(.refl _),⟨rfl,ws18,w19,rfl⟩,H22.sl [0,1,2] rfl rfl⟩
set_option maxRecDepth 20000 in
set_option maxHeartbeats 4000000 in
theorem zt (n:Nat) (a2:aB) (a6:Int) (a7:Str) (r:(Bool × aB)) (h:tH n a2 a6 a7=some r) (b1:Nat) (v3:AV) (ws4:List (List AV)) (w5:AV):dz R cfg.P 31 [.ptr b1 0 0,.d (.int .i64 a6),.d (.str a7)] [.box b1 [v3,w5],aA ae ah.kids 7 5 v3 ws4 a2.l none,aG w5 a2.freed] (fun v l=>v=.d (.bool r.1)∧∃ dws0 dw0,l=[.box b1 [v3,dw0],aA ae ah.kids 7 5 v3 dws0 r.2.l none,aG dw0 r.2.freed]):=by
 unfold tH at h
 refine dz.of_wp (C:=cfg) Try.func31 rfl Nk rfl (fun B0 S0 H0=>?_)
 replace H0:Has B0 S0 [.box b1 [v3,w5],aA ae ah.kids 7 5 v3 ws4 a2.l none,aG w5 a2.freed]:=H0
 refine aD.seq ?_
 refine aD.region E.obj rfl ?_
 refine aj.val rfl (ak rfl) rfl ?_
 refine aj.nil ?_
 refine aD.seq ?_
 refine aD.region E.obj rfl ?_
 refine aj.val rfl (aa rfl) rfl ?_
 refine aj.val rfl (aa rfl) rfl ?_
 obtain ⟨z8,hzz8,h⟩:=bind_some h
 refine aj.bR (ins:=[.box b1 [v3,w5],aA ae ah.kids 7 5 v3 ws4 a2.l none,aG w5 a2.freed]) (more:=[]) (H0.sl [0,1,2] rfl rfl) rfl (az rfl rfl) (gz E n _ _ _ hzz8 b1 v3 ws4 w5) (.cons (.refl _) (.cons (.refl _) .nil)) rfl ?_
 rintro v9 S10 l11 hr12 H13
 rcases z8 with _ | _
 ·
  obtain ⟨rfl,rfl⟩:=hr12
  replace h:=dI rfl h
  replace H13:Has B0 S10 [.box b1 [v3,w5],aA ae ah.kids 7 5 v3 ws4 a2.l none,aG w5 a2.freed]:=H13
  have H14:Has B0 S10 [.box b1 [v3,w5],aA ae ah.kids 7 5 v3 ws4 a2.l none,aG w5 a2.freed]:=H13.sl [0,1,2] rfl rfl
  refine aj.val rfl (ak rfl) rfl ?_
  refine aj.nil ?_
  refine aD.seq ?_
  refine aD.seq ?_
  refine aD.region E.obj rfl ?_
  refine aj.val rfl (aa rfl) rfl ?_
  refine aj.val rfl (aH rfl rfl (lq qB)) rfl ?_
  refine aj.val rfl (aa rfl) rfl ?_
  refine aj.no rfl rfl ?_
  refine aj.no rfl rfl ?_
  refine aj.no rfl rfl ?_
  refine aj.no rfl rfl ?_
  refine aj.no rfl rfl ?_
  refine aj.val rfl (aC (b:=true) rfl rfl) rfl ?_
  refine aj.nil ?_
  refine aD.cond rfl (fun hb=>?_) (fun hb=>?_)
  ·
   refine aD.seq ?_
   refine aD.region E.obj rfl ?_
   refine aj.val rfl (ak rfl) rfl ?_
   refine aj.nil ?_
   have hr:=Option.some.inj h
   subst hr
   exact aD.ret ⟨_,rfl,rfl,_,_,_,.refl _,(.refl _),⟨rfl,ws4,w5,rfl⟩,H14.sl [0,1,2] rfl rfl⟩
  cases hb
 obtain ⟨rfl,rfl⟩:=hr12
 replace h:=dH rfl h
 have H15:Has B0 S10 [.box b1 [v3,w5],aA ae ah.kids 7 5 v3 ws4 a2.l none,aG w5 a2.freed]:=H13.sl [0,1,2] rfl rfl
 refine aj.val rfl (ak rfl) rfl ?_
 refine aj.nil ?_
 refine aD.seq ?_
 refine aD.seq ?_
 refine aD.region E.obj rfl ?_
 refine aj.val rfl (aa rfl) rfl ?_
 obtain ⟨z16,hzz16,h⟩:=bind_some h
 refine aj.val rfl (kW H15 (q:=1) rfl hzz16 rfl rfl qB) rfl ?_
 refine aj.val rfl (aa rfl) rfl ?_
 refine aj.val rfl (aa rfl) rfl ?_
 refine aj.val rfl (bL H15 (q:=1) rfl hzz16 rfl) rfl ?_
 refine aj.val rfl (bz H15 (i:=1) rfl hzz16 rfl zn uK rfl) rfl ?_
 refine aj.ko H15 rfl (q:=1) rfl hzz16 rfl sW rfl rfl rfl ?_
 refine aj.val rfl (aH rfl rfl ou) rfl ?_
 refine aj.val rfl (aC (b:=false) rfl rfl) rfl ?_
 refine aj.nil ?_
 refine aD.cond rfl (fun hb17=>?_) (fun hb17=>?_)
 ·
  replace h:=dH hb17 h
  refine aD.seq ?_
  refine aD.region E.obj rfl ?_
  refine aj.val rfl (ak rfl) rfl ?_
  refine aj.nil ?_
  have hr:=Option.some.inj h
  subst hr
  exact aD.ret ⟨_,rfl,rfl,_,_,_,.refl _,(.refl _),⟨rfl,ws4,w5,rfl⟩,H15.sl [0,1,2] rfl rfl⟩
 replace h:=dI hb17 h
 refine aD.skip ?_
 refine aD.seq ?_
 refine aD.region E.obj rfl ?_
 refine aj.val rfl (aa rfl) rfl ?_
 refine aj.val rfl (aa rfl) rfl ?_
 refine aj.val rfl (bL H15 (q:=1) rfl hzz16 rfl) rfl ?_
 refine aj.val rfl (bz H15 (i:=1) rfl hzz16 rfl Fh uK rfl) rfl ?_
 have H21:Has B0 S10 ([aA ae ah.kids 7 5 v3 ws4 a2.l none] ++ [.box b1 [v3,w5],aG w5 a2.freed]):=H15.sl [1,0,2] rfl rfl
 replace H21:Has B0 S10 [aA ae ah.kids 7 5 v3 ws4 a2.l none,.box b1 [v3,w5],aG w5 a2.freed]:=H21
 refine aj.qW (z':=(ah.mk z16.lives z16.tag z16.key a7 z16.attrs z16.kids z16.parent)) H21 rfl hzz16 rfl rfl rfl rfl (.refl _) K6 Mr rfl rfl rfl rfl rfl (fun ws20 S18 H19=>?_)
 have H22:Has B0 S18 [.box b1 [v3,w5],aA ae ah.kids 7 5 v3 ws20 (jl a2.l (IntKind.wrap .i64 (a6 - 1)) (ah.mk z16.lives z16.tag z16.key a7 z16.attrs z16.kids z16.parent)) none,aG w5 a2.freed]:=H19.sl [1,0,2] rfl rfl
 refine aj.nil ?_
 refine aD.seq ?_
 refine aD.region E.obj rfl ?_
 refine aj.val rfl (ak rfl) rfl ?_
 refine aj.nil ?_
 have hr:=Option.some.inj h
 subst hr
 exact aD.ret ⟨_,rfl,rfl,_,_,_,.refl _,(.refl _),⟨rfl,ws20,w5,rfl⟩,H22.sl [0,1,2] rfl rfl⟩
set_option maxRecDepth 20000 in
set_option maxHeartbeats 4000000 in
theorem lM (n:Nat) (a1:Tree) (r:bg) (h:pg n a1=some r):fE R cfg.P 80 [(ai a1)] (.d (aQ r)):=by
 unfold pg at h
 refine fE.of_wp E.obj.toObjOk (C:=cfg) Try.func80 rfl NI rfl ?_
 have H0:Has aL aL []:=Has.pure
 refine aD.seq ?_
 refine aD.region E.obj rfl ?_
 refine aj.box H0 rfl rfl rfl (Tree.dx _) rfl (fun b2 S3 H4=>?_)
 refine aj.alloc H4 rfl Ma Kv rfl rfl (fun b5 S6 H7=>?_)
 refine aj.nil ?_
 refine aD.seq ?_
 refine aD.region E.obj rfl ?_
 refine aj.val rfl (aF rfl oQ uK rfl) rfl ?_
 refine aj.val rfl (aJ H7 (i:=1) rfl rfl (aS sW rfl)) rfl ?_
 refine aj.val rfl (aF rfl uZ uK rfl) rfl ?_
 refine aj.val rfl (aJ H7 (i:=1) rfl rfl (aS sW rfl)) rfl ?_
 refine aj.val rfl (bM (cs:=[(.d (.str a1.Tag)),(.d (.str a1.Key))]) Kv rfl (xQ) (fV rfl rfl rfl rfl (fV rfl rfl rfl rfl rfl))) rfl ?_
 refine aj.less (Less.agg' (d:=aQ (bg.mk a1.Tag a1.Key)) (ax.eq rfl (ax.eq rfl .nil)) ((bg.eq _).trans rfl)) ?_
 refine aj.store H7 (i:=0) rfl rfl rfl rfl (bg.dx _) rfl KL rfl LZ rfl rfl rfl (fun S8 H9=>?_)
 refine aj.nil ?_
 have hr:=Option.some.inj h
 subst hr
 exact aD.ret ⟨_,jw H9 (i:=0) rfl rfl rfl (aW Mi KL rfl),rfl,kR (aN.lZ (d:=aQ (bg.mk a1.Tag a1.Key)) (ax.eq rfl (ax.eq rfl .nil)) ((bg.eq _).trans rfl))⟩
end
end Pr
end Go.Ev

import Derived.Test.YtdcagjnahedliaaDoorPartC
import Derived.Test.YtdcagjnahedliaaDoorProg
import Derived.WalkKit
import Derived.ProofKit
namespace Go.Ev
theorem aa.r {t:Nat} {x:AV} {e2 e:Env} (h:AL.get e t=some x) (k:aa e2 e):aa ((t,x) :: e2) e:=.cons h (.refl _) k
theorem q9.o {x:AV} {a b:List (Option AV)} (k:q9 a b):q9 (some x :: a) (some x :: b):=.old (.refl _) k
theorem q9.w (x:AV) {a b:List (Option AV)} (k:q9 a b):q9 (some x :: a) (none :: b):=.new k
theorem q9.n {a b:List (Option AV)} (k:q9 a b):q9 (none :: a) (none :: b):=.new k
theorem q9.q {x y z u:AV} {a b:List (Option AV)} (k:q9 a b):q9 (some x :: some y :: some z :: some u :: a) (some x :: some y :: some z :: some u :: b):=.o (.o (.o (.o k)))
theorem RL.v {R:dm} {C:gG} {nt:Nat} {ops:Array Oper} {srcs:List Src} {e0:Env} {ws:List (Option AV)} {S:St} {i:Nat} {o:Oper} {x:AV} {e:Env} {os:List Nat} (ho:ops[i]? = some o) (hx:ws[i]? = some (some x)) (he:qc ws e0 (srcs.getD i [])=some e) (hw:bV ops e o=some true) (h:oper C (dB e) S o.op=some (.val x S)) (k:RL R C nt ops srcs e0 ws S os):RL R C nt ops srcs e0 ws S (i :: os):=.cons ho hx he (.val hw h (.refl _)) k
theorem Has.sl {B S:St} {l:List dI} (h:Has B S l) (is:List Nat) (hn:decide is.Nodup=true) {l':List dI} (hl:is.map (fun i=>l[i]?)=l'.map some):Has B S l':=h.Qh is (of_decide_eq_true hn) hl
namespace Pr
set_option linter.unusedVariables false
set_option linter.unusedSimpArgs false
open Go.Proofs
noncomputable def cfg:gG:={ P:=Tryd.prog,good:=fun _=>true,rowT:=fun _=>false,prim:=fun _ _ _=>none,objT:=fun _=>none,hasPrim:=fun _=>false }
noncomputable def jI:gG:={ cfg with rowT:=fun t=>Nat.beq t 28 }
noncomputable def Cu:gG:={ cfg with rowT:=fun t=>Nat.beq t 22 }
noncomputable def BL:gG:={ cfg with rowT:=fun t=>Nat.beq t 29 }
noncomputable def yg:gG:={ cfg with rowT:=fun t=>Nat.beq t 44 }
noncomputable def oL:gG:={ cfg with rowT:=fun t=>Nat.beq t 28 || Nat.beq t 29 }
theorem QD:(Tryd.f9.name == "runtime.NumGoroutine")=false:=by kernel_rfl
theorem Dv:(bO cfg.P 34).isSome=true:=by kernel_rfl
theorem wV:bO cfg.P 34=some 70:=by kernel_rfl
theorem EZ:(eO cfg.P 70).isSome=true:=by kernel_rfl
theorem pO:aL cfg.P 70=2:=by kernel_rfl
theorem vw:bQ cfg.P 70 0=some (0,3):=by kernel_rfl
theorem kL:Nat.beq (aL cfg.P 3) 0=false:=by kernel_rfl
theorem jl:eO cfg.P 3=some false:=by kernel_rfl
theorem OU:(Tryd.f32.name == "runtime.NumGoroutine")=false:=by kernel_rfl
theorem wX:(bO cfg.P 22).isSome=true:=by kernel_rfl
theorem kV:bO cfg.P 22=some 3:=by kernel_rfl
theorem xC:(eO cfg.P 3).isSome=true:=by kernel_rfl
theorem pI:aL cfg.P 3=1:=by kernel_rfl
theorem PE:(Tryd.f33.name == "runtime.NumGoroutine")=false:=by kernel_rfl
theorem Me:jI.rowT 81=false:=by kernel_rfl
theorem zG:bO cfg.P 81=some 9:=by kernel_rfl
theorem u6:eO cfg.P 9=some false:=by kernel_rfl
theorem NQ:zeroOf cfg.P 9=some (.str []):=by kernel_rfl
theorem Fp:aL cfg.P 9=1:=by kernel_rfl
theorem tu:zeroOf cfg.P 38=some (.agg [.str [],.int .i64 0,.aO,.int .i64 0,.bool false,.int .i64 0,.int .i64 0,.str []]):=by kernel_rfl
theorem zX:jI.rowT 28=true:=by kernel_rfl
theorem oK:bO cfg.P 28=some 38:=by kernel_rfl
theorem lY:(eO cfg.P 38).isSome=true:=by kernel_rfl
theorem jm:aL cfg.P 38=8:=by kernel_rfl
theorem sF:jI.rowT 22=false:=by kernel_rfl
theorem Gs:zeroOf cfg.P 3=some (.int .i64 0):=by kernel_rfl
theorem Ka:bQ cfg.P 24 0=some (0,22):=by kernel_rfl
theorem lV:Nat.beq (aL cfg.P 22) 0=false:=by kernel_rfl
theorem mr:eO cfg.P 22=some false:=by kernel_rfl
theorem sD:(bO cfg.P 28).isSome=true:=by kernel_rfl
theorem xk:bQ cfg.P 38 2=some (2,34):=by kernel_rfl
theorem Ia:Nat.beq (aL cfg.P 34) 0=false:=by kernel_rfl
theorem Jt:eO cfg.P 34=some false:=by kernel_rfl
theorem QC:(cfg.P.underlying 3).isSome=true:=by kernel_rfl
theorem Qp:HV cfg.P 5=some .u8:=by kernel_rfl
theorem Mv:jI.rowT 83=false:=by kernel_rfl
theorem OY:bO cfg.P 83=some 5:=by kernel_rfl
theorem Qy:eO cfg.P 5=some false:=by kernel_rfl
theorem Qx:zeroOf cfg.P 5=some (.int .u8 0):=by kernel_rfl
theorem Qs:aL cfg.P 5=1:=by kernel_rfl
theorem LQ:tT jI 83=true:=by kernel_rfl
theorem OG:wy cfg.P 9=true:=by kernel_rfl
theorem MN:bQ cfg.P 24 1=some (1,22):=by kernel_rfl
theorem yM:zeroOf cfg.P 70=some (.agg [.int .i64 0,.str []]):=by kernel_rfl
theorem MR:jI.objT 70=none:=by kernel_rfl
theorem MW:bQ cfg.P 24 2=some (2,22):=by kernel_rfl
theorem I8:(bO cfg.P 81).isSome=true:=by kernel_rfl
theorem Ji:(eO cfg.P 9).isSome=true:=by kernel_rfl
theorem pM:cfg.P.follows .mixedOrders=true:=by kernel_rfl
theorem yK:eO cfg.P 70=some true:=by kernel_rfl
theorem DN:jI.rowT 34=false:=by kernel_rfl
theorem I6:bQ cfg.P 24 5=some (5,22):=by kernel_rfl
theorem JX:bQ cfg.P 24 6=some (6,22):=by kernel_rfl
theorem Kn:jI.objT 38=none:=by kernel_rfl
theorem Ju:bQ cfg.P 24 3=some (3,22):=by kernel_rfl
theorem JK:bQ cfg.P 24 4=some (4,22):=by kernel_rfl
theorem MG:zeroOf cfg.P 36=some (.agg [.int .i64 0,.int .i64 0,.str []]):=by kernel_rfl
theorem rA:bQ cfg.P 38 5=some (5,36):=by kernel_rfl
theorem AU:Nat.beq (aL cfg.P 36) 0=false:=by kernel_rfl
theorem FQ:aL cfg.P 36=3:=by kernel_rfl
theorem ME:(eO cfg.P 36).isSome=true:=by kernel_rfl
theorem ug:bQ cfg.P 36 0=some (0,3):=by kernel_rfl
theorem uf:bQ cfg.P 38 0=some (0,9):=by kernel_rfl
theorem yO:Nat.beq (aL cfg.P 9) 0=false:=by kernel_rfl
theorem Gr:bQ cfg.P 36 2=some (2,9):=by kernel_rfl
theorem yQ:eO cfg.P 38=some true:=by kernel_rfl
theorem Jw:jR jI 28=true:=by kernel_rfl
theorem NH:bytesOf cfg.P 38=96:=by kernel_rfl
theorem J2:gX jI 38=true:=by kernel_rfl
theorem LU:jR jI 22=true:=by kernel_rfl
theorem Nw:bytesOf cfg.P 3=8:=by kernel_rfl
theorem MZ:gX jI 3=true:=by kernel_rfl
theorem OP:(Tryd.f12.name == "runtime.NumGoroutine")=false:=by kernel_rfl
theorem yF:cfg.objT 46=none:=by kernel_rfl
theorem lJ:zeroOf cfg.P 46=some (.agg [.int .i64 0,.int .i64 0,.str [],.str [],.aO,.aO]):=by kernel_rfl
theorem jC:bQ cfg.P 46 5=some (5,44):=by kernel_rfl
theorem qF:Nat.beq (aL cfg.P 44) 0=false:=by kernel_rfl
theorem uP:eO cfg.P 44=some false:=by kernel_rfl
theorem yL:(bO cfg.P 44).isSome=true:=by kernel_rfl
theorem nL:bO cfg.P 44=some 46:=by kernel_rfl
theorem nA:(eO cfg.P 46).isSome=true:=by kernel_rfl
theorem eU:aL cfg.P 46=6:=by kernel_rfl
theorem jE:eO cfg.P 46=some true:=by kernel_rfl
theorem ku:bQ cfg.P 46 0=some (0,3):=by kernel_rfl
theorem AO:cfg.rowT 44=false:=by kernel_rfl
theorem JS:jR cfg 44=true:=by kernel_rfl
theorem Hr:bytesOf cfg.P 46=96:=by kernel_rfl
theorem JE:gX cfg 46=true:=by kernel_rfl
theorem Ib:aL cfg.P 44=1:=by kernel_rfl
theorem Il:(eO cfg.P 44).isSome=true:=by kernel_rfl
theorem N8:(Tryd.f48.name == "runtime.NumGoroutine")=false:=by kernel_rfl
theorem Oh:(Tryd.f34.name == "runtime.NumGoroutine")=false:=by kernel_rfl
theorem Lp:cfg.rowT 81=false:=by kernel_rfl
theorem OC:(Tryd.f49.name == "runtime.NumGoroutine")=false:=by kernel_rfl
theorem Ps:(Tryd.f50.name == "runtime.NumGoroutine")=false:=by kernel_rfl
theorem PY:(Tryd.f51.name == "runtime.NumGoroutine")=false:=by kernel_rfl
theorem Fs:cfg.rowT 22=false:=by kernel_rfl
theorem JO:bQ cfg.P 56 0=some (0,22):=by kernel_rfl
theorem Jk:bQ cfg.P 56 1=some (1,22):=by kernel_rfl
theorem JH:bQ cfg.P 56 2=some (2,22):=by kernel_rfl
theorem ML:bQ cfg.P 56 3=some (3,22):=by kernel_rfl
theorem DK:bQ cfg.P 46 2=some (2,9):=by kernel_rfl
theorem NU:zeroOf cfg.P 97=some (.agg [.str [],.str []]):=by kernel_rfl
theorem Mq:cfg.rowT 43=false:=by kernel_rfl
theorem Ky:bO cfg.P 43=some 97:=by kernel_rfl
theorem K3:eO cfg.P 97=some true:=by kernel_rfl
theorem FC:aL cfg.P 97=2:=by kernel_rfl
theorem zS:bQ cfg.P 46 4=some (4,43):=by kernel_rfl
theorem JD:Nat.beq (aL cfg.P 43) 0=false:=by kernel_rfl
theorem M0:aL cfg.P 43=1:=by kernel_rfl
theorem NG:(eO cfg.P 43).isSome=true:=by kernel_rfl
theorem DL:bQ cfg.P 46 3=some (3,9):=by kernel_rfl
theorem LP:jR cfg 22=true:=by kernel_rfl
theorem PL:gX cfg 3=true:=by kernel_rfl
theorem Oj:(Tryd.f35.name == "runtime.NumGoroutine")=false:=by kernel_rfl
theorem FP:cfg.objT 49=none:=by kernel_rfl
theorem tH:zeroOf cfg.P 49=some (.agg [.int .i64 0,.int .i64 0,.str [],.str [],.aO,.aO,.aO,.aO]):=by kernel_rfl
theorem I9:bQ cfg.P 58 0=some (0,56):=by kernel_rfl
theorem NK:Nat.beq (aL cfg.P 56) 0=false:=by kernel_rfl
theorem Nf:eO cfg.P 56=some true:=by kernel_rfl
theorem NL:aL cfg.P 56=4:=by kernel_rfl
theorem Dm:bQ cfg.P 58 3=some (6,4):=by kernel_rfl
theorem LV:Nat.beq (aL cfg.P 4) 0=false:=by kernel_rfl
theorem Oa:eO cfg.P 4=some false:=by kernel_rfl
theorem jS:aL cfg.P 49=8:=by kernel_rfl
theorem qx:(eO cfg.P 49).isSome=true:=by kernel_rfl
theorem rF:bQ cfg.P 49 1=some (6,22):=by kernel_rfl
theorem L6:bQ cfg.P 58 1=some (4,22):=by kernel_rfl
theorem N7:aL cfg.P 22=1:=by kernel_rfl
theorem NM:(eO cfg.P 22).isSome=true:=by kernel_rfl
theorem Gq:bQ cfg.P 58 2=some (5,22):=by kernel_rfl
theorem vS:bQ cfg.P 49 2=some (7,47):=by kernel_rfl
theorem Gp:Nat.beq (aL cfg.P 47) 0=false:=by kernel_rfl
theorem IU:eO cfg.P 47=some false:=by kernel_rfl
theorem JF:zeroOf cfg.P 76=some (.agg [.str [],.int .i64 0,.int .i64 0]):=by kernel_rfl
theorem K4:cfg.rowT 47=false:=by kernel_rfl
theorem D9:bO cfg.P 47=some 76:=by kernel_rfl
theorem Hz:eO cfg.P 76=some true:=by kernel_rfl
theorem xU:aL cfg.P 76=3:=by kernel_rfl
theorem Nv:jR cfg 47=true:=by kernel_rfl
theorem NV:bytesOf cfg.P 76=32:=by kernel_rfl
theorem M3:gX cfg 76=true:=by kernel_rfl
theorem Pp:aL cfg.P 47=1:=by kernel_rfl
theorem Pj:(eO cfg.P 47).isSome=true:=by kernel_rfl
theorem wI:eO cfg.P 49=some true:=by kernel_rfl
theorem PS:(Tryd.f13.name == "runtime.NumGoroutine")=false:=by kernel_rfl
theorem Fw:jI.objT 31=none:=by kernel_rfl
theorem wC:zeroOf cfg.P 31=some (.agg [.aO,.aO,.int .i64 0]):=by kernel_rfl
theorem JB:bQ cfg.P 27 0=some (0,24):=by kernel_rfl
theorem Ny:Nat.beq (aL cfg.P 24) 0=false:=by kernel_rfl
theorem Nr:eO cfg.P 24=some true:=by kernel_rfl
theorem NB:aL cfg.P 24=7:=by kernel_rfl
theorem Ay:bQ cfg.P 27 2=some (8,3):=by kernel_rfl
theorem nG:aL cfg.P 31=3:=by kernel_rfl
theorem Bj:(eO cfg.P 31).isSome=true:=by kernel_rfl
theorem Po:zeroOf cfg.P 56=some (.agg [.aO,.aO,.aO,.aO]):=by kernel_rfl
theorem NW:zeroOf cfg.P 58=some (.agg [.aO,.aO,.aO,.aO,.aO,.aO,.bool false]):=by kernel_rfl
theorem LJ:jI.objT 58=none:=by kernel_rfl
theorem IL:aL cfg.P 58=7:=by kernel_rfl
theorem Mk:(eO cfg.P 58).isSome=true:=by kernel_rfl
theorem JG:bQ cfg.P 27 1=some (7,25):=by kernel_rfl
theorem M8:Nat.beq (aL cfg.P 25) 0=false:=by kernel_rfl
theorem NA:eO cfg.P 25=some false:=by kernel_rfl
theorem O4:(bO cfg.P 25).isSome=true:=by kernel_rfl
theorem OZ:bO cfg.P 25=some 58:=by kernel_rfl
theorem Mr:eO cfg.P 58=some true:=by kernel_rfl
theorem O6:aL cfg.P 4=1:=by kernel_rfl
theorem OT:(eO cfg.P 4).isSome=true:=by kernel_rfl
theorem iG:bQ cfg.P 31 1=some (1,29):=by kernel_rfl
theorem nD:Nat.beq (aL cfg.P 29) 0=false:=by kernel_rfl
theorem pF:eO cfg.P 29=some false:=by kernel_rfl
theorem Dx:jI.rowT 29=false:=by kernel_rfl
theorem tJ:bO cfg.P 29=some 49:=by kernel_rfl
theorem JL:jR jI 29=true:=by kernel_rfl
theorem Mw:bytesOf cfg.P 49=144:=by kernel_rfl
theorem KC:gX jI 49=true:=by kernel_rfl
theorem K5:aL cfg.P 29=1:=by kernel_rfl
theorem K9:(eO cfg.P 29).isSome=true:=by kernel_rfl
theorem iZ:bQ cfg.P 31 0=some (0,28):=by kernel_rfl
theorem oO:Nat.beq (aL cfg.P 28) 0=false:=by kernel_rfl
theorem pK:eO cfg.P 28=some false:=by kernel_rfl
theorem oN:bQ cfg.P 38 3=some (3,3):=by kernel_rfl
theorem sQ:bQ cfg.P 38 1=some (1,3):=by kernel_rfl
theorem tF:eO cfg.P 31=some true:=by kernel_rfl
theorem Qk:(Tryd.f5.name == "runtime.NumGoroutine")=false:=by kernel_rfl
theorem OO:(Tryd.f43.name == "runtime.NumGoroutine")=false:=by kernel_rfl
theorem Pq:(Tryd.f19.name == "runtime.NumGoroutine")=false:=by kernel_rfl
theorem nm20:(Tryd.f20.name == "runtime.NumGoroutine")=false:=by kernel_rfl
theorem Qj:(Tryd.f7.name == "runtime.NumGoroutine")=false:=by kernel_rfl
theorem Pf:(Tryd.f52.name == "runtime.NumGoroutine")=false:=by kernel_rfl
theorem FZ:bQ cfg.P 70 1=some (1,9):=by kernel_rfl
theorem PZ:(Tryd.f53.name == "runtime.NumGoroutine")=false:=by kernel_rfl
theorem P5:(Tryd.f68.name == "runtime.NumGoroutine")=false:=by kernel_rfl
theorem OD:(Tryd.f54.name == "runtime.NumGoroutine")=false:=by kernel_rfl
theorem Pb:cfg.objT 70=none:=by kernel_rfl
theorem Pz:(cfg.P.underlying 70).isSome=true:=by kernel_rfl
theorem PH:(Tryd.f36.name == "runtime.NumGoroutine")=false:=by kernel_rfl
theorem PN:(Tryd.f69.name == "runtime.NumGoroutine")=false:=by kernel_rfl
theorem Ko:Cu.rowT 22=true:=by kernel_rfl
theorem Mi:jR Cu 22=true:=by kernel_rfl
theorem NN:gX Cu 3=true:=by kernel_rfl
theorem O9:(Tryd.f55.name == "runtime.NumGoroutine")=false:=by kernel_rfl
theorem KZ:cfg.rowT 34=false:=by kernel_rfl
theorem NY:jR cfg 34=true:=by kernel_rfl
theorem NS:bytesOf cfg.P 70=24:=by kernel_rfl
theorem Nq:gX cfg 70=true:=by kernel_rfl
theorem Ov:(Tryd.f37.name == "runtime.NumGoroutine")=false:=by kernel_rfl
theorem Lr:uQ cfg 87=some (9,3):=by kernel_rfl
theorem HZ:cfg.objT 38=none:=by kernel_rfl
theorem P9:cfg.P.underlying 9=some .string:=by kernel_rfl
theorem OV:(Tryd.f14.name == "runtime.NumGoroutine")=false:=by kernel_rfl
theorem Ph:(Tryd.f70.name == "runtime.NumGoroutine")=false:=by kernel_rfl
theorem Ox:(Tryd.f56.name == "runtime.NumGoroutine")=false:=by kernel_rfl
theorem OL:(Tryd.f41.name == "runtime.NumGoroutine")=false:=by kernel_rfl
theorem PX:(Tryd.f57.name == "runtime.NumGoroutine")=false:=by kernel_rfl
theorem Qe:(Tryd.f38.name == "runtime.NumGoroutine")=false:=by kernel_rfl
theorem P6:(Tryd.f58.name == "runtime.NumGoroutine")=false:=by kernel_rfl
theorem CX:bQ cfg.P 46 1=some (1,3):=by kernel_rfl
theorem PV:(Tryd.f59.name == "runtime.NumGoroutine")=false:=by kernel_rfl
theorem OJ:(Tryd.f39.name == "runtime.NumGoroutine")=false:=by kernel_rfl
theorem Kw:(bO cfg.P 47).isSome=true:=by kernel_rfl
theorem vM:bQ cfg.P 49 0=some (0,46):=by kernel_rfl
theorem F7:Nat.beq (aL cfg.P 46) 0=false:=by kernel_rfl
theorem Lv:(eO cfg.P 76).isSome=true:=by kernel_rfl
theorem OA:cfg.objT 76=none:=by kernel_rfl
theorem Gb:bQ cfg.P 76 0=some (0,9):=by kernel_rfl
theorem Jr:bQ cfg.P 76 1=some (1,3):=by kernel_rfl
theorem Mx:bQ cfg.P 76 2=some (2,3):=by kernel_rfl
theorem PU:(Tryd.f15.name == "runtime.NumGoroutine")=false:=by kernel_rfl
theorem Jb:bQ cfg.P 36 1=some (1,3):=by kernel_rfl
theorem OQ:(Tryd.f16.name == "runtime.NumGoroutine")=false:=by kernel_rfl
theorem Pm:(Tryd.f67.name == "runtime.NumGoroutine")=false:=by kernel_rfl
theorem PW:(Tryd.f42.name == "runtime.NumGoroutine")=false:=by kernel_rfl
theorem PO:(Tryd.f17.name == "runtime.NumGoroutine")=false:=by kernel_rfl
theorem Py:(Tryd.f18.name == "runtime.NumGoroutine")=false:=by kernel_rfl
theorem yJ:(bO cfg.P 29).isSome=true:=by kernel_rfl
theorem xG:bQ cfg.P 31 2=some (2,3):=by kernel_rfl
theorem K6:eO cfg.P 36=some true:=by kernel_rfl
theorem Qq:(Tryd.f6.name == "runtime.NumGoroutine")=false:=by kernel_rfl
theorem Pn:(Tryd.f21.name == "runtime.NumGoroutine")=false:=by kernel_rfl
theorem M9:cfg.P.underlying 28=some (.slice 38):=by kernel_rfl
theorem KX:nJ jI 28 0=false:=by kernel_rfl
theorem O1:(Tryd.f22.name == "runtime.NumGoroutine")=false:=by kernel_rfl
theorem Na:cfg.P.underlying 34=some (.slice 70):=by kernel_rfl
theorem OE:(Tryd.f23.name == "runtime.NumGoroutine")=false:=by kernel_rfl
theorem Nb:cfg.P.underlying 29=some (.slice 49):=by kernel_rfl
theorem Ls:nJ BL 29 0=false:=by kernel_rfl
theorem LW:BL.rowT 29=true:=by kernel_rfl
theorem Ms:jR BL 29=true:=by kernel_rfl
theorem MH:gX BL 49=true:=by kernel_rfl
theorem Pg:(Tryd.f44.name == "runtime.NumGoroutine")=false:=by kernel_rfl
theorem Nz:cfg.P.underlying 43=some (.slice 97):=by kernel_rfl
theorem PM:jR cfg 43=true:=by kernel_rfl
theorem OH:bytesOf cfg.P 97=32:=by kernel_rfl
theorem O5:gX cfg 97=true:=by kernel_rfl
theorem Oq:(Tryd.f45.name == "runtime.NumGoroutine")=false:=by kernel_rfl
theorem Nc:cfg.P.underlying 44=some (.slice 46):=by kernel_rfl
theorem La:nJ yg 44 0=false:=by kernel_rfl
theorem MU:yg.rowT 44=true:=by kernel_rfl
theorem Md:jR yg 44=true:=by kernel_rfl
theorem MF:gX yg 46=true:=by kernel_rfl
theorem Ku:yg.objT 46=none:=by kernel_rfl
theorem MQ:eO cfg.P 43=some false:=by kernel_rfl
theorem Oy:(Tryd.f24.name == "runtime.NumGoroutine")=false:=by kernel_rfl
theorem O7:(Tryd.f25.name == "runtime.NumGoroutine")=false:=by kernel_rfl
theorem Np:cfg.P.underlying 22=some (.slice 3):=by kernel_rfl
theorem Oi:(Tryd.f26.name == "runtime.NumGoroutine")=false:=by kernel_rfl
theorem M5:cfg.P.underlying 47=some (.slice 76):=by kernel_rfl
theorem vC:oL.objT 31=none:=by kernel_rfl
theorem P8:aL cfg.P 28=1:=by kernel_rfl
theorem Ou:(eO cfg.P 28).isSome=true:=by kernel_rfl
theorem JY:oL.objT 38=none:=by kernel_rfl
theorem Qf:aL cfg.P 34=1:=by kernel_rfl
theorem Qb:(eO cfg.P 34).isSome=true:=by kernel_rfl
theorem FO:oL.objT 49=none:=by kernel_rfl
theorem QE:(Tryd.f8.name == "runtime.NumGoroutine")=false:=by kernel_rfl
theorem Ol:(Tryd.f27.name == "runtime.NumGoroutine")=false:=by kernel_rfl
theorem MC:(bO cfg.P 43).isSome=true:=by kernel_rfl
theorem NR:(eO cfg.P 97).isSome=true:=by kernel_rfl
theorem PT:(Tryd.f46.name == "runtime.NumGoroutine")=false:=by kernel_rfl
theorem Ot:(Tryd.f28.name == "runtime.NumGoroutine")=false:=by kernel_rfl
theorem OB:(Tryd.f29.name == "runtime.NumGoroutine")=false:=by kernel_rfl
theorem Oo:(Tryd.f30.name == "runtime.NumGoroutine")=false:=by kernel_rfl
theorem Gn:bQ cfg.P 38 4=some (4,4):=by kernel_rfl
theorem Qg:cfg.P.underlying 4=some .bool:=by kernel_rfl
theorem Qa:(Tryd.f10.name == "runtime.NumGoroutine")=false:=by kernel_rfl
theorem OX:(Tryd.f47.name == "runtime.NumGoroutine")=false:=by kernel_rfl
theorem FV:oL.rowT 44=false:=by kernel_rfl
theorem Mf:oL.rowT 22=false:=by kernel_rfl
theorem MP:oL.rowT 47=false:=by kernel_rfl
theorem MI:oL.rowT 29=true:=by kernel_rfl
theorem PR:(Tryd.f31.name == "runtime.NumGoroutine")=false:=by kernel_rfl
theorem Px:(Tryd.f11.name == "runtime.NumGoroutine")=false:=by kernel_rfl
theorem M6:eO cfg.P 27=some true:=by kernel_rfl
theorem Ng:aL cfg.P 27=9:=by kernel_rfl
theorem Ql:(Tryd.f3.name == "runtime.NumGoroutine")=false:=by kernel_rfl
theorem j3:oper.P_place jI 38=some (kQ [(0,1),(1,1),(2,1),(3,1),(4,1),(5,3)]):=iE (by kernel_rfl)
theorem lL:oper.P_place jI 70=some (kQ [(0,1),(1,1)]):=iE (by kernel_rfl)
theorem xN:oper.P_place jI 36=some (kQ [(0,1),(1,1),(2,1)]):=iE (by kernel_rfl)
theorem mQ:oper.P_place cfg 46=some (kQ [(0,1),(1,1),(2,1),(3,1),(4,1),(5,1)]):=iE (by kernel_rfl)
theorem zf:oper.P_place cfg 97=some (kQ [(0,1),(1,1)]):=iE (by kernel_rfl)
theorem tN:oper.P_place cfg 49=some (kQ [(0,6),(6,1),(7,1)]):=iE (by kernel_rfl)
theorem Au:oper.P_place cfg 76=some (kQ [(0,1),(1,1),(2,1)]):=iE (by kernel_rfl)
theorem nQ:oper.P_place jI 31=some (kQ [(0,1),(1,1),(2,1)]):=iE (by kernel_rfl)
theorem xI:oper.P_place jI 56=some (kQ [(0,1),(1,1),(2,1),(3,1)]):=iE (by kernel_rfl)
theorem xR:oper.P_place jI 58=some (kQ [(0,4),(4,1),(5,1),(6,1)]):=iE (by kernel_rfl)
theorem zi:oper.P_place cfg 70=some (kQ [(0,1),(1,1)]):=iE (by kernel_rfl)
theorem nO:oper.P_place oL 49=some (kQ [(0,6),(6,1),(7,1)]):=iE (by kernel_rfl)
theorem iL:oper.P_place oL 46=some (kQ [(0,1),(1,1),(2,1),(3,1),(4,1),(5,1)]):=iE (by kernel_rfl)
theorem xY:oper.P_place oL 76=some (kQ [(0,1),(1,1),(2,1)]):=iE (by kernel_rfl)
theorem xg:oper.P_place oL 31=some (kQ [(0,1),(1,1),(2,1)]):=iE (by kernel_rfl)
theorem rQ:oper.P_place oL 36=some (kQ [(0,1),(1,1),(2,1)]):=iE (by kernel_rfl)
theorem Nl (x y:Seg):AV.eqv cfg.P 70 (.d (.agg [(.int .i64 x.Kind),(.str x.Text)])) (.d (.agg [(.int .i64 y.Kind),(.str y.Text)]))=some (Seg.beq x y) :=
 wS (by kernel_rfl) Tryd.underlying70 (by kernel_rfl) (by kernel_rfl)
theorem Nk (x y:Attr):AV.eqv cfg.P 97 (.d (.agg [(.str x.Name),(.str x.Value)])) (.d (.agg [(.str y.Name),(.str y.Value)]))=some (Attr.beq x y) :=
 wS (by kernel_rfl) Tryd.underlying97 (by kernel_rfl) (by kernel_rfl)
theorem ND (x y:On):AV.eqv cfg.P 76 (.d (.agg [(.str x.Event),(.int .i64 x.N),(.int .i64 x.Add)])) (.d (.agg [(.str y.Event),(.int .i64 y.N),(.int .i64 y.Add)]))=some (On.beq x y) :=
 wS (by kernel_rfl) Tryd.underlying76 (by kernel_rfl) (by kernel_rfl)
theorem NJ (x y:aH):AV.eqv cfg.P 36 (.d (.agg [(.int .i64 x.Kind),(.int .i64 x.Flag),(.str x.To)])) (.d (.agg [(.int .i64 y.Kind),(.int .i64 y.Flag),(.str y.To)]))=some (aH.beq x y) :=
 wS (by kernel_rfl) Tryd.underlying36 (by kernel_rfl) (by kernel_rfl)
def Qt:List Src:=[[(9,none)],[(89,some 0)],[(7,none)],[(10,none)],[(92,some 3)],[(1,none)],[(94,some 5)],[(6,none)],[(95,some 6),(96,some 7)],[(97,some 8)],[(98,some 9)],[(1,none)],[(100,some 11)],[(6,none)],[(101,some 12),(102,some 13)],[(103,some 14)],[(90,some 1),(91,some 2),(93,some 4),(99,some 10),(104,some 15)],[],[(11,some 17),(105,some 16)]]
def Qm:List Src:=[[(1,none)],[(112,some 0)],[(6,none)],[(113,some 1),(114,some 2)],[(115,some 3)],[(116,some 4)],[(1,none)],[(118,some 6)],[(6,none)],[(119,some 7),(120,some 8)],[(121,some 9)],[(117,some 5),(122,some 10)],[(11,none)],[(123,some 11),(124,some 12)]]
def QB:List Src:=[[(5,none)],[(12,some 0)],[(0,none)],[(1,none)],[(14,some 2),(15,some 3)],[(16,some 4)],[(13,some 1)],[(17,some 5)]]
def Qn:List Src:=[[(7,none)],[(24,some 0)],[(0,none)],[(1,none)],[(8,none)],[(26,some 2),(27,some 3),(28,some 4)],[(29,some 5)],[(25,some 1),(30,some 6)],[(7,none)],[(31,some 7),(32,some 8)]]
def Qw:List Src:=[[(1,none)],[(60,some 0)],[(8,none)],[(61,some 1),(62,some 2)],[(63,some 3)],[(1,none)],[(65,some 5)],[(8,none)],[(66,some 6),(67,some 7)],[(68,some 8)],[(64,some 4),(69,some 9)],[],[(11,some 11),(70,some 10)]]
def Qo:List Src:=[[(1,none)],[(7,some 0)],[(8,some 1)],[(1,none)],[(10,some 3)],[(9,some 2),(11,some 4)],[(12,some 5)],[],[(3,some 7),(13,some 6)]]
def Qu:List Src:=[[(3,none)],[(17,some 0)],[(1,none)],[(19,some 2)],[(4,none)],[(20,some 3),(21,some 4)],[(22,some 5)],[(23,some 6)],[(18,some 1),(24,some 7)],[(3,none)],[(25,some 8),(26,some 9)]]
def QA:List Src:=[[(3,none)],[(40,some 0)],[(5,none)],[(6,none)],[(43,some 3)],[(42,some 2),(44,some 4)],[(45,some 5)],[(1,none)],[(47,some 7)],[(6,none)],[(48,some 8),(49,some 9)],[(50,some 10)],[(51,some 11)],[(1,none)],[(53,some 13)],[(6,none)],[(54,some 14),(55,some 15)],[(56,some 16)],[(57,some 17)],[(58,some 18)],[(46,some 6),(52,some 12),(59,some 19)],[(60,some 20)],[(41,some 1),(61,some 21)],[(3,none)],[(62,some 22),(63,some 23)]]
def Qz:List Src:=[[(1,none)],[(10,some 0)],[(11,some 1)],[(1,none)],[(13,some 3)],[(14,some 4)],[(12,some 2),(15,some 5)],[],[(3,some 7),(16,some 6)]]
def Qr:List Src:=[[(3,none)],[(40,some 0)],[(5,none)],[(42,some 2)],[(43,some 3)],[(41,some 1),(44,some 4)],[(3,none)],[(45,some 5),(46,some 6)]]
def O3:List Src:=[[(3,none)],[(48,some 0)],[(5,none)],[(50,some 2)],[(51,some 3)],[(49,some 1),(52,some 4)],[(3,none)],[(53,some 5),(54,some 6)]]
def PK:List Src:=[[(0,none)],[(2,none)],[(0,none)],[(3,none)],[(0,none)],[(3,none)],[(18,some 4),(19,some 5)],[(20,some 6)],[(0,none)],[(2,none)],[(22,some 8),(23,some 9)],[(24,some 10)],[(14,some 0),(15,some 1)],[(21,some 7),(26,some 12)],[(16,some 2),(17,some 3)],[(25,some 11),(27,some 14)]]
def Pv:List Src:=[[(1,none)],[(21,some 0)],[(3,none)],[(4,none)],[(24,some 3)],[(22,some 1),(23,some 2)],[(25,some 4),(26,some 5)]]
def Pt:List Src:=[[(1,none)],[(19,some 0)],[(3,none)],[(4,none)],[(22,some 3)],[(23,some 4)],[(20,some 1),(21,some 2)],[(25,some 6)],[(24,some 5),(26,some 7)]]
def Om:List Src:=[[(1,none)],[(40,some 0)],[(5,none)],[(6,none)],[(43,some 3)],[(44,some 4)],[(6,none)],[(46,some 6)],[(47,some 7)],[(6,none)],[(49,some 9)],[(50,some 10)],[(45,some 5),(48,some 8),(51,some 11)],[(41,some 1),(42,some 2)],[(52,some 12),(53,some 13)]]
def KS:List Src:=[[(0,none)],[(5,none)],[(17,some 0),(18,some 1)],[(19,some 2)],[(1,none)],[(5,none)],[(21,some 4),(22,some 5)],[(23,some 6)],[(20,some 3),(24,some 7)]]
def O8:List Src:=[[(2,none)],[(55,some 0)],[(5,none)],[(56,some 1),(57,some 2)],[(58,some 3)],[(3,none)],[(60,some 5)],[(5,none)],[(61,some 6),(62,some 7)],[(63,some 8)],[(59,some 4),(64,some 9)],[(65,some 10)]]
def PD:List Src:=[[(14,none)],[(146,some 0)],[(17,none)],[(148,some 2)],[(149,some 3)],[(150,some 4)],[(147,some 1),(151,some 5)],[(152,some 6)],[(153,some 7)]]
def Oz:List Src:=[[(14,none)],[(154,some 0)],[(17,none)],[(156,some 2)],[(157,some 3)],[(158,some 4)],[],[(160,some 6)],[(161,some 7)],[(155,some 1),(159,some 5)],[(163,some 9)],[(162,some 8),(164,some 10)]]
structure LY (R:dm):Prop where
 obj:jW R cfg
 strings_Trim_ok:∀ (n:Nat) (x0:Str) (x1:Str) (r:Str),lN n x0 x1=some r→bN R cfg.P 40 [(.str x0),(.str x1)] (.d (.str r))
section
variable {R:dm} (E:LY R)
include E
theorem dZ:jW R jI:=⟨E.obj.toObjOk,E.obj.new⟩
theorem oV:jW R Cu:=⟨E.obj.toObjOk,E.obj.new⟩
theorem GM:jW R BL:=⟨E.obj.toObjOk,E.obj.new⟩
theorem qa:jW R yg:=⟨E.obj.toObjOk,E.obj.new⟩
theorem dA:jW R oL:=⟨E.obj.toObjOk,E.obj.new⟩
set_option maxRecDepth 20000 in
set_option maxHeartbeats 4000000 in
theorem aN (n:Nat) (a1:Int) (a2:Int) (a3:Int) (r:Int) (h:aT n a1 a2 a3=some r):bN R cfg.P 9 [(.int .i64 a1),(.int .i64 a2),(.int .i64 a3)] (.d (.int .i64 r)):=by
 unfold aT at h
 refine bN.of_wp E.obj.toObjOk (C:=cfg) Tryd.func9 rfl QD rfl ?_
 have H0:Has aF aF []:=Has.pure
 refine ax.seq ?_
 refine ax.region E.obj rfl ?_
 refine ae.val rfl (aj rfl) rfl ?_
 refine ae.nil ?_
 refine ax.seq ?_
 refine ax.region E.obj rfl ?_
 refine ae.val rfl (ah rfl) rfl ?_
 refine ae.val rfl (ah rfl) rfl ?_
 refine ae.val rfl (ah rfl) rfl ?_
 refine ae.val rfl (ay rfl rfl iV) rfl ?_
 refine ae.val rfl (ay rfl rfl bI) rfl ?_
 obtain ⟨z4,hzz4,h⟩:=bind_some h
 refine ae.val rfl (ay rfl rfl (xB hzz4)) rfl ?_
 refine ae.val rfl (aj rfl) rfl ?_
 refine ae.nil ?_
 refine ax.join (B:=aF) (α:=Int) (fun a=>fO a2 a=some r) (fun a=>[(0,(.d (.int .i64 a))),(1,(.d (.int .i64 a2)))]) (fun a=>[]) ?_ ?_
 ·
  intro x7 S5 H6 h
  replace h:fO a2 x7=some r:=h
  replace H6:Has aF S5 []:=H6
  unfold fO at h
  refine ax.seq ?_
  refine ax.region E.obj rfl ?_
  refine ae.val rfl (ah rfl) rfl ?_
  refine ae.val rfl (ah rfl) rfl ?_
  refine ae.val rfl (ay rfl rfl bI) rfl ?_
  refine ae.val rfl (aj rfl) rfl ?_
  refine ae.nil ?_
  have hr:=Option.some.inj h
  subst hr
  exact ax.ret ⟨_,rfl,rfl,dY (aD.eq .nil)⟩
 refine ax.seq ?_
 refine ax.region E.obj rfl ?_
 refine ae.val rfl (ah rfl) rfl ?_
 refine ae.val rfl (ay rfl rfl bG) rfl ?_
 refine ae.nil ?_
 refine ax.cond rfl (fun hb9=>?_) (fun hb9=>?_)
 ·
  replace h:=cB hb9 h
  refine ax.region E.obj rfl ?_
  refine ae.val rfl (ah rfl) rfl ?_
  refine ae.val rfl (ah rfl) rfl ?_
  refine ae.val rfl (ay rfl rfl bI) rfl ?_
  refine ae.val rfl (ah rfl) rfl ?_
  refine ae.val rfl (ay rfl rfl iV) rfl ?_
  refine ae.val rfl (ay rfl rfl bI) rfl ?_
  refine ae.val rfl (aj rfl) rfl ?_
  refine ae.nil ?_
  exact ⟨(IntKind.wrap .i64 ((IntKind.wrap .i64 ((IntKind.wrap .i64 (z4 + a3)) - a2)) + 1)),_,_,aF,.refl _ _,.refl _,(aa.r rfl (aa.r rfl aa.nil)),H0.sl [] rfl rfl,h⟩
 replace h:=cK hb9 h
 refine ax.skip ?_
 exact ⟨z4,_,_,aF,.refl _ _,.refl _,(aa.r rfl (aa.r rfl aa.nil)),H0.sl [] rfl rfl,h⟩
set_option maxRecDepth 20000 in
set_option maxHeartbeats 4000000 in
theorem uO (n:Nat) (a1:(List Seg)) (r:Bool) (h:jr n a1=some r):bN R cfg.P 32 [(.sl ((a1).map bB) false)] (.d (.bool r)):=by
 unfold jr at h
 refine bN.of_wp E.obj.toObjOk (C:=cfg) Tryd.func32 rfl OU rfl ?_
 have H0:Has aF aF []:=Has.pure
 refine ax.seq ?_
 refine ax.region E.obj rfl ?_
 refine ae.val rfl (aj rfl) rfl ?_
 refine ae.nil ?_
 refine ax.seq ?_
 refine ax.region E.obj rfl ?_
 refine ae.val rfl (ah rfl) rfl ?_
 refine ae.val rfl (aS rfl Dv) rfl ?_
 refine ae.val rfl (ay rfl rfl jT) rfl ?_
 refine ae.val rfl (ah rfl) rfl ?_
 obtain ⟨z3,hzz3,h⟩:=bind_some h
 refine ae.bC 9 15 (.d (.bool z3)) ?_ ?_
 ·
  rcases Bool.eq_false_or_eq_true ((decide (0 < ((a1).length:Int)))) with hB2 | hB2
  ·
   refine ae.bool hB2 ?_
   replace hzz3:=cB hB2 hzz3
   refine ae.val rfl (ah rfl) rfl ?_
   refine ae.val rfl (ah rfl) rfl ?_
   refine ae.val rfl (aS rfl Dv) rfl ?_
   refine ae.val rfl (ay rfl rfl iV) rfl ?_
   obtain ⟨z4,hzz4,hzz3⟩:=bind_some hzz3
   refine ae.val rfl (bE rfl rfl (bY (enc:=bB) hzz4 wV EZ ((Seg.len _).trans pO.symm))) rfl ?_
   refine ae.val rfl (kD rfl vw kL rfl) rfl ?_
   refine ae.val rfl (aU rfl (by rw [Seg.cells]; exact dL jl rfl)) rfl ?_
   refine ae.val rfl (ay rfl rfl iJ) rfl ?_
   refine ae.val rfl (az (b:=true) rfl rfl) rfl ?_
   cases hzz3
   exact ae.nil ⟨_,rfl,(aa.put (aa.push rfl (aa.push rfl (aa.push rfl (aa.push rfl (aa.push rfl (aa.push rfl (aa.push rfl (aa.push rfl (aa.put (.refl _) (Less.eq (by rw [hB2]))))))))))) (.refl _))⟩
  refine ae.bool hB2 ?_
  refine ae.no rfl rfl ?_
  refine ae.no rfl rfl ?_
  refine ae.no rfl rfl ?_
  refine ae.no rfl rfl ?_
  refine ae.no rfl rfl ?_
  refine ae.no rfl rfl ?_
  refine ae.no rfl rfl ?_
  refine ae.no rfl rfl ?_
  refine ae.val rfl (az (b:=false) rfl rfl) rfl ?_
  replace hzz3:=cK hB2 hzz3
  cases hzz3
  exact ae.nil ⟨_,rfl,(aa.put (aa.push rfl (aa.push rfl (aa.push rfl (aa.push rfl (aa.push rfl (aa.push rfl (aa.push rfl (aa.push rfl (aa.put (.refl _) (Less.eq (by rw [hB2]))))))))))) (.refl _))⟩
 refine ae.val rfl (aj rfl) rfl ?_
 refine ae.nil ?_
 have hr:=Option.some.inj h
 subst hr
 exact ax.ret ⟨_,rfl,rfl,dY (aD.eq .nil)⟩
set_option maxRecDepth 20000 in
set_option maxHeartbeats 4000000 in
theorem bK (n:Nat) (a1:(List Int)) (a2:Int) (r:Int) (h:bX n a1 a2=some r):bN R cfg.P 33 [(.sl ((a1).map (D.int .i64)) false),(.int .i64 a2)] (.d (.int .i64 r)):=by
 unfold bX at h
 refine bN.of_wp E.obj.toObjOk (C:=cfg) Tryd.func33 rfl PE rfl ?_
 have H0:Has aF aF []:=Has.pure
 refine ax.seq ?_
 refine ax.region E.obj rfl ?_
 refine ae.val rfl (aj rfl) rfl ?_
 refine ae.nil ?_
 refine ax.seq ?_
 refine ax.seq ?_
 refine ax.region E.obj rfl ?_
 refine ae.val rfl (ah rfl) rfl ?_
 refine ae.val rfl (aS rfl wX) rfl ?_
 refine ae.val rfl (ay rfl rfl dD) rfl ?_
 refine ae.nil ?_
 refine ax.cond rfl (fun hb3=>?_) (fun hb3=>?_)
 ·
  replace h:=cB hb3 h
  refine ax.seq ?_
  refine ax.region E.obj rfl ?_
  refine ae.val rfl (aj rfl) rfl ?_
  refine ae.nil ?_
  have hr:=Option.some.inj h
  subst hr
  exact ax.ret ⟨_,rfl,rfl,dY (aD.eq .nil)⟩
 replace h:=cK hb3 h
 refine ax.skip ?_
 refine ax.seq ?_
 refine ax.region E.obj rfl ?_
 refine ae.val rfl (ah rfl) rfl ?_
 refine ae.val rfl (ah rfl) rfl ?_
 refine ae.val rfl (ah rfl) rfl ?_
 refine ae.val rfl (aS rfl wX) rfl ?_
 obtain ⟨z4,hzz4,h⟩:=bind_some h
 refine ae.val rfl (ay rfl rfl (xB hzz4)) rfl ?_
 obtain ⟨z5,hzz5,h⟩:=bind_some h
 refine ae.val rfl (bE rfl rfl (bY (enc:=(D.int .i64)) hzz5 kV xC (((fun _=>rfl) _).trans pI.symm))) rfl ?_
 refine ae.val rfl (aU rfl (dL jl rfl)) rfl ?_
 refine ae.val rfl (aj rfl) rfl ?_
 refine ae.nil ?_
 have hr:=Option.some.inj h
 subst hr
 exact ax.ret ⟨_,rfl,rfl,dY (aD.eq .nil)⟩
set_option maxRecDepth 20000 in
set_option maxHeartbeats 4000000 in
theorem j4 (n:Nat) (a1:gQ) (r:(List ak)) (h:gF n a1=some r):mK R cfg.P 12 [(lg a1)] (fun v l=>l=[.row 8 v ((r).map aB)]):=by
 unfold gF at h
 refine mK.of_wp (C:=jI) Tryd.func12 rfl OP rfl (fun S0 wf0=>?_)
 have H0:Has S0 S0 []:=Has.start wf0
 refine ax.seq ?_
 refine ax.region (dZ E) rfl ?_
 refine ae.box H0 rfl rfl rfl (gQ.bf _) rfl (fun b2 S3 H4=>?_)
 refine ae.val rfl (aj rfl) rfl ?_
 refine ae.nil ?_
 refine ax.seq ?_
 refine ax.region (dZ E) rfl ?_
 refine ae.val rfl (aP (vs:=[(.d (.str [97])),(.d (.str [98])),(.d (.str [105,116,101,109])),(.d (.str [122])),(.d (.str [49])),(.d (.str [108,105,115,116]))]) (ds:=[(.str [97]),(.str [98]),(.str [105,116,101,109]),(.str [122]),(.str [49]),(.str [108,105,115,116])]) Me zG u6 NQ Fp rfl (by decide) (.cons rfl rfl (.cons rfl rfl (.cons rfl rfl (.cons rfl rfl (.cons rfl rfl (.cons rfl rfl .nil)))))) rfl (by intro d hd; simp only [List.mem_cons,List.not_mem_nil,or_false] at hd; rcases hd with rfl | rfl | rfl | rfl | rfl | rfl <;> rfl) rfl) rfl ?_
 refine ae.val rfl (aj rfl) rfl ?_
 refine ae.nil ?_
 refine ax.seq ?_
 refine ax.region (dZ E) rfl ?_
 refine ae.val rfl (bH (cs:=[(.d (.str [104,111,109,101])),(.d (.int .i64 (-1))),(.d .aO),(.d (.int .i64 0)),(.d (.bool false)),(.d (.int .i64 0)),(.d (.int .i64 0)),(.d (.str []))]) tu rfl (j3) (cO rfl rfl rfl rfl (cO rfl rfl rfl rfl rfl))) rfl ?_
 refine ae.less (Less.agg' (d:=aB (ak.mk [104,111,109,101] (-1) [] 0 false (aH.mk 0 0 []))) (au.eq rfl (au.eq rfl (au.gJ rfl (.aO false) rfl rfl (au.eq rfl (au.eq rfl (au.eq rfl (au.eq rfl (au.eq rfl .nil)))))))) ((ak.eq _).trans rfl)) ?_
 refine ae.ui (enc:=aB) (xs:=[(ak.mk [104,111,109,101] (-1) [] 0 false (aH.mk 0 0 []))]) (vs:=[(.d (aB (ak.mk [104,111,109,101] (-1) [] 0 false (aH.mk 0 0 []))))]) (cs:=[[(.d (.str (ak.mk [104,111,109,101] (-1) [] 0 false (aH.mk 0 0 [])).Name)),(.d (.int .i64 (ak.mk [104,111,109,101] (-1) [] 0 false (aH.mk 0 0 [])).Parent)),(.d (.sl (((ak.mk [104,111,109,101] (-1) [] 0 false (aH.mk 0 0 [])).dX).map bB) false)),(.d (.int .i64 (ak.mk [104,111,109,101] (-1) [] 0 false (aH.mk 0 0 [])).aJ)),(.d (.bool (ak.mk [104,111,109,101] (-1) [] 0 false (aH.mk 0 0 [])).fT)),(.d (.int .i64 (ak.mk [104,111,109,101] (-1) [] 0 false (aH.mk 0 0 [])).aH.Kind)),(.d (.int .i64 (ak.mk [104,111,109,101] (-1) [] 0 false (aH.mk 0 0 [])).aH.Flag)),(.d (.str (ak.mk [104,111,109,101] (-1) [] 0 false (aH.mk 0 0 [])).aH.To))]]) H4 rfl zX oK lY tu jm rfl (by decide) (.cons (kF (ak.bf _)) rfl .nil) rfl (.cons (by rw [ak.cells]; exact .refl _) .nil) (fun z=>ak.len z) (fun x=>ak.flat x) rfl rfl (fun v5 S6 H7=>?_)
 refine ae.val rfl (aj rfl) rfl ?_
 refine ae.nil ?_
 refine ax.seq ?_
 refine ax.region (dZ E) rfl ?_
 refine ae.val rfl (aP (vs:=[(.d (.int .i64 0))]) (ds:=[(.int .i64 0)]) sF kV jl Gs pI rfl (by decide) (.cons rfl rfl .nil) rfl (by intro d hd; simp only [List.mem_cons,List.not_mem_nil,or_false] at hd; rcases hd with rfl <;> rfl) rfl) rfl ?_
 refine ae.val rfl (aj rfl) rfl ?_
 refine ae.nil ?_
 refine ax.seq ?_
 refine ax.seq ?_
 refine ax.region (dZ E) rfl ?_
 refine ae.val rfl (aj rfl) rfl ?_
 refine ae.nil ?_
 refine ax.block ?_
 have H115:=H7.vU (([0]).map (D.int .i64))
 refine nz.start (B:=S0) (α:=(List ak) × AV × (List Int) × AV × Int) (fun k a=>aM n a1 k a.1 a.2.2.1 a.2.2.2.2=some r) (fun a=>[(1,(.ptr b2 0 0)),(3,(.d (.sl ((([[97],[98],[105,116,101,109],[122],[49],[108,105,115,116]]:List Str)).map D.str) true))),(4,a.2.1),(5,a.2.2.2.1),(6,(.d (.int .i64 a.2.2.2.2)))]) (fun a=>[.box b2 [(.d (.sl ((a1.Parents).map (D.int .i64)) false)),(.d (.sl ((a1.Kinds).map (D.int .i64)) false)),(.d (.sl ((a1.Texts).map (D.int .i64)) false)),(.d (.sl ((a1.Rules).map (D.int .i64)) false)),(.d (.sl ((a1.Flags).map (D.int .i64)) false)),(.d (.sl ((a1.fq).map (D.int .i64)) false)),(.d (.sl ((a1.Comps).map (D.int .i64)) false))],.row 8 a.2.1 ((a.1).map aB),.grow a.2.2.2.1 ((a.2.2.1).map (D.int .i64))]) ?_ ?_ n ⟨⟨[(ak.mk [104,111,109,101] (-1) [] 0 false (aH.mk 0 0 []))],v5,[0],(.d (.sl (([0]).map (D.int .i64)) true)),0⟩,_,_,S6,.refl _ _,.refl _,(aa.r rfl (aa.r rfl (aa.r rfl (aa.r rfl (aa.r rfl aa.nil))))),H115.sl [2,1,0] rfl rfl,h⟩
 ·
  intro a h; simp [aM] at h
 intro k24 a S17 H18 h
 obtain ⟨x19,v20,x21,v22,x23⟩:=a
 replace h:aM n a1 (k24 + 1) x19 x21 x23=some r:=h
 replace H18:Has S0 S17 [.box b2 [(.d (.sl ((a1.Parents).map (D.int .i64)) false)),(.d (.sl ((a1.Kinds).map (D.int .i64)) false)),(.d (.sl ((a1.Texts).map (D.int .i64)) false)),(.d (.sl ((a1.Rules).map (D.int .i64)) false)),(.d (.sl ((a1.Flags).map (D.int .i64)) false)),(.d (.sl ((a1.fq).map (D.int .i64)) false)),(.d (.sl ((a1.Comps).map (D.int .i64)) false))],.row 8 v20 ((x19).map aB),.grow v22 ((x21).map (D.int .i64))]:=H18
 unfold aM at h
 refine ax.seq ?_
 refine ax.seq ?_
 refine ax.region (dZ E) rfl ?_
 refine ae.val rfl (ah rfl) rfl ?_
 refine ae.val rfl (ai rfl Ka lV rfl) rfl ?_
 refine ae.val rfl (av H18 (i:=0) rfl rfl (aA mr rfl)) rfl ?_
 refine ae.val rfl (aS rfl wX) rfl ?_
 refine ae.val rfl (ay rfl rfl bG) rfl ?_
 refine ae.val rfl (ah rfl) rfl ?_
 refine ae.bC 3 24 (.d (.bool ((decide (x23 < ((a1.Parents).length:Int))) && (decide (x23 < 7))))) ?_ ?_
 ·
  rcases Bool.eq_false_or_eq_true ((decide (x23 < ((a1.Parents).length:Int)))) with hB25 | hB25
  ·
   refine ae.bool hB25 ?_
   refine ae.val rfl (ah rfl) rfl ?_
   refine ae.val rfl (ay rfl rfl bG) rfl ?_
   refine ae.val rfl (az (b:=true) rfl rfl) rfl ?_
   exact ae.nil ⟨_,rfl,(aa.put (aa.push rfl (aa.push rfl (aa.put (.refl _) (Less.eq (by rw [hB25]))))) (Less.eq (by rw [hB25]; rw [Bool.true_and])))⟩
  refine ae.bool hB25 ?_
  refine ae.no rfl rfl ?_
  refine ae.no rfl rfl ?_
  refine ae.val rfl (az (b:=false) rfl rfl) rfl ?_
  exact ae.nil ⟨_,rfl,(aa.put (aa.push rfl (aa.push rfl (aa.put (.refl _) (Less.eq (by rw [hB25]))))) (Less.eq (by rw [hB25]; rw [Bool.false_and])))⟩
 refine ae.nil ?_
 refine ax.cond rfl (fun hb26=>?_) (fun hb26=>?_)
 ·
  replace h:=cB hb26 h
  refine ax.skip ?_
  refine ax.seq ?_
  refine ax.block ?_
  refine ax.seq ?_
  refine ax.region (dZ E) rfl ?_
  refine ae.val rfl (ai rfl Ka lV rfl) rfl ?_
  refine ae.val rfl (av H18 (i:=0) rfl rfl (aA mr rfl)) rfl ?_
  refine ae.val rfl (ah rfl) rfl ?_
  obtain ⟨z27,hzz27,h⟩:=bind_some h
  refine ae.val rfl (bE rfl rfl (bY (enc:=(D.int .i64)) hzz27 kV xC (((fun _=>rfl) _).trans pI.symm))) rfl ?_
  refine ae.val rfl (aU rfl (dL jl rfl)) rfl ?_
  refine ae.val rfl (ah rfl) rfl ?_
  refine ae.val rfl (jv H18 (i:=1) rfl rfl sD) rfl ?_
  refine ae.val rfl (ay rfl rfl iV) rfl ?_
  obtain ⟨z28,hzz28,h⟩:=bind_some h
  refine ae.ret rfl (aC rfl rfl) (aN E _ _ _ _ _ hzz28 _ _ (aD.eq (aD.eq (aD.eq .nil)))) rfl ?_
  refine ae.val rfl (aj rfl) rfl ?_
  refine ae.nil ?_
  refine ax.join (B:=S0) (α:=Int) (fun a=>dn n a1 x19 x21 x23 (aM n a1 k24) a=some r) (fun a=>[(1,(.ptr b2 0 0)),(3,(.d (.sl ((([[97],[98],[105,116,101,109],[122],[49],[108,105,115,116]]:List Str)).map D.str) true))),(4,v20),(5,v22),(6,(.d (.int .i64 x23))),(7,(.d (.int .i64 a)))]) (fun a=>[.box b2 [(.d (.sl ((a1.Parents).map (D.int .i64)) false)),(.d (.sl ((a1.Kinds).map (D.int .i64)) false)),(.d (.sl ((a1.Texts).map (D.int .i64)) false)),(.d (.sl ((a1.Rules).map (D.int .i64)) false)),(.d (.sl ((a1.Flags).map (D.int .i64)) false)),(.d (.sl ((a1.fq).map (D.int .i64)) false)),(.d (.sl ((a1.Comps).map (D.int .i64)) false))],.row 8 v20 ((x19).map aB),.grow v22 ((x21).map (D.int .i64))]) ?_ ?_
  ·
   intro x31 S29 H30 h
   replace h:dn n a1 x19 x21 x23 (aM n a1 k24) x31=some r:=h
   replace H30:Has S0 S29 [.box b2 [(.d (.sl ((a1.Parents).map (D.int .i64)) false)),(.d (.sl ((a1.Kinds).map (D.int .i64)) false)),(.d (.sl ((a1.Texts).map (D.int .i64)) false)),(.d (.sl ((a1.Rules).map (D.int .i64)) false)),(.d (.sl ((a1.Flags).map (D.int .i64)) false)),(.d (.sl ((a1.fq).map (D.int .i64)) false)),(.d (.sl ((a1.Comps).map (D.int .i64)) false))],.row 8 v20 ((x19).map aB),.grow v22 ((x21).map (D.int .i64))]:=H30
   unfold dn at h
   refine ax.seq ?_
   refine ax.region (dZ E) rfl ?_
   refine ae.val rfl (aj rfl) rfl ?_
   refine ae.nil ?_
   refine ax.join (B:=S0) (α:=Int) (fun a=>dN n a1 x19 x21 x23 (aM n a1 k24) x31 a=some r) (fun a=>[(1,(.ptr b2 0 0)),(3,(.d (.sl ((([[97],[98],[105,116,101,109],[122],[49],[108,105,115,116]]:List Str)).map D.str) true))),(4,v20),(5,v22),(6,(.d (.int .i64 x23))),(7,(.d (.int .i64 x31))),(8,(.d (.int .i64 a)))]) (fun a=>[.box b2 [(.d (.sl ((a1.Parents).map (D.int .i64)) false)),(.d (.sl ((a1.Kinds).map (D.int .i64)) false)),(.d (.sl ((a1.Texts).map (D.int .i64)) false)),(.d (.sl ((a1.Rules).map (D.int .i64)) false)),(.d (.sl ((a1.Flags).map (D.int .i64)) false)),(.d (.sl ((a1.fq).map (D.int .i64)) false)),(.d (.sl ((a1.Comps).map (D.int .i64)) false))],.row 8 v20 ((x19).map aB),.grow v22 ((x21).map (D.int .i64))]) ?_ ?_
   ·
    intro x35 S33 H34 h
    replace h:dN n a1 x19 x21 x23 (aM n a1 k24) x31 x35=some r:=h
    replace H34:Has S0 S33 [.box b2 [(.d (.sl ((a1.Parents).map (D.int .i64)) false)),(.d (.sl ((a1.Kinds).map (D.int .i64)) false)),(.d (.sl ((a1.Texts).map (D.int .i64)) false)),(.d (.sl ((a1.Rules).map (D.int .i64)) false)),(.d (.sl ((a1.Flags).map (D.int .i64)) false)),(.d (.sl ((a1.fq).map (D.int .i64)) false)),(.d (.sl ((a1.Comps).map (D.int .i64)) false))],.row 8 v20 ((x19).map aB),.grow v22 ((x21).map (D.int .i64))]:=H34
    unfold dN at h
    refine ax.seq ?_
    refine ax.region (dZ E) rfl ?_
    refine ae.val rfl (ah rfl) rfl ?_
    refine ae.val rfl (ay rfl rfl bI) rfl ?_
    refine ae.val rfl (Bd rfl QC Qp) rfl ?_
    refine ae.val rfl (aP (vs:=[(.d (.int .u8 (IntKind.wrap .u8 (IntKind.wrap .i64 (97 + x23)))))]) (ds:=[(.int .u8 (IntKind.wrap .u8 (IntKind.wrap .i64 (97 + x23))))]) Mv OY Qy Qx Qs rfl (by decide) (.cons rfl rfl .nil) rfl (by intro d hd; simp only [List.mem_cons,List.not_mem_nil,or_false] at hd; rcases hd with rfl <;> rfl) rfl) rfl ?_
    refine ae.val rfl (yG (l:=[(IntKind.wrap .u8 (IntKind.wrap .i64 (97 + x23)))]) rfl OG LQ) rfl ?_
    refine ae.val rfl (aj rfl) rfl ?_
    refine ae.nil ?_
    refine ax.seq ?_
    refine ax.region (dZ E) rfl ?_
    refine ae.val rfl (ai rfl MN lV rfl) rfl ?_
    refine ae.val rfl (av H34 (i:=0) rfl rfl (aA mr rfl)) rfl ?_
    refine ae.val rfl (ah rfl) rfl ?_
    obtain ⟨z37,hzz37,h⟩:=bind_some h
    refine ae.ret rfl (aC rfl rfl) (bK E _ _ _ _ hzz37 _ _ (aD.eq (aD.eq .nil))) rfl ?_
    obtain ⟨z38,hzz38,h⟩:=bind_some h
    refine ae.ret rfl (aC rfl rfl) (aN E _ _ _ _ _ hzz38 _ _ (aD.eq (aD.eq (aD.eq .nil)))) rfl ?_
    refine ae.val rfl (ay rfl rfl iV) rfl ?_
    refine ae.val rfl (ah rfl) rfl ?_
    obtain ⟨z39,hzz39,h⟩:=bind_some h
    refine ae.val rfl (ay rfl rfl (xW hzz39)) rfl ?_
    refine ae.val rfl (bH (cs:=[(.d (.int .i64 (IntKind.wrap .i64 (z38 - 1)))),(.d (.str z39))]) yM rfl (lL) (cO rfl rfl rfl rfl (cO rfl rfl rfl rfl rfl))) rfl ?_
    refine ae.less (Less.agg' (d:=bB (Seg.mk (IntKind.wrap .i64 (z38 - 1)) z39)) (au.eq rfl (au.eq rfl .nil)) ((Seg.eq _).trans rfl)) ?_
    refine ae.alloc H34 rfl MR yM rfl rfl (fun b40 S41 H42=>?_)
    refine ae.store H42 (i:=0) rfl rfl rfl rfl (Seg.bf _) rfl pO rfl EZ rfl rfl rfl (fun S43 H44=>?_)
    refine ae.nil ?_
    refine ax.join (B:=S0) (α:=Int × Str) (fun a=>dP n a1 x19 x21 x23 (aM n a1 k24) x31 x35 a.1 a.2=some r) (fun a=>[(1,(.ptr b2 0 0)),(3,(.d (.sl ((([[97],[98],[105,116,101,109],[122],[49],[108,105,115,116]]:List Str)).map D.str) true))),(4,v20),(5,v22),(6,(.d (.int .i64 x23))),(7,(.d (.int .i64 x31))),(8,(.d (.int .i64 x35))),(9,(.d (.str (([(IntKind.wrap .u8 (IntKind.wrap .i64 (97 + x23)))]).map fun (n:Int)=>UInt8.ofNat n.toNat)))),(10,(.ptr b40 0 0))]) (fun a=>[.box b40 [(.d (.int .i64 a.1)),(.d (.str a.2))],.box b2 [(.d (.sl ((a1.Parents).map (D.int .i64)) false)),(.d (.sl ((a1.Kinds).map (D.int .i64)) false)),(.d (.sl ((a1.Texts).map (D.int .i64)) false)),(.d (.sl ((a1.Rules).map (D.int .i64)) false)),(.d (.sl ((a1.Flags).map (D.int .i64)) false)),(.d (.sl ((a1.fq).map (D.int .i64)) false)),(.d (.sl ((a1.Comps).map (D.int .i64)) false))],.row 8 v20 ((x19).map aB),.grow v22 ((x21).map (D.int .i64))]) ?_ ?_
    ·
     intro a S45 H46 h
     obtain ⟨x47,x48⟩:=a
     replace h:dP n a1 x19 x21 x23 (aM n a1 k24) x31 x35 x47 x48=some r:=h
     replace H46:Has S0 S45 [.box b40 [(.d (.int .i64 x47)),(.d (.str x48))],.box b2 [(.d (.sl ((a1.Parents).map (D.int .i64)) false)),(.d (.sl ((a1.Kinds).map (D.int .i64)) false)),(.d (.sl ((a1.Texts).map (D.int .i64)) false)),(.d (.sl ((a1.Rules).map (D.int .i64)) false)),(.d (.sl ((a1.Flags).map (D.int .i64)) false)),(.d (.sl ((a1.fq).map (D.int .i64)) false)),(.d (.sl ((a1.Comps).map (D.int .i64)) false))],.row 8 v20 ((x19).map aB),.grow v22 ((x21).map (D.int .i64))]:=H46
     unfold dP at h
     refine ax.seq ?_
     obtain ⟨z50,hzz50,h⟩:=bind_some h
     obtain ⟨z51,hzz51,h⟩:=bind_some h
     obtain ⟨z52,hzz52,h⟩:=bind_some h
     obtain ⟨z53,hzz53,h⟩:=bind_some h
     refine ax.qi (dZ E) pM Qt [(1,none),(3,none),(4,none),(5,none),(6,none),(8,none),(11,some 17)] (by kernel_rfl) [17,18] (by decide) [some (.d (.str (([(IntKind.wrap .u8 (IntKind.wrap .i64 (97 + x23)))]).map fun (n:Int)=>UInt8.ofNat n.toNat))),some (.d (.str z50)),some (.d (.int .i64 x31)),some (.d (bB (Seg.mk x47 x48))),some (.d (.sl (([(Seg.mk x47 x48)]).map bB) true)),some (.ptr b2 0 5),some (.d (.sl ((a1.fq).map (D.int .i64)) false)),some (.d (.int .i64 x23)),some (.d (.int .i64 z51)),some (.d (.int .i64 (dO .i64 z51 1))),some (.d (.bool ((dO .i64 z51 1) == 1))),some (.ptr b2 0 6),some (.d (.sl ((a1.Comps).map (D.int .i64)) false)),some (.d (.int .i64 x23)),some (.d (.int .i64 z52)),some (.d (.int .i64 z53)),some (.d (aB (ak.mk z50 x31 [(Seg.mk x47 x48)] z53 ((dO .i64 z51 1) == 1) (aH.mk 0 0 [])))),none,none] ?_
     refine ⟨[0,1,2,3,4,5,6,7,8,9,10,11,12,13,14,15,16],by kernel_rfl,?_,_,_,rfl,rfl,.step ?_⟩
     ·
      refine .v rfl rfl rfl rfl (ah rfl) ?_
      refine .v rfl rfl rfl rfl (ay rfl rfl (xW hzz50)) ?_
      refine .v rfl rfl rfl rfl (ah rfl) ?_
      refine .cons rfl rfl rfl (.step ?_) ?_
      ·
       refine ae.val rfl (av H46 (i:=0) rfl rfl (aZ yK pO rfl)) rfl ?_
       refine ae.less (Less.agg' (d:=bB (Seg.mk x47 x48)) (au.eq rfl (au.eq rfl .nil)) ((Seg.eq _).trans rfl)) ?_
       exact ae.nil ⟨_,_,rfl,fun _ ht=>by cases ht; exact ⟨rfl,.refl _⟩⟩
      refine .v rfl rfl rfl rfl (aP (vs:=[(.d (bB (Seg.mk x47 x48)))]) (ds:=[(bB (Seg.mk x47 x48))]) DN wV yK yM pO rfl (by decide) (.cons rfl (Seg.len _) .nil) rfl (by intro d hd; simp only [List.mem_cons,List.not_mem_nil,or_false] at hd; rcases hd with rfl <;> exact Seg.agg _) rfl) ?_
      refine .v rfl rfl rfl rfl (ai rfl I6 lV rfl) ?_
      refine .v rfl rfl rfl rfl (av H46 (i:=1) rfl rfl (aA mr rfl)) ?_
      refine .v rfl rfl rfl rfl (ah rfl) ?_
      refine .cons rfl rfl rfl (.step ?_) ?_
      ·
       refine ae.ret rfl (aC rfl rfl) (bK E _ _ _ _ hzz51 _ _ (aD.eq (aD.eq .nil))) rfl ?_
       exact ae.nil ⟨_,_,rfl,fun _ ht=>by cases ht; exact ⟨rfl,.refl _⟩⟩
      refine .v rfl rfl rfl rfl (ay rfl rfl wW) ?_
      refine .v rfl rfl rfl rfl (ay rfl rfl dD) ?_
      refine .v rfl rfl rfl rfl (ai rfl JX lV rfl) ?_
      refine .v rfl rfl rfl rfl (av H46 (i:=1) rfl rfl (aA mr rfl)) ?_
      refine .v rfl rfl rfl rfl (ah rfl) ?_
      refine .cons rfl rfl rfl (.step ?_) ?_
      ·
       refine ae.ret rfl (aC rfl rfl) (bK E _ _ _ _ hzz52 _ _ (aD.eq (aD.eq .nil))) rfl ?_
       exact ae.nil ⟨_,_,rfl,fun _ ht=>by cases ht; exact ⟨rfl,.refl _⟩⟩
      refine .cons rfl rfl rfl (.step ?_) ?_
      ·
       refine ae.ret rfl (aC rfl rfl) (aN E _ _ _ _ _ hzz53 _ _ (aD.eq (aD.eq (aD.eq .nil)))) rfl ?_
       exact ae.nil ⟨_,_,rfl,fun _ ht=>by cases ht; exact ⟨rfl,.refl _⟩⟩
      refine .cons rfl rfl rfl (.step ?_) ?_
      ·
       refine ae.val rfl (bH (cs:=[(.d (.str z50)),(.d (.int .i64 x31)),(.d (.sl (([(Seg.mk x47 x48)]).map bB) true)),(.d (.int .i64 z53)),(.d (.bool ((dO .i64 z51 1) == 1))),(.d (.int .i64 0)),(.d (.int .i64 0)),(.d (.str []))]) tu rfl (j3) (cO rfl rfl rfl rfl (cO rfl rfl rfl rfl (cO rfl rfl rfl rfl (cO rfl rfl rfl rfl (cO rfl rfl rfl rfl rfl)))))) rfl ?_
       refine ae.less (Less.agg' (d:=aB (ak.mk z50 x31 [(Seg.mk x47 x48)] z53 ((dO .i64 z51 1) == 1) (aH.mk 0 0 []))) (au.eq rfl (au.eq rfl (au.gJ rfl (.jH _ _) rfl rfl (au.eq rfl (au.eq rfl (au.eq rfl (au.eq rfl (au.eq rfl .nil)))))))) ((ak.eq _).trans rfl)) ?_
       exact ae.nil ⟨_,_,rfl,fun _ ht=>by cases ht; exact ⟨rfl,.refl _⟩⟩
      exact .nil
     refine ae.alloc H46 rfl Kn tu rfl rfl (fun b59 S60 H61=>?_)
     refine ae.nil ⟨_,_,_,rfl,(fun _ ht=>by cases ht; rfl),_,(.q (.q (.q (.q (.o (.w (.ptr b59 0 0) (.n .nil))))))),(fun _ ht=>by cases ht; exact ⟨_,rfl,.refl _⟩),?_⟩
     refine ⟨[0,1,2,3,4,5,6,7,8,9,10,11,12,13,14,15,16],by kernel_rfl,?_,_,_,rfl,rfl,.step ?_⟩
     ·
      refine .v rfl rfl rfl rfl (ah rfl) ?_
      refine .v rfl rfl rfl rfl (ay rfl rfl (xW hzz50)) ?_
      refine .v rfl rfl rfl rfl (ah rfl) ?_
      refine .cons rfl rfl rfl (.step ?_) ?_
      ·
       refine ae.val rfl (av H61 (i:=1) rfl rfl (aZ yK pO rfl)) rfl ?_
       refine ae.less (Less.agg' (d:=bB (Seg.mk x47 x48)) (au.eq rfl (au.eq rfl .nil)) ((Seg.eq _).trans rfl)) ?_
       exact ae.nil ⟨_,_,rfl,fun _ ht=>by cases ht; exact ⟨rfl,.refl _⟩⟩
      refine .v rfl rfl rfl rfl (aP (vs:=[(.d (bB (Seg.mk x47 x48)))]) (ds:=[(bB (Seg.mk x47 x48))]) DN wV yK yM pO rfl (by decide) (.cons rfl (Seg.len _) .nil) rfl (by intro d hd; simp only [List.mem_cons,List.not_mem_nil,or_false] at hd; rcases hd with rfl <;> exact Seg.agg _) rfl) ?_
      refine .v rfl rfl rfl rfl (ai rfl I6 lV rfl) ?_
      refine .v rfl rfl rfl rfl (av H61 (i:=2) rfl rfl (aA mr rfl)) ?_
      refine .v rfl rfl rfl rfl (ah rfl) ?_
      refine .cons rfl rfl rfl (.step ?_) ?_
      ·
       refine ae.ret rfl (aC rfl rfl) (bK E _ _ _ _ hzz51 _ _ (aD.eq (aD.eq .nil))) rfl ?_
       exact ae.nil ⟨_,_,rfl,fun _ ht=>by cases ht; exact ⟨rfl,.refl _⟩⟩
      refine .v rfl rfl rfl rfl (ay rfl rfl wW) ?_
      refine .v rfl rfl rfl rfl (ay rfl rfl dD) ?_
      refine .v rfl rfl rfl rfl (ai rfl JX lV rfl) ?_
      refine .v rfl rfl rfl rfl (av H61 (i:=2) rfl rfl (aA mr rfl)) ?_
      refine .v rfl rfl rfl rfl (ah rfl) ?_
      refine .cons rfl rfl rfl (.step ?_) ?_
      ·
       refine ae.ret rfl (aC rfl rfl) (bK E _ _ _ _ hzz52 _ _ (aD.eq (aD.eq .nil))) rfl ?_
       exact ae.nil ⟨_,_,rfl,fun _ ht=>by cases ht; exact ⟨rfl,.refl _⟩⟩
      refine .cons rfl rfl rfl (.step ?_) ?_
      ·
       refine ae.ret rfl (aC rfl rfl) (aN E _ _ _ _ _ hzz53 _ _ (aD.eq (aD.eq (aD.eq .nil)))) rfl ?_
       exact ae.nil ⟨_,_,rfl,fun _ ht=>by cases ht; exact ⟨rfl,.refl _⟩⟩
      refine .cons rfl rfl rfl (.step ?_) ?_
      ·
       refine ae.val rfl (bH (cs:=[(.d (.str z50)),(.d (.int .i64 x31)),(.d (.sl (([(Seg.mk x47 x48)]).map bB) true)),(.d (.int .i64 z53)),(.d (.bool ((dO .i64 z51 1) == 1))),(.d (.int .i64 0)),(.d (.int .i64 0)),(.d (.str []))]) tu rfl (j3) (cO rfl rfl rfl rfl (cO rfl rfl rfl rfl (cO rfl rfl rfl rfl (cO rfl rfl rfl rfl (cO rfl rfl rfl rfl rfl)))))) rfl ?_
       refine ae.less (Less.agg' (d:=aB (ak.mk z50 x31 [(Seg.mk x47 x48)] z53 ((dO .i64 z51 1) == 1) (aH.mk 0 0 []))) (au.eq rfl (au.eq rfl (au.gJ rfl (.jH _ _) rfl rfl (au.eq rfl (au.eq rfl (au.eq rfl (au.eq rfl (au.eq rfl .nil)))))))) ((ak.eq _).trans rfl)) ?_
       exact ae.nil ⟨_,_,rfl,fun _ ht=>by cases ht; exact ⟨rfl,.refl _⟩⟩
      exact .nil
     refine ae.store H61 (i:=0) rfl rfl rfl rfl (ak.bf _) rfl jm rfl lY rfl rfl rfl (fun S62 H63=>?_)
     refine ae.nil ⟨_,.any,_,rfl,(fun _ ht=>by cases ht),_,(.q (.q (.q (.q (.o (.o (.w .any .nil))))))),(fun _ ht=>by cases ht),?_⟩
     refine ⟨[],by kernel_rfl,?_,_,rfl,?_⟩
     ·
      exact .nil
     refine ax.join (B:=S0) (α:=Int × Int × Str) (fun a=>dw x19 x21 x23 (aM n a1 k24) x31 x35 x47 x48 z50 z51 z53 a.1 a.2.1 a.2.2=some r) (fun a=>[(1,(.ptr b2 0 0)),(3,(.d (.sl ((([[97],[98],[105,116,101,109],[122],[49],[108,105,115,116]]:List Str)).map D.str) true))),(4,v20),(5,v22),(6,(.d (.int .i64 x23))),(8,(.d (.int .i64 x35))),(11,(.ptr b59 0 0))]) (fun a=>[.box b59 [(.d (.str (ak.mk z50 x31 [(Seg.mk x47 x48)] z53 ((dO .i64 z51 1) == 1) (aH.mk 0 0 [])).Name)),(.d (.int .i64 (ak.mk z50 x31 [(Seg.mk x47 x48)] z53 ((dO .i64 z51 1) == 1) (aH.mk 0 0 [])).Parent)),(.d (.sl (((ak.mk z50 x31 [(Seg.mk x47 x48)] z53 ((dO .i64 z51 1) == 1) (aH.mk 0 0 [])).dX).map bB) false)),(.d (.int .i64 (ak.mk z50 x31 [(Seg.mk x47 x48)] z53 ((dO .i64 z51 1) == 1) (aH.mk 0 0 [])).aJ)),(.d (.bool (ak.mk z50 x31 [(Seg.mk x47 x48)] z53 ((dO .i64 z51 1) == 1) (aH.mk 0 0 [])).fT)),(.d (.int .i64 a.1)),(.d (.int .i64 a.2.1)),(.d (.str a.2.2))],.box b2 [(.d (.sl ((a1.Parents).map (D.int .i64)) false)),(.d (.sl ((a1.Kinds).map (D.int .i64)) false)),(.d (.sl ((a1.Texts).map (D.int .i64)) false)),(.d (.sl ((a1.Rules).map (D.int .i64)) false)),(.d (.sl ((a1.Flags).map (D.int .i64)) false)),(.d (.sl ((a1.fq).map (D.int .i64)) false)),(.d (.sl ((a1.Comps).map (D.int .i64)) false))],.row 8 v20 ((x19).map aB),.grow v22 ((x21).map (D.int .i64))]) ?_ ?_
     ·
      intro a S64 H65 h
      obtain ⟨x66,x67,x68⟩:=a
      replace h:dw x19 x21 x23 (aM n a1 k24) x31 x35 x47 x48 z50 z51 z53 x66 x67 x68=some r:=h
      replace H65:Has S0 S64 [.box b59 [(.d (.str (ak.mk z50 x31 [(Seg.mk x47 x48)] z53 ((dO .i64 z51 1) == 1) (aH.mk 0 0 [])).Name)),(.d (.int .i64 (ak.mk z50 x31 [(Seg.mk x47 x48)] z53 ((dO .i64 z51 1) == 1) (aH.mk 0 0 [])).Parent)),(.d (.sl (((ak.mk z50 x31 [(Seg.mk x47 x48)] z53 ((dO .i64 z51 1) == 1) (aH.mk 0 0 [])).dX).map bB) false)),(.d (.int .i64 (ak.mk z50 x31 [(Seg.mk x47 x48)] z53 ((dO .i64 z51 1) == 1) (aH.mk 0 0 [])).aJ)),(.d (.bool (ak.mk z50 x31 [(Seg.mk x47 x48)] z53 ((dO .i64 z51 1) == 1) (aH.mk 0 0 [])).fT)),(.d (.int .i64 x66)),(.d (.int .i64 x67)),(.d (.str x68))],.box b2 [(.d (.sl ((a1.Parents).map (D.int .i64)) false)),(.d (.sl ((a1.Kinds).map (D.int .i64)) false)),(.d (.sl ((a1.Texts).map (D.int .i64)) false)),(.d (.sl ((a1.Rules).map (D.int .i64)) false)),(.d (.sl ((a1.Flags).map (D.int .i64)) false)),(.d (.sl ((a1.fq).map (D.int .i64)) false)),(.d (.sl ((a1.Comps).map (D.int .i64)) false))],.row 8 v20 ((x19).map aB),.grow v22 ((x21).map (D.int .i64))]:=H65
      unfold dw at h
      refine ax.seq ?_
      refine ax.region (dZ E) rfl ?_
      refine ae.val rfl (ah rfl) rfl ?_
      refine ae.val rfl (av H65 (i:=0) rfl rfl (aZ yQ jm rfl)) rfl ?_
      refine ae.less (Less.agg' (d:=aB (ak.mk ((ak.mk z50 x31 [(Seg.mk x47 x48)] z53 ((dO .i64 z51 1) == 1) (aH.mk 0 0 [])).Name) ((ak.mk z50 x31 [(Seg.mk x47 x48)] z53 ((dO .i64 z51 1) == 1) (aH.mk 0 0 [])).Parent) ((ak.mk z50 x31 [(Seg.mk x47 x48)] z53 ((dO .i64 z51 1) == 1) (aH.mk 0 0 [])).dX) ((ak.mk z50 x31 [(Seg.mk x47 x48)] z53 ((dO .i64 z51 1) == 1) (aH.mk 0 0 [])).aJ) ((ak.mk z50 x31 [(Seg.mk x47 x48)] z53 ((dO .i64 z51 1) == 1) (aH.mk 0 0 [])).fT) (aH.mk x66 x67 x68))) (au.eq rfl (au.eq rfl (au.eq rfl (au.eq rfl (au.eq rfl (au.eq rfl (au.eq rfl (au.eq rfl .nil)))))))) ((ak.eq _).trans rfl)) ?_
      refine ae.ui (enc:=aB) (xs:=[(ak.mk ((ak.mk z50 x31 [(Seg.mk x47 x48)] z53 ((dO .i64 z51 1) == 1) (aH.mk 0 0 [])).Name) ((ak.mk z50 x31 [(Seg.mk x47 x48)] z53 ((dO .i64 z51 1) == 1) (aH.mk 0 0 [])).Parent) ((ak.mk z50 x31 [(Seg.mk x47 x48)] z53 ((dO .i64 z51 1) == 1) (aH.mk 0 0 [])).dX) ((ak.mk z50 x31 [(Seg.mk x47 x48)] z53 ((dO .i64 z51 1) == 1) (aH.mk 0 0 [])).aJ) ((ak.mk z50 x31 [(Seg.mk x47 x48)] z53 ((dO .i64 z51 1) == 1) (aH.mk 0 0 [])).fT) (aH.mk x66 x67 x68))]) (vs:=[(.d (aB (ak.mk ((ak.mk z50 x31 [(Seg.mk x47 x48)] z53 ((dO .i64 z51 1) == 1) (aH.mk 0 0 [])).Name) ((ak.mk z50 x31 [(Seg.mk x47 x48)] z53 ((dO .i64 z51 1) == 1) (aH.mk 0 0 [])).Parent) ((ak.mk z50 x31 [(Seg.mk x47 x48)] z53 ((dO .i64 z51 1) == 1) (aH.mk 0 0 [])).dX) ((ak.mk z50 x31 [(Seg.mk x47 x48)] z53 ((dO .i64 z51 1) == 1) (aH.mk 0 0 [])).aJ) ((ak.mk z50 x31 [(Seg.mk x47 x48)] z53 ((dO .i64 z51 1) == 1) (aH.mk 0 0 [])).fT) (aH.mk x66 x67 x68))))]) (cs:=[[(.d (.str (ak.mk ((ak.mk z50 x31 [(Seg.mk x47 x48)] z53 ((dO .i64 z51 1) == 1) (aH.mk 0 0 [])).Name) ((ak.mk z50 x31 [(Seg.mk x47 x48)] z53 ((dO .i64 z51 1) == 1) (aH.mk 0 0 [])).Parent) ((ak.mk z50 x31 [(Seg.mk x47 x48)] z53 ((dO .i64 z51 1) == 1) (aH.mk 0 0 [])).dX) ((ak.mk z50 x31 [(Seg.mk x47 x48)] z53 ((dO .i64 z51 1) == 1) (aH.mk 0 0 [])).aJ) ((ak.mk z50 x31 [(Seg.mk x47 x48)] z53 ((dO .i64 z51 1) == 1) (aH.mk 0 0 [])).fT) (aH.mk x66 x67 x68)).Name)),(.d (.int .i64 (ak.mk ((ak.mk z50 x31 [(Seg.mk x47 x48)] z53 ((dO .i64 z51 1) == 1) (aH.mk 0 0 [])).Name) ((ak.mk z50 x31 [(Seg.mk x47 x48)] z53 ((dO .i64 z51 1) == 1) (aH.mk 0 0 [])).Parent) ((ak.mk z50 x31 [(Seg.mk x47 x48)] z53 ((dO .i64 z51 1) == 1) (aH.mk 0 0 [])).dX) ((ak.mk z50 x31 [(Seg.mk x47 x48)] z53 ((dO .i64 z51 1) == 1) (aH.mk 0 0 [])).aJ) ((ak.mk z50 x31 [(Seg.mk x47 x48)] z53 ((dO .i64 z51 1) == 1) (aH.mk 0 0 [])).fT) (aH.mk x66 x67 x68)).Parent)),(.d (.sl (((ak.mk ((ak.mk z50 x31 [(Seg.mk x47 x48)] z53 ((dO .i64 z51 1) == 1) (aH.mk 0 0 [])).Name) ((ak.mk z50 x31 [(Seg.mk x47 x48)] z53 ((dO .i64 z51 1) == 1) (aH.mk 0 0 [])).Parent) ((ak.mk z50 x31 [(Seg.mk x47 x48)] z53 ((dO .i64 z51 1) == 1) (aH.mk 0 0 [])).dX) ((ak.mk z50 x31 [(Seg.mk x47 x48)] z53 ((dO .i64 z51 1) == 1) (aH.mk 0 0 [])).aJ) ((ak.mk z50 x31 [(Seg.mk x47 x48)] z53 ((dO .i64 z51 1) == 1) (aH.mk 0 0 [])).fT) (aH.mk x66 x67 x68)).dX).map bB) false)),(.d (.int .i64 (ak.mk ((ak.mk z50 x31 [(Seg.mk x47 x48)] z53 ((dO .i64 z51 1) == 1) (aH.mk 0 0 [])).Name) ((ak.mk z50 x31 [(Seg.mk x47 x48)] z53 ((dO .i64 z51 1) == 1) (aH.mk 0 0 [])).Parent) ((ak.mk z50 x31 [(Seg.mk x47 x48)] z53 ((dO .i64 z51 1) == 1) (aH.mk 0 0 [])).dX) ((ak.mk z50 x31 [(Seg.mk x47 x48)] z53 ((dO .i64 z51 1) == 1) (aH.mk 0 0 [])).aJ) ((ak.mk z50 x31 [(Seg.mk x47 x48)] z53 ((dO .i64 z51 1) == 1) (aH.mk 0 0 [])).fT) (aH.mk x66 x67 x68)).aJ)),(.d (.bool (ak.mk ((ak.mk z50 x31 [(Seg.mk x47 x48)] z53 ((dO .i64 z51 1) == 1) (aH.mk 0 0 [])).Name) ((ak.mk z50 x31 [(Seg.mk x47 x48)] z53 ((dO .i64 z51 1) == 1) (aH.mk 0 0 [])).Parent) ((ak.mk z50 x31 [(Seg.mk x47 x48)] z53 ((dO .i64 z51 1) == 1) (aH.mk 0 0 [])).dX) ((ak.mk z50 x31 [(Seg.mk x47 x48)] z53 ((dO .i64 z51 1) == 1) (aH.mk 0 0 [])).aJ) ((ak.mk z50 x31 [(Seg.mk x47 x48)] z53 ((dO .i64 z51 1) == 1) (aH.mk 0 0 [])).fT) (aH.mk x66 x67 x68)).fT)),(.d (.int .i64 (ak.mk ((ak.mk z50 x31 [(Seg.mk x47 x48)] z53 ((dO .i64 z51 1) == 1) (aH.mk 0 0 [])).Name) ((ak.mk z50 x31 [(Seg.mk x47 x48)] z53 ((dO .i64 z51 1) == 1) (aH.mk 0 0 [])).Parent) ((ak.mk z50 x31 [(Seg.mk x47 x48)] z53 ((dO .i64 z51 1) == 1) (aH.mk 0 0 [])).dX) ((ak.mk z50 x31 [(Seg.mk x47 x48)] z53 ((dO .i64 z51 1) == 1) (aH.mk 0 0 [])).aJ) ((ak.mk z50 x31 [(Seg.mk x47 x48)] z53 ((dO .i64 z51 1) == 1) (aH.mk 0 0 [])).fT) (aH.mk x66 x67 x68)).aH.Kind)),(.d (.int .i64 (ak.mk ((ak.mk z50 x31 [(Seg.mk x47 x48)] z53 ((dO .i64 z51 1) == 1) (aH.mk 0 0 [])).Name) ((ak.mk z50 x31 [(Seg.mk x47 x48)] z53 ((dO .i64 z51 1) == 1) (aH.mk 0 0 [])).Parent) ((ak.mk z50 x31 [(Seg.mk x47 x48)] z53 ((dO .i64 z51 1) == 1) (aH.mk 0 0 [])).dX) ((ak.mk z50 x31 [(Seg.mk x47 x48)] z53 ((dO .i64 z51 1) == 1) (aH.mk 0 0 [])).aJ) ((ak.mk z50 x31 [(Seg.mk x47 x48)] z53 ((dO .i64 z51 1) == 1) (aH.mk 0 0 [])).fT) (aH.mk x66 x67 x68)).aH.Flag)),(.d (.str (ak.mk ((ak.mk z50 x31 [(Seg.mk x47 x48)] z53 ((dO .i64 z51 1) == 1) (aH.mk 0 0 [])).Name) ((ak.mk z50 x31 [(Seg.mk x47 x48)] z53 ((dO .i64 z51 1) == 1) (aH.mk 0 0 [])).Parent) ((ak.mk z50 x31 [(Seg.mk x47 x48)] z53 ((dO .i64 z51 1) == 1) (aH.mk 0 0 [])).dX) ((ak.mk z50 x31 [(Seg.mk x47 x48)] z53 ((dO .i64 z51 1) == 1) (aH.mk 0 0 [])).aJ) ((ak.mk z50 x31 [(Seg.mk x47 x48)] z53 ((dO .i64 z51 1) == 1) (aH.mk 0 0 [])).fT) (aH.mk x66 x67 x68)).aH.To))]]) H65 rfl zX oK lY tu jm rfl (by decide) (.cons (kF (ak.bf _)) rfl .nil) rfl (.cons (by rw [ak.cells]; exact .refl _) .nil) (fun z=>ak.len z) (fun x=>ak.flat x) rfl rfl (fun v70 S71 H72=>?_)
      obtain ⟨SF6,HF6,hgF6⟩:=H72.freeze (dZ E).toObjOk (i:=0) (l':=[.box b59 [(.d (.str (ak.mk z50 x31 [(Seg.mk x47 x48)] z53 ((dO .i64 z51 1) == 1) (aH.mk 0 0 [])).Name)),(.d (.int .i64 (ak.mk z50 x31 [(Seg.mk x47 x48)] z53 ((dO .i64 z51 1) == 1) (aH.mk 0 0 [])).Parent)),(.d (.sl (((ak.mk z50 x31 [(Seg.mk x47 x48)] z53 ((dO .i64 z51 1) == 1) (aH.mk 0 0 [])).dX).map bB) false)),(.d (.int .i64 (ak.mk z50 x31 [(Seg.mk x47 x48)] z53 ((dO .i64 z51 1) == 1) (aH.mk 0 0 [])).aJ)),(.d (.bool (ak.mk z50 x31 [(Seg.mk x47 x48)] z53 ((dO .i64 z51 1) == 1) (aH.mk 0 0 [])).fT)),(.d (.int .i64 x66)),(.d (.int .i64 x67)),(.d (.str x68))],.box b2 [(.d (.sl ((a1.Parents).map (D.int .i64)) false)),(.d (.sl ((a1.Kinds).map (D.int .i64)) false)),(.d (.sl ((a1.Texts).map (D.int .i64)) false)),(.d (.sl ((a1.Rules).map (D.int .i64)) false)),(.d (.sl ((a1.Flags).map (D.int .i64)) false)),(.d (.sl ((a1.fq).map (D.int .i64)) false)),(.d (.sl ((a1.Comps).map (D.int .i64)) false))],.row 8 v20 ((x19).map aB),.grow v22 ((x21).map (D.int .i64))]) rfl (.same (.same (.same (.same .nil))))
      refine ae.ghost (hgF6 _ _ [(1,(.ptr b2 0 0)),(3,(.d (.sl ((([[97],[98],[105,116,101,109],[122],[49],[108,105,115,116]]:List Str)).map D.str) true))),(4,v20),(5,v22),(6,(.d (.int .i64 x23))),(8,(.d (.int .i64 x35))),(11,(.ptr b59 0 0)),(150,v20),(151,(.d (aB (ak.mk ((ak.mk z50 x31 [(Seg.mk x47 x48)] z53 ((dO .i64 z51 1) == 1) (aH.mk 0 0 [])).Name) ((ak.mk z50 x31 [(Seg.mk x47 x48)] z53 ((dO .i64 z51 1) == 1) (aH.mk 0 0 [])).Parent) ((ak.mk z50 x31 [(Seg.mk x47 x48)] z53 ((dO .i64 z51 1) == 1) (aH.mk 0 0 [])).dX) ((ak.mk z50 x31 [(Seg.mk x47 x48)] z53 ((dO .i64 z51 1) == 1) (aH.mk 0 0 [])).aJ) ((ak.mk z50 x31 [(Seg.mk x47 x48)] z53 ((dO .i64 z51 1) == 1) (aH.mk 0 0 [])).fT) (aH.mk x66 x67 x68))))),(152,(.d (.sl (([(ak.mk ((ak.mk z50 x31 [(Seg.mk x47 x48)] z53 ((dO .i64 z51 1) == 1) (aH.mk 0 0 [])).Name) ((ak.mk z50 x31 [(Seg.mk x47 x48)] z53 ((dO .i64 z51 1) == 1) (aH.mk 0 0 [])).Parent) ((ak.mk z50 x31 [(Seg.mk x47 x48)] z53 ((dO .i64 z51 1) == 1) (aH.mk 0 0 [])).dX) ((ak.mk z50 x31 [(Seg.mk x47 x48)] z53 ((dO .i64 z51 1) == 1) (aH.mk 0 0 [])).aJ) ((ak.mk z50 x31 [(Seg.mk x47 x48)] z53 ((dO .i64 z51 1) == 1) (aH.mk 0 0 [])).fT) (aH.mk x66 x67 x68))]).map aB) false)))] (.cons rfl (.refl _) (.cons rfl (.refl _) (.cons rfl (.refl _) (.cons rfl (.refl _) (.cons rfl (.refl _) (.cons rfl (.refl _) (.cons rfl (.refl _) (.cons rfl (.refl _) (.cons rfl (.refl _) (.it rfl .nil))))))))))) ?_
      obtain ⟨z73,hzz73,h⟩:=bind_some h
      refine ae.rH (xs:=(x19).map aB) (ys:=([(ak.mk ((ak.mk z50 x31 [(Seg.mk x47 x48)] z53 ((dO .i64 z51 1) == 1) (aH.mk 0 0 [])).Name) ((ak.mk z50 x31 [(Seg.mk x47 x48)] z53 ((dO .i64 z51 1) == 1) (aH.mk 0 0 [])).Parent) ((ak.mk z50 x31 [(Seg.mk x47 x48)] z53 ((dO .i64 z51 1) == 1) (aH.mk 0 0 [])).dX) ((ak.mk z50 x31 [(Seg.mk x47 x48)] z53 ((dO .i64 z51 1) == 1) (aH.mk 0 0 [])).aJ) ((ak.mk z50 x31 [(Seg.mk x47 x48)] z53 ((dO .i64 z51 1) == 1) (aH.mk 0 0 [])).fT) (aH.mk x66 x67 x68))]).map aB) (zs:=(z73).map aB) HF6 rfl rfl rfl (i:=2) rfl jm rfl zX Jw oK (fI hzz73) NH rfl (bS (enc:=aB) (fun z=>(ak.len z).trans jm.symm) _) (tQ (fun x=>ak.flat x) _) rfl J2 rfl (jK hzz73) (fun v74 S75 H76=>?_)
      refine ae.val rfl (aj rfl) rfl ?_
      refine ae.nil ?_
      refine ax.region (dZ E) rfl ?_
      refine ae.val rfl (ah rfl) rfl ?_
      refine ae.val rfl (ah rfl) rfl ?_
      refine ae.val rfl (aP (vs:=[(.d (.int .i64 x35))]) (ds:=[(.int .i64 x35)]) sF kV jl Gs pI rfl (by decide) (.cons rfl rfl .nil) rfl (by intro d hd; simp only [List.mem_cons,List.not_mem_nil,or_false] at hd; rcases hd with rfl <;> rfl) rfl) rfl ?_
      obtain ⟨z77,hzz77,h⟩:=bind_some h
      refine ae.append (xs:=(x21).map (D.int .i64)) (ys:=([x35]).map (D.int .i64)) (zs:=(z77).map (D.int .i64)) H76 rfl rfl rfl (i:=3) rfl rfl sF LU kV (fI hzz77) Nw rfl (bS (enc:=(D.int .i64)) (fun _=>pI.symm) _) (bS (enc:=(D.int .i64)) (fun _=>pI.symm) _) MZ rfl (jK hzz77) (fun v78 S79 H80=>?_)
      refine ae.val rfl (aj rfl) rfl ?_
      refine ae.nil ?_
      refine ax.region (dZ E) rfl ?_
      refine ae.val rfl (ah rfl) rfl ?_
      refine ae.val rfl (ay rfl rfl bI) rfl ?_
      refine ae.val rfl (aj rfl) rfl ?_
      refine ae.nil ?_
      exact ⟨⟨z73,v74,z77,v78,(IntKind.wrap .i64 (x23 + 1))⟩,_,_,S79,.refl _ _,.refl _,(aa.r rfl (aa.r rfl (aa.r rfl (aa.r rfl (aa.r rfl aa.nil))))),H80.sl [1,2,3] rfl rfl,h⟩
     refine ax.seq ?_
     refine ax.region (dZ E) rfl ?_
     refine ae.val rfl (ai rfl Ju lV rfl) rfl ?_
     refine ae.val rfl (av H63 (i:=2) rfl rfl (aA mr rfl)) rfl ?_
     refine ae.val rfl (ah rfl) rfl ?_
     obtain ⟨z81,hzz81,h⟩:=bind_some h
     refine ae.ret rfl (aC rfl rfl) (bK E _ _ _ _ hzz81 _ _ (aD.eq (aD.eq .nil))) rfl ?_
     refine ae.val rfl (ay rfl rfl wW) rfl ?_
     refine ae.val rfl (ay rfl rfl dD) rfl ?_
     refine ae.nil ?_
     refine ax.cond rfl (fun hb82=>?_) (fun hb82=>?_)
     ·
      replace h:=cB hb82 h
      refine ax.seq ?_
      obtain ⟨z83,hzz83,h⟩:=bind_some h
      obtain ⟨z84,hzz84,h⟩:=bind_some h
      obtain ⟨z85,hzz85,h⟩:=bind_some h
      obtain ⟨z86,hzz86,h⟩:=bind_some h
      obtain ⟨z87,hzz87,h⟩:=bind_some h
      refine ax.qi (dZ E) pM Qm [(1,none),(3,none),(4,none),(5,none),(6,none),(8,none),(11,none)] (by kernel_rfl) [13] (by decide) [some (.ptr b2 0 3),some (.d (.sl ((a1.Rules).map (D.int .i64)) false)),some (.d (.int .i64 x23)),some (.d (.int .i64 z83)),some (.d (.int .i64 z84)),some (.d (.int .i64 z85)),some (.ptr b2 0 4),some (.d (.sl ((a1.Flags).map (D.int .i64)) false)),some (.d (.int .i64 x23)),some (.d (.int .i64 z86)),some (.d (.int .i64 z87)),some (.d (kS (aH.mk z85 z87 []))),some (.ptr b59 0 5),none] ?_
      refine ⟨[0,1,2,3,4,5,6,7,8,9,10,11,12],by kernel_rfl,?_,_,_,rfl,rfl,.step ?_⟩
      ·
       refine .v rfl rfl rfl rfl (ai rfl Ju lV rfl) ?_
       refine .v rfl rfl rfl rfl (av H63 (i:=2) rfl rfl (aA mr rfl)) ?_
       refine .v rfl rfl rfl rfl (ah rfl) ?_
       refine .cons rfl rfl rfl (.step ?_) ?_
       ·
        refine ae.ret rfl (aC rfl rfl) (bK E _ _ _ _ hzz83 _ _ (aD.eq (aD.eq .nil))) rfl ?_
        exact ae.nil ⟨_,_,rfl,fun _ ht=>by cases ht; exact ⟨rfl,.refl _⟩⟩
       refine .v rfl rfl rfl rfl (ay rfl rfl (xe hzz84)) ?_
       refine .cons rfl rfl rfl (.step ?_) ?_
       ·
        refine ae.ret rfl (aC rfl rfl) (aN E _ _ _ _ _ hzz85 _ _ (aD.eq (aD.eq (aD.eq .nil)))) rfl ?_
        exact ae.nil ⟨_,_,rfl,fun _ ht=>by cases ht; exact ⟨rfl,.refl _⟩⟩
       refine .v rfl rfl rfl rfl (ai rfl JK lV rfl) ?_
       refine .v rfl rfl rfl rfl (av H63 (i:=2) rfl rfl (aA mr rfl)) ?_
       refine .v rfl rfl rfl rfl (ah rfl) ?_
       refine .cons rfl rfl rfl (.step ?_) ?_
       ·
        refine ae.ret rfl (aC rfl rfl) (bK E _ _ _ _ hzz86 _ _ (aD.eq (aD.eq .nil))) rfl ?_
        exact ae.nil ⟨_,_,rfl,fun _ ht=>by cases ht; exact ⟨rfl,.refl _⟩⟩
       refine .cons rfl rfl rfl (.step ?_) ?_
       ·
        refine ae.ret rfl (aC rfl rfl) (aN E _ _ _ _ _ hzz87 _ _ (aD.eq (aD.eq (aD.eq .nil)))) rfl ?_
        exact ae.nil ⟨_,_,rfl,fun _ ht=>by cases ht; exact ⟨rfl,.refl _⟩⟩
       refine .cons rfl rfl rfl (.step ?_) ?_
       ·
        refine ae.val rfl (bH (cs:=[(.d (.int .i64 z85)),(.d (.int .i64 z87)),(.d (.str []))]) MG rfl (xN) (cO rfl rfl rfl rfl (cO rfl rfl rfl rfl rfl))) rfl ?_
        refine ae.less (Less.agg' (d:=kS (aH.mk z85 z87 [])) (au.eq rfl (au.eq rfl (au.eq rfl .nil))) ((aH.eq _).trans rfl)) ?_
        exact ae.nil ⟨_,_,rfl,fun _ ht=>by cases ht; exact ⟨rfl,.refl _⟩⟩
       refine .v rfl rfl rfl rfl (ai rfl rA AU rfl) ?_
       exact .nil
      refine ae.store H63 (i:=0) rfl rfl rfl rfl (aH.bf _) rfl FQ rfl ME rfl rfl rfl (fun S90 H91=>?_)
      refine ae.nil ⟨_,.any,_,rfl,(fun _ ht=>by cases ht),_,(.q (.q (.q (.o (.w .any .nil))))),(fun _ ht=>by cases ht),?_⟩
      refine ⟨[],by kernel_rfl,?_,_,rfl,?_⟩
      ·
       exact .nil
      refine ax.seq ?_
      refine ax.region (dZ E) rfl ?_
      refine ae.val rfl (ai rfl rA AU rfl) rfl ?_
      refine ae.val rfl (ai rfl ug kL rfl) rfl ?_
      refine ae.val rfl (av H91 (i:=0) rfl rfl (aA jl rfl)) rfl ?_
      refine ae.val rfl (ay rfl rfl dD) rfl ?_
      refine ae.val rfl (ah rfl) rfl ?_
      refine ae.bC 5 134 (.d (.bool ((((aH.mk z85 z87 []).Kind) == 3) || (((aH.mk z85 z87 []).Kind) == 4)))) ?_ ?_
      ·
       rcases Bool.eq_false_or_eq_true ((((aH.mk z85 z87 []).Kind) == 3)) with hB92 | hB92
       ·
        refine ae.bool hB92 ?_
        refine ae.no rfl rfl ?_
        refine ae.no rfl rfl ?_
        refine ae.no rfl rfl ?_
        refine ae.no rfl rfl ?_
        refine ae.val rfl (az (b:=true) rfl rfl) rfl ?_
        exact ae.nil ⟨_,rfl,(aa.put (aa.push rfl (aa.push rfl (aa.push rfl (aa.push rfl (aa.put (.refl _) (Less.eq (by rw [hB92]))))))) (Less.eq (by rw [hB92]; rw [Bool.true_or])))⟩
       refine ae.bool hB92 ?_
       refine ae.val rfl (ai rfl rA AU rfl) rfl ?_
       refine ae.val rfl (ai rfl ug kL rfl) rfl ?_
       refine ae.val rfl (av H91 (i:=0) rfl rfl (aA jl rfl)) rfl ?_
       refine ae.val rfl (ay rfl rfl dD) rfl ?_
       refine ae.val rfl (az (b:=false) rfl rfl) rfl ?_
       exact ae.nil ⟨_,rfl,(aa.put (aa.push rfl (aa.push rfl (aa.push rfl (aa.push rfl (aa.put (.refl _) (Less.eq (by rw [hB92]))))))) (Less.eq (by rw [hB92]; rw [Bool.false_or])))⟩
      refine ae.nil ?_
      refine ax.cond rfl (fun hb93=>?_) (fun hb93=>?_)
      ·
       replace h:=cB hb93 h
       refine ax.region (dZ E) rfl ?_
       refine ae.val rfl (ah rfl) rfl ?_
       refine ae.val rfl (ai rfl JK lV rfl) rfl ?_
       refine ae.val rfl (av H91 (i:=2) rfl rfl (aA mr rfl)) rfl ?_
       refine ae.val rfl (ah rfl) rfl ?_
       refine ae.val rfl (ay rfl rfl bI) rfl ?_
       obtain ⟨z94,hzz94,h⟩:=bind_some h
       refine ae.ret rfl (aC rfl rfl) (bK E _ _ _ _ hzz94 _ _ (aD.eq (aD.eq .nil))) rfl ?_
       refine ae.val rfl (ah rfl) rfl ?_
       refine ae.val rfl (jv H91 (i:=3) rfl rfl sD) rfl ?_
       refine ae.val rfl (ay rfl rfl iV) rfl ?_
       obtain ⟨z95,hzz95,h⟩:=bind_some h
       refine ae.ret rfl (aC rfl rfl) (aN E _ _ _ _ _ hzz95 _ _ (aD.eq (aD.eq (aD.eq .nil)))) rfl ?_
       obtain ⟨z96,hzz96,h⟩:=bind_some h
       refine ae.iM (enc:=aB) H91 rfl (i:=3) rfl rfl rfl hzz96 oK lY ((ak.len _).trans jm.symm) rfl ?_
       refine ae.gu H91 (i:=3) rfl hzz96 rfl rfl uf yO rfl rfl ?_
       refine ae.lC H91 rfl (i:=3) rfl hzz96 rfl (by rw [ak.cells]; exact dL u6 rfl) rfl ?_
       refine ae.val rfl (ai rfl rA AU rfl) rfl ?_
       refine ae.val rfl (ai rfl Gr yO rfl) rfl ?_
       refine ae.store H91 (i:=0) rfl rfl rfl rfl rfl rfl Fp rfl Ji rfl rfl rfl (fun S97 H98=>?_)
       refine ae.nil ?_
       exact ⟨⟨(aH.mk z85 z87 []).Kind,(aH.mk z85 z87 []).Flag,z96.Name⟩,_,_,S97,.refl _ _,.refl _,(aa.r rfl (aa.r rfl (aa.r rfl (aa.r rfl (aa.r rfl (aa.r rfl (aa.r rfl aa.nil))))))),H98.sl [0,2,3,4] rfl rfl,h⟩
      replace h:=cK hb93 h
      refine ax.skip ?_
      exact ⟨⟨(aH.mk z85 z87 []).Kind,(aH.mk z85 z87 []).Flag,(aH.mk z85 z87 []).To⟩,_,_,S90,.refl _ _,.refl _,(aa.r rfl (aa.r rfl (aa.r rfl (aa.r rfl (aa.r rfl (aa.r rfl (aa.r rfl aa.nil))))))),H91.sl [0,2,3,4] rfl rfl,h⟩
     replace h:=cK hb82 h
     refine ax.skip ?_
     exact ⟨⟨(ak.mk z50 x31 [(Seg.mk x47 x48)] z53 ((dO .i64 z51 1) == 1) (aH.mk 0 0 [])).aH.Kind,(ak.mk z50 x31 [(Seg.mk x47 x48)] z53 ((dO .i64 z51 1) == 1) (aH.mk 0 0 [])).aH.Flag,(ak.mk z50 x31 [(Seg.mk x47 x48)] z53 ((dO .i64 z51 1) == 1) (aH.mk 0 0 [])).aH.To⟩,_,_,S62,.refl _ _,.refl _,(aa.r rfl (aa.r rfl (aa.r rfl (aa.r rfl (aa.r rfl (aa.r rfl (aa.r rfl aa.nil))))))),H63.sl [0,2,3,4] rfl rfl,h⟩
    refine ax.seq ?_
    refine ax.region (dZ E) rfl ?_
    refine ae.val rfl (ai rfl vw kL rfl) rfl ?_
    refine ae.val rfl (av H44 (i:=0) rfl rfl (aA jl rfl)) rfl ?_
    refine ae.val rfl (ay rfl rfl qj) rfl ?_
    refine ae.nil ?_
    refine ax.cond rfl (fun hb99=>?_) (fun hb99=>?_)
    ·
     replace h:=cB hb99 h
     refine ax.region (dZ E) rfl ?_
     refine ae.val rfl (ah rfl) rfl ?_
     refine ae.val rfl (ai rfl MW lV rfl) rfl ?_
     refine ae.val rfl (av H44 (i:=1) rfl rfl (aA mr rfl)) rfl ?_
     refine ae.val rfl (ah rfl) rfl ?_
     obtain ⟨z100,hzz100,h⟩:=bind_some h
     refine ae.ret rfl (aC rfl rfl) (bK E _ _ _ _ hzz100 _ _ (aD.eq (aD.eq .nil))) rfl ?_
     refine ae.val rfl (ah rfl) rfl ?_
     refine ae.val rfl (aS rfl I8) rfl ?_
     refine ae.val rfl (ay rfl rfl iV) rfl ?_
     obtain ⟨z101,hzz101,h⟩:=bind_some h
     refine ae.ret rfl (aC rfl rfl) (aN E _ _ _ _ _ hzz101 _ _ (aD.eq (aD.eq (aD.eq .nil)))) rfl ?_
     obtain ⟨z102,hzz102,h⟩:=bind_some h
     refine ae.val rfl (bE rfl rfl (bY (enc:=D.str) hzz102 zG Ji (((fun _=>rfl) _).trans Fp.symm))) rfl ?_
     refine ae.val rfl (aU rfl (dL u6 rfl)) rfl ?_
     refine ae.val rfl (bH (cs:=[(.d (.int .i64 0)),(.d (.str z102))]) yM rfl (lL) (cO rfl rfl rfl rfl rfl)) rfl ?_
     refine ae.less (Less.agg' (d:=bB (Seg.mk 0 z102)) (au.eq rfl (au.eq rfl .nil)) ((Seg.eq _).trans rfl)) ?_
     refine ae.store H44 (i:=0) rfl rfl rfl rfl (Seg.bf _) rfl pO rfl EZ rfl rfl rfl (fun S103 H104=>?_)
     refine ae.nil ?_
     exact ⟨⟨(Seg.mk 0 z102).Kind,(Seg.mk 0 z102).Text⟩,_,_,S103,.refl _ _,.refl _,(aa.r rfl (aa.r rfl (aa.r rfl (aa.r rfl (aa.r rfl (aa.r rfl (aa.r rfl (aa.r rfl (aa.r rfl aa.nil))))))))),H104.sl [0,1,2,3] rfl rfl,h⟩
    replace h:=cK hb99 h
    refine ax.skip ?_
    exact ⟨⟨(Seg.mk (IntKind.wrap .i64 (z38 - 1)) z39).Kind,(Seg.mk (IntKind.wrap .i64 (z38 - 1)) z39).Text⟩,_,_,S43,.refl _ _,.refl _,(aa.r rfl (aa.r rfl (aa.r rfl (aa.r rfl (aa.r rfl (aa.r rfl (aa.r rfl (aa.r rfl (aa.r rfl aa.nil))))))))),H44.sl [0,1,2,3] rfl rfl,h⟩
   refine ax.seq ?_
   refine ax.region (dZ E) rfl ?_
   refine ae.val rfl (ah rfl) rfl ?_
   refine ae.val rfl (ay rfl rfl iJ) rfl ?_
   refine ae.nil ?_
   refine ax.cond rfl (fun hb105=>?_) (fun hb105=>?_)
   ·
    replace h:=cB hb105 h
    refine ax.region (dZ E) rfl ?_
    refine ae.val rfl (ah rfl) rfl ?_
    refine ae.val rfl (ah rfl) rfl ?_
    obtain ⟨z106,hzz106,h⟩:=bind_some h
    refine ae.val rfl (bE rfl rfl (su (enc:=(D.int .i64)) H30 (i:=2) rfl hzz106 kV xC (((fun _=>rfl) _).trans pI.symm))) rfl ?_
    refine ae.val rfl (aU rfl (dL jl rfl)) rfl ?_
    refine ae.val rfl (ay rfl rfl bI) rfl ?_
    refine ae.val rfl (aj rfl) rfl ?_
    refine ae.nil ?_
    exact ⟨(IntKind.wrap .i64 (z106 + 1)),_,_,S29,.refl _ _,.refl _,(aa.r rfl (aa.r rfl (aa.r rfl (aa.r rfl (aa.r rfl (aa.r rfl (aa.r rfl aa.nil))))))),H30.sl [0,1,2] rfl rfl,h⟩
   replace h:=cK hb105 h
   refine ax.skip ?_
   exact ⟨1,_,_,S29,.refl _ _,.refl _,(aa.r rfl (aa.r rfl (aa.r rfl (aa.r rfl (aa.r rfl (aa.r rfl (aa.r rfl aa.nil))))))),H30.sl [0,1,2] rfl rfl,h⟩
  refine ax.seq ?_
  refine ax.region (dZ E) rfl ?_
  refine ae.val rfl (ah rfl) rfl ?_
  refine ae.val rfl (ay rfl rfl iJ) rfl ?_
  refine ae.val rfl (ah rfl) rfl ?_
  obtain ⟨z108,hzz108,h⟩:=bind_some h
  refine ae.bC 14 52 (.d (.bool z108)) ?_ ?_
  ·
   rcases Bool.eq_false_or_eq_true ((decide (0 ≤ z28))) with hB107 | hB107
   ·
    refine ae.bool hB107 ?_
    replace hzz108:=cB hB107 hzz108
    refine ae.val rfl (ah rfl) rfl ?_
    refine ae.val rfl (ah rfl) rfl ?_
    obtain ⟨z109,hzz109,hzz108⟩:=bind_some hzz108
    refine ae.val rfl (bE rfl rfl (su (enc:=(D.int .i64)) H18 (i:=2) rfl hzz109 kV xC (((fun _=>rfl) _).trans pI.symm))) rfl ?_
    refine ae.val rfl (aU rfl (dL jl rfl)) rfl ?_
    refine ae.val rfl (ay rfl rfl jT) rfl ?_
    refine ae.val rfl (ah rfl) rfl ?_
    obtain ⟨z111,hzz111,hzz108⟩:=bind_some hzz108
    refine ae.bC 7 51 (.d (.bool z111)) ?_ ?_
    ·
     rcases Bool.eq_false_or_eq_true ((decide (3 < z109))) with hB110 | hB110
     ·
      refine ae.bool hB110 ?_
      refine ae.no rfl rfl ?_
      refine ae.no rfl rfl ?_
      refine ae.no rfl rfl ?_
      refine ae.no rfl rfl ?_
      refine ae.no rfl rfl ?_
      refine ae.no rfl rfl ?_
      refine ae.val rfl (az (b:=true) rfl rfl) rfl ?_
      replace hzz111:=cB hB110 hzz111
      cases hzz111
      exact ae.nil ⟨_,rfl,(aa.put (aa.push rfl (aa.push rfl (aa.push rfl (aa.push rfl (aa.push rfl (aa.push rfl (aa.put (.refl _) (Less.eq (by rw [hB110]))))))))) (.refl _))⟩
     refine ae.bool hB110 ?_
     replace hzz111:=cK hB110 hzz111
     refine ae.val rfl (ah rfl) rfl ?_
     refine ae.val rfl (ah rfl) rfl ?_
     obtain ⟨z112,hzz112,hzz111⟩:=bind_some hzz111
     refine ae.iM (enc:=aB) H18 rfl (i:=1) rfl rfl rfl hzz112 oK lY ((ak.len _).trans jm.symm) rfl ?_
     refine ae.gu H18 (i:=1) rfl hzz112 rfl rfl xk Ia rfl rfl ?_
     refine ae.lC H18 rfl (i:=1) rfl hzz112 rfl (by rw [ak.cells]; exact dL Jt rfl) rfl ?_
     obtain ⟨z113,hzz113,hzz111⟩:=bind_some hzz111
     refine ae.ret rfl (aC rfl rfl) (uO E _ _ _ hzz113 _ _ (aD.eq .nil)) rfl ?_
     refine ae.val rfl (az (b:=false) rfl rfl) rfl ?_
     cases hzz111
     exact ae.nil ⟨_,rfl,(aa.put (aa.push rfl (aa.push rfl (aa.push rfl (aa.push rfl (aa.push rfl (aa.push rfl (aa.put (.refl _) (Less.eq (by rw [hB110]))))))))) (.refl _))⟩
    refine ae.val rfl (az (b:=true) rfl rfl) rfl ?_
    cases hzz108
    exact ae.nil ⟨_,rfl,(aa.put (aa.push rfl (aa.push rfl (aa.push rfl (aa.push rfl (aa.push rfl (aa.push rfl (aa.push rfl (aa.put (.refl _) (Less.eq (by rw [hB107])))))))))) (.refl _))⟩
   refine ae.bool hB107 ?_
   refine ae.no rfl rfl ?_
   refine ae.no rfl rfl ?_
   refine ae.no rfl rfl ?_
   refine ae.no rfl rfl ?_
   refine ae.no rfl rfl ?_
   refine ae.no rfl rfl ?_
   refine ae.no rfl rfl ?_
   refine ae.no rfl rfl ?_
   refine ae.no rfl rfl ?_
   refine ae.no rfl rfl ?_
   refine ae.no rfl rfl ?_
   refine ae.no rfl rfl ?_
   refine ae.no rfl rfl ?_
   refine ae.val rfl (az (b:=false) rfl rfl) rfl ?_
   replace hzz108:=cK hB107 hzz108
   cases hzz108
   exact ae.nil ⟨_,rfl,(aa.put (aa.push rfl (aa.push rfl (aa.push rfl (aa.push rfl (aa.push rfl (aa.push rfl (aa.push rfl (aa.push rfl (aa.push rfl (aa.push rfl (aa.push rfl (aa.push rfl (aa.push rfl (aa.put (.refl _) (Less.eq (by rw [hB107])))))))))))))))) (.refl _))⟩
  refine ae.nil ?_
  refine ax.cond rfl (fun hb114=>?_) (fun hb114=>?_)
  ·
   replace h:=cB hb114 h
   refine ax.region (dZ E) rfl ?_
   refine ae.val rfl (aj rfl) rfl ?_
   refine ae.nil ?_
   exact ⟨(-1),_,_,S17,.refl _ _,.refl _,(aa.r rfl (aa.r rfl (aa.r rfl (aa.r rfl (aa.r rfl (aa.r rfl aa.nil)))))),H18.sl [0,1,2] rfl rfl,h⟩
  replace h:=cK hb114 h
  refine ax.skip ?_
  exact ⟨z28,_,_,S17,.refl _ _,.refl _,(aa.r rfl (aa.r rfl (aa.r rfl (aa.r rfl (aa.r rfl (aa.r rfl aa.nil)))))),H18.sl [0,1,2] rfl rfl,h⟩
 replace h:=cK hb26 h
 refine ax.exit ?_
 refine ax.seq ?_
 refine ax.region (dZ E) rfl ?_
 refine ae.val rfl (ah rfl) rfl ?_
 refine ae.val rfl (aj rfl) rfl ?_
 refine ae.nil ?_
 have hr:=Option.some.inj h
 subst hr
 exact ax.ret ⟨_,rfl,rfl,_,_,.refl _,rfl,H18.sl [1] rfl rfl⟩
set_option maxRecDepth 20000 in
set_option maxHeartbeats 4000000 in
theorem nu:∀ (n:Nat) (a1:aK) (r:aK),bF n a1=some r→bN R cfg.P 48 [(aG a1)] (.d (aG r))
 | 0,a1,r,h=>by simp [bF] at h
 | n + 1,a1,r,h=>by
  have ih:=nu n
  unfold bF at h
  refine bN.of_wp E.obj.toObjOk (C:=cfg) Tryd.func48 rfl N8 rfl ?_
  have H0:Has aF aF []:=Has.pure
  refine ax.seq ?_
  refine ax.region E.obj rfl ?_
  refine ae.box H0 rfl rfl rfl (aK.bf _) rfl (fun b2 S3 H4=>?_)
  refine ae.alloc H4 rfl yF lJ rfl rfl (fun b5 S6 H7=>?_)
  refine ae.nil ?_
  refine ax.seq ?_
  refine ax.region E.obj rfl ?_
  refine ae.val rfl (aj rfl) rfl ?_
  refine ae.nil ?_
  refine ax.seq ?_
  refine ax.seq ?_
  refine ax.region E.obj rfl ?_
  refine ae.val rfl (ai rfl jC qF rfl) rfl ?_
  refine ae.val rfl (av H7 (i:=1) rfl rfl (aA uP rfl)) rfl ?_
  refine ae.val rfl (aS rfl yL) rfl ?_
  refine ae.val rfl (ah rfl) rfl ?_
  refine ae.nil ?_
  refine ax.block ?_
  have H43:=H7.Gh
  refine nz.start (B:=aF) (α:=(List aK) × AV × Int) (fun k a=>aX (bF n) a1 k a.1 a.2.2=some r) (fun a=>[(1,(.ptr b2 0 0)),(2,(.ptr b5 0 0)),(3,a.2.1),(7,(.d (.sl ((a1.Kids).map aG) false))),(8,(.d (.int .i64 ((a1.Kids).length:Int)))),(9,(.d (.int .i64 a.2.2)))]) (fun a=>[.box b5 [(.d (.int .i64 0)),(.d (.int .i64 0)),(.d (.str [])),(.d (.str [])),(.d .aO),(.d .aO)],.box b2 [(.d (.int .i64 a1.Kind)),(.d (.int .i64 a1.N)),(.d (.str a1.Tag)),(.d (.str a1.Text)),(.d (.sl ((a1.bR).map aR) false)),(.d (.sl ((a1.Kids).map aG) false))],.grow a.2.1 ((a.1).map aG)]) ?_ ?_ n ⟨⟨[],(.d .aO),0⟩,_,_,S6,.refl _ _,.refl _,(aa.r rfl (aa.r rfl (aa.r rfl (aa.r rfl (aa.r rfl (aa.r rfl aa.nil)))))),H43.sl [1,2,0] rfl rfl,h⟩
  ·
   intro a h; simp [aX] at h
  intro k20 a S15 H16 h
  obtain ⟨x17,v18,x19⟩:=a
  replace h:aX (bF n) a1 (k20 + 1) x17 x19=some r:=h
  replace H16:Has aF S15 [.box b5 [(.d (.int .i64 0)),(.d (.int .i64 0)),(.d (.str [])),(.d (.str [])),(.d .aO),(.d .aO)],.box b2 [(.d (.int .i64 a1.Kind)),(.d (.int .i64 a1.N)),(.d (.str a1.Tag)),(.d (.str a1.Text)),(.d (.sl ((a1.bR).map aR) false)),(.d (.sl ((a1.Kids).map aG) false))],.grow v18 ((x17).map aG)]:=H16
  unfold aX at h
  refine ax.seq ?_
  refine ax.region E.obj rfl ?_
  refine ae.val rfl (ay rfl rfl bG) rfl ?_
  refine ae.nil ?_
  refine ax.seq ?_
  refine ax.cond rfl (fun hb21=>?_) (fun hb21=>?_)
  ·
   replace h:=cB hb21 h
   refine ax.skip ?_
   refine ax.join (B:=aF) (α:=(List aK) × AV) (fun a=>dE x19 (aX (bF n) a1 k20) a.1=some r) (fun a=>[(1,(.ptr b2 0 0)),(2,(.ptr b5 0 0)),(3,a.2),(7,(.d (.sl ((a1.Kids).map aG) false))),(8,(.d (.int .i64 ((a1.Kids).length:Int)))),(9,(.d (.int .i64 x19)))]) (fun a=>[.box b5 [(.d (.int .i64 0)),(.d (.int .i64 0)),(.d (.str [])),(.d (.str [])),(.d .aO),(.d .aO)],.box b2 [(.d (.int .i64 a1.Kind)),(.d (.int .i64 a1.N)),(.d (.str a1.Tag)),(.d (.str a1.Text)),(.d (.sl ((a1.bR).map aR) false)),(.d (.sl ((a1.Kids).map aG) false))],.grow a.2 ((a.1).map aG)]) ?_ ?_
   ·
    intro a S22 H23 h
    obtain ⟨x24,v25⟩:=a
    replace h:dE x19 (aX (bF n) a1 k20) x24=some r:=h
    replace H23:Has aF S22 [.box b5 [(.d (.int .i64 0)),(.d (.int .i64 0)),(.d (.str [])),(.d (.str [])),(.d .aO),(.d .aO)],.box b2 [(.d (.int .i64 a1.Kind)),(.d (.int .i64 a1.N)),(.d (.str a1.Tag)),(.d (.str a1.Text)),(.d (.sl ((a1.bR).map aR) false)),(.d (.sl ((a1.Kids).map aG) false))],.grow v25 ((x24).map aG)]:=H23
    unfold dE at h
    refine ax.region E.obj rfl ?_
    refine ae.val rfl (ay rfl rfl bI) rfl ?_
    refine ae.val rfl (ah rfl) rfl ?_
    refine ae.nil ?_
    exact ⟨⟨x24,v25,(IntKind.wrap .i64 (x19 + 1))⟩,_,_,S22,.refl _ _,.refl _,(aa.r rfl (aa.r rfl (aa.r rfl (aa.r rfl (aa.r rfl (aa.r rfl aa.nil)))))),H23.sl [0,1,2] rfl rfl,h⟩
   refine ax.block ?_
   refine ax.seq ?_
   refine ax.region E.obj rfl ?_
   obtain ⟨z27,hzz27,h⟩:=bind_some h
   refine ae.val rfl (bE rfl rfl (bY (enc:=aG) hzz27 nL nA ((aK.len _).trans eU.symm))) rfl ?_
   refine ae.val rfl (aU rfl (aK.gT jE eU)) rfl ?_
   refine ae.alloc H16 rfl yF lJ rfl rfl (fun b28 S29 H30=>?_)
   refine ae.store H30 (i:=0) rfl rfl rfl rfl (aK.bf _) rfl eU rfl nA rfl rfl rfl (fun S31 H32=>?_)
   refine ae.nil ?_
   refine ax.seq ?_
   refine ax.region E.obj rfl ?_
   refine ae.val rfl (ai rfl ku kL rfl) rfl ?_
   refine ae.val rfl (av H32 (i:=0) rfl rfl (aA jl rfl)) rfl ?_
   refine ae.val rfl (ay rfl rfl fH) rfl ?_
   refine ae.nil ?_
   refine ax.cond rfl (fun hb33=>?_) (fun hb33=>?_)
   ·
    replace h:=cB hb33 h
    refine ax.region E.obj rfl ?_
    refine ae.val rfl (ah rfl) rfl ?_
    refine ae.val rfl (av H32 (i:=0) rfl rfl (aZ jE eU rfl)) rfl ?_
    refine ae.less (Less.agg' (d:=aG z27) (au.eq rfl (au.eq rfl (au.eq rfl (au.eq rfl (au.eq rfl (au.eq rfl .nil)))))) ((aK.eq _).trans rfl)) ?_
    obtain ⟨z34,hzz34,h⟩:=bind_some h
    refine ae.ret rfl (aC rfl rfl) (ih _ _ hzz34 _ _ (aD.eq .nil)) rfl ?_
    refine ae.val rfl (aP (vs:=[(.d (aG z34))]) (ds:=[(aG z34)]) AO nL jE lJ eU rfl (by decide) (.cons rfl (aK.len _) .nil) rfl (by intro d hd; simp only [List.mem_cons,List.not_mem_nil,or_false] at hd; rcases hd with rfl <;> exact aK.agg _) rfl) rfl ?_
    obtain ⟨z35,hzz35,h⟩:=bind_some h
    refine ae.append (xs:=(x17).map aG) (ys:=([z34]).map aG) (zs:=(z35).map aG) H32 rfl rfl rfl (i:=3) rfl rfl AO JS nL (fI hzz35) Hr rfl (bS (enc:=aG) (fun z=>(aK.len z).trans eU.symm) _) (bS (enc:=aG) (fun z=>(aK.len z).trans eU.symm) _) JE rfl (jK hzz35) (fun v36 S37 H38=>?_)
    refine ae.val rfl (aj rfl) rfl ?_
    refine ae.nil ?_
    exact ⟨⟨z35,v36⟩,_,_,S37,.refl _ _,.refl _,(aa.r rfl (aa.r rfl (aa.r rfl (aa.r rfl (aa.r rfl (aa.r rfl aa.nil)))))),H38.sl [1,2,3] rfl rfl,h⟩
   replace h:=cK hb33 h
   refine ax.skip ?_
   exact ⟨⟨x17,v18⟩,_,_,S31,.refl _ _,.refl _,(aa.r rfl (aa.r rfl (aa.r rfl (aa.r rfl (aa.r rfl (aa.r rfl aa.nil)))))),H32.sl [1,2,3] rfl rfl,h⟩
  replace h:=cK hb21 h
  refine ax.exit ?_
  refine ax.seq ?_
  refine ax.region E.obj rfl ?_
  refine ae.val rfl (ah rfl) rfl ?_
  refine ae.val rfl (ai rfl jC qF rfl) rfl ?_
  refine ae.store H16 (i:=1) rfl rfl rfl rfl (jb (H16.at (i:=2) rfl)).2.2.2.2 rfl Ib (jb (H16.at (i:=2) rfl)).2.2.2.1 Il rfl rfl rfl (fun S39 H40=>?_)
  refine ae.nil ?_
  refine ax.seq ?_
  refine ax.region E.obj rfl ?_
  refine ae.val rfl (av H40 (i:=1) rfl rfl (aZ jE eU rfl)) rfl ?_
  refine ae.less (Less.agg' (d:=aG (aK.mk a1.Kind a1.N a1.Tag a1.Text a1.bR x17)) (au.eq rfl (au.eq rfl (au.eq rfl (au.eq rfl (au.eq rfl (au.grow H40 (i:=2) rfl .nil)))))) ((aK.eq _).trans rfl)) ?_
  refine ae.store H40 (i:=0) rfl rfl rfl rfl (aK.bf _) rfl eU rfl nA rfl rfl rfl (fun S41 H42=>?_)
  refine ae.nil ?_
  have hr:=Option.some.inj h
  subst hr
  exact ax.ret ⟨_,gZ H42 (i:=0) rfl rfl rfl (aZ jE eU rfl),rfl,dY (aD.qd (d:=aG (aK.mk a1.Kind a1.N a1.Tag a1.Text a1.bR x17)) (au.eq rfl (au.eq rfl (au.eq rfl (au.eq rfl (au.eq rfl (au.eq rfl .nil)))))) ((aK.eq _).trans rfl))⟩
set_option maxRecDepth 20000 in
set_option maxHeartbeats 4000000 in
theorem rJ:∀ (n:Nat) (a1:aK) (r:aK),bF n a1=some r→mK R cfg.P 48 [(aG a1)] (fun v l=>∃ w5,v=Ev.iY [.d (.int .i64 r.Kind),.d (.int .i64 r.N),.d (.str r.Tag),.d (.str r.Text),.d (.sl ((r.bR).map aR) false),w5]∧l=[.grow w5 ((r.Kids).map aG)])
 | 0,a1,r,h=>by simp [bF] at h
 | n + 1,a1,r,h=>by
  have ih:=nu E n
  unfold bF at h
  refine mK.of_wp (C:=cfg) Tryd.func48 rfl N8 rfl (fun S0 wf0=>?_)
  have H0:Has S0 S0 []:=Has.start wf0
  refine ax.seq ?_
  refine ax.region E.obj rfl ?_
  refine ae.box H0 rfl rfl rfl (aK.bf _) rfl (fun b2 S3 H4=>?_)
  refine ae.alloc H4 rfl yF lJ rfl rfl (fun b5 S6 H7=>?_)
  refine ae.nil ?_
  refine ax.seq ?_
  refine ax.region E.obj rfl ?_
  refine ae.val rfl (aj rfl) rfl ?_
  refine ae.nil ?_
  refine ax.seq ?_
  refine ax.seq ?_
  refine ax.region E.obj rfl ?_
  refine ae.val rfl (ai rfl jC qF rfl) rfl ?_
  refine ae.val rfl (av H7 (i:=1) rfl rfl (aA uP rfl)) rfl ?_
  refine ae.val rfl (aS rfl yL) rfl ?_
  refine ae.val rfl (ah rfl) rfl ?_
  refine ae.nil ?_
  refine ax.block ?_
  have H43:=H7.Gh
  refine nz.start (B:=S0) (α:=(List aK) × AV × Int) (fun k a=>aX (bF n) a1 k a.1 a.2.2=some r) (fun a=>[(1,(.ptr b2 0 0)),(2,(.ptr b5 0 0)),(3,a.2.1),(7,(.d (.sl ((a1.Kids).map aG) false))),(8,(.d (.int .i64 ((a1.Kids).length:Int)))),(9,(.d (.int .i64 a.2.2)))]) (fun a=>[.box b5 [(.d (.int .i64 0)),(.d (.int .i64 0)),(.d (.str [])),(.d (.str [])),(.d .aO),(.d .aO)],.box b2 [(.d (.int .i64 a1.Kind)),(.d (.int .i64 a1.N)),(.d (.str a1.Tag)),(.d (.str a1.Text)),(.d (.sl ((a1.bR).map aR) false)),(.d (.sl ((a1.Kids).map aG) false))],.grow a.2.1 ((a.1).map aG)]) ?_ ?_ n ⟨⟨[],(.d .aO),0⟩,_,_,S6,.refl _ _,.refl _,(aa.r rfl (aa.r rfl (aa.r rfl (aa.r rfl (aa.r rfl (aa.r rfl aa.nil)))))),H43.sl [1,2,0] rfl rfl,h⟩
  ·
   intro a h; simp [aX] at h
  intro k20 a S15 H16 h
  obtain ⟨x17,v18,x19⟩:=a
  replace h:aX (bF n) a1 (k20 + 1) x17 x19=some r:=h
  replace H16:Has S0 S15 [.box b5 [(.d (.int .i64 0)),(.d (.int .i64 0)),(.d (.str [])),(.d (.str [])),(.d .aO),(.d .aO)],.box b2 [(.d (.int .i64 a1.Kind)),(.d (.int .i64 a1.N)),(.d (.str a1.Tag)),(.d (.str a1.Text)),(.d (.sl ((a1.bR).map aR) false)),(.d (.sl ((a1.Kids).map aG) false))],.grow v18 ((x17).map aG)]:=H16
  unfold aX at h
  refine ax.seq ?_
  refine ax.region E.obj rfl ?_
  refine ae.val rfl (ay rfl rfl bG) rfl ?_
  refine ae.nil ?_
  refine ax.seq ?_
  refine ax.cond rfl (fun hb21=>?_) (fun hb21=>?_)
  ·
   replace h:=cB hb21 h
   refine ax.skip ?_
   refine ax.join (B:=S0) (α:=(List aK) × AV) (fun a=>dE x19 (aX (bF n) a1 k20) a.1=some r) (fun a=>[(1,(.ptr b2 0 0)),(2,(.ptr b5 0 0)),(3,a.2),(7,(.d (.sl ((a1.Kids).map aG) false))),(8,(.d (.int .i64 ((a1.Kids).length:Int)))),(9,(.d (.int .i64 x19)))]) (fun a=>[.box b5 [(.d (.int .i64 0)),(.d (.int .i64 0)),(.d (.str [])),(.d (.str [])),(.d .aO),(.d .aO)],.box b2 [(.d (.int .i64 a1.Kind)),(.d (.int .i64 a1.N)),(.d (.str a1.Tag)),(.d (.str a1.Text)),(.d (.sl ((a1.bR).map aR) false)),(.d (.sl ((a1.Kids).map aG) false))],.grow a.2 ((a.1).map aG)]) ?_ ?_
   ·
    intro a S22 H23 h
    obtain ⟨x24,v25⟩:=a
    replace h:dE x19 (aX (bF n) a1 k20) x24=some r:=h
    replace H23:Has S0 S22 [.box b5 [(.d (.int .i64 0)),(.d (.int .i64 0)),(.d (.str [])),(.d (.str [])),(.d .aO),(.d .aO)],.box b2 [(.d (.int .i64 a1.Kind)),(.d (.int .i64 a1.N)),(.d (.str a1.Tag)),(.d (.str a1.Text)),(.d (.sl ((a1.bR).map aR) false)),(.d (.sl ((a1.Kids).map aG) false))],.grow v25 ((x24).map aG)]:=H23
    unfold dE at h
    refine ax.region E.obj rfl ?_
    refine ae.val rfl (ay rfl rfl bI) rfl ?_
    refine ae.val rfl (ah rfl) rfl ?_
    refine ae.nil ?_
    exact ⟨⟨x24,v25,(IntKind.wrap .i64 (x19 + 1))⟩,_,_,S22,.refl _ _,.refl _,(aa.r rfl (aa.r rfl (aa.r rfl (aa.r rfl (aa.r rfl (aa.r rfl aa.nil)))))),H23.sl [0,1,2] rfl rfl,h⟩
   refine ax.block ?_
   refine ax.seq ?_
   refine ax.region E.obj rfl ?_
   obtain ⟨z27,hzz27,h⟩:=bind_some h
   refine ae.val rfl (bE rfl rfl (bY (enc:=aG) hzz27 nL nA ((aK.len _).trans eU.symm))) rfl ?_
   refine ae.val rfl (aU rfl (aK.gT jE eU)) rfl ?_
   refine ae.alloc H16 rfl yF lJ rfl rfl (fun b28 S29 H30=>?_)
   refine ae.store H30 (i:=0) rfl rfl rfl rfl (aK.bf _) rfl eU rfl nA rfl rfl rfl (fun S31 H32=>?_)
   refine ae.nil ?_
   refine ax.seq ?_
   refine ax.region E.obj rfl ?_
   refine ae.val rfl (ai rfl ku kL rfl) rfl ?_
   refine ae.val rfl (av H32 (i:=0) rfl rfl (aA jl rfl)) rfl ?_
   refine ae.val rfl (ay rfl rfl fH) rfl ?_
   refine ae.nil ?_
   refine ax.cond rfl (fun hb33=>?_) (fun hb33=>?_)
   ·
    replace h:=cB hb33 h
    refine ax.region E.obj rfl ?_
    refine ae.val rfl (ah rfl) rfl ?_
    refine ae.val rfl (av H32 (i:=0) rfl rfl (aZ jE eU rfl)) rfl ?_
    refine ae.less (Less.agg' (d:=aG z27) (au.eq rfl (au.eq rfl (au.eq rfl (au.eq rfl (au.eq rfl (au.eq rfl .nil)))))) ((aK.eq _).trans rfl)) ?_
    obtain ⟨z34,hzz34,h⟩:=bind_some h
    refine ae.ret rfl (aC rfl rfl) (ih _ _ hzz34 _ _ (aD.eq .nil)) rfl ?_
    refine ae.val rfl (aP (vs:=[(.d (aG z34))]) (ds:=[(aG z34)]) AO nL jE lJ eU rfl (by decide) (.cons rfl (aK.len _) .nil) rfl (by intro d hd; simp only [List.mem_cons,List.not_mem_nil,or_false] at hd; rcases hd with rfl <;> exact aK.agg _) rfl) rfl ?_
    obtain ⟨z35,hzz35,h⟩:=bind_some h
    refine ae.append (xs:=(x17).map aG) (ys:=([z34]).map aG) (zs:=(z35).map aG) H32 rfl rfl rfl (i:=3) rfl rfl AO JS nL (fI hzz35) Hr rfl (bS (enc:=aG) (fun z=>(aK.len z).trans eU.symm) _) (bS (enc:=aG) (fun z=>(aK.len z).trans eU.symm) _) JE rfl (jK hzz35) (fun v36 S37 H38=>?_)
    refine ae.val rfl (aj rfl) rfl ?_
    refine ae.nil ?_
    exact ⟨⟨z35,v36⟩,_,_,S37,.refl _ _,.refl _,(aa.r rfl (aa.r rfl (aa.r rfl (aa.r rfl (aa.r rfl (aa.r rfl aa.nil)))))),H38.sl [1,2,3] rfl rfl,h⟩
   replace h:=cK hb33 h
   refine ax.skip ?_
   exact ⟨⟨x17,v18⟩,_,_,S31,.refl _ _,.refl _,(aa.r rfl (aa.r rfl (aa.r rfl (aa.r rfl (aa.r rfl (aa.r rfl aa.nil)))))),H32.sl [1,2,3] rfl rfl,h⟩
  replace h:=cK hb21 h
  refine ax.exit ?_
  refine ax.seq ?_
  refine ax.region E.obj rfl ?_
  refine ae.val rfl (ah rfl) rfl ?_
  refine ae.val rfl (ai rfl jC qF rfl) rfl ?_
  refine ae.store H16 (i:=1) rfl rfl rfl rfl (jb (H16.at (i:=2) rfl)).2.2.2.2 rfl Ib (jb (H16.at (i:=2) rfl)).2.2.2.1 Il rfl rfl rfl (fun S39 H40=>?_)
  refine ae.nil ?_
  refine ax.seq ?_
  refine ax.region E.obj rfl ?_
  refine ae.val rfl (av H40 (i:=1) rfl rfl (aZ jE eU rfl)) rfl ?_
  refine ae.store H40 (i:=0) rfl rfl rfl rfl (iT _) rfl eU (iP _) nA rfl rfl rfl (fun S41 H42=>?_)
  refine ae.nil ?_
  have hr:=Option.some.inj h
  subst hr
  exact ax.ret ⟨_,gZ H42 (i:=0) rfl rfl rfl (aZ jE eU rfl),rfl,_,_,.refl _,⟨v18,rfl,rfl⟩,H42.sl [2] rfl rfl⟩
set_option maxRecDepth 20000 in
set_option maxHeartbeats 4000000 in
theorem oG (n:Nat) (a1:aK) (a2:Bool) (r:aK) (h:iB n a1 a2=some r):bN R cfg.P 34 [(aG a1),(.bool a2)] (.d (aG r)):=by
 unfold iB at h
 refine bN.of_wp E.obj.toObjOk (C:=cfg) Tryd.func34 rfl Oh rfl ?_
 have H0:Has aF aF []:=Has.pure
 refine ax.seq ?_
 refine ax.region E.obj rfl ?_
 refine ae.box H0 rfl rfl rfl (aK.bf _) rfl (fun b3 S4 H5=>?_)
 refine ae.alloc H5 rfl yF lJ rfl rfl (fun b6 S7 H8=>?_)
 refine ae.nil ?_
 refine ax.seq ?_
 refine ax.region E.obj rfl ?_
 refine ae.val rfl (av H8 (i:=1) rfl rfl (aZ jE eU rfl)) rfl ?_
 refine ae.less (Less.agg' (d:=aG a1) (au.eq rfl (au.eq rfl (au.eq rfl (au.eq rfl (au.eq rfl (au.eq rfl .nil)))))) ((aK.eq _).trans rfl)) ?_
 obtain ⟨z9,hzz9,h⟩:=bind_some h
 refine ae.Bg H8 rfl (aC rfl rfl) (rJ E n _ _ hzz9) (aD.eq .nil) rfl ?_
 rintro _ S11 _ ⟨v15,rfl,rfl⟩ H12
 refine ae.store H12 (i:=2) rfl rfl rfl rfl (iT _) rfl eU (iP _) nA rfl rfl rfl (fun S16 H17=>?_)
 refine ae.nil ?_
 refine ax.join (B:=aF) (α:=(List aK) × AV) (fun a=>dW z9 a.1=some r) (fun a=>[(2,(.ptr b3 0 0)),(4,(.ptr b6 0 0))]) (fun a=>[.box b6 [(.d (.int .i64 0)),(.d (.int .i64 0)),(.d (.str [])),(.d (.str [])),(.d .aO),(.d .aO)],.box b3 [(.d (.int .i64 z9.Kind)),(.d (.int .i64 z9.N)),(.d (.str z9.Tag)),(.d (.str z9.Text)),(.d (.sl ((z9.bR).map aR) false)),a.2],.grow a.2 ((a.1).map aG)]) ?_ ?_
 ·
  intro a S18 H19 h
  obtain ⟨x20,v21⟩:=a
  replace h:dW z9 x20=some r:=h
  replace H19:Has aF S18 [.box b6 [(.d (.int .i64 0)),(.d (.int .i64 0)),(.d (.str [])),(.d (.str [])),(.d .aO),(.d .aO)],.box b3 [(.d (.int .i64 z9.Kind)),(.d (.int .i64 z9.N)),(.d (.str z9.Tag)),(.d (.str z9.Text)),(.d (.sl ((z9.bR).map aR) false)),v21],.grow v21 ((x20).map aG)]:=H19
  unfold dW at h
  refine ax.seq ?_
  refine ax.region E.obj rfl ?_
  refine ae.val rfl (av H19 (i:=1) rfl rfl (aZ jE eU rfl)) rfl ?_
  refine ae.less (Less.agg' (d:=aG (aK.mk z9.Kind z9.N z9.Tag z9.Text z9.bR x20)) (au.eq rfl (au.eq rfl (au.eq rfl (au.eq rfl (au.eq rfl (au.grow H19 (i:=2) rfl .nil)))))) ((aK.eq _).trans rfl)) ?_
  refine ae.store H19 (i:=0) rfl rfl rfl rfl (aK.bf _) rfl eU rfl nA rfl rfl rfl (fun S23 H24=>?_)
  refine ae.nil ?_
  have hr:=Option.some.inj h
  subst hr
  exact ax.ret ⟨_,gZ H24 (i:=0) rfl rfl rfl (aZ jE eU rfl),rfl,dY (aD.qd (d:=aG (aK.mk z9.Kind z9.N z9.Tag z9.Text z9.bR x20)) (au.eq rfl (au.eq rfl (au.eq rfl (au.eq rfl (au.eq rfl (au.eq rfl .nil)))))) ((aK.eq _).trans rfl))⟩
 refine ax.seq ?_
 refine ax.region E.obj rfl ?_
 refine ae.val rfl (ah rfl) rfl ?_
 refine ae.nil ?_
 refine ax.cond rfl (fun hb25=>?_) (fun hb25=>?_)
 ·
  replace h:=cB hb25 h
  refine ax.region E.obj rfl ?_
  refine ae.val rfl (ai rfl jC qF rfl) rfl ?_
  refine ae.val rfl (av H17 (i:=2) rfl rfl (aA uP rfl)) rfl ?_
  refine ae.val rfl (bH (cs:=[(.d (.int .i64 7)),(.d (.int .i64 0)),(.d (.str [])),(.d (.str [])),(.d .aO),(.d .aO)]) lJ rfl (mQ) (cO rfl rfl rfl rfl rfl)) rfl ?_
  refine ae.less (Less.agg' (d:=aG (aK.mk 7 0 [] [] [] [])) (au.eq rfl (au.eq rfl (au.eq rfl (au.eq rfl (au.gJ rfl (.aO false) rfl rfl (au.gJ rfl (.aO false) rfl rfl .nil)))))) ((aK.eq _).trans rfl)) ?_
  refine ae.val rfl (aP (vs:=[(.d (aG (aK.mk 7 0 [] [] [] [])))]) (ds:=[(aG (aK.mk 7 0 [] [] [] []))]) AO nL jE lJ eU rfl (by decide) (.cons rfl (aK.len _) .nil) rfl (by intro d hd; simp only [List.mem_cons,List.not_mem_nil,or_false] at hd; rcases hd with rfl <;> exact aK.agg _) rfl) rfl ?_
  obtain ⟨z26,hzz26,h⟩:=bind_some h
  refine ae.append (xs:=(z9.Kids).map aG) (ys:=([(aK.mk 7 0 [] [] [] [])]).map aG) (zs:=(z26).map aG) H17 rfl rfl rfl (i:=0) rfl rfl AO JS nL (fI hzz26) Hr rfl (bS (enc:=aG) (fun z=>(aK.len z).trans eU.symm) _) (bS (enc:=aG) (fun z=>(aK.len z).trans eU.symm) _) JE rfl (jK hzz26) (fun v27 S28 H29=>?_)
  refine ae.val rfl (ai rfl jC qF rfl) rfl ?_
  refine ae.store H29 (i:=2) rfl rfl rfl rfl (jb (H29.at (i:=0) rfl)).2.2.2.2 rfl Ib (jb (H29.at (i:=0) rfl)).2.2.2.1 Il rfl rfl rfl (fun S30 H31=>?_)
  refine ae.nil ?_
  exact ⟨⟨z26,v27⟩,_,_,S30,.refl _ _,.refl _,(aa.r rfl (aa.r rfl aa.nil)),H31.sl [1,2,0] rfl rfl,h⟩
 replace h:=cK hb25 h
 refine ax.skip ?_
 exact ⟨⟨z9.Kids,v15⟩,_,_,S16,.refl _ _,.refl _,(aa.r rfl (aa.r rfl aa.nil)),H17.sl [1,2,0] rfl rfl,h⟩
set_option maxRecDepth 20000 in
set_option maxHeartbeats 4000000 in
theorem tZ (n:Nat)  (r:(List Str)) (h:kR n  = some r):bN R cfg.P 49 [] (.d (.sl ((r).map D.str) false)):=by
 unfold kR at h
 refine bN.of_wp E.obj.toObjOk (C:=cfg) Tryd.func49 rfl OC rfl ?_
 have H0:Has aF aF []:=Has.pure
 refine ax.seq ?_
 refine ax.region E.obj rfl ?_
 refine ae.val rfl (aj rfl) rfl ?_
 refine ae.nil ?_
 refine ax.seq ?_
 refine ax.region E.obj rfl ?_
 refine ae.val rfl (aP (vs:=[(.d (.str [97])),(.d (.str [98])),(.d (.str [105,116,101,109])),(.d (.str [120,32,121])),(.d (.str [37])),(.d (.str [97,47,98])),(.d (.str [46,46])),(.d (.str [122])),(.d (.str [49])),(.d (.str [108,105,115,116])),(.d (.str [255])),(.d (.str [63,61,38]))]) (ds:=[(.str [97]),(.str [98]),(.str [105,116,101,109]),(.str [120,32,121]),(.str [37]),(.str [97,47,98]),(.str [46,46]),(.str [122]),(.str [49]),(.str [108,105,115,116]),(.str [255]),(.str [63,61,38])]) Lp zG u6 NQ Fp rfl (by decide) (.cons rfl rfl (.cons rfl rfl (.cons rfl rfl (.cons rfl rfl (.cons rfl rfl (.cons rfl rfl (.cons rfl rfl (.cons rfl rfl (.cons rfl rfl (.cons rfl rfl (.cons rfl rfl (.cons rfl rfl .nil)))))))))))) rfl (by intro d hd; simp only [List.mem_cons,List.not_mem_nil,or_false] at hd; rcases hd with rfl | rfl | rfl | rfl | rfl | rfl | rfl | rfl | rfl | rfl | rfl | rfl <;> rfl) rfl) rfl ?_
 refine ae.val rfl (aj rfl) rfl ?_
 refine ae.nil ?_
 have hr:=Option.some.inj h
 subst hr
 exact ax.ret ⟨_,rfl,rfl,dY (aD.gJ rfl (.jH _ _) .nil)⟩
set_option maxRecDepth 20000 in
set_option maxHeartbeats 4000000 in
theorem uR (n:Nat) (a1:(List Int)) (a2:Int) (r:Int) (h:jV n a1 a2=some r):bN R cfg.P 50 [(.sl ((a1).map (D.int .i64)) false),(.int .i64 a2)] (.d (.int .i64 r)):=by
 unfold jV at h
 refine bN.of_wp E.obj.toObjOk (C:=cfg) Tryd.func50 rfl Ps rfl ?_
 have H0:Has aF aF []:=Has.pure
 refine ax.seq ?_
 refine ax.region E.obj rfl ?_
 refine ae.val rfl (aj rfl) rfl ?_
 refine ae.nil ?_
 refine ax.seq ?_
 refine ax.region E.obj rfl ?_
 refine ae.val rfl (aj rfl) rfl ?_
 refine ae.nil ?_
 refine ax.seq ?_
 refine ax.block ?_
 refine nz.start (B:=aF) (α:=Int × Int) (fun k a=>dU a1 k a.1 a.2=some r) (fun a=>[(0,(.d (.sl ((a1).map (D.int .i64)) false))),(1,(.d (.int .i64 a.1))),(5,(.d (.int .i64 a.2)))]) (fun a=>[]) ?_ ?_ n ⟨⟨a2,0⟩,_,_,aF,.refl _ _,.refl _,(aa.r rfl (aa.r rfl (aa.r rfl aa.nil))),H0.sl [] rfl rfl,h⟩
 ·
  intro a h; simp [dU] at h
 intro k13 a S9 H10 h
 obtain ⟨x11,x12⟩:=a
 replace h:dU a1 (k13 + 1) x11 x12=some r:=h
 replace H10:Has aF S9 []:=H10
 unfold dU at h
 refine ax.seq ?_
 refine ax.seq ?_
 refine ax.region E.obj rfl ?_
 refine ae.val rfl (ah rfl) rfl ?_
 refine ae.val rfl (ay rfl rfl iJ) rfl ?_
 refine ae.val rfl (ah rfl) rfl ?_
 refine ae.bC 3 11 (.d (.bool ((decide (0 ≤ x11)) && (decide (x12 < 99))))) ?_ ?_
 ·
  rcases Bool.eq_false_or_eq_true ((decide (0 ≤ x11))) with hB14 | hB14
  ·
   refine ae.bool hB14 ?_
   refine ae.val rfl (ah rfl) rfl ?_
   refine ae.val rfl (ay rfl rfl bG) rfl ?_
   refine ae.val rfl (az (b:=true) rfl rfl) rfl ?_
   exact ae.nil ⟨_,rfl,(aa.put (aa.push rfl (aa.push rfl (aa.put (.refl _) (Less.eq (by rw [hB14]))))) (Less.eq (by rw [hB14]; rw [Bool.true_and])))⟩
  refine ae.bool hB14 ?_
  refine ae.no rfl rfl ?_
  refine ae.no rfl rfl ?_
  refine ae.val rfl (az (b:=false) rfl rfl) rfl ?_
  exact ae.nil ⟨_,rfl,(aa.put (aa.push rfl (aa.push rfl (aa.put (.refl _) (Less.eq (by rw [hB14]))))) (Less.eq (by rw [hB14]; rw [Bool.false_and])))⟩
 refine ae.nil ?_
 refine ax.cond rfl (fun hb15=>?_) (fun hb15=>?_)
 ·
  replace h:=cB hb15 h
  refine ax.skip ?_
  refine ax.block ?_
  obtain ⟨z16,hzz16,h⟩:=bind_some h
  refine ax.qi E.obj pM QB [(0,none),(1,some 7),(5,some 6)] (by kernel_rfl) [] (by decide) [some (.d (.int .i64 x12)),some (.d (.int .i64 (IntKind.wrap .i64 (x12 + 1)))),some (.d (.sl ((a1).map (D.int .i64)) false)),some (.d (.int .i64 x11)),some (.eptr (.int .i64 z16) 0),some (.d (.int .i64 z16)),some (.d (.int .i64 (IntKind.wrap .i64 (x12 + 1)))),some (.d (.int .i64 z16))] ?_
  refine ⟨[0,1,2,3,4,5,6,7],by kernel_rfl,?_,_,rfl,?_⟩
  ·
   refine .v rfl rfl rfl rfl (ah rfl) ?_
   refine .v rfl rfl rfl rfl (ay rfl rfl bI) ?_
   refine .v rfl rfl rfl rfl (ah rfl) ?_
   refine .v rfl rfl rfl rfl (ah rfl) ?_
   refine .v rfl rfl rfl rfl (bE rfl rfl (bY (enc:=(D.int .i64)) hzz16 kV xC (((fun _=>rfl) _).trans pI.symm))) ?_
   refine .v rfl rfl rfl rfl (aU rfl (dL jl rfl)) ?_
   refine .v rfl rfl rfl rfl (aj rfl) ?_
   refine .v rfl rfl rfl rfl (aj rfl) ?_
   exact .nil
  exact ⟨⟨z16,(IntKind.wrap .i64 (x12 + 1))⟩,_,_,S9,.refl _ _,.refl _,(aa.r rfl (aa.r rfl (aa.r rfl aa.nil))),H10.sl [] rfl rfl,h⟩
 replace h:=cK hb15 h
 refine ax.exit ?_
 refine ax.seq ?_
 refine ax.region E.obj rfl ?_
 refine ae.val rfl (ah rfl) rfl ?_
 refine ae.val rfl (aj rfl) rfl ?_
 refine ae.nil ?_
 have hr:=Option.some.inj h
 subst hr
 exact ax.ret ⟨_,rfl,rfl,dY (aD.eq .nil)⟩
set_option maxRecDepth 20000 in
set_option maxHeartbeats 4000000 in
theorem pq:∀ (n:Nat) (a1:(List dx)) (a2:(List Int)) (a3:Int) (r:aK),dz n a1 a2 a3=some r→bN R cfg.P 51 [(.sl ((a1).map eH) false),(.sl ((a2).map (D.int .i64)) false),(.int .i64 a3)] (.d (aG r))
 | 0,a1,a2,a3,r,h=>by simp [dz] at h
 | n + 1,a1,a2,a3,r,h=>by
  have ih:=pq n
  unfold dz at h
  refine bN.of_wp E.obj.toObjOk (C:=cfg) Tryd.func51 rfl PY rfl ?_
  have H0:Has aF aF []:=Has.pure
  refine ax.seq ?_
  refine ax.region E.obj rfl ?_
  refine ae.alloc H0 rfl yF lJ rfl rfl (fun b4 S5 H6=>?_)
  refine ae.nil ?_
  refine ax.seq ?_
  refine ax.region E.obj rfl ?_
  refine ae.val rfl (ah rfl) rfl ?_
  refine ae.val rfl (ah rfl) rfl ?_
  obtain ⟨z7,hzz7,h⟩:=bind_some h
  refine ae.val rfl (bE rfl rfl (bY (enc:=eH) hzz7 nL nA ((dx.len _).trans eU.symm))) rfl ?_
  refine ae.val rfl (aU rfl (dx.gT jE eU)) rfl ?_
  refine ae.alloc H6 rfl yF lJ rfl rfl (fun b8 S9 H10=>?_)
  refine ae.store H10 (i:=0) rfl rfl rfl rfl (dx.bf _) rfl eU rfl nA rfl rfl rfl (fun S11 H12=>?_)
  refine ae.nil ?_
  refine ax.seq ?_
  refine ax.seq ?_
  refine ax.region E.obj rfl ?_
  refine ae.val rfl (ah rfl) rfl ?_
  refine ae.val rfl (aS rfl yL) rfl ?_
  refine ae.val rfl (ah rfl) rfl ?_
  refine ae.nil ?_
  refine ax.block ?_
  have H48:=H12.Gh
  refine nz.start (B:=aF) (α:=(List aK) × AV × Int) (fun k a=>dC (dz n) a1 a2 a3 z7 k a.1 a.2.2=some r) (fun a=>[(0,(.d (.sl ((a1).map eH) false))),(1,(.d (.sl ((a2).map (D.int .i64)) false))),(2,(.d (.int .i64 a3))),(6,(.ptr b4 0 0)),(7,(.ptr b8 0 0)),(14,(.d (.int .i64 ((a1).length:Int)))),(15,(.d (.int .i64 a.2.2)))]) (fun a=>[.box b8 [(.d (.int .i64 z7.Kind)),(.d (.int .i64 z7.N)),(.d (.str z7.Tag)),(.d (.str z7.Text)),(.d (.sl ((z7.bR).map aR) false)),a.2.1],.box b4 [(.d (.int .i64 0)),(.d (.int .i64 0)),(.d (.str [])),(.d (.str [])),(.d .aO),(.d .aO)],.grow a.2.1 ((a.1).map aG)]) ?_ ?_ n ⟨⟨[],(.d .aO),0⟩,_,_,S11,.refl _ _,.refl _,(aa.r rfl (aa.r rfl (aa.r rfl (aa.r rfl (aa.r rfl (aa.r rfl (aa.r rfl aa.nil))))))),H48.sl [1,2,0] rfl rfl,h⟩
  ·
   intro a h; simp [dC] at h
  intro k25 a S20 H21 h
  obtain ⟨x22,v23,x24⟩:=a
  replace h:dC (dz n) a1 a2 a3 z7 (k25 + 1) x22 x24=some r:=h
  replace H21:Has aF S20 [.box b8 [(.d (.int .i64 z7.Kind)),(.d (.int .i64 z7.N)),(.d (.str z7.Tag)),(.d (.str z7.Text)),(.d (.sl ((z7.bR).map aR) false)),v23],.box b4 [(.d (.int .i64 0)),(.d (.int .i64 0)),(.d (.str [])),(.d (.str [])),(.d .aO),(.d .aO)],.grow v23 ((x22).map aG)]:=H21
  unfold dC at h
  refine ax.seq ?_
  refine ax.region E.obj rfl ?_
  refine ae.val rfl (ay rfl rfl bG) rfl ?_
  refine ae.nil ?_
  refine ax.seq ?_
  refine ax.cond rfl (fun hb26=>?_) (fun hb26=>?_)
  ·
   replace h:=cB hb26 h
   refine ax.skip ?_
   refine ax.join (B:=aF) (α:=(List aK) × AV) (fun a=>fV x24 (dC (dz n) a1 a2 a3 z7 k25) a.1=some r) (fun a=>[(0,(.d (.sl ((a1).map eH) false))),(1,(.d (.sl ((a2).map (D.int .i64)) false))),(2,(.d (.int .i64 a3))),(6,(.ptr b4 0 0)),(7,(.ptr b8 0 0)),(14,(.d (.int .i64 ((a1).length:Int)))),(15,(.d (.int .i64 x24)))]) (fun a=>[.box b8 [(.d (.int .i64 z7.Kind)),(.d (.int .i64 z7.N)),(.d (.str z7.Tag)),(.d (.str z7.Text)),(.d (.sl ((z7.bR).map aR) false)),a.2],.box b4 [(.d (.int .i64 0)),(.d (.int .i64 0)),(.d (.str [])),(.d (.str [])),(.d .aO),(.d .aO)],.grow a.2 ((a.1).map aG)]) ?_ ?_
   ·
    intro a S27 H28 h
    obtain ⟨x29,v30⟩:=a
    replace h:fV x24 (dC (dz n) a1 a2 a3 z7 k25) x29=some r:=h
    replace H28:Has aF S27 [.box b8 [(.d (.int .i64 z7.Kind)),(.d (.int .i64 z7.N)),(.d (.str z7.Tag)),(.d (.str z7.Text)),(.d (.sl ((z7.bR).map aR) false)),v30],.box b4 [(.d (.int .i64 0)),(.d (.int .i64 0)),(.d (.str [])),(.d (.str [])),(.d .aO),(.d .aO)],.grow v30 ((x29).map aG)]:=H28
    unfold fV at h
    refine ax.region E.obj rfl ?_
    refine ae.val rfl (ay rfl rfl bI) rfl ?_
    refine ae.val rfl (ah rfl) rfl ?_
    refine ae.nil ?_
    exact ⟨⟨x29,v30,(IntKind.wrap .i64 (x24 + 1))⟩,_,_,S27,.refl _ _,.refl _,(aa.r rfl (aa.r rfl (aa.r rfl (aa.r rfl (aa.r rfl (aa.r rfl (aa.r rfl aa.nil))))))),H28.sl [0,1,2] rfl rfl,h⟩
   refine ax.block ?_
   refine ax.seq ?_
   refine ax.region E.obj rfl ?_
   refine ae.val rfl (ah rfl) rfl ?_
   refine ae.val rfl (aj rfl) rfl ?_
   refine ae.nil ?_
   refine ax.seq ?_
   refine ax.region E.obj rfl ?_
   refine ae.val rfl (ah rfl) rfl ?_
   refine ae.val rfl (ah rfl) rfl ?_
   obtain ⟨z32,hzz32,h⟩:=bind_some h
   refine ae.val rfl (bE rfl rfl (bY (enc:=(D.int .i64)) hzz32 kV xC (((fun _=>rfl) _).trans pI.symm))) rfl ?_
   refine ae.val rfl (aU rfl (dL jl rfl)) rfl ?_
   refine ae.val rfl (ah rfl) rfl ?_
   refine ae.val rfl (ay rfl rfl dD) rfl ?_
   refine ae.nil ?_
   refine ax.cond rfl (fun hb33=>?_) (fun hb33=>?_)
   ·
    replace h:=cB hb33 h
    obtain ⟨z34,hzz34,h⟩:=bind_some h
    obtain ⟨z35,hzz35,h⟩:=bind_some h
    refine ax.qi E.obj pM Qn [(0,none),(1,none),(2,none),(6,none),(7,none),(14,none),(15,none)] (by kernel_rfl) [7,9] (by decide) [some (.ptr b8 0 5),some v23,some (.d (.sl ((a1).map eH) false)),some (.d (.sl ((a2).map (D.int .i64)) false)),some (.d (.int .i64 x24)),some (.d (aG z34)),some (.d (.sl (([z34]).map aG) true)),none,none,none] ?_
    refine ⟨[0,1,2,3,4,5,6],by kernel_rfl,?_,_,_,rfl,rfl,.step ?_⟩
    ·
     refine .v rfl rfl rfl rfl (ai rfl jC qF rfl) ?_
     refine .v rfl rfl rfl rfl (av H21 (i:=0) rfl rfl (aA uP rfl)) ?_
     refine .v rfl rfl rfl rfl (ah rfl) ?_
     refine .v rfl rfl rfl rfl (ah rfl) ?_
     refine .v rfl rfl rfl rfl (ah rfl) ?_
     refine .cons rfl rfl rfl (.step ?_) ?_
     ·
      refine ae.ret rfl (aC rfl rfl) (ih _ _ _ _ hzz34 _ _ (aD.eq (aD.eq (aD.eq .nil)))) rfl ?_
      exact ae.nil ⟨_,_,rfl,fun _ ht=>by cases ht; exact ⟨rfl,.refl _⟩⟩
     refine .v rfl rfl rfl rfl (aP (vs:=[(.d (aG z34))]) (ds:=[(aG z34)]) AO nL jE lJ eU rfl (by decide) (.cons rfl (aK.len _) .nil) rfl (by intro d hd; simp only [List.mem_cons,List.not_mem_nil,or_false] at hd; rcases hd with rfl <;> exact aK.agg _) rfl) ?_
     exact .nil
    refine ae.append (xs:=(x22).map aG) (ys:=([z34]).map aG) (zs:=(z35).map aG) H21 rfl rfl rfl (i:=2) rfl rfl AO JS nL (fI hzz35) Hr rfl (bS (enc:=aG) (fun z=>(aK.len z).trans eU.symm) _) (bS (enc:=aG) (fun z=>(aK.len z).trans eU.symm) _) JE rfl (jK hzz35) (fun v41 S42 H43=>?_)
    refine ae.nil ⟨_,_,_,rfl,(fun _ ht=>by cases ht; rfl),_,(.q (.o (.o (.o (.w v41 (.w (.ptr b8 0 5) (.n .nil))))))),(fun _ ht=>by cases ht; exact ⟨_,rfl,.refl _⟩),?_⟩
    refine ⟨[8],by kernel_rfl,?_,_,_,rfl,rfl,.step ?_⟩
    ·
     refine .v rfl rfl rfl rfl (ai rfl jC qF rfl) ?_
     exact .nil
    refine ae.store H43 (i:=0) rfl rfl rfl rfl (jb (H43.at (i:=2) rfl)).2.2.2.2 rfl Ib (jb (H43.at (i:=2) rfl)).2.2.2.1 Il rfl rfl rfl (fun S44 H45=>?_)
    refine ae.nil ⟨_,.any,_,rfl,(fun _ ht=>by cases ht),_,(.q (.q (.o (.w .any .nil)))),(fun _ ht=>by cases ht),?_⟩
    refine ⟨[],by kernel_rfl,?_,_,rfl,?_⟩
    ·
     exact .nil
    exact ⟨⟨z35,v41⟩,_,_,S44,.refl _ _,.refl _,(aa.r rfl (aa.r rfl (aa.r rfl (aa.r rfl (aa.r rfl (aa.r rfl (aa.r rfl aa.nil))))))),H45.sl [0,1,2] rfl rfl,h⟩
   replace h:=cK hb33 h
   refine ax.skip ?_
   exact ⟨⟨x22,v23⟩,_,_,S20,.refl _ _,.refl _,(aa.r rfl (aa.r rfl (aa.r rfl (aa.r rfl (aa.r rfl (aa.r rfl (aa.r rfl aa.nil))))))),H21.sl [0,1,2] rfl rfl,h⟩
  replace h:=cK hb26 h
  refine ax.exit ?_
  refine ax.seq ?_
  refine ax.region E.obj rfl ?_
  refine ae.val rfl (av H21 (i:=0) rfl rfl (aZ jE eU rfl)) rfl ?_
  refine ae.less (Less.agg' (d:=aG (aK.mk z7.Kind z7.N z7.Tag z7.Text z7.bR x22)) (au.eq rfl (au.eq rfl (au.eq rfl (au.eq rfl (au.eq rfl (au.grow H21 (i:=2) rfl .nil)))))) ((aK.eq _).trans rfl)) ?_
  refine ae.store H21 (i:=1) rfl rfl rfl rfl (aK.bf _) rfl eU rfl nA rfl rfl rfl (fun S46 H47=>?_)
  refine ae.nil ?_
  have hr:=Option.some.inj h
  subst hr
  exact ax.ret ⟨_,gZ H47 (i:=1) rfl rfl rfl (aZ jE eU rfl),rfl,dY (aD.qd (d:=aG (aK.mk z7.Kind z7.N z7.Tag z7.Text z7.bR x22)) (au.eq rfl (au.eq rfl (au.eq rfl (au.eq rfl (au.eq rfl (au.eq rfl .nil)))))) ((aK.eq _).trans rfl))⟩
set_option maxRecDepth 20000 in
set_option maxHeartbeats 4000000 in
theorem l9 (n:Nat) (a1:cZ) (r:aK) (h:iI n a1=some r):bN R cfg.P 35 [(ko a1)] (.d (aG r)):=by
 unfold iI at h
 refine bN.of_wp E.obj.toObjOk (C:=cfg) Tryd.func35 rfl Oj rfl ?_
 have H0:Has aF aF []:=Has.pure
 refine ax.seq ?_
 refine ax.region E.obj rfl ?_
 refine ae.box H0 rfl rfl rfl (cZ.bf _) rfl (fun b2 S3 H4=>?_)
 refine ae.alloc H4 rfl yF lJ rfl rfl (fun b5 S6 H7=>?_)
 refine ae.nil ?_
 refine ax.seq ?_
 refine ax.region E.obj rfl ?_
 refine ae.val rfl (aP (vs:=[(.d (.str [100,105,118])),(.d (.str [112])),(.d (.str [108,105])),(.d (.str [98]))]) (ds:=[(.str [100,105,118]),(.str [112]),(.str [108,105]),(.str [98])]) Lp zG u6 NQ Fp rfl (by decide) (.cons rfl rfl (.cons rfl rfl (.cons rfl rfl (.cons rfl rfl .nil)))) rfl (by intro d hd; simp only [List.mem_cons,List.not_mem_nil,or_false] at hd; rcases hd with rfl | rfl | rfl | rfl <;> rfl) rfl) rfl ?_
 refine ae.val rfl (aj rfl) rfl ?_
 refine ae.nil ?_
 refine ax.seq ?_
 refine ax.region E.obj rfl ?_
 refine ae.val rfl (aP (vs:=[(.d (.str [105,100])),(.d (.str [112,97])),(.d (.str [112,98])),(.d (.str [108,97,115,116]))]) (ds:=[(.str [105,100]),(.str [112,97]),(.str [112,98]),(.str [108,97,115,116])]) Lp zG u6 NQ Fp rfl (by decide) (.cons rfl rfl (.cons rfl rfl (.cons rfl rfl (.cons rfl rfl .nil)))) rfl (by intro d hd; simp only [List.mem_cons,List.not_mem_nil,or_false] at hd; rcases hd with rfl | rfl | rfl | rfl <;> rfl) rfl) rfl ?_
 refine ae.val rfl (aj rfl) rfl ?_
 refine ae.nil ?_
 refine ax.seq ?_
 refine ax.region E.obj rfl ?_
 obtain ⟨z8,hzz8,h⟩:=bind_some h
 refine ae.ret rfl (aC rfl rfl) (tZ E _  _ hzz8 _ _ .nil) rfl ?_
 refine ae.val rfl (aj rfl) rfl ?_
 refine ae.nil ?_
 refine ax.seq ?_
 refine ax.region E.obj rfl ?_
 refine ae.val rfl (bH (cs:=[(.d (.int .i64 1)),(.d (.int .i64 0)),(.d (.str [109,97,105,110])),(.d (.str [])),(.d .aO),(.d .aO)]) lJ rfl (mQ) (cO rfl rfl rfl rfl (cO rfl rfl rfl rfl rfl))) rfl ?_
 refine ae.less (Less.agg' (d:=eH (dx.mk 1 0 [109,97,105,110] [] [])) (au.eq rfl (au.eq rfl (au.eq rfl (au.eq rfl (au.gJ rfl (.aO false) rfl rfl (au.eq rfl .nil)))))) ((dx.eq _).trans rfl)) ?_
 refine ae.val rfl (aP (vs:=[(.d (eH (dx.mk 1 0 [109,97,105,110] [] [])))]) (ds:=[(eH (dx.mk 1 0 [109,97,105,110] [] []))]) AO nL jE lJ eU rfl (by decide) (.cons rfl (dx.len _) .nil) rfl (by intro d hd; simp only [List.mem_cons,List.not_mem_nil,or_false] at hd; rcases hd with rfl <;> exact dx.agg _) rfl) rfl ?_
 refine ae.val rfl (aj rfl) rfl ?_
 refine ae.nil ?_
 refine ax.seq ?_
 refine ax.region E.obj rfl ?_
 refine ae.val rfl (aP (vs:=[(.d (.int .i64 (-1)))]) (ds:=[(.int .i64 (-1))]) Fs kV jl Gs pI rfl (by decide) (.cons rfl rfl .nil) rfl (by intro d hd; simp only [List.mem_cons,List.not_mem_nil,or_false] at hd; rcases hd with rfl <;> rfl) rfl) rfl ?_
 refine ae.val rfl (aj rfl) rfl ?_
 refine ae.nil ?_
 refine ax.seq ?_
 refine ax.seq ?_
 refine ax.region E.obj rfl ?_
 refine ae.val rfl (aj rfl) rfl ?_
 refine ae.nil ?_
 refine ax.block ?_
 have H97:=H7.vU (([(dx.mk 1 0 [109,97,105,110] [] [])]).map eH)
 have H98:=H97.vU (([(-1)]).map (D.int .i64))
 refine nz.start (B:=aF) (α:=(List dx) × AV × (List Int) × AV × Int) (fun k a=>aY n a1 z8 k a.1 a.2.2.1 a.2.2.2.2=some r) (fun a=>[(1,(.ptr b2 0 0)),(2,(.ptr b5 0 0)),(3,(.d (.sl ((([[100,105,118],[112],[108,105],[98]]:List Str)).map D.str) true))),(4,(.d (.sl ((([[105,100],[112,97],[112,98],[108,97,115,116]]:List Str)).map D.str) true))),(5,(.d (.sl ((z8).map D.str) false))),(6,a.2.1),(7,a.2.2.2.1),(8,(.d (.int .i64 a.2.2.2.2)))]) (fun a=>[.box b5 [(.d (.int .i64 0)),(.d (.int .i64 0)),(.d (.str [])),(.d (.str [])),(.d .aO),(.d .aO)],.box b2 [(.d (.sl ((a1.Under).map (D.int .i64)) false)),(.d (.sl ((a1.Kinds).map (D.int .i64)) false)),(.d (.sl ((a1.Ns).map (D.int .i64)) false)),(.d (.sl ((a1.Texts).map (D.int .i64)) false))],.grow a.2.1 ((a.1).map eH),.grow a.2.2.2.1 ((a.2.2.1).map (D.int .i64))]) ?_ ?_ n ⟨⟨[(dx.mk 1 0 [109,97,105,110] [] [])],(.d (.sl (([(dx.mk 1 0 [109,97,105,110] [] [])]).map eH) true)),[(-1)],(.d (.sl (([(-1)]).map (D.int .i64)) true)),0⟩,_,_,S6,.refl _ _,.refl _,(aa.r rfl (aa.r rfl (aa.r rfl (aa.r rfl (aa.r rfl (aa.r rfl (aa.r rfl (aa.r rfl aa.nil)))))))),H98.sl [2,3,1,0] rfl rfl,h⟩
 ·
  intro a h; simp [aY] at h
 intro k25 a S18 H19 h
 obtain ⟨x20,v21,x22,v23,x24⟩:=a
 replace h:aY n a1 z8 (k25 + 1) x20 x22 x24=some r:=h
 replace H19:Has aF S18 [.box b5 [(.d (.int .i64 0)),(.d (.int .i64 0)),(.d (.str [])),(.d (.str [])),(.d .aO),(.d .aO)],.box b2 [(.d (.sl ((a1.Under).map (D.int .i64)) false)),(.d (.sl ((a1.Kinds).map (D.int .i64)) false)),(.d (.sl ((a1.Ns).map (D.int .i64)) false)),(.d (.sl ((a1.Texts).map (D.int .i64)) false))],.grow v21 ((x20).map eH),.grow v23 ((x22).map (D.int .i64))]:=H19
 unfold aY at h
 refine ax.seq ?_
 refine ax.seq ?_
 refine ax.region E.obj rfl ?_
 refine ae.val rfl (ah rfl) rfl ?_
 refine ae.val rfl (ai rfl JO lV rfl) rfl ?_
 refine ae.val rfl (av H19 (i:=1) rfl rfl (aA mr rfl)) rfl ?_
 refine ae.val rfl (aS rfl wX) rfl ?_
 refine ae.val rfl (ay rfl rfl bG) rfl ?_
 refine ae.val rfl (ah rfl) rfl ?_
 refine ae.bC 3 27 (.d (.bool ((decide (x24 < ((a1.Under).length:Int))) && (decide (x24 < 11))))) ?_ ?_
 ·
  rcases Bool.eq_false_or_eq_true ((decide (x24 < ((a1.Under).length:Int)))) with hB26 | hB26
  ·
   refine ae.bool hB26 ?_
   refine ae.val rfl (ah rfl) rfl ?_
   refine ae.val rfl (ay rfl rfl bG) rfl ?_
   refine ae.val rfl (az (b:=true) rfl rfl) rfl ?_
   exact ae.nil ⟨_,rfl,(aa.put (aa.push rfl (aa.push rfl (aa.put (.refl _) (Less.eq (by rw [hB26]))))) (Less.eq (by rw [hB26]; rw [Bool.true_and])))⟩
  refine ae.bool hB26 ?_
  refine ae.no rfl rfl ?_
  refine ae.no rfl rfl ?_
  refine ae.val rfl (az (b:=false) rfl rfl) rfl ?_
  exact ae.nil ⟨_,rfl,(aa.put (aa.push rfl (aa.push rfl (aa.put (.refl _) (Less.eq (by rw [hB26]))))) (Less.eq (by rw [hB26]; rw [Bool.false_and])))⟩
 refine ae.nil ?_
 refine ax.cond rfl (fun hb27=>?_) (fun hb27=>?_)
 ·
  replace h:=cB hb27 h
  refine ax.skip ?_
  refine ax.seq ?_
  refine ax.block ?_
  refine ax.seq ?_
  refine ax.region E.obj rfl ?_
  refine ae.val rfl (ai rfl JO lV rfl) rfl ?_
  refine ae.val rfl (av H19 (i:=1) rfl rfl (aA mr rfl)) rfl ?_
  refine ae.val rfl (ah rfl) rfl ?_
  obtain ⟨z28,hzz28,h⟩:=bind_some h
  refine ae.val rfl (bE rfl rfl (bY (enc:=(D.int .i64)) hzz28 kV xC (((fun _=>rfl) _).trans pI.symm))) rfl ?_
  refine ae.val rfl (aU rfl (dL jl rfl)) rfl ?_
  refine ae.val rfl (ah rfl) rfl ?_
  refine ae.val rfl (Im H19 (i:=2) rfl rfl yL) rfl ?_
  refine ae.val rfl (ay rfl rfl iV) rfl ?_
  obtain ⟨z29,hzz29,h⟩:=bind_some h
  refine ae.ret rfl (aC rfl rfl) (aN E _ _ _ _ _ hzz29 _ _ (aD.eq (aD.eq (aD.eq .nil)))) rfl ?_
  refine ae.val rfl (aj rfl) rfl ?_
  refine ae.nil ?_
  refine ax.join (B:=aF) (α:=Int) (fun a=>dG n a1 z8 x20 x22 x24 (aY n a1 z8 k25) a=some r) (fun a=>[(1,(.ptr b2 0 0)),(2,(.ptr b5 0 0)),(3,(.d (.sl ((([[100,105,118],[112],[108,105],[98]]:List Str)).map D.str) true))),(4,(.d (.sl ((([[105,100],[112,97],[112,98],[108,97,115,116]]:List Str)).map D.str) true))),(5,(.d (.sl ((z8).map D.str) false))),(6,v21),(7,v23),(8,(.d (.int .i64 x24))),(9,(.d (.int .i64 a)))]) (fun a=>[.box b5 [(.d (.int .i64 0)),(.d (.int .i64 0)),(.d (.str [])),(.d (.str [])),(.d .aO),(.d .aO)],.box b2 [(.d (.sl ((a1.Under).map (D.int .i64)) false)),(.d (.sl ((a1.Kinds).map (D.int .i64)) false)),(.d (.sl ((a1.Ns).map (D.int .i64)) false)),(.d (.sl ((a1.Texts).map (D.int .i64)) false))],.grow v21 ((x20).map eH),.grow v23 ((x22).map (D.int .i64))]) ?_ ?_
  ·
   intro x32 S30 H31 h
   replace h:dG n a1 z8 x20 x22 x24 (aY n a1 z8 k25) x32=some r:=h
   replace H31:Has aF S30 [.box b5 [(.d (.int .i64 0)),(.d (.int .i64 0)),(.d (.str [])),(.d (.str [])),(.d .aO),(.d .aO)],.box b2 [(.d (.sl ((a1.Under).map (D.int .i64)) false)),(.d (.sl ((a1.Kinds).map (D.int .i64)) false)),(.d (.sl ((a1.Ns).map (D.int .i64)) false)),(.d (.sl ((a1.Texts).map (D.int .i64)) false))],.grow v21 ((x20).map eH),.grow v23 ((x22).map (D.int .i64))]:=H31
   unfold dG at h
   refine ax.seq ?_
   obtain ⟨z34,hzz34,h⟩:=bind_some h
   obtain ⟨z35,hzz35,h⟩:=bind_some h
   obtain ⟨z36,hzz36,h⟩:=bind_some h
   obtain ⟨z37,hzz37,h⟩:=bind_some h
   refine ax.qi E.obj pM Qw [(1,none),(2,none),(3,none),(4,none),(5,none),(6,none),(7,none),(8,none),(9,none),(11,some 11)] (by kernel_rfl) [11,12] (by decide) [some (.ptr b2 0 1),some (.d (.sl ((a1.Kinds).map (D.int .i64)) false)),some (.d (.int .i64 x24)),some (.d (.int .i64 z34)),some (.d (.int .i64 z35)),some (.ptr b2 0 2),some (.d (.sl ((a1.Ns).map (D.int .i64)) false)),some (.d (.int .i64 x24)),some (.d (.int .i64 z36)),some (.d (.int .i64 z37)),some (.d (eH (dx.mk z35 z37 [] [] []))),none,none] ?_
   refine ⟨[0,1,2,3,4,5,6,7,8,9,10],by kernel_rfl,?_,_,_,rfl,rfl,.step ?_⟩
   ·
    refine .v rfl rfl rfl rfl (ai rfl Jk lV rfl) ?_
    refine .v rfl rfl rfl rfl (av H31 (i:=1) rfl rfl (aA mr rfl)) ?_
    refine .v rfl rfl rfl rfl (ah rfl) ?_
    refine .cons rfl rfl rfl (.step ?_) ?_
    ·
     refine ae.ret rfl (aC rfl rfl) (bK E _ _ _ _ hzz34 _ _ (aD.eq (aD.eq .nil))) rfl ?_
     exact ae.nil ⟨_,_,rfl,fun _ ht=>by cases ht; exact ⟨rfl,.refl _⟩⟩
    refine .cons rfl rfl rfl (.step ?_) ?_
    ·
     refine ae.ret rfl (aC rfl rfl) (aN E _ _ _ _ _ hzz35 _ _ (aD.eq (aD.eq (aD.eq .nil)))) rfl ?_
     exact ae.nil ⟨_,_,rfl,fun _ ht=>by cases ht; exact ⟨rfl,.refl _⟩⟩
    refine .v rfl rfl rfl rfl (ai rfl JH lV rfl) ?_
    refine .v rfl rfl rfl rfl (av H31 (i:=1) rfl rfl (aA mr rfl)) ?_
    refine .v rfl rfl rfl rfl (ah rfl) ?_
    refine .cons rfl rfl rfl (.step ?_) ?_
    ·
     refine ae.ret rfl (aC rfl rfl) (bK E _ _ _ _ hzz36 _ _ (aD.eq (aD.eq .nil))) rfl ?_
     exact ae.nil ⟨_,_,rfl,fun _ ht=>by cases ht; exact ⟨rfl,.refl _⟩⟩
    refine .cons rfl rfl rfl (.step ?_) ?_
    ·
     refine ae.ret rfl (aC rfl rfl) (aN E _ _ _ _ _ hzz37 _ _ (aD.eq (aD.eq (aD.eq .nil)))) rfl ?_
     exact ae.nil ⟨_,_,rfl,fun _ ht=>by cases ht; exact ⟨rfl,.refl _⟩⟩
    refine .cons rfl rfl rfl (.step ?_) ?_
    ·
     refine ae.val rfl (bH (cs:=[(.d (.int .i64 z35)),(.d (.int .i64 z37)),(.d (.str [])),(.d (.str [])),(.d .aO),(.d .aO)]) lJ rfl (mQ) (cO rfl rfl rfl rfl (cO rfl rfl rfl rfl rfl))) rfl ?_
     refine ae.less (Less.agg' (d:=eH (dx.mk z35 z37 [] [] [])) (au.eq rfl (au.eq rfl (au.eq rfl (au.eq rfl (au.gJ rfl (.aO false) rfl rfl (au.eq rfl .nil)))))) ((dx.eq _).trans rfl)) ?_
     exact ae.nil ⟨_,_,rfl,fun _ ht=>by cases ht; exact ⟨rfl,.refl _⟩⟩
    exact .nil
   refine ae.alloc H31 rfl yF lJ rfl rfl (fun b43 S44 H45=>?_)
   refine ae.nil ⟨_,_,_,rfl,(fun _ ht=>by cases ht; rfl),_,(.q (.q (.o (.o (.o (.w (.ptr b43 0 0) (.n .nil))))))),(fun _ ht=>by cases ht; exact ⟨_,rfl,.refl _⟩),?_⟩
   refine ⟨[0,1,2,3,4,5,6,7,8,9,10],by kernel_rfl,?_,_,_,rfl,rfl,.step ?_⟩
   ·
    refine .v rfl rfl rfl rfl (ai rfl Jk lV rfl) ?_
    refine .v rfl rfl rfl rfl (av H45 (i:=2) rfl rfl (aA mr rfl)) ?_
    refine .v rfl rfl rfl rfl (ah rfl) ?_
    refine .cons rfl rfl rfl (.step ?_) ?_
    ·
     refine ae.ret rfl (aC rfl rfl) (bK E _ _ _ _ hzz34 _ _ (aD.eq (aD.eq .nil))) rfl ?_
     exact ae.nil ⟨_,_,rfl,fun _ ht=>by cases ht; exact ⟨rfl,.refl _⟩⟩
    refine .cons rfl rfl rfl (.step ?_) ?_
    ·
     refine ae.ret rfl (aC rfl rfl) (aN E _ _ _ _ _ hzz35 _ _ (aD.eq (aD.eq (aD.eq .nil)))) rfl ?_
     exact ae.nil ⟨_,_,rfl,fun _ ht=>by cases ht; exact ⟨rfl,.refl _⟩⟩
    refine .v rfl rfl rfl rfl (ai rfl JH lV rfl) ?_
    refine .v rfl rfl rfl rfl (av H45 (i:=2) rfl rfl (aA mr rfl)) ?_
    refine .v rfl rfl rfl rfl (ah rfl) ?_
    refine .cons rfl rfl rfl (.step ?_) ?_
    ·
     refine ae.ret rfl (aC rfl rfl) (bK E _ _ _ _ hzz36 _ _ (aD.eq (aD.eq .nil))) rfl ?_
     exact ae.nil ⟨_,_,rfl,fun _ ht=>by cases ht; exact ⟨rfl,.refl _⟩⟩
    refine .cons rfl rfl rfl (.step ?_) ?_
    ·
     refine ae.ret rfl (aC rfl rfl) (aN E _ _ _ _ _ hzz37 _ _ (aD.eq (aD.eq (aD.eq .nil)))) rfl ?_
     exact ae.nil ⟨_,_,rfl,fun _ ht=>by cases ht; exact ⟨rfl,.refl _⟩⟩
    refine .cons rfl rfl rfl (.step ?_) ?_
    ·
     refine ae.val rfl (bH (cs:=[(.d (.int .i64 z35)),(.d (.int .i64 z37)),(.d (.str [])),(.d (.str [])),(.d .aO),(.d .aO)]) lJ rfl (mQ) (cO rfl rfl rfl rfl (cO rfl rfl rfl rfl rfl))) rfl ?_
     refine ae.less (Less.agg' (d:=eH (dx.mk z35 z37 [] [] [])) (au.eq rfl (au.eq rfl (au.eq rfl (au.eq rfl (au.gJ rfl (.aO false) rfl rfl (au.eq rfl .nil)))))) ((dx.eq _).trans rfl)) ?_
     exact ae.nil ⟨_,_,rfl,fun _ ht=>by cases ht; exact ⟨rfl,.refl _⟩⟩
    exact .nil
   refine ae.store H45 (i:=0) rfl rfl rfl rfl (dx.bf _) rfl eU rfl nA rfl rfl rfl (fun S46 H47=>?_)
   refine ae.nil ⟨_,.any,_,rfl,(fun _ ht=>by cases ht),_,(.q (.q (.q (.w .any .nil)))),(fun _ ht=>by cases ht),?_⟩
   refine ⟨[],by kernel_rfl,?_,_,rfl,?_⟩
   ·
    exact .nil
   refine ax.seq ?_
   refine ax.region E.obj rfl ?_
   refine ae.val rfl (ai rfl ML lV rfl) rfl ?_
   refine ae.val rfl (av H47 (i:=2) rfl rfl (aA mr rfl)) rfl ?_
   refine ae.val rfl (ah rfl) rfl ?_
   obtain ⟨z48,hzz48,h⟩:=bind_some h
   refine ae.ret rfl (aC rfl rfl) (bK E _ _ _ _ hzz48 _ _ (aD.eq (aD.eq .nil))) rfl ?_
   refine ae.val rfl (aj rfl) rfl ?_
   refine ae.nil ?_
   refine ax.join (B:=aF) (α:=Str × Str × (List Attr)) (fun a=>df x20 x22 x24 (aY n a1 z8 k25) x32 z35 z37 a.1 a.2.1 a.2.2=some r) (fun a=>[(1,(.ptr b2 0 0)),(2,(.ptr b5 0 0)),(3,(.d (.sl ((([[100,105,118],[112],[108,105],[98]]:List Str)).map D.str) true))),(4,(.d (.sl ((([[105,100],[112,97],[112,98],[108,97,115,116]]:List Str)).map D.str) true))),(5,(.d (.sl ((z8).map D.str) false))),(6,v21),(7,v23),(8,(.d (.int .i64 x24))),(9,(.d (.int .i64 x32))),(11,(.ptr b43 0 0))]) (fun a=>[.box b43 [(.d (.int .i64 (dx.mk z35 z37 [] [] []).Kind)),(.d (.int .i64 (dx.mk z35 z37 [] [] []).N)),(.d (.str a.1)),(.d (.str a.2.1)),(.d (.sl ((a.2.2).map aR) false)),(.d .aO)],.box b5 [(.d (.int .i64 0)),(.d (.int .i64 0)),(.d (.str [])),(.d (.str [])),(.d .aO),(.d .aO)],.box b2 [(.d (.sl ((a1.Under).map (D.int .i64)) false)),(.d (.sl ((a1.Kinds).map (D.int .i64)) false)),(.d (.sl ((a1.Ns).map (D.int .i64)) false)),(.d (.sl ((a1.Texts).map (D.int .i64)) false))],.grow v21 ((x20).map eH),.grow v23 ((x22).map (D.int .i64))]) ?_ ?_
   ·
    intro a S49 H50 h
    obtain ⟨x51,x52,x53⟩:=a
    replace h:df x20 x22 x24 (aY n a1 z8 k25) x32 z35 z37 x51 x52 x53=some r:=h
    replace H50:Has aF S49 [.box b43 [(.d (.int .i64 (dx.mk z35 z37 [] [] []).Kind)),(.d (.int .i64 (dx.mk z35 z37 [] [] []).N)),(.d (.str x51)),(.d (.str x52)),(.d (.sl ((x53).map aR) false)),(.d .aO)],.box b5 [(.d (.int .i64 0)),(.d (.int .i64 0)),(.d (.str [])),(.d (.str [])),(.d .aO),(.d .aO)],.box b2 [(.d (.sl ((a1.Under).map (D.int .i64)) false)),(.d (.sl ((a1.Kinds).map (D.int .i64)) false)),(.d (.sl ((a1.Ns).map (D.int .i64)) false)),(.d (.sl ((a1.Texts).map (D.int .i64)) false))],.grow v21 ((x20).map eH),.grow v23 ((x22).map (D.int .i64))]:=H50
    unfold df at h
    refine ax.region E.obj rfl ?_
    refine ae.val rfl (ah rfl) rfl ?_
    refine ae.val rfl (av H50 (i:=0) rfl rfl (aZ jE eU rfl)) rfl ?_
    refine ae.less (Less.agg' (d:=eH (dx.mk ((dx.mk z35 z37 [] [] []).Kind) ((dx.mk z35 z37 [] [] []).N) x51 x52 x53)) (au.eq rfl (au.eq rfl (au.eq rfl (au.eq rfl (au.eq rfl (au.eq rfl .nil)))))) ((dx.eq _).trans rfl)) ?_
    refine ae.val rfl (aP (vs:=[(.d (eH (dx.mk ((dx.mk z35 z37 [] [] []).Kind) ((dx.mk z35 z37 [] [] []).N) x51 x52 x53)))]) (ds:=[(eH (dx.mk ((dx.mk z35 z37 [] [] []).Kind) ((dx.mk z35 z37 [] [] []).N) x51 x52 x53))]) AO nL jE lJ eU rfl (by decide) (.cons rfl (dx.len _) .nil) rfl (by intro d hd; simp only [List.mem_cons,List.not_mem_nil,or_false] at hd; rcases hd with rfl <;> exact dx.agg _) rfl) rfl ?_
    obtain ⟨z55,hzz55,h⟩:=bind_some h
    refine ae.append (xs:=(x20).map eH) (ys:=([(dx.mk ((dx.mk z35 z37 [] [] []).Kind) ((dx.mk z35 z37 [] [] []).N) x51 x52 x53)]).map eH) (zs:=(z55).map eH) H50 rfl rfl rfl (i:=3) rfl rfl AO JS nL (fI hzz55) Hr rfl (bS (enc:=eH) (fun z=>(dx.len z).trans eU.symm) _) (bS (enc:=eH) (fun z=>(dx.len z).trans eU.symm) _) JE rfl (jK hzz55) (fun v56 S57 H58=>?_)
    refine ae.val rfl (ah rfl) rfl ?_
    refine ae.val rfl (ah rfl) rfl ?_
    refine ae.val rfl (aP (vs:=[(.d (.int .i64 x32))]) (ds:=[(.int .i64 x32)]) Fs kV jl Gs pI rfl (by decide) (.cons rfl rfl .nil) rfl (by intro d hd; simp only [List.mem_cons,List.not_mem_nil,or_false] at hd; rcases hd with rfl <;> rfl) rfl) rfl ?_
    obtain ⟨z59,hzz59,h⟩:=bind_some h
    refine ae.append (xs:=(x22).map (D.int .i64)) (ys:=([x32]).map (D.int .i64)) (zs:=(z59).map (D.int .i64)) H58 rfl rfl rfl (i:=4) rfl rfl Fs LP kV (fI hzz59) Nw rfl (bS (enc:=(D.int .i64)) (fun _=>pI.symm) _) (bS (enc:=(D.int .i64)) (fun _=>pI.symm) _) PL rfl (jK hzz59) (fun v60 S61 H62=>?_)
    refine ae.val rfl (aj rfl) rfl ?_
    refine ae.val rfl (aj rfl) rfl ?_
    refine ae.nil ?_
    refine ax.region E.obj rfl ?_
    refine ae.val rfl (ah rfl) rfl ?_
    refine ae.val rfl (ay rfl rfl bI) rfl ?_
    refine ae.val rfl (aj rfl) rfl ?_
    refine ae.nil ?_
    exact ⟨⟨z55,v56,z59,v60,(IntKind.wrap .i64 (x24 + 1))⟩,_,_,S61,.refl _ _,.refl _,(aa.r rfl (aa.r rfl (aa.r rfl (aa.r rfl (aa.r rfl (aa.r rfl (aa.r rfl (aa.r rfl aa.nil)))))))),H62.sl [1,2,3,4] rfl rfl,h⟩
   refine ax.seq ?_
   refine ax.region E.obj rfl ?_
   refine ae.val rfl (ai rfl ku kL rfl) rfl ?_
   refine ae.val rfl (av H47 (i:=0) rfl rfl (aA jl rfl)) rfl ?_
   refine ae.nil ?_
   refine ax.block ?_
   refine ax.seq ?_
   refine ax.region E.obj rfl ?_
   refine ae.val rfl (ay rfl rfl dD) rfl ?_
   refine ae.val rfl (aj rfl) rfl ?_
   refine ae.nil ?_
   refine ax.cond rfl (fun hb63=>?_) (fun hb63=>?_)
   ·
    replace h:=cB hb63 h
    refine ax.seq ?_
    refine ax.region E.obj rfl ?_
    refine ae.val rfl (ah rfl) rfl ?_
    refine ae.val rfl (ah rfl) rfl ?_
    refine ae.val rfl (ah rfl) rfl ?_
    refine ae.val rfl (aS rfl I8) rfl ?_
    refine ae.val rfl (ay rfl rfl iV) rfl ?_
    obtain ⟨z64,hzz64,h⟩:=bind_some h
    refine ae.ret rfl (aC rfl rfl) (aN E _ _ _ _ _ hzz64 _ _ (aD.eq (aD.eq (aD.eq .nil)))) rfl ?_
    obtain ⟨z65,hzz65,h⟩:=bind_some h
    refine ae.val rfl (bE rfl rfl (bY (enc:=D.str) hzz65 zG Ji (((fun _=>rfl) _).trans Fp.symm))) rfl ?_
    refine ae.val rfl (aU rfl (dL u6 rfl)) rfl ?_
    refine ae.val rfl (ai rfl DK yO rfl) rfl ?_
    refine ae.store H47 (i:=0) rfl rfl rfl rfl rfl rfl Fp rfl Ji rfl rfl rfl (fun S66 H67=>?_)
    refine ae.nil ?_
    refine ax.seq ?_
    refine ax.region E.obj rfl ?_
    refine ae.val rfl (ah rfl) rfl ?_
    refine ae.val rfl (ay rfl rfl wW) rfl ?_
    refine ae.val rfl (ay rfl rfl dD) rfl ?_
    refine ae.nil ?_
    refine ax.cond rfl (fun hb68=>?_) (fun hb68=>?_)
    ·
     replace h:=cB hb68 h
     refine ax.region E.obj rfl ?_
     refine ae.val rfl (ah rfl) rfl ?_
     refine ae.val rfl (ah rfl) rfl ?_
     obtain ⟨z69,hzz69,h⟩:=bind_some h
     refine ae.val rfl (ay rfl rfl (xe hzz69)) rfl ?_
     refine ae.val rfl (ah rfl) rfl ?_
     refine ae.val rfl (aS rfl I8) rfl ?_
     refine ae.val rfl (ay rfl rfl iV) rfl ?_
     obtain ⟨z70,hzz70,h⟩:=bind_some h
     refine ae.ret rfl (aC rfl rfl) (aN E _ _ _ _ _ hzz70 _ _ (aD.eq (aD.eq (aD.eq .nil)))) rfl ?_
     obtain ⟨z71,hzz71,h⟩:=bind_some h
     refine ae.val rfl (bE rfl rfl (bY (enc:=D.str) hzz71 zG Ji (((fun _=>rfl) _).trans Fp.symm))) rfl ?_
     refine ae.val rfl (aU rfl (dL u6 rfl)) rfl ?_
     refine ae.val rfl (bH (cs:=[(.d (.str [120])),(.d (.str z71))]) NU rfl (zf) (cO rfl rfl rfl rfl (cO rfl rfl rfl rfl rfl))) rfl ?_
     refine ae.less (Less.agg' (d:=aR (Attr.mk [120] z71)) (au.eq rfl (au.eq rfl .nil)) ((Attr.eq _).trans rfl)) ?_
     refine ae.val rfl (aP (vs:=[(.d (aR (Attr.mk [120] z71)))]) (ds:=[(aR (Attr.mk [120] z71))]) Mq Ky K3 NU FC rfl (by decide) (.cons rfl (Attr.len _) .nil) rfl (by intro d hd; simp only [List.mem_cons,List.not_mem_nil,or_false] at hd; rcases hd with rfl <;> exact Attr.agg _) rfl) rfl ?_
     refine ae.val rfl (ai rfl zS JD rfl) rfl ?_
     refine ae.store H67 (i:=0) rfl rfl rfl rfl rfl rfl M0 rfl NG rfl rfl rfl (fun S72 H73=>?_)
     refine ae.nil ?_
     obtain ⟨S74,hw75,H76⟩:=H73.Hf (i:=0) (cs':=[(.d (.int .i64 (dx.mk z35 z37 [] [] []).Kind)),(.d (.int .i64 (dx.mk z35 z37 [] [] []).N)),(.d (.str z65)),(.d (.str (dx.mk z35 z37 [] [] []).Text)),(.d (.sl (([(Attr.mk [120] z71)]).map aR) false)),(.d .aO)]) rfl (.cons (.refl _) (.cons (.refl _) (.cons (.refl _) (.cons (.refl _) (.cons JI (.cons (.refl _) .nil))))))
     exact ⟨⟨z65,(dx.mk z35 z37 [] [] []).Text,[(Attr.mk [120] z71)]⟩,_,_,S74,.refl _ _,hw75,(aa.r rfl (aa.r rfl (aa.r rfl (aa.r rfl (aa.r rfl (aa.r rfl (aa.r rfl (aa.r rfl (aa.r rfl (aa.r rfl aa.nil)))))))))),H76.sl [0,1,2,3,4] rfl rfl,h⟩
    replace h:=cK hb68 h
    refine ax.skip ?_
    exact ⟨⟨z65,(dx.mk z35 z37 [] [] []).Text,(dx.mk z35 z37 [] [] []).bR⟩,_,_,S66,.refl _ _,.refl _,(aa.r rfl (aa.r rfl (aa.r rfl (aa.r rfl (aa.r rfl (aa.r rfl (aa.r rfl (aa.r rfl (aa.r rfl (aa.r rfl aa.nil)))))))))),H67.sl [0,1,2,3,4] rfl rfl,h⟩
   replace h:=cK hb63 h
   refine ax.seq ?_
   refine ax.region E.obj rfl ?_
   refine ae.val rfl (ay rfl rfl dD) rfl ?_
   refine ae.val rfl (aj rfl) rfl ?_
   refine ae.nil ?_
   refine ax.cond rfl (fun hb77=>?_) (fun hb77=>?_)
   ·
    replace h:=cB hb77 h
    refine ax.region E.obj rfl ?_
    refine ae.val rfl (ah rfl) rfl ?_
    refine ae.val rfl (ah rfl) rfl ?_
    refine ae.val rfl (ah rfl) rfl ?_
    refine ae.val rfl (aS rfl I8) rfl ?_
    refine ae.val rfl (ay rfl rfl iV) rfl ?_
    obtain ⟨z78,hzz78,h⟩:=bind_some h
    refine ae.ret rfl (aC rfl rfl) (aN E _ _ _ _ _ hzz78 _ _ (aD.eq (aD.eq (aD.eq .nil)))) rfl ?_
    obtain ⟨z79,hzz79,h⟩:=bind_some h
    refine ae.val rfl (bE rfl rfl (bY (enc:=D.str) hzz79 zG Ji (((fun _=>rfl) _).trans Fp.symm))) rfl ?_
    refine ae.val rfl (aU rfl (dL u6 rfl)) rfl ?_
    refine ae.val rfl (ai rfl DL yO rfl) rfl ?_
    refine ae.store H47 (i:=0) rfl rfl rfl rfl rfl rfl Fp rfl Ji rfl rfl rfl (fun S80 H81=>?_)
    refine ae.nil ?_
    exact ⟨⟨(dx.mk z35 z37 [] [] []).Tag,z79,(dx.mk z35 z37 [] [] []).bR⟩,_,_,S80,.refl _ _,.refl _,(aa.r rfl (aa.r rfl (aa.r rfl (aa.r rfl (aa.r rfl (aa.r rfl (aa.r rfl (aa.r rfl (aa.r rfl (aa.r rfl aa.nil)))))))))),H81.sl [0,1,2,3,4] rfl rfl,h⟩
   replace h:=cK hb77 h
   refine ax.seq ?_
   refine ax.region E.obj rfl ?_
   refine ae.val rfl (ay rfl rfl dD) rfl ?_
   refine ae.val rfl (aj rfl) rfl ?_
   refine ae.nil ?_
   refine ax.cond rfl (fun hb82=>?_) (fun hb82=>?_)
   ·
    replace h:=cB hb82 h
    refine ax.region E.obj rfl ?_
    refine ae.val rfl (ah rfl) rfl ?_
    refine ae.val rfl (ah rfl) rfl ?_
    refine ae.val rfl (ah rfl) rfl ?_
    refine ae.val rfl (aS rfl I8) rfl ?_
    refine ae.val rfl (ay rfl rfl iV) rfl ?_
    obtain ⟨z83,hzz83,h⟩:=bind_some h
    refine ae.ret rfl (aC rfl rfl) (aN E _ _ _ _ _ hzz83 _ _ (aD.eq (aD.eq (aD.eq .nil)))) rfl ?_
    obtain ⟨z84,hzz84,h⟩:=bind_some h
    refine ae.val rfl (bE rfl rfl (bY (enc:=D.str) hzz84 zG Ji (((fun _=>rfl) _).trans Fp.symm))) rfl ?_
    refine ae.val rfl (aU rfl (dL u6 rfl)) rfl ?_
    refine ae.val rfl (ai rfl DL yO rfl) rfl ?_
    refine ae.store H47 (i:=0) rfl rfl rfl rfl rfl rfl Fp rfl Ji rfl rfl rfl (fun S85 H86=>?_)
    refine ae.nil ?_
    exact ⟨⟨(dx.mk z35 z37 [] [] []).Tag,z84,(dx.mk z35 z37 [] [] []).bR⟩,_,_,S85,.refl _ _,.refl _,(aa.r rfl (aa.r rfl (aa.r rfl (aa.r rfl (aa.r rfl (aa.r rfl (aa.r rfl (aa.r rfl (aa.r rfl (aa.r rfl aa.nil)))))))))),H86.sl [0,1,2,3,4] rfl rfl,h⟩
   replace h:=cK hb82 h
   refine ax.skip ?_
   exact ⟨⟨(dx.mk z35 z37 [] [] []).Tag,(dx.mk z35 z37 [] [] []).Text,(dx.mk z35 z37 [] [] []).bR⟩,_,_,S46,.refl _ _,.refl _,(aa.r rfl (aa.r rfl (aa.r rfl (aa.r rfl (aa.r rfl (aa.r rfl (aa.r rfl (aa.r rfl (aa.r rfl (aa.r rfl aa.nil)))))))))),H47.sl [0,1,2,3,4] rfl rfl,h⟩
  refine ax.seq ?_
  refine ax.region E.obj rfl ?_
  refine ae.val rfl (ah rfl) rfl ?_
  refine ae.val rfl (ah rfl) rfl ?_
  obtain ⟨z87,hzz87,h⟩:=bind_some h
  refine ae.val rfl (bE rfl rfl (su (enc:=eH) H19 (i:=2) rfl hzz87 nL nA ((dx.len _).trans eU.symm))) rfl ?_
  refine ae.val rfl (kD rfl ku kL rfl) rfl ?_
  refine ae.val rfl (aU rfl (by rw [dx.cells]; exact dL jl rfl)) rfl ?_
  refine ae.val rfl (aj rfl) rfl ?_
  refine ae.nil ?_
  refine ax.seq ?_
  refine ax.region E.obj rfl ?_
  refine ae.val rfl (ah rfl) rfl ?_
  refine ae.val rfl (ay rfl rfl fH) rfl ?_
  refine ae.val rfl (ah rfl) rfl ?_
  refine ae.bC 3 49 (.d (.bool ((z87.Kind != 1) && (z87.Kind != 5)))) ?_ ?_
  ·
   rcases Bool.eq_false_or_eq_true ((z87.Kind != 1)) with hB88 | hB88
   ·
    refine ae.bool hB88 ?_
    refine ae.val rfl (ah rfl) rfl ?_
    refine ae.val rfl (ay rfl rfl fH) rfl ?_
    refine ae.val rfl (az (b:=true) rfl rfl) rfl ?_
    exact ae.nil ⟨_,rfl,(aa.put (aa.push rfl (aa.push rfl (aa.put (.refl _) (Less.eq (by rw [hB88]))))) (Less.eq (by rw [hB88]; rw [Bool.true_and])))⟩
   refine ae.bool hB88 ?_
   refine ae.no rfl rfl ?_
   refine ae.no rfl rfl ?_
   refine ae.val rfl (az (b:=false) rfl rfl) rfl ?_
   exact ae.nil ⟨_,rfl,(aa.put (aa.push rfl (aa.push rfl (aa.put (.refl _) (Less.eq (by rw [hB88]))))) (Less.eq (by rw [hB88]; rw [Bool.false_and])))⟩
  refine ae.val rfl (ah rfl) rfl ?_
  refine ae.bC 3 53 (.d (.bool (((z87.Kind != 1) && (z87.Kind != 5)) && (z87.Kind != 6)))) ?_ ?_
  ·
   rcases Bool.eq_false_or_eq_true (((z87.Kind != 1) && (z87.Kind != 5))) with hB89 | hB89
   ·
    refine ae.bool hB89 ?_
    refine ae.val rfl (ah rfl) rfl ?_
    refine ae.val rfl (ay rfl rfl fH) rfl ?_
    refine ae.val rfl (az (b:=true) rfl rfl) rfl ?_
    exact ae.nil ⟨_,rfl,(aa.put (aa.push rfl (aa.push rfl (aa.put (.refl _) (Less.eq (by rw [hB89]))))) (Less.eq (by rw [hB89]; rw [Bool.true_and])))⟩
   refine ae.bool hB89 ?_
   refine ae.no rfl rfl ?_
   refine ae.no rfl rfl ?_
   refine ae.val rfl (az (b:=false) rfl rfl) rfl ?_
   exact ae.nil ⟨_,rfl,(aa.put (aa.push rfl (aa.push rfl (aa.put (.refl _) (Less.eq (by rw [hB89]))))) (Less.eq (by rw [hB89]; rw [Bool.false_and])))⟩
  refine ae.val rfl (ah rfl) rfl ?_
  obtain ⟨z91,hzz91,h⟩:=bind_some h
  refine ae.bC 5 59 (.d (.bool z91)) ?_ ?_
  ·
   rcases Bool.eq_false_or_eq_true ((((z87.Kind != 1) && (z87.Kind != 5)) && (z87.Kind != 6))) with hB90 | hB90
   ·
    refine ae.bool hB90 ?_
    refine ae.no rfl rfl ?_
    refine ae.no rfl rfl ?_
    refine ae.no rfl rfl ?_
    refine ae.no rfl rfl ?_
    refine ae.val rfl (az (b:=true) rfl rfl) rfl ?_
    replace hzz91:=cB hB90 hzz91
    cases hzz91
    exact ae.nil ⟨_,rfl,(aa.put (aa.push rfl (aa.push rfl (aa.push rfl (aa.push rfl (aa.put (.refl _) (Less.eq (by rw [hB90]))))))) (.refl _))⟩
   refine ae.bool hB90 ?_
   replace hzz91:=cK hB90 hzz91
   refine ae.val rfl (ah rfl) rfl ?_
   refine ae.val rfl (ah rfl) rfl ?_
   obtain ⟨z92,hzz92,hzz91⟩:=bind_some hzz91
   refine ae.ret rfl (aC rfl rfl) (uR E _ _ _ _ hzz92 _ _ (aD.grow H19 (i:=3) rfl (aD.eq .nil))) rfl ?_
   refine ae.val rfl (ay rfl rfl jT) rfl ?_
   refine ae.val rfl (az (b:=false) rfl rfl) rfl ?_
   cases hzz91
   exact ae.nil ⟨_,rfl,(aa.put (aa.push rfl (aa.push rfl (aa.push rfl (aa.push rfl (aa.put (.refl _) (Less.eq (by rw [hB90]))))))) (.refl _))⟩
  refine ae.nil ?_
  refine ax.cond rfl (fun hb93=>?_) (fun hb93=>?_)
  ·
   replace h:=cB hb93 h
   refine ax.region E.obj rfl ?_
   refine ae.val rfl (aj rfl) rfl ?_
   refine ae.nil ?_
   exact ⟨0,_,_,S18,.refl _ _,.refl _,(aa.r rfl (aa.r rfl (aa.r rfl (aa.r rfl (aa.r rfl (aa.r rfl (aa.r rfl (aa.r rfl (aa.r rfl aa.nil))))))))),H19.sl [0,1,2,3] rfl rfl,h⟩
  replace h:=cK hb93 h
  refine ax.skip ?_
  exact ⟨z29,_,_,S18,.refl _ _,.refl _,(aa.r rfl (aa.r rfl (aa.r rfl (aa.r rfl (aa.r rfl (aa.r rfl (aa.r rfl (aa.r rfl (aa.r rfl aa.nil))))))))),H19.sl [0,1,2,3] rfl rfl,h⟩
 replace h:=cK hb27 h
 refine ax.exit ?_
 refine ax.seq ?_
 refine ax.region E.obj rfl ?_
 refine ae.val rfl (ah rfl) rfl ?_
 refine ae.val rfl (ah rfl) rfl ?_
 obtain ⟨z94,hzz94,h⟩:=bind_some h
 refine ae.ret rfl (aC rfl rfl) (pq E _ _ _ _ _ hzz94 _ _ (aD.grow H19 (i:=2) rfl (aD.grow H19 (i:=3) rfl (aD.eq .nil)))) rfl ?_
 refine ae.store H19 (i:=0) rfl rfl rfl rfl (aK.bf _) rfl eU rfl nA rfl rfl rfl (fun S95 H96=>?_)
 refine ae.nil ?_
 have hr:=Option.some.inj h
 subst hr
 exact ax.ret ⟨_,gZ H96 (i:=0) rfl rfl rfl (aZ jE eU rfl),rfl,dY (aD.qd (d:=aG z94) (au.eq rfl (au.eq rfl (au.eq rfl (au.eq rfl (au.eq rfl (au.eq rfl .nil)))))) ((aK.eq _).trans rfl))⟩
set_option maxRecDepth 20000 in
set_option maxHeartbeats 4000000 in
theorem l6 (n:Nat) (a1:eX) (r:aJ) (h:gI n a1=some r):bN R cfg.P 13 [(dH a1)] (.d (aI r)):=by
 unfold gI at h
 refine bN.of_wp E.obj.toObjOk (C:=cfg) Tryd.func13 rfl PS rfl ?_
 have H0:Has aF aF []:=Has.pure
 refine ax.seq ?_
 refine ax.region E.obj rfl ?_
 refine ae.box H0 rfl rfl rfl (eX.bf _) rfl (fun b2 S3 H4=>?_)
 refine ae.alloc H4 rfl FP tH rfl rfl (fun b5 S6 H7=>?_)
 refine ae.nil ?_
 refine ax.seq ?_
 obtain ⟨z8,hzz8,h⟩:=bind_some h
 obtain ⟨z9,hzz9,h⟩:=bind_some h
 refine ax.qi E.obj pM Qo [(1,none),(2,none),(3,some 7)] (by kernel_rfl) [7,8] (by decide) [some (.ptr b2 0 0),some (.d (ko a1.Page)),some (.d (aG z8)),some (.ptr b2 0 6),some (.d (.bool a1.Outlet)),some (.d (aG z9)),some (Ev.iY [(.d (.int .i64 z9.Kind)),(.d (.int .i64 z9.N)),(.d (.str z9.Tag)),(.d (.str z9.Text)),(.d (.sl ((z9.bR).map aR) false)),(.d (.sl ((z9.Kids).map aG) false)),(.d .aO),(.d .aO)]),none,none] ?_
 refine ⟨[0,1,2,3,4,5,6],by kernel_rfl,?_,_,_,rfl,rfl,.step ?_⟩
 ·
  refine .v rfl rfl rfl rfl (ai rfl I9 NK rfl) ?_
  refine .cons rfl rfl rfl (.step ?_) ?_
  ·
   refine ae.val rfl (av H7 (i:=1) rfl rfl (aZ Nf NL rfl)) rfl ?_
   refine ae.less (Less.agg' (d:=ko a1.Page) (au.eq rfl (au.eq rfl (au.eq rfl (au.eq rfl .nil)))) ((cZ.eq _).trans rfl)) ?_
   exact ae.nil ⟨_,_,rfl,fun _ ht=>by cases ht; exact ⟨rfl,.refl _⟩⟩
  refine .cons rfl rfl rfl (.step ?_) ?_
  ·
   refine ae.ret rfl (aC rfl rfl) (l9 E _ _ _ hzz8 _ _ (aD.eq .nil)) rfl ?_
   exact ae.nil ⟨_,_,rfl,fun _ ht=>by cases ht; exact ⟨rfl,.refl _⟩⟩
  refine .v rfl rfl rfl rfl (ai rfl Dm LV rfl) ?_
  refine .v rfl rfl rfl rfl (av H7 (i:=1) rfl rfl (aA Oa rfl)) ?_
  refine .cons rfl rfl rfl (.step ?_) ?_
  ·
   refine ae.ret rfl (aC rfl rfl) (oG E _ _ _ _ hzz9 _ _ (aD.eq (aD.eq .nil))) rfl ?_
   exact ae.nil ⟨_,_,rfl,fun _ ht=>by cases ht; exact ⟨rfl,.refl _⟩⟩
  refine .v rfl rfl rfl rfl (bH (cs:=[(.d (.int .i64 z9.Kind)),(.d (.int .i64 z9.N)),(.d (.str z9.Tag)),(.d (.str z9.Text)),(.d (.sl ((z9.bR).map aR) false)),(.d (.sl ((z9.Kids).map aG) false)),(.d .aO),(.d .aO)]) tH rfl (tN) (cO rfl (kF (aK.bf _)) rfl rfl rfl)) ?_
  exact .nil
 refine ae.alloc H7 rfl FP tH rfl rfl (fun b15 S16 H17=>?_)
 refine ae.nil ⟨_,_,_,rfl,(fun _ ht=>by cases ht; rfl),_,(.q (.o (.o (.o (.w (.ptr b15 0 0) (.n .nil)))))),(fun _ ht=>by cases ht; exact ⟨_,rfl,.refl _⟩),?_⟩
 refine ⟨[0,1,2,3,4,5,6],by kernel_rfl,?_,_,_,rfl,rfl,.step ?_⟩
 ·
  refine .v rfl rfl rfl rfl (ai rfl I9 NK rfl) ?_
  refine .cons rfl rfl rfl (.step ?_) ?_
  ·
   refine ae.val rfl (av H17 (i:=2) rfl rfl (aZ Nf NL rfl)) rfl ?_
   refine ae.less (Less.agg' (d:=ko a1.Page) (au.eq rfl (au.eq rfl (au.eq rfl (au.eq rfl .nil)))) ((cZ.eq _).trans rfl)) ?_
   exact ae.nil ⟨_,_,rfl,fun _ ht=>by cases ht; exact ⟨rfl,.refl _⟩⟩
  refine .cons rfl rfl rfl (.step ?_) ?_
  ·
   refine ae.ret rfl (aC rfl rfl) (l9 E _ _ _ hzz8 _ _ (aD.eq .nil)) rfl ?_
   exact ae.nil ⟨_,_,rfl,fun _ ht=>by cases ht; exact ⟨rfl,.refl _⟩⟩
  refine .v rfl rfl rfl rfl (ai rfl Dm LV rfl) ?_
  refine .v rfl rfl rfl rfl (av H17 (i:=2) rfl rfl (aA Oa rfl)) ?_
  refine .cons rfl rfl rfl (.step ?_) ?_
  ·
   refine ae.ret rfl (aC rfl rfl) (oG E _ _ _ _ hzz9 _ _ (aD.eq (aD.eq .nil))) rfl ?_
   exact ae.nil ⟨_,_,rfl,fun _ ht=>by cases ht; exact ⟨rfl,.refl _⟩⟩
  refine .v rfl rfl rfl rfl (bH (cs:=[(.d (.int .i64 z9.Kind)),(.d (.int .i64 z9.N)),(.d (.str z9.Tag)),(.d (.str z9.Text)),(.d (.sl ((z9.bR).map aR) false)),(.d (.sl ((z9.Kids).map aG) false)),(.d .aO),(.d .aO)]) tH rfl (tN) (cO rfl (kF (aK.bf _)) rfl rfl rfl)) ?_
  exact .nil
 refine ae.store H17 (i:=0) rfl rfl rfl rfl rfl rfl jS rfl qx rfl rfl rfl (fun S18 H19=>?_)
 refine ae.nil ⟨_,.any,_,rfl,(fun _ ht=>by cases ht),_,(.q (.q (.w .any .nil))),(fun _ ht=>by cases ht),?_⟩
 refine ⟨[],by kernel_rfl,?_,_,rfl,?_⟩
 ·
  exact .nil
 refine ax.seq ?_
 refine ax.seq ?_
 refine ax.region E.obj rfl ?_
 refine ae.val rfl (ah rfl) rfl ?_
 refine ae.nil ?_
 refine ax.block ?_
 have H82:=H19.Gh
 refine nz.start (B:=aF) (α:=(List Int) × AV × Int) (fun k a=>dF n a1 z9 k a.1 a.2.2=some r) (fun a=>[(1,(.ptr b2 0 0)),(2,(.ptr b5 0 0)),(3,(.ptr b15 0 0)),(14,(.d (.int .i64 a.2.2)))]) (fun a=>[.box b15 [(.d (.int .i64 z9.Kind)),(.d (.int .i64 z9.N)),(.d (.str z9.Tag)),(.d (.str z9.Text)),(.d (.sl ((z9.bR).map aR) false)),(.d (.sl ((z9.Kids).map aG) false)),a.2.1,(.d .aO)],.box b5 [(.d (.int .i64 0)),(.d (.int .i64 0)),(.d (.str [])),(.d (.str [])),(.d .aO),(.d .aO),(.d .aO),(.d .aO)],.box b2 [(.d (.sl ((a1.Page.Under).map (D.int .i64)) false)),(.d (.sl ((a1.Page.Kinds).map (D.int .i64)) false)),(.d (.sl ((a1.Page.Ns).map (D.int .i64)) false)),(.d (.sl ((a1.Page.Texts).map (D.int .i64)) false)),(.d (.sl ((a1.Init).map (D.int .i64)) false)),(.d (.sl ((a1.Adds).map (D.int .i64)) false)),(.d (.bool a1.Outlet))],.grow a.2.1 ((a.1).map (D.int .i64))]) ?_ ?_ n ⟨⟨[],(.d .aO),0⟩,_,_,S18,.refl _ _,.refl _,(aa.r rfl (aa.r rfl (aa.r rfl (aa.r rfl aa.nil)))),H82.sl [1,2,3,0] rfl rfl,h⟩
 ·
  intro a h; simp [dF] at h
 intro k32 a S27 H28 h
 obtain ⟨x29,v30,x31⟩:=a
 replace h:dF n a1 z9 (k32 + 1) x29 x31=some r:=h
 replace H28:Has aF S27 [.box b15 [(.d (.int .i64 z9.Kind)),(.d (.int .i64 z9.N)),(.d (.str z9.Tag)),(.d (.str z9.Text)),(.d (.sl ((z9.bR).map aR) false)),(.d (.sl ((z9.Kids).map aG) false)),v30,(.d .aO)],.box b5 [(.d (.int .i64 0)),(.d (.int .i64 0)),(.d (.str [])),(.d (.str [])),(.d .aO),(.d .aO),(.d .aO),(.d .aO)],.box b2 [(.d (.sl ((a1.Page.Under).map (D.int .i64)) false)),(.d (.sl ((a1.Page.Kinds).map (D.int .i64)) false)),(.d (.sl ((a1.Page.Ns).map (D.int .i64)) false)),(.d (.sl ((a1.Page.Texts).map (D.int .i64)) false)),(.d (.sl ((a1.Init).map (D.int .i64)) false)),(.d (.sl ((a1.Adds).map (D.int .i64)) false)),(.d (.bool a1.Outlet))],.grow v30 ((x29).map (D.int .i64))]:=H28
 unfold dF at h
 refine ax.seq ?_
 refine ax.region E.obj rfl ?_
 refine ae.val rfl (ay rfl rfl bG) rfl ?_
 refine ae.nil ?_
 refine ax.seq ?_
 refine ax.cond rfl (fun hb33=>?_) (fun hb33=>?_)
 ·
  replace h:=cB hb33 h
  refine ax.skip ?_
  refine ax.seq ?_
  refine ax.block ?_
  refine ax.seq ?_
  refine ax.region E.obj rfl ?_
  refine ae.val rfl (ah rfl) rfl ?_
  refine ae.val rfl (aj rfl) rfl ?_
  refine ae.nil ?_
  obtain ⟨z34,hzz34,h⟩:=bind_some h
  obtain ⟨z35,hzz35,h⟩:=bind_some h
  obtain ⟨z36,hzz36,h⟩:=bind_some h
  refine ax.qi E.obj pM Qu [(1,none),(2,none),(3,none),(14,none)] (by kernel_rfl) [8,10] (by decide) [some (.ptr b15 0 6),some v30,some (.ptr b2 0 4),some (.d (.sl ((a1.Init).map (D.int .i64)) false)),some (.d (.int .i64 x31)),some (.d (.int .i64 z34)),some (.d (.int .i64 z35)),some (.d (.sl (([z35]).map (D.int .i64)) true)),none,none,none] ?_
  refine ⟨[0,1,2,3,4,5,6,7],by kernel_rfl,?_,_,_,rfl,rfl,.step ?_⟩
  ·
   refine .v rfl rfl rfl rfl (ai rfl rF lV rfl) ?_
   refine .v rfl rfl rfl rfl (av H28 (i:=0) rfl rfl (aA mr rfl)) ?_
   refine .v rfl rfl rfl rfl (ai rfl L6 lV rfl) ?_
   refine .v rfl rfl rfl rfl (av H28 (i:=2) rfl rfl (aA mr rfl)) ?_
   refine .v rfl rfl rfl rfl (ah rfl) ?_
   refine .cons rfl rfl rfl (.step ?_) ?_
   ·
    refine ae.ret rfl (aC rfl rfl) (bK E _ _ _ _ hzz34 _ _ (aD.eq (aD.eq .nil))) rfl ?_
    exact ae.nil ⟨_,_,rfl,fun _ ht=>by cases ht; exact ⟨rfl,.refl _⟩⟩
   refine .cons rfl rfl rfl (.step ?_) ?_
   ·
    refine ae.ret rfl (aC rfl rfl) (aN E _ _ _ _ _ hzz35 _ _ (aD.eq (aD.eq (aD.eq .nil)))) rfl ?_
    exact ae.nil ⟨_,_,rfl,fun _ ht=>by cases ht; exact ⟨rfl,.refl _⟩⟩
   refine .v rfl rfl rfl rfl (aP (vs:=[(.d (.int .i64 z35))]) (ds:=[(.int .i64 z35)]) Fs kV jl Gs pI rfl (by decide) (.cons rfl rfl .nil) rfl (by intro d hd; simp only [List.mem_cons,List.not_mem_nil,or_false] at hd; rcases hd with rfl <;> rfl) rfl) ?_
   exact .nil
  refine ae.append (xs:=(x29).map (D.int .i64)) (ys:=([z35]).map (D.int .i64)) (zs:=(z36).map (D.int .i64)) H28 rfl rfl rfl (i:=3) rfl rfl Fs LP kV (fI hzz36) Nw rfl (bS (enc:=(D.int .i64)) (fun _=>pI.symm) _) (bS (enc:=(D.int .i64)) (fun _=>pI.symm) _) PL rfl (jK hzz36) (fun v42 S43 H44=>?_)
  refine ae.nil ⟨_,_,_,rfl,(fun _ ht=>by cases ht; rfl),_,(.q (.q (.w v42 (.w (.ptr b15 0 6) (.n .nil))))),(fun _ ht=>by cases ht; exact ⟨_,rfl,.refl _⟩),?_⟩
  refine ⟨[9],by kernel_rfl,?_,_,_,rfl,rfl,.step ?_⟩
  ·
   refine .v rfl rfl rfl rfl (ai rfl rF lV rfl) ?_
   exact .nil
  refine ae.store H44 (i:=0) rfl rfl rfl rfl (jb (H44.at (i:=3) rfl)).2.2.2.2 rfl N7 (jb (H44.at (i:=3) rfl)).2.2.2.1 NM rfl rfl rfl (fun S45 H46=>?_)
  refine ae.nil ⟨_,.any,_,rfl,(fun _ ht=>by cases ht),_,(.q (.q (.o (.o (.w .any .nil))))),(fun _ ht=>by cases ht),?_⟩
  refine ⟨[],by kernel_rfl,?_,_,rfl,?_⟩
  ·
   exact .nil
  refine ax.region E.obj rfl ?_
  refine ae.val rfl (ay rfl rfl bI) rfl ?_
  refine ae.val rfl (ah rfl) rfl ?_
  refine ae.nil ?_
  exact ⟨⟨z36,v42,(IntKind.wrap .i64 (x31 + 1))⟩,_,_,S45,.refl _ _,.refl _,(aa.r rfl (aa.r rfl (aa.r rfl (aa.r rfl aa.nil)))),H46.sl [0,1,2,3] rfl rfl,h⟩
 replace h:=cK hb33 h
 refine ax.exit ?_
 refine ax.seq ?_
 refine ax.region E.obj rfl ?_
 refine ae.val rfl (aP (vs:=[(.d (.str [117,112])),(.d (.str [100,111,119,110])),(.d (.str [97]))]) (ds:=[(.str [117,112]),(.str [100,111,119,110]),(.str [97])]) Lp zG u6 NQ Fp rfl (by decide) (.cons rfl rfl (.cons rfl rfl (.cons rfl rfl .nil))) rfl (by intro d hd; simp only [List.mem_cons,List.not_mem_nil,or_false] at hd; rcases hd with rfl | rfl | rfl <;> rfl) rfl) rfl ?_
 refine ae.val rfl (aj rfl) rfl ?_
 refine ae.nil ?_
 refine ax.seq ?_
 refine ax.seq ?_
 refine ax.region E.obj rfl ?_
 refine ae.val rfl (aj rfl) rfl ?_
 refine ae.nil ?_
 refine ax.block ?_
 have H81:=H28.Gh
 refine nz.start (B:=aF) (α:=(List On) × AV × Int) (fun k a=>dR n a1 z9 x29 k a.1 a.2.2=some r) (fun a=>[(1,(.ptr b2 0 0)),(2,(.ptr b5 0 0)),(3,(.ptr b15 0 0)),(5,(.d (.sl ((([[117,112],[100,111,119,110],[97]]:List Str)).map D.str) true))),(6,(.d (.int .i64 a.2.2)))]) (fun a=>[.box b15 [(.d (.int .i64 z9.Kind)),(.d (.int .i64 z9.N)),(.d (.str z9.Tag)),(.d (.str z9.Text)),(.d (.sl ((z9.bR).map aR) false)),(.d (.sl ((z9.Kids).map aG) false)),v30,a.2.1],.box b5 [(.d (.int .i64 0)),(.d (.int .i64 0)),(.d (.str [])),(.d (.str [])),(.d .aO),(.d .aO),(.d .aO),(.d .aO)],.box b2 [(.d (.sl ((a1.Page.Under).map (D.int .i64)) false)),(.d (.sl ((a1.Page.Kinds).map (D.int .i64)) false)),(.d (.sl ((a1.Page.Ns).map (D.int .i64)) false)),(.d (.sl ((a1.Page.Texts).map (D.int .i64)) false)),(.d (.sl ((a1.Init).map (D.int .i64)) false)),(.d (.sl ((a1.Adds).map (D.int .i64)) false)),(.d (.bool a1.Outlet))],.grow v30 ((x29).map (D.int .i64)),.grow a.2.1 ((a.1).map eu)]) ?_ ?_ n ⟨⟨[],(.d .aO),0⟩,_,_,S27,.refl _ _,.refl _,(aa.r rfl (aa.r rfl (aa.r rfl (aa.r rfl (aa.r rfl aa.nil))))),H81.sl [1,2,3,4,0] rfl rfl,h⟩
 ·
  intro a h; simp [dR] at h
 intro k59 a S54 H55 h
 obtain ⟨x56,v57,x58⟩:=a
 replace h:dR n a1 z9 x29 (k59 + 1) x56 x58=some r:=h
 replace H55:Has aF S54 [.box b15 [(.d (.int .i64 z9.Kind)),(.d (.int .i64 z9.N)),(.d (.str z9.Tag)),(.d (.str z9.Text)),(.d (.sl ((z9.bR).map aR) false)),(.d (.sl ((z9.Kids).map aG) false)),v30,v57],.box b5 [(.d (.int .i64 0)),(.d (.int .i64 0)),(.d (.str [])),(.d (.str [])),(.d .aO),(.d .aO),(.d .aO),(.d .aO)],.box b2 [(.d (.sl ((a1.Page.Under).map (D.int .i64)) false)),(.d (.sl ((a1.Page.Kinds).map (D.int .i64)) false)),(.d (.sl ((a1.Page.Ns).map (D.int .i64)) false)),(.d (.sl ((a1.Page.Texts).map (D.int .i64)) false)),(.d (.sl ((a1.Init).map (D.int .i64)) false)),(.d (.sl ((a1.Adds).map (D.int .i64)) false)),(.d (.bool a1.Outlet))],.grow v30 ((x29).map (D.int .i64)),.grow v57 ((x56).map eu)]:=H55
 unfold dR at h
 refine ax.seq ?_
 refine ax.seq ?_
 refine ax.region E.obj rfl ?_
 refine ae.val rfl (ah rfl) rfl ?_
 refine ae.val rfl (ai rfl Gq lV rfl) rfl ?_
 refine ae.val rfl (av H55 (i:=2) rfl rfl (aA mr rfl)) rfl ?_
 refine ae.val rfl (aS rfl wX) rfl ?_
 refine ae.val rfl (ay rfl rfl bG) rfl ?_
 refine ae.val rfl (ah rfl) rfl ?_
 refine ae.bC 3 37 (.d (.bool ((decide (x58 < ((a1.Adds).length:Int))) && (decide (x58 < 5))))) ?_ ?_
 ·
  rcases Bool.eq_false_or_eq_true ((decide (x58 < ((a1.Adds).length:Int)))) with hB60 | hB60
  ·
   refine ae.bool hB60 ?_
   refine ae.val rfl (ah rfl) rfl ?_
   refine ae.val rfl (ay rfl rfl bG) rfl ?_
   refine ae.val rfl (az (b:=true) rfl rfl) rfl ?_
   exact ae.nil ⟨_,rfl,(aa.put (aa.push rfl (aa.push rfl (aa.put (.refl _) (Less.eq (by rw [hB60]))))) (Less.eq (by rw [hB60]; rw [Bool.true_and])))⟩
  refine ae.bool hB60 ?_
  refine ae.no rfl rfl ?_
  refine ae.no rfl rfl ?_
  refine ae.val rfl (az (b:=false) rfl rfl) rfl ?_
  exact ae.nil ⟨_,rfl,(aa.put (aa.push rfl (aa.push rfl (aa.put (.refl _) (Less.eq (by rw [hB60]))))) (Less.eq (by rw [hB60]; rw [Bool.false_and])))⟩
 refine ae.nil ?_
 refine ax.cond rfl (fun hb61=>?_) (fun hb61=>?_)
 ·
  replace h:=cB hb61 h
  refine ax.skip ?_
  refine ax.seq ?_
  refine ax.block ?_
  obtain ⟨z62,hzz62,h⟩:=bind_some h
  obtain ⟨z63,hzz63,h⟩:=bind_some h
  obtain ⟨z64,hzz64,h⟩:=bind_some h
  obtain ⟨z65,hzz65,h⟩:=bind_some h
  obtain ⟨z66,hzz66,h⟩:=bind_some h
  obtain ⟨z67,hzz67,h⟩:=bind_some h
  obtain ⟨z68,hzz68,h⟩:=bind_some h
  refine ax.qi E.obj pM QA [(1,none),(2,none),(3,none),(5,none),(6,none)] (by kernel_rfl) [22,24] (by decide) [some (.ptr b15 0 7),some v57,some (.d (.sl ((([[117,112],[100,111,119,110],[97]]:List Str)).map D.str) true)),some (.d (.int .i64 x58)),some (.d (.int .i64 z62)),some (.eptr (.str z63) 0),some (.d (.str z63)),some (.ptr b2 0 5),some (.d (.sl ((a1.Adds).map (D.int .i64)) false)),some (.d (.int .i64 x58)),some (.eptr (.int .i64 z64) 0),some (.d (.int .i64 z64)),some (.d (.int .i64 z65)),some (.ptr b2 0 5),some (.d (.sl ((a1.Adds).map (D.int .i64)) false)),some (.d (.int .i64 x58)),some (.eptr (.int .i64 z64) 0),some (.d (.int .i64 z64)),some (.d (.int .i64 z66)),some (.d (.int .i64 z67)),some (.d (eu (On.mk z63 z65 z67))),some (.d (.sl (([(On.mk z63 z65 z67)]).map eu) true)),none,none,none] ?_
  refine ⟨[0,1,2,3,4,5,6,7,8,9,10,11,12,13,14,15,16,17,18,19,20,21],by kernel_rfl,?_,_,_,rfl,rfl,.step ?_⟩
  ·
   refine .v rfl rfl rfl rfl (ai rfl vS Gp rfl) ?_
   refine .v rfl rfl rfl rfl (av H55 (i:=0) rfl rfl (aA IU rfl)) ?_
   refine .v rfl rfl rfl rfl (ah rfl) ?_
   refine .v rfl rfl rfl rfl (ah rfl) ?_
   refine .v rfl rfl rfl rfl (ay rfl rfl (xB hzz62)) ?_
   refine .v rfl rfl rfl rfl (bE rfl rfl (bY (enc:=D.str) hzz63 zG Ji (((fun _=>rfl) _).trans Fp.symm))) ?_
   refine .v rfl rfl rfl rfl (aU rfl (dL u6 rfl)) ?_
   refine .v rfl rfl rfl rfl (ai rfl Gq lV rfl) ?_
   refine .v rfl rfl rfl rfl (av H55 (i:=2) rfl rfl (aA mr rfl)) ?_
   refine .v rfl rfl rfl rfl (ah rfl) ?_
   refine .v rfl rfl rfl rfl (bE rfl rfl (bY (enc:=(D.int .i64)) hzz64 kV xC (((fun _=>rfl) _).trans pI.symm))) ?_
   refine .v rfl rfl rfl rfl (aU rfl (dL jl rfl)) ?_
   refine .cons rfl rfl rfl (.step ?_) ?_
   ·
    refine ae.ret rfl (aC rfl rfl) (aN E _ _ _ _ _ hzz65 _ _ (aD.eq (aD.eq (aD.eq .nil)))) rfl ?_
    exact ae.nil ⟨_,_,rfl,fun _ ht=>by cases ht; exact ⟨rfl,.refl _⟩⟩
   refine .v rfl rfl rfl rfl (ai rfl Gq lV rfl) ?_
   refine .v rfl rfl rfl rfl (av H55 (i:=2) rfl rfl (aA mr rfl)) ?_
   refine .v rfl rfl rfl rfl (ah rfl) ?_
   refine .v rfl rfl rfl rfl (bE rfl rfl (bY (enc:=(D.int .i64)) hzz64 kV xC (((fun _=>rfl) _).trans pI.symm))) ?_
   refine .v rfl rfl rfl rfl (aU rfl (dL jl rfl)) ?_
   refine .v rfl rfl rfl rfl (ay rfl rfl (xe hzz66)) ?_
   refine .cons rfl rfl rfl (.step ?_) ?_
   ·
    refine ae.ret rfl (aC rfl rfl) (aN E _ _ _ _ _ hzz67 _ _ (aD.eq (aD.eq (aD.eq .nil)))) rfl ?_
    exact ae.nil ⟨_,_,rfl,fun _ ht=>by cases ht; exact ⟨rfl,.refl _⟩⟩
   refine .cons rfl rfl rfl (.step ?_) ?_
   ·
    refine ae.val rfl (bH (cs:=[(.d (.str z63)),(.d (.int .i64 z65)),(.d (.int .i64 z67))]) JF rfl (Au) (cO rfl rfl rfl rfl (cO rfl rfl rfl rfl (cO rfl rfl rfl rfl rfl)))) rfl ?_
    refine ae.less (Less.agg' (d:=eu (On.mk z63 z65 z67)) (au.eq rfl (au.eq rfl (au.eq rfl .nil))) ((On.eq _).trans rfl)) ?_
    exact ae.nil ⟨_,_,rfl,fun _ ht=>by cases ht; exact ⟨rfl,.refl _⟩⟩
   refine .v rfl rfl rfl rfl (aP (vs:=[(.d (eu (On.mk z63 z65 z67)))]) (ds:=[(eu (On.mk z63 z65 z67))]) K4 D9 Hz JF xU rfl (by decide) (.cons rfl (On.len _) .nil) rfl (by intro d hd; simp only [List.mem_cons,List.not_mem_nil,or_false] at hd; rcases hd with rfl <;> exact On.agg _) rfl) ?_
   exact .nil
  refine ae.append (xs:=(x56).map eu) (ys:=([(On.mk z63 z65 z67)]).map eu) (zs:=(z68).map eu) H55 rfl rfl rfl (i:=4) rfl rfl K4 Nv D9 (fI hzz68) NV rfl (bS (enc:=eu) (fun z=>(On.len z).trans xU.symm) _) (bS (enc:=eu) (fun z=>(On.len z).trans xU.symm) _) M3 rfl (jK hzz68) (fun v74 S75 H76=>?_)
  refine ae.nil ⟨_,_,_,rfl,(fun _ ht=>by cases ht; rfl),_,(.q (.q (.q (.q (.q (.o (.o (.w v74 (.w (.ptr b15 0 7) (.n .nil)))))))))),(fun _ ht=>by cases ht; exact ⟨_,rfl,.refl _⟩),?_⟩
  refine ⟨[23],by kernel_rfl,?_,_,_,rfl,rfl,.step ?_⟩
  ·
   refine .v rfl rfl rfl rfl (ai rfl vS Gp rfl) ?_
   exact .nil
  refine ae.store H76 (i:=0) rfl rfl rfl rfl (jb (H76.at (i:=4) rfl)).2.2.2.2 rfl Pp (jb (H76.at (i:=4) rfl)).2.2.2.1 Pj rfl rfl rfl (fun S77 H78=>?_)
  refine ae.nil ⟨_,.any,_,rfl,(fun _ ht=>by cases ht),_,(.q (.q (.q (.q (.q (.q (.w .any .nil))))))),(fun _ ht=>by cases ht),?_⟩
  refine ⟨[],by kernel_rfl,?_,_,rfl,?_⟩
  ·
   exact .nil
  refine ax.region E.obj rfl ?_
  refine ae.val rfl (ah rfl) rfl ?_
  refine ae.val rfl (ay rfl rfl bI) rfl ?_
  refine ae.val rfl (aj rfl) rfl ?_
  refine ae.nil ?_
  exact ⟨⟨z68,v74,(IntKind.wrap .i64 (x58 + 1))⟩,_,_,S77,.refl _ _,.refl _,(aa.r rfl (aa.r rfl (aa.r rfl (aa.r rfl (aa.r rfl aa.nil))))),H78.sl [0,1,2,3,4] rfl rfl,h⟩
 replace h:=cK hb61 h
 refine ax.exit ?_
 refine ax.seq ?_
 refine ax.region E.obj rfl ?_
 refine ae.val rfl (av H55 (i:=0) rfl rfl (aZ wI jS rfl)) rfl ?_
 refine ae.less (Less.agg' (d:=aI (aJ.mk z9 x29 x56)) (au.eq rfl (au.eq rfl (au.eq rfl (au.eq rfl (au.eq rfl (au.eq rfl (au.grow H55 (i:=3) rfl (au.grow H55 (i:=4) rfl .nil)))))))) ((aJ.eq _).trans rfl)) ?_
 refine ae.store H55 (i:=1) rfl rfl rfl rfl (aJ.bf _) rfl jS rfl qx rfl rfl rfl (fun S79 H80=>?_)
 refine ae.nil ?_
 have hr:=Option.some.inj h
 subst hr
 exact ax.ret ⟨_,gZ H80 (i:=1) rfl rfl rfl (aZ wI jS rfl),rfl,dY (aD.qd (d:=aI (aJ.mk z9 x29 x56)) (au.eq rfl (au.eq rfl (au.eq rfl (au.eq rfl (au.eq rfl (au.eq rfl (au.eq rfl (au.eq rfl .nil)))))))) ((aJ.eq _).trans rfl))⟩
end
end Pr
end Go.Ev
